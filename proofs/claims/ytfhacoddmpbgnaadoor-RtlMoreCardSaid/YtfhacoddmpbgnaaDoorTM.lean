/- A part of the proof. -/
import Derived.Test.YtfhacoddmpbgnaaDoorChecked
import Derived.KernelRfl
import Derived.Test.YtfhacoddmpbgnaaDoorTI
import Derived.Test.YtfhacoddmpbgnaaDoorTJ
set_option linter.unusedVariables false
set_option linter.unusedSimpArgs false
namespace Go.Rm
open Go.Ai Go.Proofs Go.Proofs.Tryd
set_option linter.unusedVariables false
set_option maxRecDepth 100000
abbrev VK := Value -> za -> Prop
abbrev LK := List Value -> za -> Prop
abbrev ci (n : Int) : Operand := .const (.int .i64 n)
abbrev fn (n : Nat) : Value := .func (.func n) #[] #[]
variable {h : za} {t0 t1 t2 t3 t4 t5 t6 : Value} {R : VK}
def qs : FuncId -> Nat := fun g => [0,0,0,0,0,0,0,0,0,0,0,0,0,0,0,0,0,0,0,0,0,0,0,0,0,0,0,0,3,3,0,0,2,0,0,0,0,0,0,0,0,0,0,0,0,0,0,2,2,2,0,2,0,0,0,2,0,0,0,0,2].getD g 0
theorem mixed : prog.follows .mixedOrders = true := Checked.mixed Tryd.checked
def zf2 (t8 : Value) (h5 : za) (R : VK) (j6 : LK) : Prop :=
 opt (nb [] (yj prog 32 [])) fun t13 => opt (nb [t13] (zj prog 32 t8 t13 h5)) fun h10 => opt (zd prog 32 t8 h10) fun r0 => rv [r0, (.int .i64 1)] h10 R
def zbA (t8 : Value) (R : VK) (t18 : Value) (h11 : za) : Prop :=
 opt (axt t18 0) fun t19 => opt (axt t18 1) fun t20 => opt (nb [t19] (zj prog 32 t8 t19 h11)) fun h13 => opt (zd prog 32 t8 h13) fun r0 => rv [r0, t20] h13 R
def zbv (t8 : Value) (R : VK) (t4 t1 t2 t3 t11 : Value) (h5 : za) : Prop :=
 opt (aun prog .not t11) fun t12 => CD t12 (zf2 t8 h5 R)
 (fun j6 => j6 [(.int .i64 0)] h5)
 (fun vs7 h8 => opt (zd prog 25 t4 h8) fun t14 => zI prog (fn 16) [t14, t1, t2, t3, .nilFunc] h8 (zbA t8 R))
def zni (h : za) (t0 t1 t2 t3 : Value) (R : VK) : Prop :=
 opt (nb [t0] (some (Value.cells t0).toList)) fun c1 => nw h c1 25 fun t4 h2 => opt (xo prog 32) fun z3 => nw h2 (Value.cells z3).toList 32 fun t8 h4 => opt (zd prog 25 t4 h4) fun t10 => zI prog (fn 13) [t10] h4 (zbv t8 R t4 t1 t2 t3)
theorem ziU (hw : zni h t0 t1 t2 t3 R) : DC prog 6 [t0, t1, t2, t3] h R := zE mixed (q := qs) (n := 200) (Eq.mpr (by kernel_rfl) hw)
def KO (t10 : Value) (h14 : za) (R : VK) (j15 : LK) : Prop :=
 opt (nb [] (yj prog 32 [])) fun t40 => opt (nb [t40] (zj prog 32 t10 t40 h14)) fun h19 => opt (zd prog 32 t10 h19) fun r0 => rv [r0, (.int .i64 1)] h19 R
def zdm (t47 t62 : Value) (j34 : LK) (t69 : Value) (h38 : za) : Prop :=
 opt (nck t47) fun t72 => opt (zb prog 79 t72 4) fun t73 => opt (zd prog 22 t73 h38) fun t74 => xg (nb [t62] (yd prog 22 1 [(0, t62)] h38)) fun t76 h39 => xg (nb [t74, t76] (zg prog .append [22, 22] 22 [t74, t76] h39)) fun t77 h40 => opt (nck t47) fun t78 => opt (zb prog 79 t78 4) fun t79 => opt (nb [t77] (zj prog 22 t79 t77 h40)) fun h42 => j34 [] h42
def zcO (t47 : Value) (j34 : LK) (t61 : Value) (h37 : za) : Prop :=
 opt (axt t61 0) fun t62 => opt (axt t61 1) fun t63 => opt (nck t47) fun t65 => opt (zb prog 79 t65 1) fun t66 => opt (zd prog 73 t66 h37) fun t67 => zI prog (fn 31) [t67, t62] h37 (zdm t47 t62 j34)
def zdp (t49 : Value) (vs29 : List Value) (h33 : za) (t47 : Value) (j34 : LK) : Prop :=
 opt (zG prog 22 t49 (nth vs29 0)) fun t53 => opt (zd prog 3 t53 h33) fun t54 => opt (nck t47) fun t57 => opt (zb prog 79 t57 1) fun t58 => opt (zd prog 73 t58 h33) fun t59 => zI prog (fn 30) [t59, t54] h33 (zcO t47 j34)
def zdB (t49 : Value) (vs29 : List Value) (t47 : Value) (j28 : LK) (vs32 : List Value) (h33 : za) : Prop :=
 BK (zdp t49 vs29 h33 t47)
 (fun vs35 h36 => opt (nb [(nth vs29 0), (.int .i64 1)] (zf prog .add 3 (.tmp 51) (ci 1) (nth vs29 0) (.int .i64 1))) fun t80 => j28 [t80] h36)
def zdo (t50 : Value) (j25 : LK) (t49 t47 : Value) (vs29 : List Value) (h30 : za) (j28 : LK) : Prop :=
 opt (nb [(nth vs29 0), t50] (zf prog .lss 3 (.tmp 51) (.tmp 50) (nth vs29 0) t50)) fun t52 => CD t52 (fun j31 => j31 [] h30)
 (fun j31 => j25 [] h30)
 (zdB t49 vs29 t47 j28)
def zdz (vs48 : List Value) (j53 : LK) (t89 : Value) (h56 : za) : Prop :=
 xg (nb [t89] (yd prog 82 1 [(0, t89)] h56)) fun t90 h57 => xg (nb [(nth vs48 0), t90] (zg prog .append [82, 82] 82 [(nth vs48 0), t90] h57)) fun t91 h58 => j53 [t91] h58
def zdO (t1 : Value) (vs48 : List Value) (h52 : za) (j53 : LK) : Prop :=
 opt (zG prog 26 t1 (nth vs48 1)) fun t85 => opt (zd prog 2 t85 h52) fun t86 => zI prog (fn 32) [t86] h52 (zdz vs48 j53)
def zdy (vs48 : List Value) (j47 : LK) (vs54 : List Value) (h55 : za) : Prop :=
 opt (nb [(nth vs48 1), (.int .i64 1)] (zf prog .add 3 (.tmp 83) (ci 1) (nth vs48 1) (.int .i64 1))) fun t92 => j47 [(nth vs54 0), t92] h55
def Jx (t82 : Value) (j44 : LK) (t1 : Value) (vs48 : List Value) (h49 : za) (j47 : LK) : Prop :=
 opt (nb [(nth vs48 1), t82] (zf prog .lss 3 (.tmp 83) (.tmp 82) (nth vs48 1) t82)) fun t84 => CD t84 (fun j50 => j50 [] h49)
 (fun j50 => j44 [(nth vs48 0)] h49)
 (fun vs51 h52 => BK (zdO t1 vs48 h52)
 (zdy vs48 j47))
def JG (t47 : Value) (h80 : za) (j60 : LK) (vs64 : List Value) (j84 : LK) : Prop :=
 opt (nck t47) fun t115 => opt (zb prog 79 t115 3) fun t116 => opt (zb prog 32 t116 0) fun t117 => opt (nb [(.int .i64 2)] (zj prog 3 t117 (.int .i64 2) h80)) fun h88 => j60 [(nth vs64 0)] h88
def J9 (t47 : Value) (j81 : LK) (vs85 : List Value) (h86 : za) : Prop :=
 opt (nck t47) fun t119 => opt (zb prog 79 t119 3) fun t120 => opt (zb prog 32 t120 4) fun t121 => opt (zd prog 3 t121 h86) fun t122 => opt (nb [t122, (.int .i64 1)] (zf prog .add 3 (.tmp 122) (ci 1) t122 (.int .i64 1))) fun t123 => opt (nck t47) fun t124 => opt (zb prog 79 t124 3) fun t125 => opt (zb prog 32 t125 4) fun t126 => opt (nb [t123] (zj prog 3 t126 t123 h86)) fun h90 => zI prog (fn 34) [t47] h90 (fun t128 h91 => j81 [t128] h91)
def VV (t47 : Value) (h80 : za) (t3 : Value) (j60 : LK) (vs64 : List Value) (j81 : LK) : Prop :=
 opt (nck t47) fun t108 => opt (zb prog 79 t108 3) fun t109 => opt (zb prog 32 t109 4) fun t110 => opt (zd prog 3 t110 h80) fun t111 => opt (nb [t111, t3] (zf prog .eql 3 (.tmp 111) (.tmp 112) t111 t3)) fun t113 => CD t113 (JG t47 h80 j60 vs64)
 (fun j84 => j84 [] h80)
 (J9 t47 j81)
def jY (vs64 : List Value) (j60 : LK) (t47 t3 : Value) (j63 : LK) (t105 : Value) (h77 : za) : Prop :=
 opt (pk (nth vs64 0) t105 (.bool false)) fun t106 => CD t106 (fun j78 => j78 [] h77)
 (fun j78 => j60 [(nth vs64 0)] h77)
 (fun vs79 h80 => BK (VV t47 h80 t3 j60 vs64)
 (fun vs82 h83 => j63 [(nth vs82 0)] h83))
def jX (vs64 : List Value) (j60 : LK) (t47 t3 : Value) (j63 : LK) (t104 : Value) (h75 : za) : Prop :=
 GD (nth vs64 0) true (fun k76 => opt (nb [t104, (.int .i64 0)] (zf prog .eql 3 (.tmp 104) (ci 0) t104 (.int .i64 0))) fun t105 => k76 t105 h75) (jY vs64 j60 t47 t3 j63) h75
def jT (vs64 : List Value) (j60 : LK) (t47 t3 : Value) (j63 : LK) (t102 : Value) (h71 : za) : Prop :=
 GD (nth vs64 0) true (fun k72 => opt (zb prog 32 t102 0) fun t103 => k72 t103 h71) (fun t103 h73 => GD (nth vs64 0) true (fun k74 => opt (zd prog 3 t103 h73) fun t104 => k74 t104 h73) (jX vs64 j60 t47 t3 j63) h73) h71
def kg (vs64 : List Value) (j60 : LK) (t47 t3 : Value) (j63 : LK) (t100 : Value) (h67 : za) : Prop :=
 GD (nth vs64 0) true (fun k68 => opt (nck t100) fun t101 => k68 t101 h67) (fun t101 h69 => GD (nth vs64 0) true (fun k70 => opt (zb prog 79 t101 3) fun t102 => k70 t102 h69) (jT vs64 j60 t47 t3 j63) h69) h67
def zai (t47 : Value) (h62 : za) (j92 : LK) : Prop :=
 opt (nck t47) fun t132 => opt (zb prog 79 t132 3) fun t133 => opt (zb prog 32 t133 0) fun t134 => opt (nb [(.int .i64 3)] (zj prog 3 t134 (.int .i64 3) h62)) fun h96 => j92 [] h96
def Uj (t47 t10 : Value) (R : VK) (vs93 : List Value) (h94 : za) : Prop :=
 opt (nck t47) fun t136 => opt (zb prog 79 t136 3) fun t137 => opt (zd prog 32 t137 h94) fun t138 => opt (nb [t138] (zj prog 32 t10 t138 h94)) fun h98 => opt (zd prog 32 t10 h98) fun r0 => rv [r0, (.int .i64 0)] h98 R
def zav (t47 t3 t10 : Value) (R : VK) (t97 : Value) (h59 : za) : Prop :=
 BK (fun j60 => LP (fun vs64 h65 j63 => GD (nth vs64 0) true (fun k66 => k66 t47 h65) (kg vs64 j60 t47 t3 j63) h65)
 [t97] h59)
 (fun vs61 h62 => opt (aun prog .not (nth vs61 0)) fun t130 => CD t130 (zai t47 h62)
 (fun j92 => j92 [] h62)
 (Uj t47 t10 R))
def za8 (t5 t47 t3 t10 : Value) (R : VK) (vs45 : List Value) (h46 : za) : Prop :=
 opt (zb prog 25 t5 2) fun t94 => opt (zd prog 3 t94 h46) fun t95 => zI prog (fn 33) [t47, t95, (nth vs45 0)] h46 (zav t47 t3 t10 R)
def JB (t1 t5 t47 t3 t10 : Value) (R : VK) (vs26 : List Value) (h27 : za) : Prop :=
 xg (nb [t1] (zg prog .len [26] 3 [t1] h27)) fun t82 h43 => BK (fun j44 => LP (Jx t82 j44 t1)
 [(.slice none 0 0), (.int .i64 0)] h43)
 (za8 t5 t47 t3 t10 R)
def Vy (t41 t42 t4 t5 t1 t3 t10 : Value) (R : VK) (t44 : Value) (h21 : za) : Prop :=
 opt (nb [t41, t42, t44, t4] (yj prog 79 [(0, t41), (1, t42), (2, t44), (6, t4)])) fun t46 => opt (nb [t46] (some (Value.cells t46).toList)) fun c22 => nw h21 c22 79 fun t47 h23 => opt (zb prog 25 t5 0) fun t48 => opt (zd prog 22 t48 h23) fun t49 => xg (nb [t49] (zg prog .len [22] 3 [t49] h23)) fun t50 h24 => BK (fun j25 => LP (zdo t50 j25 t49 t47)
 [(.int .i64 0)] h24)
 (JB t1 t5 t47 t3 t10 R)
def Zd (t35 t10 : Value) (R : VK) (t5 t2 t4 t1 t3 t38 : Value) (h14 : za) : Prop :=
 opt (pk t35 (.bool true) t38) fun t39 => CD t39 (KO t10 h14 R)
 (fun j15 => j15 [(.int .i64 0)] h14)
 (fun vs16 h17 => opt (zd prog 25 t5 h17) fun t41 => K4 prog 28 [] h17 (fun t42 h20 => K4 prog 29 [t2] h20 (Vy t41 t42 t4 t5 t1 t3 t10 R)))
def jA (t35 t10 : Value) (R : VK) (t5 t2 t4 t1 t3 t37 : Value) (h12 : za) : Prop :=
 GD t35 false (fun k13 => opt (nb [t37, (.int .i64 10000000)] (zf prog .gtr 3 (.tmp 37) (.const (.int .i64 10000000)) t37 (.int .i64 10000000))) fun t38 => k13 t38 h12) (Zd t35 t10 R t5 t2 t4 t1 t3) h12
def jP (t31 t3 t10 : Value) (R : VK) (t5 t2 t4 t1 t33 : Value) (h8 : za) : Prop :=
 GD t31 false (fun k9 => opt (nb [t33, (.int .i64 0)] (zf prog .lss 3 (.tmp 33) (ci 0) t33 (.int .i64 0))) fun t34 => k9 t34 h8) (fun t34 h10 => opt (pk t31 (.bool true) t34) fun t35 => GD t35 false (fun k11 => k11 t3 h10) (jA t35 t10 R t5 t2 t4 t1 t3) h10) h8
def zjC (h : za) (t0 t1 t2 t3 t4 : Value) (R : VK) : Prop :=
 opt (nb [t0] (some (Value.cells t0).toList)) fun c1 => nw h c1 25 fun t5 h2 => opt (xo prog 32) fun z3 => nw h2 (Value.cells z3).toList 32 fun t10 h4 => xg (nb [t1] (zg prog .len [26] 3 [t1] h4)) fun t22 h5 => opt (zb prog 25 t5 1) fun t23 => opt (zd prog 23 t23 h5) fun t24 => opt (zb prog 25 t5 2) fun t25 => opt (zd prog 3 t25 h5) fun t26 => opt (zG prog 23 t24 t26) fun t27 => opt (zb prog 51 t27 1) fun t28 => opt (zd prog 22 t28 h5) fun t29 => xg (nb [t29] (zg prog .len [22] 3 [t29] h5)) fun t30 h6 => opt (nb [t22, t30] (zf prog .neq 3 (.tmp 22) (.tmp 30) t22 t30)) fun t31 => GD t31 false (fun k7 => k7 t3 h6) (jP t31 t3 t10 R t5 t2 t4 t1) h6
theorem zfE (hw : zjC h t0 t1 t2 t3 t4 R) : DC prog 16 [t0, t1, t2, t3, t4] h R := zE mixed (q := qs) (n := 200) (Eq.mpr (by kernel_rfl) hw)
def zbi (t51 : Value) (vs16 : List Value) (h20 : za) (t2 t47 : Value) (j21 : LK) : Prop :=
 opt (zG prog 22 t51 (nth vs16 0)) fun t56 => opt (zd prog 3 t56 h20) fun t57 => opt (zG prog 82 t2 (nth vs16 0)) fun t62 => opt (zd prog 84 t62 h20) fun t63 => zI prog (fn 46) [t47, t57, t63] h20 (fun t64 h24 => j21 [] h24)
def JP (t51 : Value) (vs16 : List Value) (t2 t47 : Value) (j15 : LK) (vs19 : List Value) (h20 : za) : Prop :=
 BK (zbi t51 vs16 h20 t2 t47)
 (fun vs22 h23 => opt (nb [(nth vs16 0), (.int .i64 1)] (zf prog .add 3 (.tmp 53) (ci 1) (nth vs16 0) (.int .i64 1))) fun t65 => j15 [t65] h23)
def K0 (t52 : Value) (j12 : LK) (t51 t2 t47 : Value) (vs16 : List Value) (h17 : za) (j15 : LK) : Prop :=
 opt (nb [(nth vs16 0), t52] (zf prog .lss 3 (.tmp 53) (.tmp 52) (nth vs16 0) t52)) fun t54 => CD t54 (fun j18 => j18 [] h17)
 (fun j18 => j12 [] h17)
 (JP t51 vs16 t2 t47 j15)
def JQ (t0 t47 : Value) (R : VK) (vs13 : List Value) (h14 : za) : Prop :=
 opt (nck t0) fun t68 => opt (zb prog 79 t68 5) fun t69 => opt (zd prog 77 t69 h14) fun t70 => xg (nb [t47] (yd prog 77 1 [(0, t47)] h14)) fun t72 h25 => xg (nb [t70, t72] (zg prog .append [77, 77] 77 [t70, t72] h25)) fun t73 h26 => opt (nck t0) fun t74 => opt (zb prog 79 t74 5) fun t75 => opt (nb [t73] (zj prog 77 t75 t73 h26)) fun h28 => rv [(.bool true)] h28 R
def JX (t19 t36 t2 t0 : Value) (R : VK) (vs7 : List Value) (h8 : za) : Prop :=
 opt (nck t19) fun t43 => opt (zb prog 51 t43 4) fun t44 => opt (zd prog 3 t44 h8) fun t45 => opt (nb [t19, t36, t45] (yj prog 113 [(0, t19), (2, t36), (3, t45)])) fun t46 => opt (nb [t46] (some (Value.cells t46).toList)) fun c9 => nw h8 c9 113 fun t47 h10 => opt (nck t19) fun t49 => opt (zb prog 51 t49 1) fun t50 => opt (zd prog 22 t50 h10) fun t51 => xg (nb [t51] (zg prog .len [22] 3 [t51] h10)) fun t52 h11 => BK (fun j12 => LP (K0 t52 j12 t51 t2 t47)
 [(.int .i64 0)] h11)
 (JQ t0 t47 R)
def Vj (R : VK) (vs3 : List Value) (t19 t2 t0 t35 : Value) (h5 : za) : Prop :=
 opt (axt t35 0) fun t36 => opt (axt t35 1) fun t37 => opt (nb [t37, (.int .i64 0)] (zf prog .neq 33 (.tmp 38) (ci 0) t37 (.int .i64 0))) fun t39 => CD t39 (fun j6 => rv [(.bool false)] h5 R)
 (fun j6 => j6 [(nth vs3 0)] h5)
 (JX t19 t36 t2 t0 R)
def zag (t0 t19 : Value) (R : VK) (t2 : Value) (vs3 : List Value) (h4 : za) : Prop :=
 opt (nck t0) fun t28 => opt (zb prog 79 t28 1) fun t29 => opt (zd prog 73 t29 h4) fun t30 => opt (nck t19) fun t32 => opt (zb prog 51 t32 3) fun t33 => opt (zd prog 3 t33 h4) fun t34 => Yz prog 30 [t30, t34] h4 (Vj R vs3 t19 t2 t0)
def zgY (h : za) (t0 t1 t2 : Value) (R : VK) : Prop :=
 opt (nck t0) fun t14 => opt (zb prog 79 t14 0) fun t15 => opt (zb prog 25 t15 1) fun t16 => opt (zd prog 23 t16 h) fun t17 => opt (zG prog 23 t17 t1) fun t19 => opt (nck t0) fun t21 => opt (zb prog 79 t21 5) fun t22 => opt (zd prog 77 t22 h) fun t23 => xg (nb [t23] (zg prog .len [77] 3 [t23] h)) fun t24 h1 => opt (nb [t24, (.int .i64 20000)] (zf prog .geq 3 (.tmp 24) (.const (.int .i64 20000)) t24 (.int .i64 20000))) fun t25 => CD t25 (fun j2 => rv [(.bool false)] h1 R)
 (fun j2 => j2 [(.bool false)] h1)
 (zag t0 t19 R t2)
theorem zd4 (hw : zgY h t0 t1 t2 R) : DC prog 33 [t0, t1, t2] h R := zE mixed (q := qs) (n := 200) (Eq.mpr (by kernel_rfl) hw)
def zdC (t60 : Value) (h7 : za) (t5 : Value) (j23 : LK) (t64 : Value) : Prop :=
 qy prog 48 [t60, t64] h7 (fun t65 => opt (axt t65 0) fun t66 => opt (axt t65 1) fun t67 => opt (nb [t66] (zj prog 84 t5 t66 h7)) fun h29 => j23 [(.bool false), t67] h29)
def KW (t7 : Value) (h60 : za) (t8 t0 : Value) (j61 : LK) : Prop :=
 opt (zb prog 84 t7 1) fun t96 => opt (zd prog 2 t96 h60) fun t97 => opt (zb prog 84 t8 1) fun t98 => opt (zd prog 2 t98 h60) fun t99 => zI prog (fn 50) [t0, (.int .i64 3), t97, t99] h60 (fun t100 h64 => j61 [] h64)
def Y8 (t4 t7 t8 t5 : Value) (j30 : LK) (vs62 : List Value) (h63 : za) : Prop :=
 opt (zb prog 46 t4 1) fun t102 => opt (zd prog 3 t102 h63) fun t103 => opt (zd prog 84 t7 h63) fun t104 => opt (zd prog 84 t8 h63) fun t105 => zI prog (fn 51) [t103, t104, t105] h63 (fun t106 h65 => opt (axt t106 0) fun t107 => opt (axt t106 1) fun t108 => opt (nb [t107] (zj prog 84 t5 t107 h65)) fun h67 => j30 [(.bool false), t108] h67)
def ud (t89 t7 t8 t0 t4 t5 : Value) (j30 : LK) (t92 : Value) (h58 : za) : Prop :=
 GD t89 true (fun k59 => opt (nb [t92, (.int .i64 1)] (zf prog .eql 3 (.tmp 92) (ci 1) t92 (.int .i64 1))) fun t93 => k59 t93 h58) (fun t93 h60 => opt (pk t89 t93 (.bool false)) fun t94 => CD t94 (KW t7 h60 t8 t0)
 (fun j61 => j61 [] h60)
 (Y8 t4 t7 t8 t5 j30)) h58
def uh (t84 t8 t7 t0 t4 t5 : Value) (j30 : LK) (t88 : Value) (h54 : za) : Prop :=
 opt (pk t84 t88 (.bool false)) fun t89 => GD t89 true (fun k55 => opt (zb prog 84 t8 0) fun t91 => k55 t91 h54) (fun t91 h56 => GD t89 true (fun k57 => opt (zd prog 3 t91 h56) fun t92 => k57 t92 h56) (ud t89 t7 t8 t0 t4 t5 j30) h56) h54
def ug (t84 t8 t7 t0 t4 t5 : Value) (j30 : LK) (t87 : Value) (h52 : za) : Prop :=
 GD t84 true (fun k53 => opt (nb [t87, (.int .i64 1)] (zf prog .eql 3 (.tmp 87) (ci 1) t87 (.int .i64 1))) fun t88 => k53 t88 h52) (uh t84 t8 t7 t0 t4 t5 j30) h52
def uf (t79 t7 t8 t0 t4 t5 : Value) (j30 : LK) (t83 : Value) (h48 : za) : Prop :=
 opt (pk t79 (.bool true) t83) fun t84 => GD t84 true (fun k49 => opt (zb prog 84 t7 0) fun t86 => k49 t86 h48) (fun t86 h50 => GD t84 true (fun k51 => opt (zd prog 3 t86 h50) fun t87 => k51 t87 h50) (ug t84 t8 t7 t0 t4 t5 j30) h50) h48
def ue (t79 t7 t8 t0 t4 t5 : Value) (j30 : LK) (t82 : Value) (h46 : za) : Prop :=
 GD t79 false (fun k47 => opt (nb [t82, (.int .i64 15)] (zf prog .eql 3 (.tmp 82) (.const (.int .i64 15)) t82 (.int .i64 15))) fun t83 => k47 t83 h46) (uf t79 t7 t8 t0 t4 t5 j30) h46
def zcy (h7 : za) (t73 t4 t0 t5 : Value) (j30 : LK) (t76 : Value) : Prop :=
 opt (xo prog 84) fun z35 => nw h7 (Value.cells z35).toList 84 fun t7 h36 => opt (xo prog 84) fun z37 => nw h36 (Value.cells z37).toList 84 fun t8 h38 => opt (nb [t73] (zj prog 84 t7 t73 h38)) fun h40 => opt (nb [t76] (zj prog 84 t8 t76 h40)) fun h42 => opt (zb prog 46 t4 1) fun t77 => opt (zd prog 3 t77 h42) fun t78 => opt (nb [t78, (.int .i64 14)] (zf prog .eql 3 (.tmp 78) (.const (.int .i64 14)) t78 (.int .i64 14))) fun t79 => GD t79 false (fun k43 => opt (zb prog 46 t4 1) fun t81 => k43 t81 h42) (fun t81 h44 => GD t79 false (fun k45 => opt (zd prog 3 t81 h44) fun t82 => k45 t82 h44) (ue t79 t7 t8 t0 t4 t5 j30) h44) h42
def zaM (t0 t4 t9 t5 : Value) (j68 : LK) (vs77 : List Value) (h78 : za) : Prop :=
 opt (nck t0) fun t122 => opt (zb prog 79 t122 1) fun t123 => opt (zd prog 73 t123 h78) fun t124 => opt (zb prog 46 t4 1) fun t125 => opt (zd prog 3 t125 h78) fun t126 => opt (zd prog 84 t9 h78) fun t127 => Yz prog 53 [t124, t126, t127] h78 (fun t128 h79 => opt (axt t128 0) fun t129 => opt (axt t128 1) fun t130 => opt (nb [t129] (zj prog 84 t5 t129 h79)) fun h81 => j68 [(nth vs77 0), t130] h81)
def VM (R : VK) (t0 t4 t5 : Value) (j68 : LK) (t115 : Value) (h71 : za) : Prop :=
 opt (axt t115 0) fun t116 => opt (axt t115 1) fun t117 => opt (xo prog 84) fun z72 => nw h71 (Value.cells z72).toList 84 fun t9 h73 => opt (nb [t116] (zj prog 84 t9 t116 h73)) fun h75 => opt (aun prog .not t117) fun t119 => CD t119 (fun j76 => rv [(.bool false)] h75 R)
 (fun j76 => j76 [(.bool false)] h75)
 (zaM t0 t4 t9 t5 j68)
def YO (t141 : Value) (R : VK) (j82 : LK) (t155 : Value) (h117 : za) : Prop :=
 opt (pk t141 (.bool true) t155) fun t156 => CD t156 (fun j118 => rv [(.bool false)] h117 R)
 (fun j118 => j118 [(.bool false)] h117)
 (fun vs119 h120 => j82 [(nth vs119 0)] h120)
def Vc (t141 t146 t148 t149 : Value) (R : VK) (j82 : LK) (t153 : Value) (h111 : za) : Prop :=
 GD t141 false (fun k113 => Yz prog 54 [t146, t148, t149, t153] h111 (fun t154 h115 => k113 t154 h115)) (fun t154 h114 => GD t141 false (fun k116 => opt (aun prog .not t154) fun t155 => k116 t155 h114) (YO t141 R j82) h114) h111
def Um (t141 t150 t146 t148 t149 : Value) (R : VK) (j82 : LK) (t151 : Value) (h107 : za) : Prop :=
 GD t141 false (fun k108 => opt (zd prog 3 t151 h107) fun t152 => k108 t152 h107) (fun t152 h109 => GD t141 false (fun k110 => qy prog 47 [t150, t152] h109 (fun t153 => k110 t153 h109)) (Vc t141 t146 t148 t149 R j82) h109) h107
def Vp (t141 t29 t4 t146 t148 : Value) (R : VK) (j82 : LK) (t149 : Value) (h103 : za) : Prop :=
 GD t141 false (fun k104 => k104 t29 h103) (fun t150 h105 => GD t141 false (fun k106 => opt (zb prog 46 t4 3) fun t151 => k106 t151 h105) (Um t141 t150 t146 t148 t149 R j82) h105) h103
def V2 (t141 t11 t29 t4 t146 : Value) (R : VK) (j82 : LK) (t147 : Value) (h99 : za) : Prop :=
 GD t141 false (fun k100 => opt (zd prog 3 t147 h99) fun t148 => k100 t148 h99) (fun t148 h101 => GD t141 false (fun k102 => opt (zd prog 84 t11 h101) fun t149 => k102 t149 h101) (Vp t141 t29 t4 t146 t148 R j82) h101) h99
def V9 (t141 t4 t11 t29 : Value) (R : VK) (j82 : LK) (t145 : Value) (h95 : za) : Prop :=
 GD t141 false (fun k96 => opt (zd prog 73 t145 h95) fun t146 => k96 t146 h95) (fun t146 h97 => GD t141 false (fun k98 => opt (zb prog 46 t4 1) fun t147 => k98 t147 h97) (V2 t141 t11 t29 t4 t146 R j82) h97) h95
def Vg (t141 t4 t11 t29 : Value) (R : VK) (j82 : LK) (t143 : Value) (h91 : za) : Prop :=
 GD t141 false (fun k92 => opt (nck t143) fun t144 => k92 t144 h91) (fun t144 h93 => GD t141 false (fun k94 => opt (zb prog 79 t144 1) fun t145 => k94 t145 h93) (V9 t141 t4 t11 t29 R j82) h93) h91
def V6 (t0 t4 t29 : Value) (R : VK) (j82 : LK) (t137 : Value) (h85 : za) : Prop :=
 opt (axt t137 0) fun t138 => opt (axt t137 1) fun t139 => opt (xo prog 84) fun z86 => nw h85 (Value.cells z86).toList 84 fun t11 h87 => opt (nb [t138] (zj prog 84 t11 t138 h87)) fun h89 => opt (aun prog .not t139) fun t141 => GD t141 false (fun k90 => k90 t0 h89) (Vg t141 t4 t11 t29 R j82) h89
def zaO (vs141 : List Value) (j146 : LK) (t191 : Value) (h149 : za) : Prop :=
 xg (nb [t191] (yd prog 82 1 [(0, t191)] h149)) fun t192 h150 => xg (nb [(nth vs141 0), t192] (zg prog .append [82, 82] 82 [(nth vs141 0), t192] h150)) fun t193 h151 => j146 [t193] h151
def zbn (t182 : Value) (vs141 : List Value) (h145 : za) (t29 : Value) (j146 : LK) : Prop :=
 opt (zG prog 22 t182 (nth vs141 1)) fun t186 => opt (zd prog 3 t186 h145) fun t187 => zI prog (fn 47) [t29, t187] h145 (zaO vs141 j146)
def zaF (vs141 : List Value) (j140 : LK) (vs147 : List Value) (h148 : za) : Prop :=
 opt (nb [(nth vs141 1), (.int .i64 1)] (zf prog .add 3 (.tmp 184) (ci 1) (nth vs141 1) (.int .i64 1))) fun t194 => j140 [(nth vs147 0), t194] h148
def Jv (t183 : Value) (j137 : LK) (t182 t29 : Value) (vs141 : List Value) (h142 : za) (j140 : LK) : Prop :=
 opt (nb [(nth vs141 1), t183] (zf prog .lss 3 (.tmp 184) (.tmp 183) (nth vs141 1) t183)) fun t185 => CD t185 (fun j143 => j143 [] h142)
 (fun j143 => j137 [(nth vs141 0)] h142)
 (fun vs144 h145 => BK (zbn t182 vs141 h145 t29)
 (zaF vs141 j140))
def Jn (t4 t0 : Value) (vs138 : List Value) (R : VK) (t198 : Value) (h152 : za) : Prop :=
 opt (zb prog 46 t4 1) fun t200 => opt (zd prog 3 t200 h152) fun t201 => zI prog (fn 33) [t0, t201, (nth vs138 0)] h152 (fun t203 h153 => rv [t203] h153 R)
def JH (t4 t0 : Value) (R : VK) (vs138 : List Value) (h139 : za) : Prop :=
 opt (zb prog 46 t4 1) fun t196 => opt (zd prog 3 t196 h139) fun t197 => zI prog (fn 50) [t0, (.int .i64 4), t197, (.int .i64 0)] h139 (Jn t4 t0 vs138 R)
def zaY (t0 t5 : Value) (j163 : LK) (t224 : Value) (h166 : za) : Prop :=
 zI prog (fn 59) [t0, (.int .i64 1), t224] h166 (fun t227 h167 => zI prog (fn 32) [t224] h167 (fun t229 h168 => opt (nb [t229] (zj prog 84 t5 t229 h168)) fun h170 => j163 [(.bool false)] h170))
def Jl (t17 t0 : Value) (j171 : LK) (vs180 : List Value) (h181 : za) : Prop :=
 opt (zb prog 84 t17 1) fun t240 => opt (zd prog 2 t240 h181) fun t241 => zI prog (fn 59) [t0, (.int .i64 2), t241] h181 (fun t242 h182 => j171 [(nth vs180 0)] h182)
def JV (R : VK) (t0 : Value) (j171 : LK) (t235 : Value) (h174 : za) : Prop :=
 opt (xo prog 84) fun z175 => nw h174 (Value.cells z175).toList 84 fun t17 h176 => opt (nb [t235] (zj prog 84 t17 t235 h176)) fun h178 => opt (zb prog 84 t17 0) fun t236 => opt (zd prog 3 t236 h178) fun t237 => opt (nb [t237, (.int .i64 1)] (zf prog .neq 3 (.tmp 237) (ci 1) t237 (.int .i64 1))) fun t238 => CD t238 (fun j179 => rv [(.bool false)] h178 R)
 (fun j179 => j179 [(.bool false)] h178)
 (Jl t17 t0 j171)
def Ju (t4 : Value) (h7 : za) (t29 : Value) (R : VK) (t0 : Value) (j171 : LK) : Prop :=
 opt (zb prog 46 t4 2) fun t233 => opt (zd prog 3 t233 h7) fun t234 => zI prog (fn 47) [t29, t234] h7 (JV R t0 j171)
def za4 (t0 : Value) (h7 : za) (t5 : Value) (j163 : LK) : Prop :=
 opt (nck t0) fun t221 => opt (zb prog 79 t221 2) fun t222 => opt (zd prog 75 t222 h7) fun t223 => zI prog (fn 58) [t223] h7 (zaY t0 t5 j163)
def VS (t44 t4 : Value) (h7 : za) (t29 : Value) (R : VK) (t0 : Value) (j163 : LK) : Prop :=
 opt (nb [t44, (.int .i64 14)] (zf prog .eql 3 (.tmp 44) (.const (.int .i64 14)) t44 (.int .i64 14))) fun t231 => CD t231 (Ju t4 h7 t29 R t0)
 (fun j171 => j171 [(.bool false)] h7)
 (fun vs172 h173 => j163 [(nth vs172 0)] h173)
def zaf (t4 : Value) (h7 : za) (t29 t0 : Value) (R : VK) (j158 : LK) : Prop :=
 opt (zb prog 46 t4 2) fun t214 => opt (zd prog 3 t214 h7) fun t215 => zI prog (fn 47) [t29, t215] h7 (fun t216 h161 => zI prog (fn 57) [t0, t216] h161 (fun t217 h162 => rv [t217] h162 R))
def Xu (t44 t0 : Value) (h7 : za) (t5 t4 t29 : Value) (R : VK) (j158 : LK) : Prop :=
 opt (nb [t44, (.int .i64 13)] (zf prog .eql 3 (.tmp 44) (.const (.int .i64 13)) t44 (.int .i64 13))) fun t219 => CD t219 (za4 t0 h7 t5)
 (VS t44 t4 h7 t29 R t0)
 (fun vs164 h165 => j158 [(nth vs164 0)] h165)
def jQ (t44 t4 : Value) (h7 : za) (t29 t0 : Value) (R : VK) (t5 : Value) (j154 : LK) : Prop :=
 opt (nb [t44, (.int .i64 12)] (zf prog .eql 3 (.tmp 44) (.const (.int .i64 12)) t44 (.int .i64 12))) fun t211 => CD t211 (zaf t4 h7 t29 t0 R)
 (Xu t44 t0 h7 t5 t4 t29 R)
 (fun vs159 h160 => j154 [(nth vs159 0)] h160)
def zbe (t4 : Value) (h7 : za) (t29 t0 : Value) (R : VK) (j133 : LK) : Prop :=
 opt (zb prog 46 t4 6) fun t181 => opt (zd prog 22 t181 h7) fun t182 => xg (nb [t182] (zg prog .len [22] 3 [t182] h7)) fun t183 h136 => BK (fun j137 => LP (Jv t183 j137 t182 t29)
 [(.slice none 0 0), (.int .i64 0)] h136)
 (JH t4 t0 R)
def q8 (t44 t4 : Value) (h7 : za) (t0 t29 : Value) (R : VK) (t5 : Value) (j133 : LK) : Prop :=
 opt (nb [t44, (.int .i64 11)] (zf prog .eql 3 (.tmp 44) (.const (.int .i64 11)) t44 (.int .i64 11))) fun t205 => CD t205 (fun j154 => opt (zd prog 46 t4 h7) fun t208 => zI prog (fn 56) [t0, t29, t208] h7 (fun t209 h157 => rv [t209] h157 R))
 (jQ t44 t4 h7 t29 t0 R t5)
 (fun vs155 h156 => j133 [(nth vs155 0)] h156)
def zbj (t29 : Value) (h7 : za) (t4 t5 : Value) (j127 : LK) : Prop :=
 opt (nck t29) fun t173 => opt (zb prog 113 t173 2) fun t174 => opt (zd prog 3 t174 h7) fun t175 => opt (zb prog 46 t4 5) fun t176 => opt (zd prog 2 t176 h7) fun t177 => qy prog 55 [t175, t177] h7 (fun t178 => opt (nb [t178] (zj prog 84 t5 t178 h7)) fun h132 => j127 [(.bool false)] h132)
def u4 (t44 t4 : Value) (h7 : za) (t29 t0 : Value) (R : VK) (t5 : Value) (j127 : LK) : Prop :=
 opt (nb [t44, (.int .i64 10)] (zf prog .eql 3 (.tmp 44) (.const (.int .i64 10)) t44 (.int .i64 10))) fun t180 => CD t180 (zbe t4 h7 t29 t0 R)
 (q8 t44 t4 h7 t0 t29 R t5)
 (fun vs134 h135 => j127 [(nth vs134 0)] h135)
def Jq (t0 : Value) (h7 : za) (t4 t5 : Value) (j121 : LK) : Prop :=
 opt (nck t0) fun t160 => opt (zb prog 79 t160 4) fun t161 => opt (zd prog 22 t161 h7) fun t162 => opt (zb prog 46 t4 1) fun t163 => opt (zd prog 3 t163 h7) fun t164 => opt (zG prog 22 t162 t164) fun t165 => opt (zd prog 3 t165 h7) fun t166 => opt (zb prog 46 t4 5) fun t167 => opt (zd prog 2 t167 h7) fun t168 => qy prog 55 [t166, t168] h7 (fun t169 => opt (nb [t169] (zj prog 84 t5 t169 h7)) fun h126 => j121 [(.bool false)] h126)
def um (t44 t29 : Value) (h7 : za) (t4 t5 t0 : Value) (R : VK) (j121 : LK) : Prop :=
 opt (nb [t44, (.int .i64 9)] (zf prog .eql 3 (.tmp 44) (.const (.int .i64 9)) t44 (.int .i64 9))) fun t171 => CD t171 (zbj t29 h7 t4 t5)
 (u4 t44 t4 h7 t29 t0 R t5)
 (fun vs128 h129 => j121 [(nth vs128 0)] h129)
def vO (t44 t0 : Value) (h7 : za) (t4 t5 t29 : Value) (R : VK) (j82 : LK) : Prop :=
 opt (nb [t44, (.int .i64 8)] (zf prog .eql 3 (.tmp 44) (.const (.int .i64 8)) t44 (.int .i64 8))) fun t158 => CD t158 (Jq t0 h7 t4 t5)
 (um t44 t29 h7 t4 t5 t0 R)
 (fun vs122 h123 => j82 [(nth vs122 0)] h123)
def w9 (t44 t4 : Value) (h7 : za) (t0 t29 : Value) (R : VK) (t5 : Value) (j68 : LK) : Prop :=
 opt (nb [t44, (.int .i64 7)] (zf prog .eql 3 (.tmp 44) (.const (.int .i64 7)) t44 (.int .i64 7))) fun t132 => CD t132 (fun j82 => opt (zd prog 46 t4 h7) fun t136 => zI prog (fn 52) [t0, t29, t136] h7 (V6 t0 t4 t29 R j82))
 (vO t44 t0 h7 t4 t5 t29 R)
 (fun vs83 h84 => j68 [(nth vs83 0), (.bool true)] h84)
def za3 (t4 : Value) (h7 : za) (t29 t0 t5 : Value) (j30 : LK) : Prop :=
 opt (zb prog 46 t4 2) fun t71 => opt (zd prog 3 t71 h7) fun t72 => qy prog 47 [t29, t72] h7 (fun t73 => opt (zd prog 46 t4 h7) fun t75 => qy prog 49 [t29, t75] h7 (zcy h7 t73 t4 t0 t5 j30))
def wK (t44 t4 : Value) (h7 : za) (t0 t29 : Value) (R : VK) (t5 : Value) (j30 : LK) : Prop :=
 opt (nb [t44, (.int .i64 6)] (zf prog .eql 3 (.tmp 44) (.const (.int .i64 6)) t44 (.int .i64 6))) fun t110 => CD t110 (fun j68 => opt (zd prog 46 t4 h7) fun t114 => zI prog (fn 52) [t0, t29, t114] h7 (VM R t0 t4 t5 j68))
 (w9 t44 t4 h7 t0 t29 R t5)
 (fun vs69 h70 => j30 [(nth vs69 0), (nth vs69 1)] h70)
def Jr (t4 : Value) (h7 : za) (t29 t5 : Value) (j23 : LK) : Prop :=
 opt (zb prog 46 t4 1) fun t59 => opt (zd prog 3 t59 h7) fun t60 => opt (zb prog 46 t4 2) fun t62 => opt (zd prog 3 t62 h7) fun t63 => qy prog 47 [t29, t63] h7 (zdC t60 h7 t5 j23)
def wm (t44 t4 : Value) (h7 : za) (t29 t0 t5 : Value) (R : VK) (j23 : LK) : Prop :=
 opt (nb [t44, (.int .i64 5)] (zf prog .eql 3 (.tmp 44) (.const (.int .i64 5)) t44 (.int .i64 5))) fun t69 => CD t69 (za3 t4 h7 t29 t0 t5)
 (wK t44 t4 h7 t0 t29 R t5)
 (fun vs31 h32 => j23 [(nth vs31 0), (nth vs31 1)] h32)
def zak (t4 : Value) (h7 : za) (t29 t5 : Value) (j17 : LK) : Prop :=
 opt (zb prog 46 t4 2) fun t53 => opt (zd prog 3 t53 h7) fun t54 => zI prog (fn 47) [t29, t54] h7 (fun t55 h20 => opt (nb [t55] (zj prog 84 t5 t55 h20)) fun h22 => j17 [(.bool false), (.bool true)] h22)
def x4 (t44 t4 : Value) (h7 : za) (t29 t5 t0 : Value) (R : VK) (j17 : LK) : Prop :=
 opt (nb [t44, (.int .i64 4)] (zf prog .eql 3 (.tmp 44) (.const (.int .i64 4)) t44 (.int .i64 4))) fun t57 => CD t57 (Jr t4 h7 t29 t5)
 (wm t44 t4 h7 t29 t0 t5 R)
 (fun vs24 h25 => j17 [(nth vs24 0), (nth vs24 1)] h25)
def JR (t4 : Value) (h7 : za) (t5 : Value) (j11 : LK) : Prop :=
 opt (zb prog 46 t4 5) fun t47 => opt (zd prog 2 t47 h7) fun t48 => zI prog (fn 32) [t48] h7 (fun t49 h14 => opt (nb [t49] (zj prog 84 t5 t49 h14)) fun h16 => j11 [(.bool false), (.bool true)] h16)
def xN (t44 t4 : Value) (h7 : za) (t29 t5 t0 : Value) (R : VK) (j11 : LK) : Prop :=
 opt (nb [t44, (.int .i64 3)] (zf prog .eql 3 (.tmp 44) (.const (.int .i64 3)) t44 (.int .i64 3))) fun t51 => CD t51 (zak t4 h7 t29 t5)
 (x4 t44 t4 h7 t29 t5 t0 R)
 (fun vs18 h19 => j11 [(nth vs18 0), (nth vs18 1)] h19)
def ye (t44 t4 : Value) (h7 : za) (t5 t29 t0 : Value) (R : VK) (j8 : LK) : Prop :=
 opt (nb [t44, (.int .i64 2)] (zf prog .eql 3 (.tmp 44) (.const (.int .i64 2)) t44 (.int .i64 2))) fun t46 => CD t46 (JR t4 h7 t5)
 (xN t44 t4 h7 t29 t5 t0 R)
 (fun vs12 h13 => j8 [(nth vs12 0), (nth vs12 1)] h13)
def zaI (t4 t29 : Value) (R : VK) (t249 : Value) (h187 : za) : Prop :=
 opt (zb prog 46 t4 7) fun t251 => opt (zd prog 3 t251 h187) fun t252 => opt (nck t29) fun t253 => opt (zb prog 113 t253 3) fun t254 => opt (nb [t252] (zj prog 3 t254 t252 h187)) fun h189 => rv [(.bool true)] h189 R
def Ze (t4 t5 t29 : Value) (R : VK) (vs184 : List Value) (h185 : za) : Prop :=
 opt (zd prog 46 t4 h185) fun t246 => qy prog 60 [t246] h185 (fun t247 => opt (zd prog 84 t5 h185) fun t248 => Yz prog 46 [t29, t247, t248] h185 (zaI t4 t29 R))
def zgI (h : za) (t0 : Value) (R : VK) : Prop :=
 opt (nck t0) fun t19 => opt (zb prog 79 t19 5) fun t20 => opt (zd prog 77 t20 h) fun t21 => opt (nck t0) fun t23 => opt (zb prog 79 t23 5) fun t24 => opt (zd prog 77 t24 h) fun t25 => xg (nb [t25] (zg prog .len [77] 3 [t25] h)) fun t26 _ => opt (nb [t26, (.int .i64 1)] (zf prog .sub 3 (.tmp 26) (ci 1) t26 (.int .i64 1))) fun t27 => opt (zG prog 77 t21 t27) fun t28 => opt (zd prog 111 t28 h) fun t29 => opt (nck t29) fun t31 => opt (zb prog 113 t31 0) fun t32 => opt (zd prog 110 t32 h) fun t33 => opt (nck t33) fun t34 => opt (zb prog 51 t34 5) fun t35 => opt (zd prog 49 t35 h) fun t36 => opt (nck t29) fun t38 => opt (zb prog 113 t38 3) fun t39 => opt (zd prog 3 t39 h) fun t40 => opt (zG prog 49 t36 t40) fun t41 => opt (zd prog 46 t41 h) fun t42 => opt (xo prog 46) fun z2 => nw h (Value.cells z2).toList 46 fun t4 h3 => opt (nb [t42] (zj prog 46 t4 t42 h3)) fun h5 => opt (xo prog 84) fun z6 => nw h5 (Value.cells z6).toList 84 fun t5 h7 => opt (zb prog 46 t4 0) fun t43 => opt (zd prog 3 t43 h7) fun t44 => BK (ye t44 t4 h7 t5 t29 t0 R)
 (fun vs9 h10 => opt (aun prog .not (nth vs9 1)) fun t244 => CD t244 (fun j183 => rv [(.bool false)] h10 R)
 (fun j183 => j183 [(nth vs9 0)] h10)
 (Ze t4 t5 t29 R))
theorem zfM (hw : zgI h t0 R) : DC prog 34 [t0] h R := zgr mixed (q := qs) (n := 200) (Eq.mpr (by kernel_rfl) hw)
def zhS (t0 : Value) (h15 : za) (j16 : LK) : Prop :=
 opt (nck t0) fun t17 => opt (zb prog 113 t17 1) fun t18 => opt (zd prog 82 t18 h15) fun t19 => opt (nb [] (yj prog 84 [])) fun t20 => xg (nb [t20] (yd prog 82 1 [(0, t20)] h15)) fun t21 h19 => xg (nb [t19, t21] (zg prog .append [82, 82] 82 [t19, t21] h19)) fun t22 h20 => opt (nck t0) fun t23 => opt (zb prog 113 t23 1) fun t24 => opt (nb [t22] (zj prog 82 t24 t22 h20)) fun h22 => j16 [] h22
def zgQ (t0 t1 : Value) (j6 : LK) (vs10 : List Value) (h11 : za) (j9 : LK) : Prop :=
 opt (nck t0) fun t10 => opt (zb prog 113 t10 1) fun t11 => opt (zd prog 82 t11 h11) fun t12 => xg (nb [t12] (zg prog .len [82] 3 [t12] h11)) fun t13 h12 => opt (nb [t1, t13] (zf prog .geq 3 (.tmp 8) (.tmp 13) t1 t13)) fun t14 => CD t14 (fun j13 => j13 [] h12)
 (fun j13 => j6 [] h12)
 (fun vs14 h15 => BK (zhS t0 h15)
 (fun vs17 h18 => j9 [] h18))
def zgT (t0 t5 t1 : Value) (R : VK) (vs7 : List Value) (h8 : za) : Prop :=
 opt (nck t0) fun t26 => opt (zb prog 113 t26 1) fun t27 => opt (zd prog 82 t27 h8) fun t28 => opt (zd prog 84 t5 h8) fun t30 => opt (zG prog 82 t28 t1) fun t31 => opt (nb [t30] (zj prog 84 t31 t30 h8)) fun h24 => rv [] h24 R
def zlZ (h : za) (t0 t1 t2 : Value) (R : VK) : Prop :=
 opt (nb [t2] (some (Value.cells t2).toList)) fun c1 => nw h c1 84 fun t5 h2 => opt (nb [t1, (.int .i64 0)] (zf prog .lss 3 (.tmp 6) (ci 0) t1 (.int .i64 0))) fun t7 => CD t7 (fun j3 => rv [] h2 R)
 (fun j3 => j3 [] h2)
 (fun vs4 h5 => BK (fun j6 => LP (zgQ t0 t1 j6)
 [] h5)
 (zgT t0 t5 t1 R))
theorem ziA (hw : zlZ h t0 t1 t2 R) : DC prog 46 [t0, t1, t2] h R := zE mixed (q := qs) (n := 200) (Eq.mpr (by kernel_rfl) hw)
def zgX (t0 t1 t4 : Value) (R : VK) (vs19 : List Value) (h20 : za) : Prop :=
 opt (nck t0) fun t18 => opt (zb prog 113 t18 1) fun t19 => opt (zd prog 82 t19 h20) fun t20 => opt (zG prog 82 t20 t1) fun t22 => opt (zd prog 84 t22 h20) fun t23 => opt (nb [t23] (zj prog 84 t4 t23 h20)) fun h24 => opt (zd prog 84 t4 h24) fun r0 => rv [r0] h24 R
def KI (t6 t4 : Value) (R : VK) (t0 t1 t14 : Value) (h17 : za) : Prop :=
 opt (pk t6 (.bool true) t14) fun t15 => CD t15 (fun j18 => opt (nb [] (yj prog 84 [])) fun t16 => opt (nb [t16] (zj prog 84 t4 t16 h17)) fun h22 => opt (zd prog 84 t4 h22) fun r0 => rv [r0] h22 R)
 (fun j18 => j18 [] h17)
 (zgX t0 t1 t4 R)
def Kz (t6 t8 t4 : Value) (R : VK) (t0 t1 t12 : Value) (h12 : za) : Prop :=
 GD t6 false (fun k13 => xg (nb [t12] (zg prog .len [82] 3 [t12] h12)) fun t13 h15 => k13 t13 h15) (fun t13 h14 => GD t6 false (fun k16 => opt (nb [t8, t13] (zf prog .geq 3 (.tmp 8) (.tmp 13) t8 t13)) fun t14 => k16 t14 h14) (KI t6 t4 R t0 t1) h14) h12
def Q8 (t6 t8 t4 : Value) (R : VK) (t0 t1 t10 : Value) (h8 : za) : Prop :=
 GD t6 false (fun k9 => opt (zb prog 113 t10 1) fun t11 => k9 t11 h8) (fun t11 h10 => GD t6 false (fun k11 => opt (zd prog 82 t11 h10) fun t12 => k11 t12 h10) (Kz t6 t8 t4 R t0 t1) h10) h8
def zl3 (h : za) (t0 t1 : Value) (R : VK) : Prop :=
 opt (xo prog 84) fun z1 => nw h (Value.cells z1).toList 84 fun t4 h2 => opt (nb [t1, (.int .i64 0)] (zf prog .lss 3 (.tmp 5) (ci 0) t1 (.int .i64 0))) fun t6 => GD t6 false (fun k3 => k3 t1 h2) (fun t8 h4 => GD t6 false (fun k5 => k5 t0 h4) (fun t9 h6 => GD t6 false (fun k7 => opt (nck t9) fun t10 => k7 t10 h6) (Q8 t6 t8 t4 R t0 t1) h6) h4) h2
theorem ziu (hw : zl3 h t0 t1 R) : DC prog 47 [t0, t1] h R := zE mixed (q := qs) (n := 200) (Eq.mpr (by kernel_rfl) hw)
def zkb (t4 : Value) (h5 : za) (R : VK) (j6 : LK) : Prop :=
 opt (nb [] (yj prog 84 [])) fun t9 => opt (nb [t9] (zj prog 84 t4 t9 h5)) fun h10 => opt (zd prog 84 t4 h10) fun r0 => rv [r0, (.bool false)] h10 R
def zjF (t3 : Value) (h8 : za) (t4 : Value) (R : VK) (j34 : LK) : Prop :=
 opt (zb prog 84 t3 1) fun t32 => opt (zd prog 2 t32 h8) fun t33 => xg (nb [t33] (vf prog 2 21 t33 h8)) fun t34 h37 => xg (nb [t34] (vf prog 21 2 t34 h37)) fun t35 h38 => zI prog (fn 32) [t35] h38 (fun t36 h39 => opt (nb [t36] (zj prog 84 t4 t36 h39)) fun h41 => opt (zd prog 84 t4 h41) fun r0 => rv [r0, (.bool true)] h41 R)
def zjO (t3 : Value) (h8 : za) (t4 : Value) (R : VK) (j26 : LK) : Prop :=
 opt (zb prog 84 t3 1) fun t25 => opt (zd prog 2 t25 h8) fun t26 => xg (nb [t26] (vf prog 2 144 t26 h8)) fun t27 h29 => xg (nb [t27] (vf prog 144 2 t27 h29)) fun t28 h30 => zI prog (fn 32) [t28] h30 (fun t29 h31 => opt (nb [t29] (zj prog 84 t4 t29 h31)) fun h33 => opt (zd prog 84 t4 h33) fun r0 => rv [r0, (.bool true)] h33 R)
def zfU (t0 t3 : Value) (h8 : za) (t4 : Value) (R : VK) (vs7 : List Value) (j26 : LK) : Prop :=
 opt (nb [t0, (.int .i64 4)] (zf prog .eql 3 (.tmp 10) (.const (.int .i64 4)) t0 (.int .i64 4))) fun t31 => CD t31 (zjF t3 h8 t4 R)
 (fun j34 => j34 [(nth vs7 0)] h8)
 (fun vs35 h36 => j26 [(nth vs35 0)] h36)
def zjD (t3 : Value) (h8 : za) (t4 : Value) (R : VK) (j20 : LK) : Prop :=
 opt (zb prog 84 t3 1) fun t19 => opt (zd prog 2 t19 h8) fun t20 => opt (aun prog .xor t20) fun t21 => zI prog (fn 32) [t21] h8 (fun t22 h23 => opt (nb [t22] (zj prog 84 t4 t22 h23)) fun h25 => opt (zd prog 84 t4 h25) fun r0 => rv [r0, (.bool true)] h25 R)
def zc5 (t0 t3 : Value) (h8 : za) (t4 : Value) (R : VK) (vs7 : List Value) (j20 : LK) : Prop :=
 opt (nb [t0, (.int .i64 3)] (zf prog .eql 3 (.tmp 10) (.const (.int .i64 3)) t0 (.int .i64 3))) fun t24 => CD t24 (zjO t3 h8 t4 R)
 (zfU t0 t3 h8 t4 R vs7)
 (fun vs27 h28 => j20 [(nth vs27 0)] h28)
def zjt (t3 : Value) (h8 : za) (t4 : Value) (R : VK) (j14 : LK) : Prop :=
 opt (zb prog 84 t3 1) fun t13 => opt (zd prog 2 t13 h8) fun t14 => opt (aun prog .neg t14) fun t15 => zI prog (fn 32) [t15] h8 (fun t16 h17 => opt (nb [t16] (zj prog 84 t4 t16 h17)) fun h19 => opt (zd prog 84 t4 h19) fun r0 => rv [r0, (.bool true)] h19 R)
def zaz (t0 t3 : Value) (h8 : za) (t4 : Value) (R : VK) (vs7 : List Value) (j14 : LK) : Prop :=
 opt (nb [t0, (.int .i64 2)] (zf prog .eql 3 (.tmp 10) (.const (.int .i64 2)) t0 (.int .i64 2))) fun t18 => CD t18 (zjD t3 h8 t4 R)
 (zc5 t0 t3 h8 t4 R vs7)
 (fun vs21 h22 => j14 [(nth vs21 0)] h22)
def Qu (t0 t3 : Value) (h8 : za) (t4 : Value) (R : VK) (vs7 : List Value) (j11 : LK) : Prop :=
 opt (nb [t0, (.int .i64 1)] (zf prog .eql 3 (.tmp 10) (ci 1) t0 (.int .i64 1))) fun t12 => CD t12 (zjt t3 h8 t4 R)
 (zaz t0 t3 h8 t4 R vs7)
 (fun vs15 h16 => j11 [(nth vs15 0)] h16)
def zhl (t4 : Value) (R : VK) (vs12 : List Value) (h13 : za) : Prop :=
 opt (nb [] (yj prog 84 [])) fun t37 => opt (nb [t37] (zj prog 84 t4 t37 h13)) fun h43 => opt (zd prog 84 t4 h43) fun r0 => rv [r0, (.bool false)] h43 R
def zoC (h : za) (t0 t1 : Value) (R : VK) : Prop :=
 opt (nb [t1] (some (Value.cells t1).toList)) fun c1 => nw h c1 84 fun t3 h2 => opt (xo prog 84) fun z3 => nw h2 (Value.cells z3).toList 84 fun t4 h4 => opt (zd prog 84 t3 h4) fun t6 => zI prog (fn 72) [t6] h4 (fun t7 h5 => opt (aun prog .not t7) fun t8 => CD t8 (zkb t4 h5 R)
 (fun j6 => j6 [(.bool false)] h5)
 (fun vs7 h8 => BK (Qu t0 t3 h8 t4 R vs7)
 (zhl t4 R)))
theorem zln (hw : zoC h t0 t1 R) : DC prog 48 [t0, t1] h R := zE mixed (q := qs) (n := 200) (Eq.mpr (by kernel_rfl) hw)
def VT (t3 : Value) (h4 : za) (t4 : Value) (R : VK) (j5 : LK) : Prop :=
 opt (zb prog 46 t3 5) fun t8 => opt (zd prog 2 t8 h4) fun t9 => zI prog (fn 32) [t9] h4 (fun t10 h8 => opt (nb [t10] (zj prog 84 t4 t10 h8)) fun h10 => opt (zd prog 84 t4 h10) fun r0 => rv [r0] h10 R)
def UD (t3 t0 t4 : Value) (R : VK) (vs6 : List Value) (h7 : za) : Prop :=
 opt (zb prog 46 t3 3) fun t12 => opt (zd prog 3 t12 h7) fun t13 => zI prog (fn 47) [t0, t13] h7 (fun t14 h11 => opt (nb [t14] (zj prog 84 t4 t14 h11)) fun h13 => opt (zd prog 84 t4 h13) fun r0 => rv [r0] h13 R)
def J1 (h : za) (t0 t1 : Value) (R : VK) : Prop :=
 opt (nb [t1] (some (Value.cells t1).toList)) fun c1 => nw h c1 46 fun t3 h2 => opt (xo prog 84) fun z3 => nw h2 (Value.cells z3).toList 84 fun t4 h4 => opt (zb prog 46 t3 3) fun t5 => opt (zd prog 3 t5 h4) fun t6 => opt (nb [t6, (.int .i64 (-1))] (zf prog .eql 3 (.tmp 6) (.const (.int .i64 (-1))) t6 (.int .i64 (-1)))) fun t7 => CD t7 (VT t3 h4 t4 R)
 (fun j5 => j5 [] h4)
 (UD t3 t0 t4 R)
theorem zaj (hw : J1 h t0 t1 R) : DC prog 49 [t0, t1] h R := zE mixed (q := qs) (n := 200) (Eq.mpr (by kernel_rfl) hw)
def zjG (h : za) (t0 t1 t2 t3 : Value) (R : VK) : Prop :=
 opt (nck t0) fun t10 => opt (zb prog 79 t10 3) fun t11 => opt (zb prog 32 t11 3) fun t12 => opt (zd prog 30 t12 h) fun t13 => opt (nb [t1, t2, t3] (yj prog 39 [(0, t1), (1, t2), (2, t3)])) fun t17 => xg (nb [t17] (yd prog 30 1 [(0, t17)] h)) fun t18 h1 => xg (nb [t13, t18] (zg prog .append [30, 30] 30 [t13, t18] h1)) fun t19 h2 => opt (nck t0) fun t20 => opt (zb prog 79 t20 3) fun t21 => opt (zb prog 32 t21 3) fun t22 => opt (nb [t19] (zj prog 30 t22 t19 h2)) fun h4 => rv [] h4 R
theorem zfH (hw : zjG h t0 t1 t2 t3 R) : DC prog 50 [t0, t1, t2, t3] h R := zE mixed (q := qs) (n := 200) (Eq.mpr (by kernel_rfl) hw)
def zhG (h : za) (t0 t1 t2 : Value) (R : VK) : Prop :=
 opt (nck t0) fun t8 => opt (zb prog 79 t8 3) fun t9 => opt (zb prog 32 t9 2) fun t10 => opt (zd prog 29 t10 h) fun t11 => opt (nb [t1, t2] (yj prog 54 [(0, t1), (1, t2)])) fun t14 => xg (nb [t14] (yd prog 29 1 [(0, t14)] h)) fun t15 h1 => xg (nb [t11, t15] (zg prog .append [29, 29] 29 [t11, t15] h1)) fun t16 h2 => opt (nck t0) fun t17 => opt (zb prog 79 t17 3) fun t18 => opt (zb prog 32 t18 2) fun t19 => opt (nb [t16] (zj prog 29 t19 t16 h2)) fun h4 => rv [] h4 R
theorem zee (hw : zhG h t0 t1 t2 R) : DC prog 59 [t0, t1, t2] h R := zE mixed (q := qs) (n := 200) (Eq.mpr (by kernel_rfl) hw)
def X6 (t6 : Value) (R : VK) (t20 : Value) (h19 : za) : Prop :=
 opt (axt t20 0) fun t21 => opt (axt t20 1) fun t22 => opt (nb [t21] (zj prog 84 t6 t21 h19)) fun h21 => opt (zd prog 84 t6 h21) fun r0 => rv [r0, t22] h21 R
def wJ (t6 : Value) (R : VK) (t90 : Value) (h77 : za) : Prop :=
 opt (axt t90 0) fun t91 => opt (axt t90 1) fun t92 => opt (nb [t91] (zj prog 84 t6 t91 h77)) fun h79 => opt (zd prog 84 t6 h79) fun r0 => rv [r0, t92] h79 R
def yz (t82 t4 t5 t0 t6 : Value) (R : VK) (j64 : LK) (t85 : Value) (h73 : za) : Prop :=
 opt (pk t82 (.bool true) t85) fun t86 => CD t86 (fun j74 => opt (zd prog 84 t4 h73) fun t88 => opt (zd prog 84 t5 h73) fun t89 => zI prog (fn 75) [t0, t88, t89] h73 (wJ t6 R))
 (fun j74 => j74 [(.bool false)] h73)
 (fun vs75 h76 => j64 [(nth vs75 0)] h76)
def yB (t82 t4 t5 t0 t6 : Value) (R : VK) (j64 : LK) (t84 : Value) (h71 : za) : Prop :=
 GD t82 false (fun k72 => opt (nb [t84, (.int .i64 22)] (zf prog .eql 3 (.tmp 84) (.const (.int .i64 22)) t84 (.int .i64 22))) fun t85 => k72 t85 h71) (yz t82 t4 t5 t0 t6 R j64) h71
def zfB (t4 : Value) (h62 : za) (t5 t6 : Value) (R : VK) (j64 : LK) : Prop :=
 opt (zb prog 84 t4 2) fun t72 => opt (zd prog 3 t72 h62) fun t73 => opt (zb prog 84 t4 1) fun t74 => opt (zd prog 2 t74 h62) fun t75 => opt (zb prog 84 t5 1) fun t76 => opt (zd prog 2 t76 h62) fun t77 => opt (nb [t75, t77] (zf prog .sub 2 (.tmp 75) (.tmp 77) t75 t77)) fun t78 => zI prog (fn 55) [t73, t78] h62 (fun t79 h67 => opt (nb [t79] (zj prog 84 t6 t79 h67)) fun h69 => opt (zd prog 84 t6 h69) fun r0 => rv [r0, (.bool true)] h69 R)
def yE (t0 : Value) (h62 : za) (t4 t5 t6 : Value) (R : VK) (j64 : LK) : Prop :=
 opt (nb [t0, (.int .i64 21)] (zf prog .eql 3 (.tmp 81) (.const (.int .i64 21)) t0 (.int .i64 21))) fun t82 => GD t82 false (fun k70 => k70 t0 h62) (yB t82 t4 t5 t0 t6 R j64) h62
def yx (t67 t4 t5 t6 : Value) (R : VK) (t0 : Value) (j48 : LK) (t69 : Value) (h60 : za) : Prop :=
 GD t67 true (fun k61 => zI prog (fn 72) [t69] h60 (fun t70 h63 => k61 t70 h63)) (fun t70 h62 => opt (pk t67 t70 (.bool false)) fun t71 => CD t71 (zfB t4 h62 t5 t6 R)
 (yE t0 h62 t4 t5 t6 R)
 (fun vs65 h66 => j48 [(nth vs65 0)] h66)) h60
def yw (t63 t5 t4 t6 : Value) (R : VK) (t0 : Value) (j48 : LK) (t65 : Value) (h55 : za) : Prop :=
 GD t63 true (fun k56 => zI prog (fn 74) [t65] h55 (fun t66 h58 => k56 t66 h58)) (fun t66 h57 => opt (pk t63 t66 (.bool false)) fun t67 => GD t67 true (fun k59 => opt (zd prog 84 t5 h57) fun t69 => k59 t69 h57) (yx t67 t4 t5 t6 R t0 j48) h57) h55
def zf6 (t5 : Value) (h46 : za) (t4 t6 : Value) (R : VK) (j48 : LK) : Prop :=
 opt (zb prog 84 t5 2) fun t53 => opt (zd prog 3 t53 h46) fun t54 => opt (zb prog 84 t4 1) fun t55 => opt (zd prog 2 t55 h46) fun t56 => opt (zb prog 84 t5 1) fun t57 => opt (zd prog 2 t57 h46) fun t58 => opt (nb [t56, t58] (zf prog .add 2 (.tmp 56) (.tmp 58) t56 t58)) fun t59 => zI prog (fn 55) [t54, t59] h46 (fun t60 h51 => opt (nb [t60] (zj prog 84 t6 t60 h51)) fun h53 => opt (zd prog 84 t6 h53) fun r0 => rv [r0, (.bool true)] h53 R)
def ya (t0 t4 : Value) (h46 : za) (t5 t6 : Value) (R : VK) (j48 : LK) : Prop :=
 opt (nb [t0, (.int .i64 12)] (zf prog .eql 3 (.tmp 62) (.const (.int .i64 12)) t0 (.int .i64 12))) fun t63 => GD t63 true (fun k54 => opt (zd prog 84 t4 h46) fun t65 => k54 t65 h46) (yw t63 t5 t4 t6 R t0 j48) h46
def zX (t48 t5 t4 t6 : Value) (R : VK) (t0 : Value) (j32 : LK) (t50 : Value) (h44 : za) : Prop :=
 GD t48 true (fun k45 => zI prog (fn 74) [t50] h44 (fun t51 h47 => k45 t51 h47)) (fun t51 h46 => opt (pk t48 t51 (.bool false)) fun t52 => CD t52 (zf6 t5 h46 t4 t6 R)
 (ya t0 t4 h46 t5 t6 R)
 (fun vs49 h50 => j32 [(nth vs49 0)] h50)) h44
def zW (t44 t5 t4 t6 : Value) (R : VK) (t0 : Value) (j32 : LK) (t46 : Value) (h39 : za) : Prop :=
 GD t44 true (fun k40 => zI prog (fn 72) [t46] h39 (fun t47 h42 => k40 t47 h42)) (fun t47 h41 => opt (pk t44 t47 (.bool false)) fun t48 => GD t48 true (fun k43 => opt (zd prog 84 t5 h41) fun t50 => k43 t50 h41) (zX t48 t5 t4 t6 R t0 j32) h41) h39
def zcJ (t4 : Value) (h30 : za) (t5 t6 : Value) (R : VK) (j32 : LK) : Prop :=
 opt (zb prog 84 t4 2) fun t34 => opt (zd prog 3 t34 h30) fun t35 => opt (zb prog 84 t4 1) fun t36 => opt (zd prog 2 t36 h30) fun t37 => opt (zb prog 84 t5 1) fun t38 => opt (zd prog 2 t38 h30) fun t39 => opt (nb [t37, t39] (zf prog .add 2 (.tmp 37) (.tmp 39) t37 t39)) fun t40 => zI prog (fn 55) [t35, t40] h30 (fun t41 h35 => opt (nb [t41] (zj prog 84 t6 t41 h35)) fun h37 => opt (zd prog 84 t6 h37) fun r0 => rv [r0, (.bool true)] h37 R)
def zY (t0 t4 : Value) (h30 : za) (t5 t6 : Value) (R : VK) (j32 : LK) : Prop :=
 opt (nb [t0, (.int .i64 11)] (zf prog .eql 3 (.tmp 43) (.const (.int .i64 11)) t0 (.int .i64 11))) fun t44 => GD t44 true (fun k38 => opt (zd prog 84 t4 h30) fun t46 => k38 t46 h30) (zW t44 t5 t4 t6 R t0 j32) h30
def zS (t29 t4 t5 t6 : Value) (R : VK) (t0 : Value) (j16 : LK) (t31 : Value) (h28 : za) : Prop :=
 GD t29 true (fun k29 => zI prog (fn 72) [t31] h28 (fun t32 h31 => k29 t32 h31)) (fun t32 h30 => opt (pk t29 t32 (.bool false)) fun t33 => CD t33 (zcJ t4 h30 t5 t6 R)
 (zY t0 t4 h30 t5 t6 R)
 (fun vs33 h34 => j16 [(nth vs33 0)] h34)) h28
def zR (t25 t5 t4 t6 : Value) (R : VK) (t0 : Value) (j16 : LK) (t27 : Value) (h23 : za) : Prop :=
 GD t25 true (fun k24 => zI prog (fn 74) [t27] h23 (fun t28 h26 => k24 t28 h26)) (fun t28 h25 => opt (pk t25 t28 (.bool false)) fun t29 => GD t29 true (fun k27 => opt (zd prog 84 t5 h25) fun t31 => k27 t31 h25) (zS t29 t4 t5 t6 R t0 j16) h25) h23
def Zk (t4 : Value) (h14 : za) (t5 t0 t6 : Value) (R : VK) (j16 : LK) : Prop :=
 opt (zb prog 84 t4 1) fun t16 => opt (zd prog 2 t16 h14) fun t17 => opt (zb prog 84 t5 1) fun t18 => opt (zd prog 2 t18 h14) fun t19 => zI prog (fn 73) [t0, t17, t19] h14 (X6 t6 R)
def zT (t0 t4 : Value) (h14 : za) (t5 t6 : Value) (R : VK) (j16 : LK) : Prop :=
 opt (nb [t0, (.int .i64 11)] (zf prog .eql 3 (.tmp 24) (.const (.int .i64 11)) t0 (.int .i64 11))) fun t25 => GD t25 true (fun k22 => opt (zd prog 84 t4 h14) fun t27 => k22 t27 h14) (zR t25 t5 t4 t6 R t0 j16) h14
def zK (t10 t4 t5 t0 t6 : Value) (R : VK) (j7 : LK) (t12 : Value) (h12 : za) : Prop :=
 GD t10 true (fun k13 => zI prog (fn 72) [t12] h12 (fun t13 h15 => k13 t13 h15)) (fun t13 h14 => opt (pk t10 t13 (.bool false)) fun t14 => CD t14 (Zk t4 h14 t5 t0 t6 R)
 (zT t0 t4 h14 t5 t6 R)
 (fun vs17 h18 => j7 [(nth vs17 0)] h18)) h12
def zcH (t4 : Value) (h6 : za) (t5 t0 t6 : Value) (R : VK) (j7 : LK) : Prop :=
 opt (zd prog 84 t4 h6) fun t9 => zI prog (fn 72) [t9] h6 (fun t10 h10 => GD t10 true (fun k11 => opt (zd prog 84 t5 h10) fun t12 => k11 t12 h10) (zK t10 t4 t5 t0 t6 R j7) h10)
def yV (t6 : Value) (R : VK) (vs8 : List Value) (h9 : za) : Prop :=
 opt (nb [] (yj prog 84 [])) fun t93 => opt (nb [t93] (zj prog 84 t6 t93 h9)) fun h81 => opt (zd prog 84 t6 h81) fun r0 => rv [r0, (.bool false)] h81 R
def zmT (h : za) (t0 t1 t2 : Value) (R : VK) : Prop :=
 opt (nb [t1] (some (Value.cells t1).toList)) fun c1 => nw h c1 84 fun t4 h2 => opt (nb [t2] (some (Value.cells t2).toList)) fun c3 => nw h2 c3 84 fun t5 h4 => opt (xo prog 84) fun z5 => nw h4 (Value.cells z5).toList 84 fun t6 h6 => BK (zcH t4 h6 t5 t0 t6 R)
 (yV t6 R)
theorem zio (hw : zmT h t0 t1 t2 R) : DC prog 51 [t0, t1, t2] h R := zE mixed (q := qs) (n := 200) (Eq.mpr (by kernel_rfl) hw)
def Ys (t6 : Value) (h17 : za) (R : VK) (j18 : LK) : Prop :=
 opt (nb [] (yj prog 84 [])) fun t28 => opt (nb [t28] (zj prog 84 t6 t28 h17)) fun h22 => opt (zd prog 84 t6 h22) fun r0 => rv [r0, (.bool false)] h22 R
def Uo (t8 t6 : Value) (R : VK) (t34 : Value) (h23 : za) : Prop :=
 opt (zd prog 84 t8 h23) fun t35 => opt (nb [t35] (zj prog 84 t6 t35 h23)) fun h25 => opt (zd prog 84 t6 h25) fun r0 => rv [r0, (.bool true)] h25 R
def VC (t8 t0 t6 : Value) (R : VK) (vs19 : List Value) (h20 : za) : Prop :=
 opt (zb prog 84 t8 2) fun t30 => opt (zd prog 3 t30 h20) fun t31 => opt (zb prog 84 t8 1) fun t32 => opt (zd prog 2 t32 h20) fun t33 => zI prog (fn 50) [t0, (.int .i64 2), t31, t33] h20 (Uo t8 t6 R)
def Yl (t22 t6 : Value) (R : VK) (t8 t0 t25 : Value) (h15 : za) : Prop :=
 GD t22 false (fun k16 => opt (nb [t25, (.int .i64 2)] (zf prog .neq 3 (.tmp 25) (.const (.int .i64 2)) t25 (.int .i64 2))) fun t26 => k16 t26 h15) (fun t26 h17 => opt (pk t22 (.bool true) t26) fun t27 => CD t27 (Ys t6 h17 R)
 (fun j18 => j18 [(.bool false)] h17)
 (VC t8 t0 t6 R)) h15
def Yk (h4 : za) (t6 : Value) (R : VK) (t0 t18 : Value) : Prop :=
 opt (axt t18 0) fun t19 => opt (axt t18 1) fun t20 => opt (xo prog 84) fun z8 => nw h4 (Value.cells z8).toList 84 fun t8 h9 => opt (nb [t19] (zj prog 84 t8 t19 h9)) fun h11 => opt (aun prog .not t20) fun t22 => GD t22 false (fun k12 => opt (zb prog 84 t8 0) fun t24 => k12 t24 h11) (fun t24 h13 => GD t22 false (fun k14 => opt (zd prog 3 t24 h13) fun t25 => k14 t25 h13) (Yl t22 t6 R t8 t0) h13) h11
def W7 (t5 : Value) (h4 : za) (t6 : Value) (R : VK) (t0 t14 : Value) : Prop :=
 opt (zb prog 46 t5 5) fun t15 => opt (zd prog 2 t15 h4) fun t16 => qy prog 32 [t16] h4 (fun t17 => qy prog 51 [(.int .i64 11), t14, t17] h4 (Yk h4 t6 R t0))
def zaC (h : za) (t0 t1 t2 : Value) (R : VK) : Prop :=
 opt (nb [t2] (some (Value.cells t2).toList)) fun c1 => nw h c1 46 fun t5 h2 => opt (xo prog 84) fun z3 => nw h2 (Value.cells z3).toList 84 fun t6 h4 => opt (zb prog 46 t5 2) fun t12 => opt (zd prog 3 t12 h4) fun t13 => qy prog 47 [t1, t13] h4 (W7 t5 h4 t6 R t0)
theorem zar (hw : zaC h t0 t1 t2 R) : DC prog 52 [t0, t1, t2] h R := zE mixed (q := qs) (n := 200) (Eq.mpr (by kernel_rfl) hw)
def zfq (t1 t0 t4 : Value) (R : VK) (vs4 : List Value) (h5 : za) : Prop :=
 opt (nb [(.int .i64 2), t1, t0] (yj prog 84 [(0, (.int .i64 2)), (1, t1), (2, t0)])) fun t10 => opt (nb [t10] (zj prog 84 t4 t10 h5)) fun h9 => opt (zd prog 84 t4 h9) fun r0 => rv [r0] h9 R
def zmG (h : za) (t0 t1 : Value) (R : VK) : Prop :=
 opt (xo prog 84) fun z1 => nw h (Value.cells z1).toList 84 fun t4 h2 => opt (nb [t0, (.int .i64 1)] (zf prog .lss 3 (.tmp 5) (ci 1) t0 (.int .i64 1))) fun t6 => CD t6 (fun j3 => opt (nb [] (yj prog 84 [])) fun t7 => opt (nb [t7] (zj prog 84 t4 t7 h2)) fun h7 => opt (zd prog 84 t4 h7) fun r0 => rv [r0] h7 R)
 (fun j3 => j3 [] h2)
 (zfq t1 t0 t4 R)
theorem zh8 (hw : zmG h t0 t1 R) : DC prog 55 [t0, t1] h R := zE mixed (q := qs) (n := 200) (Eq.mpr (by kernel_rfl) hw)
def zdD (t5 : Value) (h15 : za) (t1 : Value) (j16 : LK) : Prop :=
 opt (zb prog 46 t5 8) fun t37 => opt (zd prog 3 t37 h15) fun t38 => opt (nck t1) fun t39 => opt (zb prog 113 t39 3) fun t40 => opt (nb [t38] (zj prog 3 t40 t38 h15)) fun h20 => j16 [] h20
def zdj (t5 t1 t7 : Value) (R : VK) (t27 : Value) (h13 : za) : Prop :=
 opt (zb prog 46 t5 7) fun t29 => opt (zd prog 3 t29 h13) fun t30 => opt (nck t1) fun t31 => opt (zb prog 113 t31 3) fun t32 => opt (nb [t30] (zj prog 3 t32 t30 h13)) fun h15 => opt (zb prog 84 t7 1) fun t33 => opt (zd prog 2 t33 h15) fun t34 => opt (nb [t34, (.int .i64 0)] (zf prog .eql 2 (.tmp 34) (ci 0) t34 (.int .i64 0))) fun t35 => CD t35 (zdD t5 h15 t1)
 (fun j16 => j16 [] h15)
 (fun vs17 h18 => rv [(.bool true)] h18 R)
def zc3 (t7 t0 t5 t1 : Value) (R : VK) (vs11 : List Value) (h12 : za) : Prop :=
 opt (zb prog 84 t7 1) fun t25 => opt (zd prog 2 t25 h12) fun t26 => zI prog (fn 50) [t0, (.int .i64 1), t26, (.int .i64 0)] h12 (zdj t5 t1 t7 R)
def Kd (h2 : za) (R : VK) (t0 t5 t1 t19 : Value) : Prop :=
 opt (axt t19 0) fun t20 => opt (axt t19 1) fun t21 => opt (xo prog 84) fun z6 => nw h2 (Value.cells z6).toList 84 fun t7 h7 => opt (nb [t20] (zj prog 84 t7 t20 h7)) fun h9 => opt (aun prog .not t21) fun t23 => CD t23 (fun j10 => rv [(.bool false)] h9 R)
 (fun j10 => j10 [(.bool false)] h9)
 (zc3 t7 t0 t5 t1 R)
def zjw (h : za) (t0 t1 t2 : Value) (R : VK) : Prop :=
 opt (nb [t2] (some (Value.cells t2).toList)) fun c1 => nw h c1 46 fun t5 h2 => opt (zb prog 46 t5 1) fun t10 => opt (zd prog 3 t10 h2) fun t11 => opt (zb prog 46 t5 2) fun t13 => opt (zd prog 3 t13 h2) fun t14 => qy prog 47 [t1, t14] h2 (fun t15 => opt (zd prog 46 t5 h2) fun t17 => qy prog 49 [t1, t17] h2 (fun t18 => qy prog 51 [t11, t15, t18] h2 (Kd h2 R t0 t5 t1)))
theorem zgn (hw : zjw h t0 t1 t2 R) : DC prog 56 [t0, t1, t2] h R := zE mixed (q := qs) (n := 200) (Eq.mpr (by kernel_rfl) hw)
def Js (t3 t0 : Value) (R : VK) (vs13 : List Value) (h14 : za) : Prop :=
 opt (zb prog 84 t3 1) fun t55 => opt (zd prog 2 t55 h14) fun t56 => opt (nck t0) fun t57 => opt (zb prog 79 t57 3) fun t58 => opt (zb prog 32 t58 0) fun t59 => (apt 1 t59 1 t55 /\ opt (nb [(.int .i64 1)] (zj prog 3 t59 (.int .i64 1) h14)) fun h16 => opt (nck t0) fun t60 => opt (zb prog 79 t60 3) fun t61 => opt (zb prog 32 t61 1) fun t62 => opt (nb [t56] (zj prog 2 t62 t56 h16)) fun h18 => rv [(.bool true)] h18 R)
def VB (t3 : Value) (h8 : za) (R : VK) (t0 : Value) (j9 : LK) : Prop :=
 opt (zb prog 84 t3 0) fun t50 => opt (zd prog 3 t50 h8) fun t51 => opt (nb [t51, (.int .i64 1)] (zf prog .neq 3 (.tmp 51) (ci 1) t51 (.int .i64 1))) fun t52 => CD t52 (fun j12 => rv [(.bool false)] h8 R)
 (fun j12 => j12 [(.bool false)] h8)
 (Js t3 t0 R)
def za7 (t74 : Value) (h40 : za) (vs32 : List Value) (j41 : LK) : Prop :=
 opt (nck t74) fun t109 => opt (zb prog 113 t109 1) fun t110 => opt (zd prog 82 t110 h40) fun t111 => opt (nb [] (yj prog 84 [])) fun t113 => opt (zG prog 82 t111 (nth vs32 0)) fun t114 => opt (nb [t113] (zj prog 84 t114 t113 h40)) fun h45 => j41 [] h45
def Jk (t0 : Value) (h36 : za) (vs32 : List Value) (t74 : Value) (j37 : LK) : Prop :=
 opt (nck t0) fun t102 => opt (zb prog 79 t102 6) fun t103 => opt (zd prog 55 t103 h36) fun t104 => zI prog t104 [(nth vs32 0)] h36 (fun t106 h40 => opt (aun prog .not t106) fun t107 => CD t107 (za7 t74 h40 vs32)
 (fun j41 => j41 [] h40)
 (fun vs42 h43 => j37 [] h43))
def K7 (t0 : Value) (vs32 : List Value) (t74 : Value) (j31 : LK) (vs35 : List Value) (h36 : za) : Prop :=
 BK (Jk t0 h36 vs32 t74)
 (fun vs38 h39 => opt (nb [(nth vs32 0), (.int .i64 1)] (zf prog .add 3 (.tmp 98) (ci 1) (nth vs32 0) (.int .i64 1))) fun t115 => j31 [t115] h39)
def zau (t97 : Value) (j28 : LK) (t0 t74 : Value) (vs32 : List Value) (h33 : za) (j31 : LK) : Prop :=
 opt (nb [(nth vs32 0), t97] (zf prog .lss 3 (.tmp 98) (.tmp 97) (nth vs32 0) t97)) fun t99 => CD t99 (fun j34 => j34 [] h33)
 (fun j34 => j28 [] h33)
 (K7 t0 vs32 t74 j31)
def Jm (t74 : Value) (h23 : za) (t0 : Value) (j24 : LK) : Prop :=
 opt (nck t74) fun t94 => opt (zb prog 113 t94 1) fun t95 => opt (zd prog 82 t95 h23) fun t96 => xg (nb [t96] (zg prog .len [82] 3 [t96] h23)) fun t97 h27 => BK (fun j28 => LP (zau t97 j28 t0 t74)
 [(.int .i64 0)] h27)
 (fun vs29 h30 => j24 [] h30)
def Jo (t7 t74 : Value) (R : VK) (t120 : Value) (h46 : za) : Prop :=
 opt (zb prog 46 t7 7) fun t122 => opt (zd prog 3 t122 h46) fun t123 => opt (nck t74) fun t124 => opt (zb prog 113 t124 3) fun t125 => opt (nb [t123] (zj prog 3 t125 t123 h46)) fun h48 => rv [(.bool true)] h48 R
def Vn (t7 t3 t74 : Value) (R : VK) (vs25 : List Value) (h26 : za) : Prop :=
 opt (zb prog 46 t7 4) fun t117 => opt (zd prog 3 t117 h26) fun t118 => opt (zd prog 84 t3 h26) fun t119 => zI prog (fn 46) [t74, t118, t119] h26 (Jo t7 t74 R)
def QI (t0 t3 : Value) (R : VK) (vs10 : List Value) (h11 : za) : Prop :=
 opt (nck t0) fun t64 => opt (zb prog 79 t64 5) fun t65 => opt (zd prog 77 t65 h11) fun t66 => opt (nck t0) fun t68 => opt (zb prog 79 t68 5) fun t69 => opt (zd prog 77 t69 h11) fun t70 => xg (nb [t70] (zg prog .len [77] 3 [t70] h11)) fun t71 _ => opt (nb [t71, (.int .i64 1)] (zf prog .sub 3 (.tmp 71) (ci 1) t71 (.int .i64 1))) fun t72 => opt (zG prog 77 t66 t72) fun t73 => opt (zd prog 111 t73 h11) fun t74 => opt (nck t74) fun t76 => opt (zb prog 113 t76 0) fun t77 => opt (zd prog 110 t77 h11) fun t78 => opt (nck t78) fun t79 => opt (zb prog 51 t79 5) fun t80 => opt (zd prog 49 t80 h11) fun t81 => opt (nck t74) fun t83 => opt (zb prog 113 t83 3) fun t84 => opt (zd prog 3 t84 h11) fun t85 => opt (zG prog 49 t81 t85) fun t86 => opt (zd prog 46 t86 h11) fun t87 => opt (xo prog 46) fun z20 => nw h11 (Value.cells z20).toList 46 fun t7 h21 => opt (nb [t87] (zj prog 46 t7 t87 h21)) fun h23 => opt (nck t0) fun t89 => opt (zb prog 79 t89 6) fun t90 => opt (zd prog 55 t90 h23) fun t91 => opt (nb [t91, .nilFunc] (zf prog .neq 55 (.tmp 91) (.const .nilFunc) t91 .nilFunc)) fun t92 => CD t92 (Jm t74 h23 t0)
 (fun j24 => j24 [] h23)
 (Vn t7 t3 t74 R)
def Wj (t0 t3 : Value) (R : VK) (t29 : Value) (h4 : za) : Prop :=
 opt (nck t0) fun t32 => opt (zb prog 79 t32 5) fun t33 => opt (zd prog 77 t33 h4) fun t34 => opt (nck t0) fun t36 => opt (zb prog 79 t36 5) fun t37 => opt (zd prog 77 t37 h4) fun t38 => xg (nb [t38] (zg prog .len [77] 3 [t38] h4)) fun t39 _ => opt (nb [t39, (.int .i64 1)] (zf prog .sub 3 (.tmp 39) (ci 1) t39 (.int .i64 1))) fun t40 => opt (nb [t34] (cond (onb none && onb (some t40)) (asl prog 77 t34 none (some t40) h4) none)) fun t41 => opt (nck t0) fun t42 => opt (zb prog 79 t42 5) fun t43 => opt (nb [t41] (zj prog 77 t43 t41 h4)) fun h7 => opt (nck t0) fun t45 => opt (zb prog 79 t45 5) fun t46 => opt (zd prog 77 t46 h7) fun t47 => xg (nb [t47] (zg prog .len [77] 3 [t47] h7)) fun t48 h8 => opt (nb [t48, (.int .i64 0)] (zf prog .eql 3 (.tmp 48) (ci 0) t48 (.int .i64 0))) fun t49 => CD t49 (VB t3 h8 R t0)
 (fun j9 => j9 [(.bool false)] h8)
 (QI t0 t3 R)
def zbQ (h : za) (t0 t1 : Value) (R : VK) : Prop :=
 opt (nb [t1] (some (Value.cells t1).toList)) fun c1 => nw h c1 84 fun t3 h2 => opt (nck t0) fun t10 => opt (zb prog 79 t10 5) fun t11 => opt (zd prog 77 t11 h2) fun t12 => opt (nck t0) fun t14 => opt (zb prog 79 t14 5) fun t15 => opt (zd prog 77 t15 h2) fun t16 => xg (nb [t16] (zg prog .len [77] 3 [t16] h2)) fun t17 _ => opt (nb [t17, (.int .i64 1)] (zf prog .sub 3 (.tmp 17) (ci 1) t17 (.int .i64 1))) fun t18 => opt (zG prog 77 t12 t18) fun t19 => opt (zd prog 111 t19 h2) fun t20 => opt (nck t0) fun t22 => opt (zb prog 79 t22 1) fun t23 => opt (zd prog 73 t23 h2) fun t24 => opt (nck t20) fun t26 => opt (zb prog 113 t26 2) fun t27 => opt (zd prog 3 t27 h2) fun t28 => Yz prog 78 [t24, t28] h2 (Wj t0 t3 R)
theorem QS (hw : zbQ h t0 t1 R) : DC prog 57 [t0, t1] h R := zgw mixed (q := qs) (n := 200) (Eq.mpr (by kernel_rfl) hw)
def zcV (t0 : Value) (R : VK) (vs5 : List Value) (h6 : za) : Prop :=
 opt (nck t0) fun t21 => opt (zb prog 100 t21 0) fun t22 => opt (zd prog 26 t22 h6) fun t23 => opt (nck t0) fun t25 => opt (zb prog 100 t25 1) fun t26 => opt (zd prog 3 t26 h6) fun t27 => opt (nb [t27, (.int .i64 1)] (zf prog .sub 3 (.tmp 27) (ci 1) t27 (.int .i64 1))) fun t28 => opt (zG prog 26 t23 t28) fun t29 => opt (zd prog 2 t29 h6) fun t30 => rv [t30] h6 R
def zke (h : za) (t0 : Value) (R : VK) : Prop :=
 opt (nck t0) fun t4 => opt (zb prog 100 t4 1) fun t5 => opt (zd prog 3 t5 h) fun t6 => opt (nb [t6, (.int .i64 1)] (zf prog .add 3 (.tmp 6) (ci 1) t6 (.int .i64 1))) fun t7 => opt (nck t0) fun t8 => opt (zb prog 100 t8 1) fun t9 => opt (nb [t7] (zj prog 3 t9 t7 h)) fun h2 => opt (nck t0) fun t11 => opt (zb prog 100 t11 1) fun t12 => opt (zd prog 3 t12 h2) fun t13 => opt (nck t0) fun t15 => opt (zb prog 100 t15 0) fun t16 => opt (zd prog 26 t16 h2) fun t17 => xg (nb [t17] (zg prog .len [26] 3 [t17] h2)) fun t18 _ => opt (nb [t13, t18] (zf prog .gtr 3 (.tmp 13) (.tmp 18) t13 t18)) fun t19 => CD t19 (fun j4 => rv [(.int .i64 0)] h2 R)
 (fun j4 => j4 [(.int .i64 0)] h2)
 (zcV t0 R)
theorem zfr (hw : zke h t0 R) : DC prog 58 [t0] h R := zE mixed (q := qs) (n := 200) (Eq.mpr (by kernel_rfl) hw)
def UC (t5 : Value) (R : VK) (t7 : Value) (h4 : za) : Prop :=
 GD t5 true (fun k5 => zI prog (fn 77) [t7] h4 (fun t8 h7 => k5 t8 h7)) (fun t8 h6 => opt (pk t5 t8 (.bool false)) fun t9 => rv [t9] h6 R) h4
def zhV (h : za) (t0 : Value) (R : VK) : Prop :=
 opt (nb [t0] (some (Value.cells t0).toList)) fun c1 => nw h c1 84 fun t1 h2 => opt (zb prog 84 t1 0) fun t3 => opt (zd prog 3 t3 h2) fun t4 => opt (nb [t4, (.int .i64 1)] (zf prog .eql 3 (.tmp 4) (ci 1) t4 (.int .i64 1))) fun t5 => GD t5 true (fun k3 => opt (zd prog 84 t1 h2) fun t7 => k3 t7 h2) (UC t5 R) h2
theorem ze2 (hw : zhV h t0 R) : DC prog 72 [t0] h R := zE mixed (q := qs) (n := 200) (Eq.mpr (by kernel_rfl) hw)
def Vf (t5 : Value) (R : VK) (t7 : Value) (h4 : za) : Prop :=
 GD t5 true (fun k5 => zI prog (fn 77) [t7] h4 (fun t8 h7 => k5 t8 h7)) (fun t8 h6 => opt (pk t5 t8 (.bool false)) fun t9 => rv [t9] h6 R) h4
def zfI (h : za) (t0 : Value) (R : VK) : Prop :=
 opt (nb [t0] (some (Value.cells t0).toList)) fun c1 => nw h c1 84 fun t1 h2 => opt (zb prog 84 t1 0) fun t3 => opt (zd prog 3 t3 h2) fun t4 => opt (nb [t4, (.int .i64 2)] (zf prog .eql 3 (.tmp 4) (.const (.int .i64 2)) t4 (.int .i64 2))) fun t5 => GD t5 true (fun k3 => opt (zd prog 84 t1 h2) fun t7 => k3 t7 h2) (Vf t5 R) h2
theorem zeQ (hw : zfI h t0 R) : DC prog 74 [t0] h R := zE mixed (q := qs) (n := 200) (Eq.mpr (by kernel_rfl) hw)
def Xl (t6 : Value) (h41 : za) (R : VK) (j42 : LK) : Prop :=
 opt (nb [] (yj prog 84 [])) fun t40 => opt (nb [t40] (zj prog 84 t6 t40 h41)) fun h46 => opt (zd prog 84 t6 h46) fun r0 => rv [r0, (.bool false)] h46 R
def Q5 (t1 t2 : Value) (h44 : za) (t6 : Value) (R : VK) (j47 : LK) : Prop :=
 opt (nb [t1, t2] (zf prog .quo 2 (.tmp 43) (.tmp 44) t1 t2)) fun t45 => zI prog (fn 32) [t45] h44 (fun t46 h50 => opt (nb [t46] (zj prog 84 t6 t46 h50)) fun h52 => opt (zd prog 84 t6 h52) fun r0 => rv [r0, (.bool true)] h52 R)
def KX (t1 t2 t6 : Value) (R : VK) (vs48 : List Value) (h49 : za) : Prop :=
 opt (nb [t1, t2] (zf prog .rem 2 (.tmp 47) (.tmp 48) t1 t2)) fun t49 => zI prog (fn 32) [t49] h49 (fun t50 h53 => opt (nb [t50] (zj prog 84 t6 t50 h53)) fun h55 => opt (zd prog 84 t6 h55) fun r0 => rv [r0, (.bool true)] h55 R)
def Xi (t0 t1 t2 t6 : Value) (R : VK) (vs43 : List Value) (h44 : za) : Prop :=
 opt (nb [t0, (.int .i64 14)] (zf prog .eql 3 (.tmp 41) (.const (.int .i64 14)) t0 (.int .i64 14))) fun t42 => CD t42 (Q5 t1 t2 h44 t6 R)
 (fun j47 => j47 [(nth vs43 0)] h44)
 (KX t1 t2 t6 R)
def uH (t31 t35 t6 : Value) (R : VK) (t0 t1 t2 t37 : Value) (h39 : za) : Prop :=
 GD t31 false (fun k40 => opt (pk t35 t37 (.bool false)) fun t38 => k40 t38 h39) (fun t38 h41 => opt (pk t31 (.bool true) t38) fun t39 => CD t39 (Xl t6 h41 R)
 (fun j42 => j42 [(.bool false)] h41)
 (Xi t0 t1 t2 t6 R)) h39
def uG (t35 t31 t6 : Value) (R : VK) (t0 t1 t2 t36 : Value) (h37 : za) : Prop :=
 GD t35 true (fun k38 => opt (nb [t36, (.int .i64 (-1))] (zf prog .eql 2 (.tmp 36) (.const (.int .i64 (-1))) t36 (.int .i64 (-1)))) fun t37 => k38 t37 h37) (uH t31 t35 t6 R t0 t1 t2) h37
def uF (t31 t2 t6 : Value) (R : VK) (t0 t1 t33 : Value) (h31 : za) : Prop :=
 GD t31 false (fun k32 => opt (nb [t33, (.int .i64 (-9223372036854775808))] (zf prog .eql 2 (.tmp 33) (.const (.int .i64 (-9223372036854775808))) t33 (.int .i64 (-9223372036854775808)))) fun t34 => k32 t34 h31) (fun t34 h33 => GD t31 false (fun k34 => k34 t34 h33) (fun t35 h35 => GD t35 true (fun k36 => k36 t2 h35) (uG t35 t31 t6 R t0 t1 t2) h35) h33) h31
def YY (t6 : Value) (h83 : za) (R : VK) (j84 : LK) : Prop :=
 opt (nb [] (yj prog 84 [])) fun t78 => opt (nb [t78] (zj prog 84 t6 t78 h83)) fun h88 => opt (zd prog 84 t6 h88) fun r0 => rv [r0, (.bool false)] h88 R
def zdd (t1 t2 : Value) (h86 : za) (t6 : Value) (R : VK) (j89 : LK) : Prop :=
 opt (nb [t1, t2] (zf prog .shl 2 (.tmp 81) (.tmp 82) t1 t2)) fun t83 => zI prog (fn 32) [t83] h86 (fun t84 h92 => opt (nb [t84] (zj prog 84 t6 t84 h92)) fun h94 => opt (zd prog 84 t6 h94) fun r0 => rv [r0, (.bool true)] h94 R)
def zaV (t1 t2 t6 : Value) (R : VK) (vs90 : List Value) (h91 : za) : Prop :=
 opt (nb [t1, t2] (zf prog .shr 2 (.tmp 85) (.tmp 86) t1 t2)) fun t87 => zI prog (fn 32) [t87] h91 (fun t88 h95 => opt (nb [t88] (zj prog 84 t6 t88 h95)) fun h97 => opt (zd prog 84 t6 h97) fun r0 => rv [r0, (.bool true)] h97 R)
def W4 (t0 t1 t2 t6 : Value) (R : VK) (vs85 : List Value) (h86 : za) : Prop :=
 opt (nb [t0, (.int .i64 19)] (zf prog .eql 3 (.tmp 79) (.const (.int .i64 19)) t0 (.int .i64 19))) fun t80 => CD t80 (zdd t1 t2 h86 t6 R)
 (fun j89 => j89 [(nth vs85 0)] h86)
 (zaV t1 t2 t6 R)
def qj (t73 t6 : Value) (R : VK) (t0 t1 t2 t75 : Value) (h81 : za) : Prop :=
 GD t73 false (fun k82 => opt (nb [t75, (.int .i64 63)] (zf prog .gtr 2 (.tmp 75) (.const (.int .i64 63)) t75 (.int .i64 63))) fun t76 => k82 t76 h81) (fun t76 h83 => opt (pk t73 (.bool true) t76) fun t77 => CD t77 (YY t6 h83 R)
 (fun j84 => j84 [(.bool false)] h83)
 (W4 t0 t1 t2 t6 R)) h81
def J5 (t1 t2 : Value) (h76 : za) (t6 : Value) (R : VK) (j128 : LK) : Prop :=
 opt (nb [t1, t2] (zf prog .geq 2 (.tmp 121) (.tmp 122) t1 t2)) fun t123 => zI prog (fn 87) [t123] h76 (fun t124 h131 => opt (nb [t124] (zj prog 84 t6 t124 h131)) fun h133 => opt (zd prog 84 t6 h133) fun r0 => rv [r0, (.bool true)] h133 R)
def Jh (t1 t2 : Value) (h76 : za) (t6 : Value) (R : VK) (j122 : LK) : Prop :=
 opt (nb [t1, t2] (zf prog .gtr 2 (.tmp 115) (.tmp 116) t1 t2)) fun t117 => zI prog (fn 87) [t117] h76 (fun t118 h125 => opt (nb [t118] (zj prog 84 t6 t118 h125)) fun h127 => opt (zd prog 84 t6 h127) fun r0 => rv [r0, (.bool true)] h127 R)
def WZ (t0 t1 t2 : Value) (h76 : za) (t6 : Value) (R : VK) (j122 : LK) : Prop :=
 opt (nb [t0, (.int .i64 26)] (zf prog .eql 3 (.tmp 8) (.const (.int .i64 26)) t0 (.int .i64 26))) fun t120 => CD t120 (J5 t1 t2 h76 t6 R)
 (fun j128 => j128 [(.bool false)] h76)
 (fun vs129 h130 => j122 [(nth vs129 0)] h130)
def JI (t1 t2 : Value) (h76 : za) (t6 : Value) (R : VK) (j116 : LK) : Prop :=
 opt (nb [t1, t2] (zf prog .leq 2 (.tmp 109) (.tmp 110) t1 t2)) fun t111 => zI prog (fn 87) [t111] h76 (fun t112 h119 => opt (nb [t112] (zj prog 84 t6 t112 h119)) fun h121 => opt (zd prog 84 t6 h121) fun r0 => rv [r0, (.bool true)] h121 R)
def Xd (t0 t1 t2 : Value) (h76 : za) (t6 : Value) (R : VK) (j116 : LK) : Prop :=
 opt (nb [t0, (.int .i64 25)] (zf prog .eql 3 (.tmp 8) (.const (.int .i64 25)) t0 (.int .i64 25))) fun t114 => CD t114 (Jh t1 t2 h76 t6 R)
 (WZ t0 t1 t2 h76 t6 R)
 (fun vs123 h124 => j116 [(nth vs123 0)] h124)
def zaW (t1 t2 : Value) (h76 : za) (t6 : Value) (R : VK) (j110 : LK) : Prop :=
 opt (nb [t1, t2] (zf prog .lss 2 (.tmp 103) (.tmp 104) t1 t2)) fun t105 => zI prog (fn 87) [t105] h76 (fun t106 h113 => opt (nb [t106] (zj prog 84 t6 t106 h113)) fun h115 => opt (zd prog 84 t6 h115) fun r0 => rv [r0, (.bool true)] h115 R)
def j0 (t0 t1 t2 : Value) (h76 : za) (t6 : Value) (R : VK) (j110 : LK) : Prop :=
 opt (nb [t0, (.int .i64 24)] (zf prog .eql 3 (.tmp 8) (.const (.int .i64 24)) t0 (.int .i64 24))) fun t108 => CD t108 (JI t1 t2 h76 t6 R)
 (Xd t0 t1 t2 h76 t6 R)
 (fun vs117 h118 => j110 [(nth vs117 0)] h118)
def za9 (t1 t2 : Value) (h76 : za) (t6 : Value) (R : VK) (j104 : LK) : Prop :=
 opt (nb [t1, t2] (zf prog .neq 2 (.tmp 97) (.tmp 98) t1 t2)) fun t99 => zI prog (fn 87) [t99] h76 (fun t100 h107 => opt (nb [t100] (zj prog 84 t6 t100 h107)) fun h109 => opt (zd prog 84 t6 h109) fun r0 => rv [r0, (.bool true)] h109 R)
def q5 (t0 t1 t2 : Value) (h76 : za) (t6 : Value) (R : VK) (j104 : LK) : Prop :=
 opt (nb [t0, (.int .i64 23)] (zf prog .eql 3 (.tmp 8) (.const (.int .i64 23)) t0 (.int .i64 23))) fun t102 => CD t102 (zaW t1 t2 h76 t6 R)
 (j0 t0 t1 t2 h76 t6 R)
 (fun vs111 h112 => j104 [(nth vs111 0)] h112)
def zaD (t1 t2 : Value) (h76 : za) (t6 : Value) (R : VK) (j98 : LK) : Prop :=
 opt (nb [t1, t2] (zf prog .eql 2 (.tmp 91) (.tmp 92) t1 t2)) fun t93 => zI prog (fn 87) [t93] h76 (fun t94 h101 => opt (nb [t94] (zj prog 84 t6 t94 h101)) fun h103 => opt (zd prog 84 t6 h103) fun r0 => rv [r0, (.bool true)] h103 R)
def u9 (t0 t1 t2 : Value) (h76 : za) (t6 : Value) (R : VK) (j98 : LK) : Prop :=
 opt (nb [t0, (.int .i64 22)] (zf prog .eql 3 (.tmp 8) (.const (.int .i64 22)) t0 (.int .i64 22))) fun t96 => CD t96 (za9 t1 t2 h76 t6 R)
 (q5 t0 t1 t2 h76 t6 R)
 (fun vs105 h106 => j98 [(nth vs105 0)] h106)
def u1 (t2 : Value) (h76 : za) (t6 : Value) (R : VK) (t0 t1 : Value) (j77 : LK) : Prop :=
 opt (nb [t2, (.int .i64 0)] (zf prog .lss 2 (.tmp 72) (ci 0) t2 (.int .i64 0))) fun t73 => GD t73 false (fun k80 => k80 t2 h76) (qj t73 t6 R t0 t1 t2) h76
def uv (t0 t1 t2 : Value) (h76 : za) (t6 : Value) (R : VK) (j77 : LK) : Prop :=
 opt (nb [t0, (.int .i64 21)] (zf prog .eql 3 (.tmp 8) (.const (.int .i64 21)) t0 (.int .i64 21))) fun t90 => CD t90 (zaD t1 t2 h76 t6 R)
 (u9 t0 t1 t2 h76 t6 R)
 (fun vs99 h100 => j77 [(nth vs99 0)] h100)
def zaG (t1 t2 : Value) (h26 : za) (t6 : Value) (R : VK) (j68 : LK) : Prop :=
 opt (nb [t1, t2] (zf prog .xor 2 (.tmp 65) (.tmp 66) t1 t2)) fun t67 => zI prog (fn 32) [t67] h26 (fun t68 h71 => opt (nb [t68] (zj prog 84 t6 t68 h71)) fun h73 => opt (zd prog 84 t6 h73) fun r0 => rv [r0, (.bool true)] h73 R)
def xL (t0 : Value) (h26 : za) (t2 t6 : Value) (R : VK) (t1 : Value) (j68 : LK) : Prop :=
 opt (nb [t0, (.int .i64 19)] (zf prog .eql 3 (.tmp 8) (.const (.int .i64 19)) t0 (.int .i64 19))) fun t70 => CD t70 (fun j74 => j74 [t70] h26)
 (fun j74 => opt (nb [t0, (.int .i64 20)] (zf prog .eql 3 (.tmp 8) (.const (.int .i64 20)) t0 (.int .i64 20))) fun t71 => j74 [t71] h26)
 (fun vs75 h76 => CD (nth vs75 0) (u1 t2 h76 t6 R t0 t1)
 (uv t0 t1 t2 h76 t6 R)
 (fun vs78 h79 => j68 [(nth vs78 0)] h79))
def JW (t1 t2 : Value) (h26 : za) (t6 : Value) (R : VK) (j62 : LK) : Prop :=
 opt (nb [t1, t2] (zf prog .or 2 (.tmp 59) (.tmp 60) t1 t2)) fun t61 => zI prog (fn 32) [t61] h26 (fun t62 h65 => opt (nb [t62] (zj prog 84 t6 t62 h65)) fun h67 => opt (zd prog 84 t6 h67) fun r0 => rv [r0, (.bool true)] h67 R)
def xw (t0 t1 t2 : Value) (h26 : za) (t6 : Value) (R : VK) (j62 : LK) : Prop :=
 opt (nb [t0, (.int .i64 18)] (zf prog .eql 3 (.tmp 8) (.const (.int .i64 18)) t0 (.int .i64 18))) fun t64 => CD t64 (zaG t1 t2 h26 t6 R)
 (xL t0 h26 t2 t6 R t1)
 (fun vs69 h70 => j62 [(nth vs69 0)] h70)
def JO (t1 t2 : Value) (h26 : za) (t6 : Value) (R : VK) (j56 : LK) : Prop :=
 opt (nb [t1, t2] (zf prog .and 2 (.tmp 53) (.tmp 54) t1 t2)) fun t55 => zI prog (fn 32) [t55] h26 (fun t56 h59 => opt (nb [t56] (zj prog 84 t6 t56 h59)) fun h61 => opt (zd prog 84 t6 h61) fun r0 => rv [r0, (.bool true)] h61 R)
def xi (t0 t1 t2 : Value) (h26 : za) (t6 : Value) (R : VK) (j56 : LK) : Prop :=
 opt (nb [t0, (.int .i64 17)] (zf prog .eql 3 (.tmp 8) (.const (.int .i64 17)) t0 (.int .i64 17))) fun t58 => CD t58 (JW t1 t2 h26 t6 R)
 (xw t0 t1 t2 h26 t6 R)
 (fun vs63 h64 => j56 [(nth vs63 0)] h64)
def vF (t2 t1 : Value) (h26 : za) (t6 : Value) (R : VK) (t0 : Value) (j27 : LK) : Prop :=
 opt (nb [t2, (.int .i64 0)] (zf prog .eql 2 (.tmp 30) (ci 0) t2 (.int .i64 0))) fun t31 => GD t31 false (fun k30 => k30 t1 h26) (uF t31 t2 t6 R t0 t1) h26
def y5 (t0 t1 t2 : Value) (h26 : za) (t6 : Value) (R : VK) (j27 : LK) : Prop :=
 opt (nb [t0, (.int .i64 16)] (zf prog .eql 3 (.tmp 8) (.const (.int .i64 16)) t0 (.int .i64 16))) fun t52 => CD t52 (JO t1 t2 h26 t6 R)
 (xi t0 t1 t2 h26 t6 R)
 (fun vs57 h58 => j27 [(nth vs57 0)] h58)
def JT (t1 t2 : Value) (h2 : za) (t6 : Value) (R : VK) (j18 : LK) : Prop :=
 opt (nb [t1, t2] (zf prog .mul 2 (.tmp 23) (.tmp 24) t1 t2)) fun t25 => zI prog (fn 32) [t25] h2 (fun t26 h21 => opt (nb [t26] (zj prog 84 t6 t26 h21)) fun h23 => opt (zd prog 84 t6 h23) fun r0 => rv [r0, (.bool true)] h23 R)
def yA (t0 : Value) (h2 : za) (t2 t1 t6 : Value) (R : VK) (j18 : LK) : Prop :=
 opt (nb [t0, (.int .i64 14)] (zf prog .eql 3 (.tmp 8) (.const (.int .i64 14)) t0 (.int .i64 14))) fun t28 => CD t28 (fun j24 => j24 [t28] h2)
 (fun j24 => opt (nb [t0, (.int .i64 15)] (zf prog .eql 3 (.tmp 8) (.const (.int .i64 15)) t0 (.int .i64 15))) fun t29 => j24 [t29] h2)
 (fun vs25 h26 => CD (nth vs25 0) (vF t2 t1 h26 t6 R t0)
 (y5 t0 t1 t2 h26 t6 R)
 (fun vs28 h29 => j18 [(nth vs28 0)] h29))
def zaA (t1 t2 : Value) (h2 : za) (t6 : Value) (R : VK) (j12 : LK) : Prop :=
 opt (nb [t1, t2] (zf prog .sub 2 (.tmp 17) (.tmp 18) t1 t2)) fun t19 => zI prog (fn 32) [t19] h2 (fun t20 h15 => opt (nb [t20] (zj prog 84 t6 t20 h15)) fun h17 => opt (zd prog 84 t6 h17) fun r0 => rv [r0, (.bool true)] h17 R)
def yu (t0 t1 t2 : Value) (h2 : za) (t6 : Value) (R : VK) (j12 : LK) : Prop :=
 opt (nb [t0, (.int .i64 13)] (zf prog .eql 3 (.tmp 8) (.const (.int .i64 13)) t0 (.int .i64 13))) fun t22 => CD t22 (JT t1 t2 h2 t6 R)
 (yA t0 h2 t2 t1 t6 R)
 (fun vs19 h20 => j12 [(nth vs19 0)] h20)
def JN (t1 t2 : Value) (h2 : za) (t6 : Value) (R : VK) (j6 : LK) : Prop :=
 opt (nb [t1, t2] (zf prog .add 2 (.tmp 11) (.tmp 12) t1 t2)) fun t13 => zI prog (fn 32) [t13] h2 (fun t14 h9 => opt (nb [t14] (zj prog 84 t6 t14 h9)) fun h11 => opt (zd prog 84 t6 h11) fun r0 => rv [r0, (.bool true)] h11 R)
def yo (t0 t1 t2 : Value) (h2 : za) (t6 : Value) (R : VK) (j6 : LK) : Prop :=
 opt (nb [t0, (.int .i64 12)] (zf prog .eql 3 (.tmp 8) (.const (.int .i64 12)) t0 (.int .i64 12))) fun t16 => CD t16 (zaA t1 t2 h2 t6 R)
 (yu t0 t1 t2 h2 t6 R)
 (fun vs13 h14 => j6 [(nth vs13 0)] h14)
def yk (t0 t1 t2 : Value) (h2 : za) (t6 : Value) (R : VK) (j3 : LK) : Prop :=
 opt (nb [t0, (.int .i64 11)] (zf prog .eql 3 (.tmp 8) (.const (.int .i64 11)) t0 (.int .i64 11))) fun t10 => CD t10 (JN t1 t2 h2 t6 R)
 (yo t0 t1 t2 h2 t6 R)
 (fun vs7 h8 => j3 [(nth vs7 0)] h8)
def yC (t6 : Value) (R : VK) (vs4 : List Value) (h5 : za) : Prop :=
 opt (nb [] (yj prog 84 [])) fun t125 => opt (nb [t125] (zj prog 84 t6 t125 h5)) fun h135 => opt (zd prog 84 t6 h135) fun r0 => rv [r0, (.bool false)] h135 R
def zjs (h : za) (t0 t1 t2 : Value) (R : VK) : Prop :=
 opt (xo prog 84) fun z1 => nw h (Value.cells z1).toList 84 fun t6 h2 => BK (yk t0 t1 t2 h2 t6 R)
 (yC t6 R)
theorem zhg (hw : zjs h t0 t1 t2 R) : DC prog 73 [t0, t1, t2] h R := zE mixed (q := qs) (n := 200) (Eq.mpr (by kernel_rfl) hw)
def Vh (t22 t5 : Value) (h26 : za) (j27 : LK) (t23 : Value) : Prop :=
 opt (nb [t22, t23] (zf prog .eql 84 (.tmp 22) (.tmp 23) t22 t23)) fun t24 => GD t24 true (fun k31 => opt (zd prog 84 t5 h26) fun t26 => k31 t26 h26) (fun t26 h32 => GD t24 true (fun k33 => Yz prog 74 [t26] h32 (fun t27 h35 => k33 t27 h35)) (fun t27 h34 => opt (pk t24 t27 (.bool false)) fun t28 => j27 [t28] h34) h32) h26
def Y6 (t16 t4 t5 : Value) (j16 : LK) (t20 : Value) (h26 : za) : Prop :=
 opt (pk t16 t20 (.bool false)) fun t21 => CD t21 (fun j27 => j27 [t21] h26)
 (fun j27 => opt (zd prog 84 t4 h26) fun t22 => qy prog 32 [(.int .i64 0)] h26 (Vh t22 t5 h26 j27))
 (fun vs28 h29 => j16 [(nth vs28 0)] h29)
def Vv (t16 t4 t5 : Value) (j16 : LK) (t18 : Value) (h21 : za) : Prop :=
 GD t16 true (fun k22 => qy prog 32 [(.int .i64 0)] h21 (fun t19 => k22 t19 h21)) (fun t19 h23 => GD t16 true (fun k25 => opt (nb [t18, t19] (zf prog .eql 84 (.tmp 18) (.tmp 19) t18 t19)) fun t20 => k25 t20 h23) (Y6 t16 t4 t5 j16) h23) h21
def W0 (t4 : Value) (h14 : za) (t5 : Value) (j16 : LK) : Prop :=
 opt (zd prog 84 t4 h14) fun t15 => Yz prog 74 [t15] h14 (fun t16 h19 => GD t16 true (fun k20 => opt (zd prog 84 t5 h19) fun t18 => k20 t18 h19) (Vv t16 t4 t5 j16) h19)
def VG (t4 : Value) (h18 : za) (t5 t0 t6 : Value) (R : VK) (j36 : LK) : Prop :=
 opt (zd prog 84 t4 h18) fun t29 => opt (zd prog 84 t5 h18) fun t30 => opt (nb [t29, t30] (zf prog .eql 84 (.tmp 29) (.tmp 30) t29 t30)) fun t31 => opt (nb [t0, (.int .i64 21)] (zf prog .eql 3 (.tmp 32) (.const (.int .i64 21)) t0 (.int .i64 21))) fun t33 => opt (nb [t31, t33] (zf prog .eql 4 (.tmp 31) (.tmp 33) t31 t33)) fun t34 => zI prog (fn 87) [t34] h18 (fun t35 h39 => opt (nb [t35] (zj prog 84 t6 t35 h39)) fun h41 => opt (zd prog 84 t6 h41) fun r0 => rv [r0, (.bool true)] h41 R)
def Y4 (t10 t4 t5 t0 t6 : Value) (R : VK) (j7 : LK) (t13 : Value) (h14 : za) : Prop :=
 opt (pk t10 t13 (.bool false)) fun t14 => CD t14 (fun j16 => j16 [t14] h14)
 (W0 t4 h14 t5)
 (fun vs17 h18 => CD (nth vs17 0) (VG t4 h18 t5 t0 t6 R)
 (fun j36 => j36 [(.bool false)] h18)
 (fun vs37 h38 => j7 [(nth vs37 0)] h38))
def UA (t5 t4 t0 t6 : Value) (R : VK) (j7 : LK) (t10 : Value) (h10 : za) : Prop :=
 GD t10 true (fun k11 => opt (zd prog 84 t5 h10) fun t12 => k11 t12 h10) (fun t12 h12 => GD t10 true (fun k13 => zI prog (fn 74) [t12] h12 (fun t13 h15 => k13 t13 h15)) (Y4 t10 t4 t5 t0 t6 R j7) h12) h10
def Uk (t6 : Value) (R : VK) (vs8 : List Value) (h9 : za) : Prop :=
 opt (nb [] (yj prog 84 [])) fun t36 => opt (nb [t36] (zj prog 84 t6 t36 h9)) fun h43 => opt (zd prog 84 t6 h43) fun r0 => rv [r0, (.bool false)] h43 R
def zfm (h : za) (t0 t1 t2 : Value) (R : VK) : Prop :=
 opt (nb [t1] (some (Value.cells t1).toList)) fun c1 => nw h c1 84 fun t4 h2 => opt (nb [t2] (some (Value.cells t2).toList)) fun c3 => nw h2 c3 84 fun t5 h4 => opt (xo prog 84) fun z5 => nw h4 (Value.cells z5).toList 84 fun t6 h6 => BK (fun j7 => opt (zd prog 84 t4 h6) fun t9 => zI prog (fn 74) [t9] h6 (UA t5 t4 t0 t6 R j7))
 (Uk t6 R)
theorem zea (hw : zfm h t0 t1 t2 R) : DC prog 75 [t0, t1, t2] h R := zE mixed (q := qs) (n := 200) (Eq.mpr (by kernel_rfl) hw)
def JM (h2 : za) (t2 : Value) (R : VK) (j3 : LK) : Prop :=
 zI prog (fn 32) [(.int .i64 1)] h2 (fun t4 h6 => opt (nb [t4] (zj prog 84 t2 t4 h6)) fun h8 => opt (zd prog 84 t2 h8) fun r0 => rv [r0] h8 R)
def za1 (t2 : Value) (R : VK) (vs4 : List Value) (h5 : za) : Prop :=
 zI prog (fn 32) [(.int .i64 0)] h5 (fun t5 h9 => opt (nb [t5] (zj prog 84 t2 t5 h9)) fun h11 => opt (zd prog 84 t2 h11) fun r0 => rv [r0] h11 R)
def zf0 (h : za) (t0 : Value) (R : VK) : Prop :=
 opt (xo prog 84) fun z1 => nw h (Value.cells z1).toList 84 fun t2 h2 => CD t0 (JM h2 t2 R)
 (fun j3 => j3 [] h2)
 (za1 t2 R)
theorem zeN (hw : zf0 h t0 R) : DC prog 87 [t0] h R := zE mixed (q := qs) (n := 200) (Eq.mpr (by kernel_rfl) hw)
def zjZ (h : za) (t0 : Value) (R : VK) : Prop :=
 zI prog (fn 43) [t0] h (fun t4 h1 => opt (nb [t4] (yj prog 100 [(0, t4)])) fun t5 => opt (nb [t5] (some (Value.cells t5).toList)) fun c2 => nw h1 c2 100 fun t6 h3 => rv [t6] h3 R)
theorem zgh (hw : zjZ h t0 R) : DC prog 29 [t0] h R := zE mixed (q := qs) (n := 200) (Eq.mpr (by kernel_rfl) hw)
def Ja (h : za) (t0 : Value) (R : VK) : Prop :=
 opt (nb [t0, (.slice none 0 0)] (zf prog .eql 26 (.tmp 3) (.const (.slice none 0 0)) t0 (.slice none 0 0))) fun t4 => CD t4 (fun j1 => rv [(.slice none 0 0)] h R)
 (fun j1 => j1 [(.slice none 0 0)] h)
 (fun vs2 h3 => xg (nb [] (yd prog 26 0 [] h3)) fun t5 h4 => xg (nb [t5, t0] (zg prog .append [26, 26] 26 [t5, t0] h4)) fun t7 h5 => rv [t7] h5 R)
theorem zaP (hw : Ja h t0 R) : DC prog 43 [t0] h R := zE mixed (q := qs) (n := 200) (Eq.mpr (by kernel_rfl) hw)
end Go.Rm
namespace Go.Rm
open Go.Ai Go.Proofs
set_option linter.unusedVariables false
noncomputable def KS : Array Field := match Program.underlying Tryd.prog 84 with | some (.struct f) => f | _ => #[]
theorem zkg (b off : Nat) (h : za) : zd Tryd.prog 110 (.pointer (some ⟨b, off, none⟩)) h = ld1 h b off := zN (by kernel_rfl) b off h
theorem zcA (b off : Nat) (h : za) : zd Tryd.prog 111 (.pointer (some ⟨b, off, none⟩)) h = ld1 h b off := zN (by kernel_rfl) b off h
theorem vK (b off : Nat) (h : za) : zd Tryd.prog 2 (.pointer (some ⟨b, off, none⟩)) h = ld1 h b off := zN (by kernel_rfl) b off h
theorem qa (b off : Nat) (h : za) : zd Tryd.prog 22 (.pointer (some ⟨b, off, none⟩)) h = ld1 h b off := zN (by kernel_rfl) b off h
theorem qN (b off : Nat) (h : za) : zd Tryd.prog 23 (.pointer (some ⟨b, off, none⟩)) h = ld1 h b off := zN (by kernel_rfl) b off h
theorem Vi (b off : Nat) (h : za) : zd Tryd.prog 25 (.pointer (some ⟨b, off, none⟩)) h = ldn h b off 3 := wx (by kernel_rfl) (by kernel_rfl) b off h
theorem zmC (b off : Nat) (h : za) : zd Tryd.prog 26 (.pointer (some ⟨b, off, none⟩)) h = ld1 h b off := zN (by kernel_rfl) b off h
theorem zib (b off : Nat) (h : za) : zd Tryd.prog 29 (.pointer (some ⟨b, off, none⟩)) h = ld1 h b off := zN (by kernel_rfl) b off h
theorem yc (b off : Nat) (h : za) : zd Tryd.prog 3 (.pointer (some ⟨b, off, none⟩)) h = ld1 h b off := zN (by kernel_rfl) b off h
theorem za0 (b off : Nat) (h : za) : zd Tryd.prog 30 (.pointer (some ⟨b, off, none⟩)) h = ld1 h b off := zN (by kernel_rfl) b off h
theorem QU (b off : Nat) (h : za) : zd Tryd.prog 32 (.pointer (some ⟨b, off, none⟩)) h = ldn h b off 5 := wx (by kernel_rfl) (by kernel_rfl) b off h
theorem Xs (b off : Nat) (h : za) : zd Tryd.prog 46 (.pointer (some ⟨b, off, none⟩)) h = ldn h b off 9 := wx (by kernel_rfl) (by kernel_rfl) b off h
theorem YA (b off : Nat) (h : za) : zd Tryd.prog 49 (.pointer (some ⟨b, off, none⟩)) h = ld1 h b off := zN (by kernel_rfl) b off h
theorem zk7 (b off : Nat) (h : za) : zd Tryd.prog 55 (.pointer (some ⟨b, off, none⟩)) h = ld1 h b off := zN (by kernel_rfl) b off h
theorem zb1 (b off : Nat) (h : za) : zd Tryd.prog 73 (.pointer (some ⟨b, off, none⟩)) h = ld1 h b off := zN (by kernel_rfl) b off h
theorem znJ (b off : Nat) (h : za) : zd Tryd.prog 75 (.pointer (some ⟨b, off, none⟩)) h = ld1 h b off := zN (by kernel_rfl) b off h
theorem US (b off : Nat) (h : za) : zd Tryd.prog 77 (.pointer (some ⟨b, off, none⟩)) h = ld1 h b off := zN (by kernel_rfl) b off h
theorem zeL (b off : Nat) (h : za) : zd Tryd.prog 82 (.pointer (some ⟨b, off, none⟩)) h = ld1 h b off := zN (by kernel_rfl) b off h
theorem zo (b off : Nat) (h : za) : zd Tryd.prog 84 (.pointer (some ⟨b, off, none⟩)) h = ldn h b off 3 := wx (by kernel_rfl) (by kernel_rfl) b off h
theorem zod (r : TypeId) (v x : Value) (n : Nat) (new : List Value) (h : za) (h1 : ZP x = some n) (h2 : xh h n 1 x = some new) (h3 : new.all cellOk = true) (h4 : new.length = n * 1) : zg Tryd.prog .append [22, 22] r [v, x] h = KU h 3 1 8 n new v := uX (e := 3) (e2 := 3) (by kernel_rfl) (by kernel_rfl) (by kernel_rfl) (by kernel_rfl) (by decide) h1 h2 h3 h4
theorem zoo (r : TypeId) (v x : Value) (n : Nat) (new : List Value) (h : za) (h1 : ZP x = some n) (h2 : xh h n 1 x = some new) (h3 : new.all cellOk = true) (h4 : new.length = n * 1) : zg Tryd.prog .append [26, 26] r [v, x] h = KU h 2 1 8 n new v := uX (e := 2) (e2 := 2) (by kernel_rfl) (by kernel_rfl) (by kernel_rfl) (by kernel_rfl) (by decide) h1 h2 h3 h4
theorem zoa (r : TypeId) (v x : Value) (n : Nat) (new : List Value) (h : za) (h1 : ZP x = some n) (h2 : xh h n 2 x = some new) (h3 : new.all cellOk = true) (h4 : new.length = n * 2) : zg Tryd.prog .append [29, 29] r [v, x] h = KU h 54 2 16 n new v := uX (e := 54) (e2 := 54) (by kernel_rfl) (by kernel_rfl) (by kernel_rfl) (by kernel_rfl) (by decide) h1 h2 h3 h4
theorem zoq (r : TypeId) (v x : Value) (n : Nat) (new : List Value) (h : za) (h1 : ZP x = some n) (h2 : xh h n 3 x = some new) (h3 : new.all cellOk = true) (h4 : new.length = n * 3) : zg Tryd.prog .append [30, 30] r [v, x] h = KU h 39 3 24 n new v := uX (e := 39) (e2 := 39) (by kernel_rfl) (by kernel_rfl) (by kernel_rfl) (by kernel_rfl) (by decide) h1 h2 h3 h4
theorem znY (r : TypeId) (v x : Value) (n : Nat) (new : List Value) (h : za) (h1 : ZP x = some n) (h2 : xh h n 1 x = some new) (h3 : new.all cellOk = true) (h4 : new.length = n * 1) : zg Tryd.prog .append [77, 77] r [v, x] h = KU h 111 1 8 n new v := uX (e := 111) (e2 := 111) (by kernel_rfl) (by kernel_rfl) (by kernel_rfl) (by kernel_rfl) (by decide) h1 h2 h3 h4
theorem zkq (r : TypeId) (v x : Value) (n : Nat) (new : List Value) (h : za) (h1 : ZP x = some n) (h2 : xh h n 3 x = some new) (h3 : new.all cellOk = true) (h4 : new.length = n * 3) : zg Tryd.prog .append [82, 82] r [v, x] h = KU h 84 3 24 n new v := uX (e := 84) (e2 := 84) (by kernel_rfl) (by kernel_rfl) (by kernel_rfl) (by kernel_rfl) (by decide) h1 h2 h3 h4
theorem zoP (b off : Nat) (v : Int) (h : za) : zj Tryd.prog 2 (.pointer (some ⟨b, off, none⟩)) (.int .i64 v) h = sto h b off [(.int .i64 v)] := xn (by kernel_rfl) b off _ h rfl
theorem zom (b off : Nat) (v : Option Addr) (vl vc : Nat) (h : za) : zj Tryd.prog 22 (.pointer (some ⟨b, off, none⟩)) (.slice v vl vc) h = sto h b off [(.slice v vl vc)] := xn (by kernel_rfl) b off _ h rfl
theorem zon (b off : Nat) (v : Option Addr) (vl vc : Nat) (h : za) : zj Tryd.prog 29 (.pointer (some ⟨b, off, none⟩)) (.slice v vl vc) h = sto h b off [(.slice v vl vc)] := xn (by kernel_rfl) b off _ h rfl
theorem zeP (b off : Nat) (v : Int) (h : za) : zj Tryd.prog 3 (.pointer (some ⟨b, off, none⟩)) (.int .i64 v) h = sto h b off [(.int .i64 v)] := xn (by kernel_rfl) b off _ h rfl
theorem zof (b off : Nat) (v : Option Addr) (vl vc : Nat) (h : za) : zj Tryd.prog 30 (.pointer (some ⟨b, off, none⟩)) (.slice v vl vc) h = sto h b off [(.slice v vl vc)] := xn (by kernel_rfl) b off _ h rfl
theorem UN (b off : Nat) (l : List Value) (h : za) (hv : l.length = 5) : zj Tryd.prog 32 (.pointer (some ⟨b, off, none⟩)) (.agg l.toArray) h = sto h b off l := vy (by kernel_rfl) b off l h hv
theorem zi6 (b off : Nat) (l : List Value) (h : za) (hv : l.length = 9) : zj Tryd.prog 46 (.pointer (some ⟨b, off, none⟩)) (.agg l.toArray) h = sto h b off l := vy (by kernel_rfl) b off l h hv
theorem zkl (b off : Nat) (v : Option Addr) (vl vc : Nat) (h : za) : zj Tryd.prog 77 (.pointer (some ⟨b, off, none⟩)) (.slice v vl vc) h = sto h b off [(.slice v vl vc)] := xn (by kernel_rfl) b off _ h rfl
theorem znE (b off : Nat) (v : Option Addr) (vl vc : Nat) (h : za) : zj Tryd.prog 82 (.pointer (some ⟨b, off, none⟩)) (.slice v vl vc) h = sto h b off [(.slice v vl vc)] := xn (by kernel_rfl) b off _ h rfl
theorem zC (b off : Nat) (l : List Value) (h : za) (hv : l.length = 3) : zj Tryd.prog 84 (.pointer (some ⟨b, off, none⟩)) (.agg l.toArray) h = sto h b off l := vy (by kernel_rfl) b off l h hv
theorem zcb : xo Tryd.prog 32 = some (.agg #[(.int .i64 0), (.int .i64 0), (.slice none 0 0), (.slice none 0 0), (.int .i64 0)]) := zU (by kernel_rfl)
theorem zgA : xo Tryd.prog 46 = some (.agg #[(.int .i64 0), (.int .i64 0), (.int .i64 0), (.int .i64 0), (.int .i64 0), (.int .i64 0), (.slice none 0 0), (.int .i64 0), (.int .i64 0)]) := zU (by kernel_rfl)
theorem yZ : xo Tryd.prog 84 = some (.agg #[(.int .i64 0), (.int .i64 0), (.int .i64 0)]) := zU (by kernel_rfl)
theorem zic (v0 : Option Addr) (v0l v0c : Nat) : yj Tryd.prog 100 [(0, (.slice v0 v0l v0c))] = some (.agg #[(.slice v0 v0l v0c), (.int .i64 0)]) := zU (by kernel_rfl)
theorem zaQ (v0 : Option Addr) (v2 : Int) (v3 : Int) : yj Tryd.prog 113 [(0, (.pointer v0)), (2, (.int .i64 v2)), (3, (.int .i64 v3))] = some (.agg #[(.pointer v0), (.slice none 0 0), (.int .i64 v2), (.int .i64 v3)]) := zU (by kernel_rfl)
theorem zka : yj Tryd.prog 32 [] = some (.agg #[(.int .i64 0), (.int .i64 0), (.slice none 0 0), (.slice none 0 0), (.int .i64 0)]) := zU (by kernel_rfl)
theorem zbP (v0 : Int) (v1 : Int) (v2 : Int) : yj Tryd.prog 39 [(0, (.int .i64 v0)), (1, (.int .i64 v1)), (2, (.int .i64 v2))] = some (.agg #[(.int .i64 v0), (.int .i64 v1), (.int .i64 v2)]) := zU (by kernel_rfl)
theorem zfY (v0 : Int) (v1 : Int) : yj Tryd.prog 54 [(0, (.int .i64 v0)), (1, (.int .i64 v1))] = some (.agg #[(.int .i64 v0), (.int .i64 v1)]) := zU (by kernel_rfl)
theorem Q3 (v00 : Option Addr) (v00l v00c : Nat) (v01 : Option Addr) (v01l v01c : Nat) (v02 : Int) (v1 : Option Addr) (v2 : Option Addr) (v6 : Nat) (v6a v6b : Array Value) : yj Tryd.prog 79 [(0, (.agg #[(.slice v00 v00l v00c), (.slice v01 v01l v01c), (.int .i64 v02)])), (1, (.pointer v1)), (2, (.pointer v2)), (6, (.func (.func v6) v6a v6b))] = some (.agg #[(.slice v00 v00l v00c), (.slice v01 v01l v01c), (.int .i64 v02), (.pointer v1), (.pointer v2), (.int .i64 0), (.int .i64 0), (.slice none 0 0), (.slice none 0 0), (.int .i64 0), (.slice none 0 0), (.slice none 0 0), (.func (.func v6) v6a v6b)]) := zU (by kernel_rfl)
theorem yg : yj Tryd.prog 84 [] = some (.agg #[(.int .i64 0), (.int .i64 0), (.int .i64 0)]) := zU (by kernel_rfl)
theorem zb0 (v0 : Int) (v1 : Int) (v2 : Int) : yj Tryd.prog 84 [(0, (.int .i64 v0)), (1, (.int .i64 v1)), (2, (.int .i64 v2))] = some (.agg #[(.int .i64 v0), (.int .i64 v1), (.int .i64 v2)]) := zU (by kernel_rfl)
theorem zf9 (v0 : Int) (h : za) : yd Tryd.prog 22 1 [(0, (.int .i64 v0))] h = some (.slice (some ⟨h.next, 0, none⟩) 1 3, h.push (.cells [(.int .i64 v0)] 3)) := zU (by kernel_rfl)
theorem ziM (h : za) : yd Tryd.prog 26 0 [] h = some (.slice (some ⟨h.next, 0, none⟩) 0 2, h.push (.cells [] 2)) := zU (by kernel_rfl)
theorem zfe (v00 : Int) (v01 : Int) (h : za) : yd Tryd.prog 29 1 [(0, (.agg #[(.int .i64 v00), (.int .i64 v01)]))] h = some (.slice (some ⟨h.next, 0, none⟩) 1 3, h.push (.cells [(.int .i64 v00), (.int .i64 v01)] 54)) := zU (by kernel_rfl)
theorem zfk (v00 : Int) (v01 : Int) (v02 : Int) (h : za) : yd Tryd.prog 30 1 [(0, (.agg #[(.int .i64 v00), (.int .i64 v01), (.int .i64 v02)]))] h = some (.slice (some ⟨h.next, 0, none⟩) 1 3, h.push (.cells [(.int .i64 v00), (.int .i64 v01), (.int .i64 v02)] 39)) := zU (by kernel_rfl)
theorem zgO (v0 : Option Addr) (h : za) : yd Tryd.prog 77 1 [(0, (.pointer v0))] h = some (.slice (some ⟨h.next, 0, none⟩) 1 3, h.push (.cells [(.pointer v0)] 111)) := zU (by kernel_rfl)
theorem Up (v00 : Int) (v01 : Int) (v02 : Int) (h : za) : yd Tryd.prog 82 1 [(0, (.agg #[(.int .i64 v00), (.int .i64 v01), (.int .i64 v02)]))] h = some (.slice (some ⟨h.next, 0, none⟩) 1 3, h.push (.cells [(.int .i64 v00), (.int .i64 v01), (.int .i64 v02)] 84)) := zU (by kernel_rfl)
theorem uI (n : Int) (h : za) : vf Tryd.prog 144 2 (.int .i8 n) h = some (.int .i64 (IntKind.wrap .i64 n), h) := zU (by kernel_rfl)
theorem kF (n : Int) (h : za) : vf Tryd.prog 21 2 (.int .i32 n) h = some (.int .i64 (IntKind.wrap .i64 n), h) := zU (by kernel_rfl)
theorem zjj (n : Int) (h : za) : vf Tryd.prog 2 144 (.int .i64 n) h = some (.int .i8 (IntKind.wrap .i8 n), h) := zU (by kernel_rfl)
theorem zk8 (n : Int) (h : za) : vf Tryd.prog 2 21 (.int .i64 n) h = some (.int .i32 (IntKind.wrap .i32 n), h) := zU (by kernel_rfl)
theorem zkJ (x y : Operand) : zf Tryd.prog .eql 26 x y (.slice none 0 0) (.slice none 0 0) = some (.bool true) := zU (by kernel_rfl)
theorem znn (x y : Operand) (a : Addr) (n c : Nat) : zf Tryd.prog .eql 26 x y (.slice (some a) n c) (.slice none 0 0) = some (.bool false) := znX (e := 2) (by kernel_rfl) a n c
theorem zob (x y : Operand) (a b : Bool) : zf Tryd.prog .eql 4 x y (.bool a) (.bool b) = some (.bool (a == b)) := zU (by kernel_rfl)
theorem Z3 (x y : Operand) (a0 : Int) (a1 : Int) (a2 : Int) (b0 : Int) (b1 : Int) (b2 : Int) : zf Tryd.prog .eql 84 x y (.agg #[(.int .i64 a0), (.int .i64 a1), (.int .i64 a2)]) (.agg #[(.int .i64 b0), (.int .i64 b1), (.int .i64 b2)]) = some (.bool ((a0 == b0) && ((a1 == b1) && ((a2 == b2))))) := (qK (fs := KS) (r := (a0 == b0) && ((a1 == b1) && ((a2 == b2)))) (by kernel_rfl) (by kernel_rfl) (by kernel_rfl) rfl rfl (Eq.trans (b := (cond (a0 == b0) (cond (a1 == b1) (cond (a2 == b2) (some true) (some false)) (some false)) (some false))) (by kernel_rfl) (by cases (a0 == b0) <;> cases (a1 == b1) <;> cases (a2 == b2) <;> rfl))).1
theorem zcY (b off : Nat) : zb Tryd.prog 100 (.pointer (some ⟨b, off, none⟩)) 0 = some (.pointer (some ⟨b, off, none⟩)) := zU (by kernel_rfl)
theorem Ka (b off : Nat) : zb Tryd.prog 100 (.pointer (some ⟨b, off, none⟩)) 1 = some (.pointer (some ⟨b, off + 1, none⟩)) := zU (by kernel_rfl)
theorem zdg (b off : Nat) : zb Tryd.prog 113 (.pointer (some ⟨b, off, none⟩)) 0 = some (.pointer (some ⟨b, off, none⟩)) := zU (by kernel_rfl)
theorem Zs (b off : Nat) : zb Tryd.prog 113 (.pointer (some ⟨b, off, none⟩)) 1 = some (.pointer (some ⟨b, off + 1, none⟩)) := zU (by kernel_rfl)
theorem KR (b off : Nat) : zb Tryd.prog 113 (.pointer (some ⟨b, off, none⟩)) 2 = some (.pointer (some ⟨b, off + 2, none⟩)) := zU (by kernel_rfl)
theorem Zm (b off : Nat) : zb Tryd.prog 113 (.pointer (some ⟨b, off, none⟩)) 3 = some (.pointer (some ⟨b, off + 3, none⟩)) := zU (by kernel_rfl)
theorem vH (b off : Nat) : zb Tryd.prog 25 (.pointer (some ⟨b, off, none⟩)) 0 = some (.pointer (some ⟨b, off, none⟩)) := zU (by kernel_rfl)
theorem xV (b off : Nat) : zb Tryd.prog 25 (.pointer (some ⟨b, off, none⟩)) 1 = some (.pointer (some ⟨b, off + 1, none⟩)) := zU (by kernel_rfl)
theorem V1 (b off : Nat) : zb Tryd.prog 25 (.pointer (some ⟨b, off, none⟩)) 2 = some (.pointer (some ⟨b, off + 2, none⟩)) := zU (by kernel_rfl)
theorem u2 (b off : Nat) : zb Tryd.prog 32 (.pointer (some ⟨b, off, none⟩)) 0 = some (.pointer (some ⟨b, off, none⟩)) := zU (by kernel_rfl)
theorem zce (b off : Nat) : zb Tryd.prog 32 (.pointer (some ⟨b, off, none⟩)) 1 = some (.pointer (some ⟨b, off + 1, none⟩)) := zU (by kernel_rfl)
theorem Kj (b off : Nat) : zb Tryd.prog 32 (.pointer (some ⟨b, off, none⟩)) 2 = some (.pointer (some ⟨b, off + 2, none⟩)) := zU (by kernel_rfl)
theorem Zc (b off : Nat) : zb Tryd.prog 32 (.pointer (some ⟨b, off, none⟩)) 3 = some (.pointer (some ⟨b, off + 3, none⟩)) := zU (by kernel_rfl)
theorem XB (b off : Nat) : zb Tryd.prog 32 (.pointer (some ⟨b, off, none⟩)) 4 = some (.pointer (some ⟨b, off + 4, none⟩)) := zU (by kernel_rfl)
theorem yi (b off : Nat) : zb Tryd.prog 46 (.pointer (some ⟨b, off, none⟩)) 0 = some (.pointer (some ⟨b, off, none⟩)) := zU (by kernel_rfl)
theorem yN (b off : Nat) : zb Tryd.prog 46 (.pointer (some ⟨b, off, none⟩)) 1 = some (.pointer (some ⟨b, off + 1, none⟩)) := zU (by kernel_rfl)
theorem vj (b off : Nat) : zb Tryd.prog 46 (.pointer (some ⟨b, off, none⟩)) 2 = some (.pointer (some ⟨b, off + 2, none⟩)) := zU (by kernel_rfl)
theorem jx (b off : Nat) : zb Tryd.prog 46 (.pointer (some ⟨b, off, none⟩)) 3 = some (.pointer (some ⟨b, off + 3, none⟩)) := zU (by kernel_rfl)
theorem vk (b off : Nat) : zb Tryd.prog 46 (.pointer (some ⟨b, off, none⟩)) 4 = some (.pointer (some ⟨b, off + 4, none⟩)) := zU (by kernel_rfl)
theorem uy (b off : Nat) : zb Tryd.prog 46 (.pointer (some ⟨b, off, none⟩)) 5 = some (.pointer (some ⟨b, off + 5, none⟩)) := zU (by kernel_rfl)
theorem Vu (b off : Nat) : zb Tryd.prog 46 (.pointer (some ⟨b, off, none⟩)) 6 = some (.pointer (some ⟨b, off + 6, none⟩)) := zU (by kernel_rfl)
theorem W1 (b off : Nat) : zb Tryd.prog 46 (.pointer (some ⟨b, off, none⟩)) 7 = some (.pointer (some ⟨b, off + 7, none⟩)) := zU (by kernel_rfl)
theorem zcf (b off : Nat) : zb Tryd.prog 46 (.pointer (some ⟨b, off, none⟩)) 8 = some (.pointer (some ⟨b, off + 8, none⟩)) := zU (by kernel_rfl)
theorem X1 (b off : Nat) : zb Tryd.prog 51 (.pointer (some ⟨b, off, none⟩)) 1 = some (.pointer (some ⟨b, off + 1, none⟩)) := zU (by kernel_rfl)
theorem qS (b off : Nat) : zb Tryd.prog 51 (.pointer (some ⟨b, off, none⟩)) 3 = some (.pointer (some ⟨b, off + 3, none⟩)) := zU (by kernel_rfl)
theorem zby (b off : Nat) : zb Tryd.prog 51 (.pointer (some ⟨b, off, none⟩)) 4 = some (.pointer (some ⟨b, off + 4, none⟩)) := zU (by kernel_rfl)
theorem vm (b off : Nat) : zb Tryd.prog 51 (.pointer (some ⟨b, off, none⟩)) 5 = some (.pointer (some ⟨b, off + 5, none⟩)) := zU (by kernel_rfl)
theorem zhe (b off : Nat) : zb Tryd.prog 79 (.pointer (some ⟨b, off, none⟩)) 0 = some (.pointer (some ⟨b, off, none⟩)) := zU (by kernel_rfl)
theorem Z9 (b off : Nat) : zb Tryd.prog 79 (.pointer (some ⟨b, off, none⟩)) 1 = some (.pointer (some ⟨b, off + 3, none⟩)) := zU (by kernel_rfl)
theorem zkV (b off : Nat) : zb Tryd.prog 79 (.pointer (some ⟨b, off, none⟩)) 2 = some (.pointer (some ⟨b, off + 4, none⟩)) := zU (by kernel_rfl)
theorem qu (b off : Nat) : zb Tryd.prog 79 (.pointer (some ⟨b, off, none⟩)) 3 = some (.pointer (some ⟨b, off + 5, none⟩)) := zU (by kernel_rfl)
theorem zgK (b off : Nat) : zb Tryd.prog 79 (.pointer (some ⟨b, off, none⟩)) 4 = some (.pointer (some ⟨b, off + 10, none⟩)) := zU (by kernel_rfl)
theorem qU (b off : Nat) : zb Tryd.prog 79 (.pointer (some ⟨b, off, none⟩)) 5 = some (.pointer (some ⟨b, off + 11, none⟩)) := zU (by kernel_rfl)
theorem zbH (b off : Nat) : zb Tryd.prog 79 (.pointer (some ⟨b, off, none⟩)) 6 = some (.pointer (some ⟨b, off + 12, none⟩)) := zU (by kernel_rfl)
theorem yJ (b off : Nat) : zb Tryd.prog 84 (.pointer (some ⟨b, off, none⟩)) 0 = some (.pointer (some ⟨b, off, none⟩)) := zU (by kernel_rfl)
theorem yI (b off : Nat) : zb Tryd.prog 84 (.pointer (some ⟨b, off, none⟩)) 1 = some (.pointer (some ⟨b, off + 1, none⟩)) := zU (by kernel_rfl)
theorem xC (b off : Nat) : zb Tryd.prog 84 (.pointer (some ⟨b, off, none⟩)) 2 = some (.pointer (some ⟨b, off + 2, none⟩)) := zU (by kernel_rfl)
theorem zkM (b off len c : Nat) (k : IntKind) (i : Int) : zG Tryd.prog 22 (.slice (some ⟨b, off, none⟩) len c) (.int k i) = if 0 <= i /\ i < len then some (.pointer (some ⟨b, off + i.toNat * 1, none⟩)) else none := yr (e := 3) (by kernel_rfl) (by kernel_rfl)
theorem zkh (b off len c : Nat) (k : IntKind) (i : Int) : zG Tryd.prog 23 (.slice (some ⟨b, off, none⟩) len c) (.int k i) = if 0 <= i /\ i < len then some (.pointer (some ⟨b, off + i.toNat * 6, none⟩)) else none := yr (e := 51) (by kernel_rfl) (by kernel_rfl)
theorem znp (b off len c : Nat) (k : IntKind) (i : Int) : zG Tryd.prog 26 (.slice (some ⟨b, off, none⟩) len c) (.int k i) = if 0 <= i /\ i < len then some (.pointer (some ⟨b, off + i.toNat * 1, none⟩)) else none := yr (e := 2) (by kernel_rfl) (by kernel_rfl)
theorem zmO (b off len c : Nat) (k : IntKind) (i : Int) : zG Tryd.prog 49 (.slice (some ⟨b, off, none⟩) len c) (.int k i) = if 0 <= i /\ i < len then some (.pointer (some ⟨b, off + i.toNat * 9, none⟩)) else none := yr (e := 46) (by kernel_rfl) (by kernel_rfl)
theorem ziv (b off len c : Nat) (k : IntKind) (i : Int) : zG Tryd.prog 77 (.slice (some ⟨b, off, none⟩) len c) (.int k i) = if 0 <= i /\ i < len then some (.pointer (some ⟨b, off + i.toNat * 1, none⟩)) else none := yr (e := 111) (by kernel_rfl) (by kernel_rfl)
theorem ziR (b off len c : Nat) (k : IntKind) (i : Int) : zG Tryd.prog 82 (.slice (some ⟨b, off, none⟩) len c) (.int k i) = if 0 <= i /\ i < len then some (.pointer (some ⟨b, off + i.toNat * 3, none⟩)) else none := yr (e := 84) (by kernel_rfl) (by kernel_rfl)
theorem Wu (r : TypeId) (a : Option Addr) (n c : Nat) (h : za) : zg Tryd.prog .len [22] r [.slice a n c] h = some (.int .i64 n, h) := zU (by kernel_rfl)
theorem zck (r : TypeId) (a : Option Addr) (n c : Nat) (h : za) : zg Tryd.prog .len [26] r [.slice a n c] h = some (.int .i64 n, h) := zU (by kernel_rfl)
theorem Xt (r : TypeId) (a : Option Addr) (n c : Nat) (h : za) : zg Tryd.prog .len [77] r [.slice a n c] h = some (.int .i64 n, h) := zU (by kernel_rfl)
theorem zgs (r : TypeId) (a : Option Addr) (n c : Nat) (h : za) : zg Tryd.prog .len [82] r [.slice a n c] h = some (.int .i64 n, h) := zU (by kernel_rfl)
theorem zl6 (b off len c : Nat) (lo hi : Option Value) (h : za) : asl Tryd.prog 77 (.slice (some ⟨b, off, none⟩) len c) lo hi h = (wG hi len len).bind fun hh => (wG lo 0 hh).bind fun l => some (.slice (some ⟨b, off + l * 1, none⟩) (hh - l) (cond (wide Tryd.prog h b 1) (Us c l) 0)) := zfX (e := 111) (by kernel_rfl) (by kernel_rfl)
end Go.Rm
