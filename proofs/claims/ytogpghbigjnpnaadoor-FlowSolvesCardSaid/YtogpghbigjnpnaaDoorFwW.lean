/- -/
import Derived.Test.YtogpghbigjnpnaaDoorChecked
import Derived.KernelRfl
import Derived.Test.YtogpghbigjnpnaaDoorAiHold
import Derived.Test.YtogpghbigjnpnaaDoorAiD
import Derived.Test.YtogpghbigjnpnaaDoorAiWpZ
namespace Go.Fw
open Go.Ai Go.Proofs
set_option linter.unusedVariables false
set_option maxRecDepth 100000
def qs : FuncId → Nat := fun g => [0].getD g 0
theorem mixed : Tryd.prog.follows .mixedOrders = true := Checked.mixed Tryd.checked
/-- plumbob/flow.Solve -/
def X_Solve_1 (t52 : Value) (R : Value → AHeap → Prop) (vs32 : List Value) (j37 : List Value → AHeap → Prop) (t56 : Value) (h45 : AHeap) : Prop :=
 opt (pk t52 (.bool true) t56) fun t57 => CD t57 (fun j46 => rv [(.slice none 0 0), (.int .i64 1)] h45 R)
 (fun j46 => j46 [(nth vs32 0), (nth vs32 1)] h45)
 (fun vs47 h48 => j37 [(nth vs47 0), (nth vs47 1)] h48)
def X_Solve_2 (t52 : Value) (t3 : Value) (R : Value → AHeap → Prop) (vs32 : List Value) (j37 : List Value → AHeap → Prop) (t54 : Value) (h41 : AHeap) : Prop :=
 GD t52 false (fun k42 => k42 t3 h41) (fun t55 h43 => GD t52 false (fun k44 => opt (nb [t54, t55] (abin2 Tryd.prog .gtr 3 (.tmp 54) (.tmp 55) t54 t55)) fun t56 => k44 t56 h43) (X_Solve_1 t52 R vs32 j37) h43) h41
def X_Solve_3 (t45 : Value) (vs32 : List Value) (h36 : AHeap) (t3 : Value) (R : Value → AHeap → Prop) (j37 : List Value → AHeap → Prop) : Prop :=
 opt (aindex Tryd.prog 23 t45 (nth vs32 2)) fun t49 => opt (aload Tryd.prog 3 t49 h36) fun t50 => opt (nb [t50, (.int .i64 0)] (abin2 Tryd.prog .lss 3 (.tmp 51) (.const (.int .i64 0)) t50 (.int .i64 0))) fun t52 => GD t52 false (fun k40 => k40 t50 h36) (X_Solve_2 t52 t3 R vs32 j37) h36
def X_Solve_4 (vs32 : List Value) (j31 : List Value → AHeap → Prop) (vs38 : List Value) (h39 : AHeap) : Prop :=
 opt (nb [(nth vs32 2), (.int .i64 1)] (abin2 Tryd.prog .add 3 (.tmp 47) (.const (.int .i64 1)) (nth vs32 2) (.int .i64 1))) fun t58 => j31 [(nth vs38 0), (nth vs38 1), t58] h39
def X_Solve_5 (t46 : Value) (j28 : List Value → AHeap → Prop) (t45 : Value) (t3 : Value) (R : Value → AHeap → Prop) (vs32 : List Value) (h33 : AHeap) (j31 : List Value → AHeap → Prop) : Prop :=
 opt (nb [(nth vs32 2), t46] (abin2 Tryd.prog .lss 3 (.tmp 47) (.tmp 46) (nth vs32 2) t46)) fun t48 => CD t48 (fun j34 => j34 [] h33)
 (fun j34 => j28 [(nth vs32 0), (nth vs32 1)] h33)
 (fun vs35 h36 => BK (X_Solve_3 t45 vs32 h36 t3 R)
 (X_Solve_4 vs32 j31))
def X_Solve_6 (t83 : Value) (t86 : Value) (t88 : Value) (t90 : Value) (t89 : Value) (t60 : Value) (t84 : Value) (j60 : List Value → AHeap → Prop) (vs84 : List Value) (t92 : Value) (h88 : AHeap) : Prop :=
 LH 2040 [(2, t83), (5, t86), (7, t88), (9, t90)] h88 (fun h90 k91 => optH (nb [t89, t92] (abuiltin Tryd.prog .append [23, 23] 23 [t89, t92] h90)) fun t93 h93 => k91 t93 h93) (fun t93 h92 => opt (aindex Tryd.prog 31 t60 t84) fun t94 => opt (nb [t93] (astore Tryd.prog 23 t94 t93 h92)) fun h95 => j60 [(nth vs84 0), (nth vs84 1)] h95)
def X_Solve_7 (t14 : Value) (t60 : Value) (j60 : List Value → AHeap → Prop) (vs84 : List Value) (h85 : AHeap) : Prop :=
 opt (aindex Tryd.prog 28 t14 (.int .i64 0)) fun t83 => opt (aload Tryd.prog 3 t83 h85) fun t84 => opt (aindex Tryd.prog 28 t14 (.int .i64 0)) fun t86 => opt (aload Tryd.prog 3 t86 h85) fun t87 => opt (aindex Tryd.prog 31 t60 t87) fun t88 => opt (aload Tryd.prog 23 t88 h85) fun t89 => opt (aindex Tryd.prog 28 t14 (.int .i64 1)) fun t90 => opt (aload Tryd.prog 3 t90 h85) fun t91 => LH 768 [(2, t83), (5, t86), (7, t88), (9, t90)] h85 (fun h86 k87 => optH (nb [t91] (abuildSlice Tryd.prog 23 1 [(0, t91)] h86)) fun t92 h89 => k87 t92 h89) (X_Solve_6 t83 t86 t88 t90 t89 t60 t84 j60 vs84)
def X_Solve_8 (t72 : Value) (R : Value → AHeap → Prop) (vs55 : List Value) (t14 : Value) (t60 : Value) (j60 : List Value → AHeap → Prop) (t80 : Value) (h82 : AHeap) : Prop :=
 opt (pk t72 (.bool true) t80) fun t81 => CD t81 (fun j83 => rv [(.slice none 0 0), (.int .i64 1)] h82 R)
 (fun j83 => j83 [(nth vs55 0), (nth vs55 1)] h82)
 (X_Solve_7 t14 t60 j60)
def X_Solve_9 (t72 : Value) (t0 : Value) (R : Value → AHeap → Prop) (vs55 : List Value) (t14 : Value) (t60 : Value) (j60 : List Value → AHeap → Prop) (t78 : Value) (h77 : AHeap) : Prop :=
 GD t72 false (fun k79 => k79 t0 h77) (fun t79 h80 => GD t72 false (fun k81 => opt (nb [t78, t79] (abin2 Tryd.prog .geq 3 (.tmp 78) (.tmp 79) t78 t79)) fun t80 => k81 t80 h80) (X_Solve_8 t72 R vs55 t14 t60 j60) h80) h77
def X_Solve_10 (t72 : Value) (t75 : Value) (t0 : Value) (R : Value → AHeap → Prop) (vs55 : List Value) (t14 : Value) (t60 : Value) (j60 : List Value → AHeap → Prop) (t77 : Value) (h75 : AHeap) : Prop :=
 GD t72 false (fun k76 => optH (nb [t75, t77] (abuiltin Tryd.prog .max [3, 3] 3 [t75, t77] h75)) fun t78 h78 => k76 t78 h78) (X_Solve_9 t72 t0 R vs55 t14 t60 j60) h75
def X_Solve_11 (t72 : Value) (t14 : Value) (t0 : Value) (R : Value → AHeap → Prop) (vs55 : List Value) (t60 : Value) (j60 : List Value → AHeap → Prop) (t75 : Value) (h71 : AHeap) : Prop :=
 GD t72 false (fun k72 => opt (aindex Tryd.prog 28 t14 (.int .i64 1)) fun t76 => k72 t76 h71) (fun t76 h73 => GD t72 false (fun k74 => opt (aload Tryd.prog 3 t76 h73) fun t77 => k74 t77 h73) (X_Solve_10 t72 t75 t0 R vs55 t14 t60 j60) h73) h71
def X_Solve_12 (t1 : Value) (vs55 : List Value) (h59 : AHeap) (t0 : Value) (R : Value → AHeap → Prop) (t60 : Value) (j60 : List Value → AHeap → Prop) : Prop :=
 opt (aindex Tryd.prog 22 t1 (nth vs55 2)) fun t65 => opt (aload Tryd.prog 28 t65 h59) fun t66 => opt (azero Tryd.prog 28) fun z63 => nw h59 (Value.cells z63).toList 28 fun t14 h64 => opt (nb [t66] (astore Tryd.prog 28 t14 t66 h64)) fun h66 => opt (aindex Tryd.prog 28 t14 (.int .i64 0)) fun t67 => opt (aload Tryd.prog 3 t67 h66) fun t68 => opt (aindex Tryd.prog 28 t14 (.int .i64 1)) fun t69 => opt (aload Tryd.prog 3 t69 h66) fun t70 => optH (nb [t68, t70] (abuiltin Tryd.prog .min [3, 3] 3 [t68, t70] h66)) fun t71 h67 => opt (nb [t71, (.int .i64 0)] (abin2 Tryd.prog .lss 3 (.tmp 71) (.const (.int .i64 0)) t71 (.int .i64 0))) fun t72 => GD t72 false (fun k68 => opt (aindex Tryd.prog 28 t14 (.int .i64 0)) fun t74 => k68 t74 h67) (fun t74 h69 => GD t72 false (fun k70 => opt (aload Tryd.prog 3 t74 h69) fun t75 => k70 t75 h69) (X_Solve_11 t72 t14 t0 R vs55 t60 j60) h69) h67
def X_Solve_13 (vs55 : List Value) (j54 : List Value → AHeap → Prop) (vs61 : List Value) (h62 : AHeap) : Prop :=
 opt (nb [(nth vs55 2), (.int .i64 1)] (abin2 Tryd.prog .add 3 (.tmp 63) (.const (.int .i64 1)) (nth vs55 2) (.int .i64 1))) fun t95 => j54 [(nth vs61 0), (nth vs61 1), t95] h62
def X_Solve_14 (t62 : Value) (j51 : List Value → AHeap → Prop) (t1 : Value) (t0 : Value) (R : Value → AHeap → Prop) (t60 : Value) (vs55 : List Value) (h56 : AHeap) (j54 : List Value → AHeap → Prop) : Prop :=
 opt (nb [(nth vs55 2), t62] (abin2 Tryd.prog .lss 3 (.tmp 63) (.tmp 62) (nth vs55 2) t62)) fun t64 => CD t64 (fun j57 => j57 [] h56)
 (fun j57 => j51 [(nth vs55 0), (nth vs55 1)] h56)
 (fun vs58 h59 => BK (X_Solve_12 t1 vs55 h59 t0 R t60)
 (X_Solve_13 vs55 j54))
def X_Solve_15 (t99 : Value) (vs103 : List Value) (j102 : List Value → AHeap → Prop) (vs106 : List Value) (h107 : AHeap) : Prop :=
 BK (fun j108 => opt (aindex Tryd.prog 23 t99 (nth vs103 0)) fun t108 => opt (nb [(nth vs103 0)] (astore Tryd.prog 3 t108 (nth vs103 0) h107)) fun h112 => j108 [] h112)
 (fun vs109 h110 => opt (nb [(nth vs103 0), (.int .i64 1)] (abin2 Tryd.prog .add 3 (.tmp 102) (.const (.int .i64 1)) (nth vs103 0) (.int .i64 1))) fun t109 => j102 [t109] h110)
def X_Solve_16 (t101 : Value) (j99 : List Value → AHeap → Prop) (t99 : Value) (vs103 : List Value) (h104 : AHeap) (j102 : List Value → AHeap → Prop) : Prop :=
 opt (nb [(nth vs103 0), t101] (abin2 Tryd.prog .lss 3 (.tmp 102) (.tmp 101) (nth vs103 0) t101)) fun t103 => CD t103 (fun j105 => j105 [] h104)
 (fun j105 => j99 [] h104)
 (X_Solve_15 t99 vs103 j102)
def X_Solve_17 (t6 : Value) (h158 : AHeap) (t120 : Value) (t114 : Value) (t152 : Value) (t97 : Value) (vs154 : List Value) (j162 : List Value → AHeap → Prop) : Prop :=
 opt (aload Tryd.prog 23 t6 h158) fun t162 => opt (aindex Tryd.prog 23 t162 t120) fun t164 => opt (aload Tryd.prog 3 t164 h158) fun t165 => opt (aindex Tryd.prog 39 t114 t152) fun t166 => opt (nb [(.bool true)] (astore Tryd.prog 4 t166 (.bool true) h158)) fun h166 => opt (aindex Tryd.prog 23 t97 t152) fun t167 => opt (nb [t165] (astore Tryd.prog 3 t167 t165 h166)) fun h168 => optH (nb [t152] (abuildSlice Tryd.prog 23 1 [(0, t152)] h168)) fun t170 h169 => optH (nb [(nth vs154 0), t170] (abuiltin Tryd.prog .append [23, 23] 23 [(nth vs154 0), t170] h169)) fun t171 h170 => j162 [t171] h170
def X_Solve_18 (t147 : Value) (vs154 : List Value) (h158 : AHeap) (t114 : Value) (t6 : Value) (t120 : Value) (t97 : Value) (j159 : List Value → AHeap → Prop) : Prop :=
 opt (aindex Tryd.prog 23 t147 (nth vs154 1)) fun t151 => opt (aload Tryd.prog 3 t151 h158) fun t152 => opt (aindex Tryd.prog 39 t114 t152) fun t155 => opt (aload Tryd.prog 4 t155 h158) fun t156 => opt (aun Tryd.prog .not t156) fun t157 => CD t157 (X_Solve_17 t6 h158 t120 t114 t152 t97 vs154)
 (fun j162 => j162 [(nth vs154 0)] h158)
 (fun vs163 h164 => j159 [(nth vs163 0)] h164)
def X_Solve_19 (vs154 : List Value) (j153 : List Value → AHeap → Prop) (vs160 : List Value) (h161 : AHeap) : Prop :=
 opt (nb [(nth vs154 1), (.int .i64 1)] (abin2 Tryd.prog .add 3 (.tmp 149) (.const (.int .i64 1)) (nth vs154 1) (.int .i64 1))) fun t172 => j153 [(nth vs160 0), t172] h161
def X_Solve_20 (t148 : Value) (j150 : List Value → AHeap → Prop) (t147 : Value) (t114 : Value) (t6 : Value) (t120 : Value) (t97 : Value) (vs154 : List Value) (h155 : AHeap) (j153 : List Value → AHeap → Prop) : Prop :=
 opt (nb [(nth vs154 1), t148] (abin2 Tryd.prog .lss 3 (.tmp 149) (.tmp 148) (nth vs154 1) t148)) fun t150 => CD t150 (fun j156 => j156 [] h155)
 (fun j156 => j150 [(nth vs154 0)] h155)
 (fun vs157 h158 => BK (X_Solve_18 t147 vs154 h158 t114 t6 t120 t97)
 (X_Solve_19 vs154 j153))
def X_Solve_21 (vs138 : List Value) (h143 : AHeap) (t60 : Value) (t114 : Value) (t6 : Value) (t120 : Value) (t97 : Value) (j144 : List Value → AHeap → Prop) : Prop :=
 optH (nb [(nth vs138 0)] (abuiltin Tryd.prog .len [23] 3 [(nth vs138 0)] h143)) fun t135 h147 => opt (nb [t135, (.int .i64 1)] (abin2 Tryd.prog .sub 3 (.tmp 135) (.const (.int .i64 1)) t135 (.int .i64 1))) fun t136 => opt (aindex Tryd.prog 23 (nth vs138 0) t136) fun t137 => opt (aload Tryd.prog 3 t137 h147) fun t138 => optH (nb [(nth vs138 0)] (abuiltin Tryd.prog .len [23] 3 [(nth vs138 0)] h147)) fun t141 h148 => opt (nb [t141, (.int .i64 1)] (abin2 Tryd.prog .sub 3 (.tmp 141) (.const (.int .i64 1)) t141 (.int .i64 1))) fun t142 => opt (nb [(nth vs138 0)] (cond (onb none && onb (some t142)) (asl Tryd.prog 23 (nth vs138 0) none (some t142) h148) none)) fun t143 => opt (aindex Tryd.prog 31 t60 t138) fun t146 => opt (aload Tryd.prog 23 t146 h148) fun t147 => optH (nb [t147] (abuiltin Tryd.prog .len [23] 3 [t147] h148)) fun t148 h149 => BK (fun j150 => LP (X_Solve_20 t148 j150 t147 t114 t6 t120 t97)
 [t143, (.int .i64 0)] h149)
 (fun vs151 h152 => j144 [(nth vs151 0)] h152)
def X_Solve_22 (j134 : List Value → AHeap → Prop) (t60 : Value) (t114 : Value) (t6 : Value) (t120 : Value) (t97 : Value) (vs138 : List Value) (h139 : AHeap) (j137 : List Value → AHeap → Prop) : Prop :=
 optH (nb [(nth vs138 0)] (abuiltin Tryd.prog .len [23] 3 [(nth vs138 0)] h139)) fun t131 h140 => opt (nb [t131, (.int .i64 0)] (abin2 Tryd.prog .gtr 3 (.tmp 131) (.const (.int .i64 0)) t131 (.int .i64 0))) fun t132 => CD t132 (fun j141 => j141 [] h140)
 (fun j141 => j134 [] h140)
 (fun vs142 h143 => BK (X_Solve_21 vs138 h143 t60 t114 t6 t120 t97)
 (fun vs145 h146 => j137 [(nth vs145 0)] h146))
def X_Solve_23 (t114 : Value) (t120 : Value) (t60 : Value) (t6 : Value) (t97 : Value) (j125 : List Value → AHeap → Prop) (vs129 : List Value) (h130 : AHeap) : Prop :=
 opt (aindex Tryd.prog 39 t114 t120) fun t127 => opt (nb [(.bool true)] (astore Tryd.prog 4 t127 (.bool true) h130)) fun h132 => optH (nb [t120] (abuildSlice Tryd.prog 23 1 [(0, t120)] h132)) fun t129 h133 => BK (fun j134 => LP (X_Solve_22 j134 t60 t114 t6 t120 t97)
 [t129] h133)
 (fun vs135 h136 => j125 [] h136)
def X_Solve_24 (t99 : Value) (vs120 : List Value) (h124 : AHeap) (t114 : Value) (t60 : Value) (t6 : Value) (t97 : Value) (j125 : List Value → AHeap → Prop) : Prop :=
 opt (aindex Tryd.prog 23 t99 (nth vs120 0)) fun t119 => opt (aload Tryd.prog 3 t119 h124) fun t120 => opt (aindex Tryd.prog 39 t114 t120) fun t123 => opt (aload Tryd.prog 4 t123 h124) fun t124 => CD t124 (fun j128 => j125 [] h124)
 (fun j128 => j128 [] h124)
 (X_Solve_23 t114 t120 t60 t6 t97 j125)
def X_Solve_25 (t99 : Value) (vs120 : List Value) (t114 : Value) (t60 : Value) (t6 : Value) (t97 : Value) (j119 : List Value → AHeap → Prop) (vs123 : List Value) (h124 : AHeap) : Prop :=
 BK (X_Solve_24 t99 vs120 h124 t114 t60 t6 t97)
 (fun vs126 h127 => opt (nb [(nth vs120 0), (.int .i64 1)] (abin2 Tryd.prog .add 3 (.tmp 117) (.const (.int .i64 1)) (nth vs120 0) (.int .i64 1))) fun t173 => j119 [t173] h127)
def X_Solve_26 (t116 : Value) (j116 : List Value → AHeap → Prop) (t99 : Value) (t114 : Value) (t60 : Value) (t6 : Value) (t97 : Value) (vs120 : List Value) (h121 : AHeap) (j119 : List Value → AHeap → Prop) : Prop :=
 opt (nb [(nth vs120 0), t116] (abin2 Tryd.prog .lss 3 (.tmp 117) (.tmp 116) (nth vs120 0) t116)) fun t118 => CD t118 (fun j122 => j122 [] h121)
 (fun j122 => j116 [] h121)
 (X_Solve_25 t99 vs120 t114 t60 t6 t97 j119)
def X_Solve_27 (t0 : Value) (t99 : Value) (t60 : Value) (t6 : Value) (t97 : Value) (R : Value → AHeap → Prop) (t112 : Value) (h113 : AHeap) : Prop :=
 optH (amake Tryd.prog 39 t0 t0 h113) fun t114 h114 => optH (nb [t99] (abuiltin Tryd.prog .len [23] 3 [t99] h114)) fun t116 h115 => BK (fun j116 => LP (X_Solve_26 t116 j116 t99 t114 t60 t6 t97)
 [(.int .i64 0)] h115)
 (fun vs117 h118 => rv [t97, (.int .i64 0)] h118 R)
def X_Solve_28 (t6 : Value) (t99 : Value) (t0 : Value) (t60 : Value) (t97 : Value) (R : Value → AHeap → Prop) (vs100 : List Value) (h101 : AHeap) : Prop :=
 opt (nb ([] ++ [t6]) (some (Value.func (.func 15) [].toArray [t6].toArray))) fun t111 => callV Tryd.prog (.func (.func 14) #[] #[]) [t99, t111] h101 (X_Solve_27 t0 t99 t60 t6 t97 R)
def X_Solve_29 (t0 : Value) (t6 : Value) (t60 : Value) (R : Value → AHeap → Prop) (t97 : Value) (h96 : AHeap) : Prop :=
 optH (amake Tryd.prog 23 t0 t0 h96) fun t99 h97 => optH (nb [t99] (abuiltin Tryd.prog .len [23] 3 [t99] h97)) fun t101 h98 => BK (fun j99 => LP (X_Solve_16 t101 j99 t99)
 [(.int .i64 0)] h98)
 (X_Solve_28 t6 t99 t0 t60 t97 R)
def X_Solve_30 (t0 : Value) (t1 : Value) (R : Value → AHeap → Prop) (t6 : Value) (vs29 : List Value) (h30 : AHeap) : Prop :=
 optH (amake Tryd.prog 31 t0 t0 h30) fun t60 h49 => optH (nb [t1] (abuiltin Tryd.prog .len [22] 3 [t1] h49)) fun t62 h50 => BK (fun j51 => LP (X_Solve_14 t62 j51 t1 t0 R t60)
 [(nth vs29 0), (nth vs29 1), (.int .i64 0)] h50)
 (fun vs52 h53 => opt (aload Tryd.prog 23 t6 h53) fun t96 => callV Tryd.prog (.func (.func 13) #[] #[]) [t96] h53 (X_Solve_29 t0 t6 t60 R))
def X_Solve_31 (t6 : Value) (t3 : Value) (R : Value → AHeap → Prop) (t0 : Value) (t1 : Value) (vs25 : List Value) (h26 : AHeap) : Prop :=
 opt (aload Tryd.prog 23 t6 h26) fun t45 => optH (nb [t45] (abuiltin Tryd.prog .len [23] 3 [t45] h26)) fun t46 h27 => BK (fun j28 => LP (X_Solve_5 t46 j28 t45 t3 R)
 [(nth vs25 0), (nth vs25 1), (.int .i64 0)] h27)
 (X_Solve_30 t0 t1 R t6)
def X_Solve_32 (t38 : Value) (R : Value → AHeap → Prop) (t6 : Value) (t3 : Value) (t0 : Value) (t1 : Value) (t43 : Value) (h23 : AHeap) : Prop :=
 opt (pk t38 (.bool true) t43) fun t44 => CD t44 (fun j24 => rv [(.slice none 0 0), (.int .i64 1)] h23 R)
 (fun j24 => j24 [(.slice none 0 0), (.int .i64 0)] h23)
 (X_Solve_31 t6 t3 R t0 t1)
def X_Solve_33 (t38 : Value) (t0 : Value) (R : Value → AHeap → Prop) (t6 : Value) (t3 : Value) (t1 : Value) (t41 : Value) (h18 : AHeap) : Prop :=
 GD t38 false (fun k20 => k20 t0 h18) (fun t42 h21 => GD t38 false (fun k22 => opt (nb [t41, t42] (abin2 Tryd.prog .neq 3 (.tmp 41) (.tmp 42) t41 t42)) fun t43 => k22 t43 h21) (X_Solve_32 t38 R t6 t3 t0 t1) h21) h18
def X_Solve_34 (t34 : Value) (t6 : Value) (t0 : Value) (R : Value → AHeap → Prop) (t3 : Value) (t1 : Value) (t37 : Value) (h14 : AHeap) : Prop :=
 opt (pk t34 (.bool true) t37) fun t38 => GD t38 false (fun k15 => opt (aload Tryd.prog 23 t6 h14) fun t40 => k15 t40 h14) (fun t40 h16 => GD t38 false (fun k17 => optH (nb [t40] (abuiltin Tryd.prog .len [23] 3 [t40] h16)) fun t41 h19 => k17 t41 h19) (X_Solve_33 t38 t0 R t6 t3 t1) h16) h14
def X_Solve_35 (t34 : Value) (t6 : Value) (t0 : Value) (R : Value → AHeap → Prop) (t3 : Value) (t1 : Value) (t36 : Value) (h12 : AHeap) : Prop :=
 GD t34 false (fun k13 => opt (nb [t36, (.int .i64 1000000)] (abin2 Tryd.prog .gtr 3 (.tmp 36) (.const (.int .i64 1000000)) t36 (.int .i64 1000000))) fun t37 => k13 t37 h12) (X_Solve_34 t34 t6 t0 R t3 t1) h12
def X_Solve_36 (t30 : Value) (t3 : Value) (t6 : Value) (t0 : Value) (R : Value → AHeap → Prop) (t1 : Value) (t32 : Value) (h8 : AHeap) : Prop :=
 GD t30 false (fun k9 => opt (nb [t32, (.int .i64 0)] (abin2 Tryd.prog .lss 3 (.tmp 32) (.const (.int .i64 0)) t32 (.int .i64 0))) fun t33 => k9 t33 h8) (fun t33 h10 => opt (pk t30 (.bool true) t33) fun t34 => GD t34 false (fun k11 => k11 t3 h10) (X_Solve_35 t34 t6 t0 R t3 t1) h10) h8
def X_Solve_37 (t26 : Value) (t3 : Value) (t6 : Value) (t0 : Value) (R : Value → AHeap → Prop) (t1 : Value) (t28 : Value) (h4 : AHeap) : Prop :=
 GD t26 false (fun k5 => opt (nb [t28, (.int .i64 2000)] (abin2 Tryd.prog .gtr 3 (.tmp 28) (.const (.int .i64 2000)) t28 (.int .i64 2000))) fun t29 => k5 t29 h4) (fun t29 h6 => opt (pk t26 (.bool true) t29) fun t30 => GD t30 false (fun k7 => k7 t3 h6) (X_Solve_36 t30 t3 t6 t0 R t1) h6) h4
def X_Solve (h : AHeap) (t0 t1 t2 t3 : Value) (R : Value → AHeap → Prop) : Prop :=
 opt (nb [t2] (some (Value.cells t2).toList)) fun c1 => nw h c1 23 fun t6 h2 => opt (nb [t0, (.int .i64 0)] (abin2 Tryd.prog .lss 3 (.tmp 25) (.const (.int .i64 0)) t0 (.int .i64 0))) fun t26 => GD t26 false (fun k3 => k3 t0 h2) (X_Solve_37 t26 t3 t6 t0 R t1) h2
theorem X_Solve_eq (h : AHeap) (t0 t1 t2 t3 : Value) (R : Value → AHeap → Prop) : wpF Tryd.prog (drawY Tryd.prog qs) 200 6 [t0, t1, t2, t3] h R = X_Solve h t0 t1 t2 t3 R := by kernel_rfl
theorem X_Solve_ok {h : AHeap} {t0 t1 t2 t3 : Value} {R : Value → AHeap → Prop} (hw : X_Solve h t0 t1 t2 t3 R) : DC Tryd.prog 6 [t0, t1, t2, t3] h R := DC_of_wpY mixed (n := 200) (by rw [X_Solve_eq]; exact hw)

/-- slices.Clone[[]int,int] -/
def X_Clone (h : AHeap) (t0 : Value) (R : Value → AHeap → Prop) : Prop :=
 opt (nb [t0, (.slice none 0 0)] (abin2 Tryd.prog .eql 23 (.tmp 3) (.const (.slice none 0 0)) t0 (.slice none 0 0))) fun t4 => CD t4 (fun j1 => rv [(.slice none 0 0)] h R)
 (fun j1 => j1 [(.slice none 0 0)] h)
 (fun vs2 h3 => optH (nb [] (abuildSlice Tryd.prog 23 0 [] h3)) fun t5 h4 => optH (nb [t5, t0] (abuiltin Tryd.prog .append [23, 23] 23 [t5, t0] h4)) fun t7 h5 => rv [t7] h5 R)
theorem X_Clone_eq (h : AHeap) (t0 : Value) (R : Value → AHeap → Prop) : wpF Tryd.prog (drawW Tryd.prog qs) 200 13 [t0] h R = X_Clone h t0 R := by kernel_rfl
theorem X_Clone_ok {h : AHeap} {t0 : Value} {R : Value → AHeap → Prop} (hw : X_Clone h t0 R) : DC Tryd.prog 13 [t0] h R := DC_of_wp mixed (n := 200) (by rw [X_Clone_eq]; exact hw)

/-- slices.SortFunc[[]int,int] -/
def X_SortF (h : AHeap) (t0 t1 : Value) (R : Value → AHeap → Prop) : Prop :=
 optH (nb [t0] (abuiltin Tryd.prog .len [23] 3 [t0] h)) fun t6 h1 => optH (nb [t6] (aconv Tryd.prog 3 75 t6 h1)) fun t10 h2 => callV Tryd.prog (.func (.func 31) #[] #[]) [t10] h2 (fun t11 h3 => callV Tryd.prog (.func (.func 30) #[] #[]) [t0, (.int .i64 0), t6, t11, t1] h3 (fun t13 h4 => rv [] h4 R))
theorem X_SortF_eq (h : AHeap) (t0 t1 : Value) (R : Value → AHeap → Prop) : wpF Tryd.prog (drawW Tryd.prog qs) 200 14 [t0, t1] h R = X_SortF h t0 t1 R := by kernel_rfl
theorem X_SortF_ok {h : AHeap} {t0 t1 : Value} {R : Value → AHeap → Prop} (hw : X_SortF h t0 t1 R) : DC Tryd.prog 14 [t0, t1] h R := DC_of_wp mixed (n := 200) (by rw [X_SortF_eq]; exact hw)

/-- slices.pdqsortCmpFunc[int] -/
def X_Pdq_1 (t0 : Value) (vs5 : List Value) (t4 : Value) (h16 : AHeap) (j18 : List Value → AHeap → Prop) : Prop :=
 callV Tryd.prog (.func (.func 50) #[] #[]) [t0, (nth vs5 0), (nth vs5 1), t4] h16 (fun t44 h21 => opt (nb [(nth vs5 2), (.int .i64 1)] (abin2 Tryd.prog .sub 3 (.tmp 45) (.const (.int .i64 1)) (nth vs5 2) (.int .i64 1))) fun t46 => j18 [t46] h21)
def X_Pdq_2 (vs5 : List Value) (t53 : Value) (j23 : List Value → AHeap → Prop) (t61 : Value) (h26 : AHeap) : Prop :=
 opt (nb [(nth vs5 1), (.int .i64 1)] (abin2 Tryd.prog .sub 3 (.tmp 62) (.const (.int .i64 1)) (nth vs5 1) (.int .i64 1))) fun t63 => opt (nb [t53, (nth vs5 0)] (abin2 Tryd.prog .sub 3 (.tmp 64) (.tmp 65) t53 (nth vs5 0))) fun t66 => opt (nb [t63, t66] (abin2 Tryd.prog .sub 3 (.tmp 63) (.tmp 66) t63 t66)) fun t67 => j23 [t67, (.int .i64 1)] h26
def X_Pdq_3 (t0 : Value) (vs5 : List Value) (t4 : Value) (h32 : AHeap) (R : Value → AHeap → Prop) (j33 : List Value → AHeap → Prop) : Prop :=
 callV Tryd.prog (.func (.func 53) #[] #[]) [t0, (nth vs5 0), (nth vs5 1), t4] h32 (fun t80 h36 => CD t80 (fun j37 => rv [] h36 R)
 (fun j37 => j37 [] h36)
 (fun vs38 h39 => j33 [] h39))
def X_Pdq_4 (t0 : Value) (vs5 : List Value) (vs24 : List Value) (t4 : Value) (h66 : AHeap) (j7 : List Value → AHeap → Prop) (vs19 : List Value) (j67 : List Value → AHeap → Prop) : Prop :=
 callV Tryd.prog (.func (.func 54) #[] #[]) [t0, (nth vs5 0), (nth vs5 1), (nth vs24 0), t4] h66 (fun t103 h70 => j7 [t103, (nth vs5 1), (nth vs19 0), (nth vs5 3), (nth vs5 4)] h70)
def X_Pdq_5 (t117 : Value) (t122 : Value) (t0 : Value) (vs68 : List Value) (t112 : Value) (vs19 : List Value) (t4 : Value) (h71 : AHeap) (vs5 : List Value) (j72 : List Value → AHeap → Prop) : Prop :=
 opt (nb [t117, t122] (abin2 Tryd.prog .geq 3 (.tmp 126) (.tmp 127) t117 t122)) fun t128 => callV Tryd.prog (.func (.func 30) #[] #[]) [t0, (nth vs68 0), t112, (nth vs19 0), t4] h71 (fun t134 h75 => opt (nb [t112, (.int .i64 1)] (abin2 Tryd.prog .add 3 (.tmp 135) (.const (.int .i64 1)) t112 (.int .i64 1))) fun t136 => j72 [t136, (nth vs5 1), t128] h75)
def X_Pdq_6 (t120 : Value) (t122 : Value) (t112 : Value) (t0 : Value) (vs5 : List Value) (vs19 : List Value) (t4 : Value) (h71 : AHeap) (vs68 : List Value) (j72 : List Value → AHeap → Prop) : Prop :=
 opt (nb [t120, t122] (abin2 Tryd.prog .geq 3 (.tmp 137) (.tmp 138) t120 t122)) fun t139 => opt (nb [t112, (.int .i64 1)] (abin2 Tryd.prog .add 3 (.tmp 141) (.const (.int .i64 1)) t112 (.int .i64 1))) fun t142 => callV Tryd.prog (.func (.func 30) #[] #[]) [t0, t142, (nth vs5 1), (nth vs19 0), t4] h71 (fun t146 h76 => j72 [(nth vs68 0), t112, t139] h76)
def X_Pdq_7 (vs68 : List Value) (vs5 : List Value) (t23 : Value) (t0 : Value) (vs19 : List Value) (t4 : Value) (j7 : List Value → AHeap → Prop) (t111 : Value) (h71 : AHeap) : Prop :=
 opt (axt t111 0) fun t112 => opt (axt t111 1) fun t113 => opt (nb [t112, (nth vs68 0)] (abin2 Tryd.prog .sub 3 (.tmp 115) (.tmp 116) t112 (nth vs68 0))) fun t117 => opt (nb [(nth vs5 1), t112] (abin2 Tryd.prog .sub 3 (.tmp 118) (.tmp 119) (nth vs5 1) t112)) fun t120 => opt (nb [t23, (.int .i64 8)] (abin2 Tryd.prog .quo 3 (.tmp 121) (.const (.int .i64 8)) t23 (.int .i64 8))) fun t122 => opt (nb [t117, t120] (abin2 Tryd.prog .lss 3 (.tmp 123) (.tmp 124) t117 t120)) fun t125 => CD t125 (X_Pdq_5 t117 t122 t0 vs68 t112 vs19 t4 h71 vs5)
 (X_Pdq_6 t120 t122 t112 t0 vs5 vs19 t4 h71 vs68)
 (fun vs73 h74 => j7 [(nth vs73 0), (nth vs73 1), (nth vs19 0), (nth vs73 2), t113] h74)
def X_Pdq_8 (t82 : Value) (t0 : Value) (vs5 : List Value) (vs24 : List Value) (t4 : Value) (j7 : List Value → AHeap → Prop) (vs19 : List Value) (t23 : Value) (t96 : Value) (h66 : AHeap) : Prop :=
 opt (pk t82 t96 (.bool false)) fun t97 => CD t97 (X_Pdq_4 t0 vs5 vs24 t4 h66 j7 vs19)
 (fun j67 => j67 [(nth vs5 0)] h66)
 (fun vs68 h69 => callV Tryd.prog (.func (.func 55) #[] #[]) [t0, (nth vs68 0), (nth vs5 1), (nth vs24 0), t4] h69 (X_Pdq_7 vs68 vs5 t23 t0 vs19 t4 j7))
def X_Pdq_9 (t82 : Value) (t0 : Value) (vs5 : List Value) (vs24 : List Value) (t4 : Value) (j7 : List Value → AHeap → Prop) (vs19 : List Value) (t23 : Value) (t94 : Value) (h61 : AHeap) : Prop :=
 GD t82 true (fun k63 => opt (nb [t94, (.int .i64 0)] (abin2 Tryd.prog .lss 3 (.tmp 94) (.const (.int .i64 0)) t94 (.int .i64 0))) fun t95 => k63 t95 h61) (fun t95 h64 => GD t82 true (fun k65 => opt (aun Tryd.prog .not t95) fun t96 => k65 t96 h64) (X_Pdq_8 t82 t0 vs5 vs24 t4 j7 vs19 t23) h64) h61
def X_Pdq_10 (t82 : Value) (t84 : Value) (t89 : Value) (t0 : Value) (vs5 : List Value) (vs24 : List Value) (t4 : Value) (j7 : List Value → AHeap → Prop) (vs19 : List Value) (t23 : Value) (t92 : Value) (h57 : AHeap) : Prop :=
 GD t82 true (fun k58 => opt (aload Tryd.prog 3 t92 h57) fun t93 => k58 t93 h57) (fun t93 h59 => GD t82 true (fun k60 => callVD Tryd.prog t84 [t89, t93] h59 (fun t94 h62 => k60 t94 h62)) (X_Pdq_9 t82 t0 vs5 vs24 t4 j7 vs19 t23) h59) h57
def X_Pdq_11 (t82 : Value) (vs24 : List Value) (t84 : Value) (t89 : Value) (t0 : Value) (vs5 : List Value) (t4 : Value) (j7 : List Value → AHeap → Prop) (vs19 : List Value) (t23 : Value) (t90 : Value) (h53 : AHeap) : Prop :=
 GD t82 true (fun k54 => k54 (nth vs24 0) h53) (fun t91 h55 => GD t82 true (fun k56 => opt (aindex Tryd.prog 23 t90 t91) fun t92 => k56 t92 h55) (X_Pdq_10 t82 t84 t89 t0 vs5 vs24 t4 j7 vs19 t23) h55) h53
def X_Pdq_12 (t82 : Value) (t0 : Value) (vs24 : List Value) (t84 : Value) (vs5 : List Value) (t4 : Value) (j7 : List Value → AHeap → Prop) (vs19 : List Value) (t23 : Value) (t88 : Value) (h49 : AHeap) : Prop :=
 GD t82 true (fun k50 => opt (aload Tryd.prog 3 t88 h49) fun t89 => k50 t89 h49) (fun t89 h51 => GD t82 true (fun k52 => k52 t0 h51) (X_Pdq_11 t82 vs24 t84 t89 t0 vs5 t4 j7 vs19 t23) h51) h49
def X_Pdq_13 (t82 : Value) (t85 : Value) (t0 : Value) (vs24 : List Value) (t84 : Value) (vs5 : List Value) (t4 : Value) (j7 : List Value → AHeap → Prop) (vs19 : List Value) (t23 : Value) (t86 : Value) (h45 : AHeap) : Prop :=
 GD t82 true (fun k46 => opt (nb [t86, (.int .i64 1)] (abin2 Tryd.prog .sub 3 (.tmp 86) (.const (.int .i64 1)) t86 (.int .i64 1))) fun t87 => k46 t87 h45) (fun t87 h47 => GD t82 true (fun k48 => opt (aindex Tryd.prog 23 t85 t87) fun t88 => k48 t88 h47) (X_Pdq_12 t82 t0 vs24 t84 vs5 t4 j7 vs19 t23) h47) h45
def X_Pdq_14 (vs5 : List Value) (t4 : Value) (t0 : Value) (vs24 : List Value) (j7 : List Value → AHeap → Prop) (vs19 : List Value) (t23 : Value) (vs34 : List Value) (h35 : AHeap) : Prop :=
 opt (nb [(nth vs5 0), (.int .i64 0)] (abin2 Tryd.prog .gtr 3 (.tmp 81) (.const (.int .i64 0)) (nth vs5 0) (.int .i64 0))) fun t82 => GD t82 true (fun k40 => k40 t4 h35) (fun t84 h41 => GD t82 true (fun k42 => k42 t0 h41) (fun t85 h43 => GD t82 true (fun k44 => k44 (nth vs5 0) h43) (X_Pdq_13 t82 t85 t0 vs24 t84 vs5 t4 j7 vs19 t23) h43) h41) h35
def X_Pdq_15 (t71 : Value) (t0 : Value) (vs5 : List Value) (t4 : Value) (R : Value → AHeap → Prop) (vs24 : List Value) (j7 : List Value → AHeap → Prop) (vs19 : List Value) (t23 : Value) (t73 : Value) (h30 : AHeap) : Prop :=
 GD t71 true (fun k31 => opt (nb [t73, (.int .i64 1)] (abin2 Tryd.prog .eql 99 (.tmp 73) (.const (.int .i64 1)) t73 (.int .i64 1))) fun t74 => k31 t74 h30) (fun t74 h32 => opt (pk t71 t74 (.bool false)) fun t75 => CD t75 (X_Pdq_3 t0 vs5 t4 h32 R)
 (fun j33 => j33 [] h32)
 (X_Pdq_14 vs5 t4 t0 vs24 j7 vs19 t23)) h30
def X_Pdq_16 (vs5 : List Value) (t0 : Value) (t4 : Value) (R : Value → AHeap → Prop) (j7 : List Value → AHeap → Prop) (vs19 : List Value) (t23 : Value) (vs24 : List Value) (h25 : AHeap) : Prop :=
 GD (nth vs5 3) true (fun k27 => k27 (nth vs5 4) h25) (fun t70 h28 => opt (pk (nth vs5 3) t70 (.bool false)) fun t71 => GD t71 true (fun k29 => k29 (nth vs24 1) h28) (X_Pdq_15 t71 t0 vs5 t4 R vs24 j7 vs19 t23) h28) h25
def X_Pdq_17 (t0 : Value) (vs5 : List Value) (t4 : Value) (R : Value → AHeap → Prop) (j7 : List Value → AHeap → Prop) (vs19 : List Value) (t23 : Value) (t52 : Value) (h22 : AHeap) : Prop :=
 opt (axt t52 0) fun t53 => opt (axt t52 1) fun t54 => opt (nb [t54, (.int .i64 2)] (abin2 Tryd.prog .eql 99 (.tmp 55) (.const (.int .i64 2)) t54 (.int .i64 2))) fun t56 => CD t56 (fun j23 => callV Tryd.prog (.func (.func 52) #[] #[]) [t0, (nth vs5 0), (nth vs5 1), t4] h22 (X_Pdq_2 vs5 t53 j23))
 (fun j23 => j23 [t53, t54] h22)
 (X_Pdq_16 vs5 t0 t4 R j7 vs19 t23)
def X_Pdq_18 (vs5 : List Value) (t0 : Value) (t4 : Value) (R : Value → AHeap → Prop) (j7 : List Value → AHeap → Prop) (t23 : Value) (vs15 : List Value) (h16 : AHeap) : Prop :=
 opt (aun Tryd.prog .not (nth vs5 3)) fun t39 => CD t39 (X_Pdq_1 t0 vs5 t4 h16)
 (fun j18 => j18 [(nth vs5 2)] h16)
 (fun vs19 h20 => callV Tryd.prog (.func (.func 51) #[] #[]) [t0, (nth vs5 0), (nth vs5 1), t4] h20 (X_Pdq_17 t0 vs5 t4 R j7 vs19 t23))
def X_Pdq_19 (vs5 : List Value) (t0 : Value) (t4 : Value) (R : Value → AHeap → Prop) (j7 : List Value → AHeap → Prop) (t23 : Value) (vs11 : List Value) (h12 : AHeap) : Prop :=
 opt (nb [(nth vs5 2), (.int .i64 0)] (abin2 Tryd.prog .eql 3 (.tmp 31) (.const (.int .i64 0)) (nth vs5 2) (.int .i64 0))) fun t32 => CD t32 (fun j14 => callV Tryd.prog (.func (.func 49) #[] #[]) [t0, (nth vs5 0), (nth vs5 1), t4] h12 (fun t37 h17 => rv [] h17 R))
 (fun j14 => j14 [] h12)
 (X_Pdq_18 vs5 t0 t4 R j7 t23)
def X_Pdq_20 (vs5 : List Value) (t0 : Value) (t4 : Value) (h6 : AHeap) (R : Value → AHeap → Prop) (j7 : List Value → AHeap → Prop) : Prop :=
 opt (nb [(nth vs5 1), (nth vs5 0)] (abin2 Tryd.prog .sub 3 (.tmp 21) (.tmp 22) (nth vs5 1) (nth vs5 0))) fun t23 => opt (nb [t23, (.int .i64 12)] (abin2 Tryd.prog .leq 3 (.tmp 24) (.const (.int .i64 12)) t23 (.int .i64 12))) fun t25 => CD t25 (fun j10 => callV Tryd.prog (.func (.func 48) #[] #[]) [t0, (nth vs5 0), (nth vs5 1), t4] h6 (fun t30 h13 => rv [] h13 R))
 (fun j10 => j10 [] h6)
 (X_Pdq_19 vs5 t0 t4 R j7 t23)
def X_Pdq_21 (t0 : Value) (t4 : Value) (R : Value → AHeap → Prop) (t1 : Value) (t2 : Value) (t3 : Value) (h : AHeap) (j1 : List Value → AHeap → Prop) : Prop :=
 LP (fun vs5 h6 j4 => BK (X_Pdq_20 vs5 t0 t4 h6 R)
 (fun vs8 h9 => j4 [(nth vs8 0), (nth vs8 1), (nth vs8 2), (nth vs8 3), (nth vs8 4)] h9))
 [t1, t2, t3, (.bool true), (.bool true)] h
def X_Pdq (h : AHeap) (t0 t1 t2 t3 t4 : Value) (R : Value → AHeap → Prop) : Prop :=
 BK (X_Pdq_21 t0 t4 R t1 t2 t3 h)
 (fun vs2 h3 => rv [] h3 R)
theorem X_Pdq_eq (h : AHeap) (t0 t1 t2 t3 t4 : Value) (R : Value → AHeap → Prop) : wpF Tryd.prog (drawW Tryd.prog qs) 200 30 [t0, t1, t2, t3, t4] h R = X_Pdq h t0 t1 t2 t3 t4 R := by kernel_rfl
theorem X_Pdq_ok {h : AHeap} {t0 t1 t2 t3 t4 : Value} {R : Value → AHeap → Prop} (hw : X_Pdq h t0 t1 t2 t3 t4 R) : DC Tryd.prog 30 [t0, t1, t2, t3, t4] h R := DC_of_wp mixed (n := 200) (by rw [X_Pdq_eq]; exact hw)

/-- slices.insertionSortCmpFunc[int] -/
def X_Inss_1 (vs17 : List Value) (t0 : Value) (h46 : AHeap) (j47 : List Value → AHeap → Prop) : Prop :=
 opt (nb [(nth vs17 0), (.int .i64 1)] (abin2 Tryd.prog .sub 3 (.tmp 40) (.const (.int .i64 1)) (nth vs17 0) (.int .i64 1))) fun t41 => opt (nb [(nth vs17 0), (.int .i64 1)] (abin2 Tryd.prog .sub 3 (.tmp 43) (.const (.int .i64 1)) (nth vs17 0) (.int .i64 1))) fun t44 => opt (aindex Tryd.prog 23 t0 t44) fun t45 => opt (aload Tryd.prog 3 t45 h46) fun t46 => opt (aindex Tryd.prog 23 t0 (nth vs17 0)) fun t49 => opt (aload Tryd.prog 3 t49 h46) fun t50 => opt (aindex Tryd.prog 23 t0 (nth vs17 0)) fun t51 => opt (nb [t46] (astore Tryd.prog 3 t51 t46 h46)) fun h51 => opt (aindex Tryd.prog 23 t0 t41) fun t52 => opt (nb [t50] (astore Tryd.prog 3 t52 t50 h51)) fun h53 => j47 [] h53
def X_Inss_2 (vs17 : List Value) (t0 : Value) (j16 : List Value → AHeap → Prop) (vs45 : List Value) (h46 : AHeap) : Prop :=
 BK (X_Inss_1 vs17 t0 h46)
 (fun vs48 h49 => opt (nb [(nth vs17 0), (.int .i64 1)] (abin2 Tryd.prog .sub 3 (.tmp 35) (.const (.int .i64 1)) (nth vs17 0) (.int .i64 1))) fun t36 => j16 [t36] h49)
def X_Inss_3 (t20 : Value) (j13 : List Value → AHeap → Prop) (vs17 : List Value) (t0 : Value) (j16 : List Value → AHeap → Prop) (t32 : Value) (h40 : AHeap) : Prop :=
 GD t20 true (fun k42 => opt (nb [t32, (.int .i64 0)] (abin2 Tryd.prog .lss 3 (.tmp 32) (.const (.int .i64 0)) t32 (.int .i64 0))) fun t33 => k42 t33 h40) (fun t33 h43 => opt (pk t20 t33 (.bool false)) fun t34 => CD t34 (fun j44 => j44 [] h43)
 (fun j44 => j13 [] h43)
 (X_Inss_2 vs17 t0 j16)) h40
def X_Inss_4 (t20 : Value) (t22 : Value) (t26 : Value) (j13 : List Value → AHeap → Prop) (vs17 : List Value) (t0 : Value) (j16 : List Value → AHeap → Prop) (t30 : Value) (h36 : AHeap) : Prop :=
 GD t20 true (fun k37 => opt (aload Tryd.prog 3 t30 h36) fun t31 => k37 t31 h36) (fun t31 h38 => GD t20 true (fun k39 => callVD Tryd.prog t22 [t26, t31] h38 (fun t32 h41 => k39 t32 h41)) (X_Inss_3 t20 j13 vs17 t0 j16) h38) h36
def X_Inss_5 (t20 : Value) (t27 : Value) (t22 : Value) (t26 : Value) (j13 : List Value → AHeap → Prop) (vs17 : List Value) (t0 : Value) (j16 : List Value → AHeap → Prop) (t28 : Value) (h32 : AHeap) : Prop :=
 GD t20 true (fun k33 => opt (nb [t28, (.int .i64 1)] (abin2 Tryd.prog .sub 3 (.tmp 28) (.const (.int .i64 1)) t28 (.int .i64 1))) fun t29 => k33 t29 h32) (fun t29 h34 => GD t20 true (fun k35 => opt (aindex Tryd.prog 23 t27 t29) fun t30 => k35 t30 h34) (X_Inss_4 t20 t22 t26 j13 vs17 t0 j16) h34) h32
def X_Inss_6 (t20 : Value) (t0 : Value) (vs17 : List Value) (t22 : Value) (j13 : List Value → AHeap → Prop) (j16 : List Value → AHeap → Prop) (t25 : Value) (h26 : AHeap) : Prop :=
 GD t20 true (fun k27 => opt (aload Tryd.prog 3 t25 h26) fun t26 => k27 t26 h26) (fun t26 h28 => GD t20 true (fun k29 => k29 t0 h28) (fun t27 h30 => GD t20 true (fun k31 => k31 (nth vs17 0) h30) (X_Inss_5 t20 t27 t22 t26 j13 vs17 t0 j16) h30) h28) h26
def X_Inss_7 (t20 : Value) (vs17 : List Value) (t0 : Value) (t22 : Value) (j13 : List Value → AHeap → Prop) (j16 : List Value → AHeap → Prop) (t23 : Value) (h22 : AHeap) : Prop :=
 GD t20 true (fun k23 => k23 (nth vs17 0) h22) (fun t24 h24 => GD t20 true (fun k25 => opt (aindex Tryd.prog 23 t23 t24) fun t25 => k25 t25 h24) (X_Inss_6 t20 t0 vs17 t22 j13 j16) h24) h22
def X_Inss_8 (t1 : Value) (t3 : Value) (t0 : Value) (j13 : List Value → AHeap → Prop) (vs17 : List Value) (h18 : AHeap) (j16 : List Value → AHeap → Prop) : Prop :=
 opt (nb [(nth vs17 0), t1] (abin2 Tryd.prog .gtr 3 (.tmp 18) (.tmp 19) (nth vs17 0) t1)) fun t20 => GD t20 true (fun k19 => k19 t3 h18) (fun t22 h20 => GD t20 true (fun k21 => k21 t0 h20) (X_Inss_7 t20 vs17 t0 t22 j13 j16) h20) h18
def X_Inss_9 (t1 : Value) (t3 : Value) (t0 : Value) (vs5 : List Value) (j4 : List Value → AHeap → Prop) (vs8 : List Value) (h9 : AHeap) : Prop :=
 BK (fun j10 => BK (fun j13 => LP (X_Inss_8 t1 t3 t0 j13)
 [(nth vs5 0)] h9)
 (fun vs14 h15 => j10 [] h15))
 (fun vs11 h12 => opt (nb [(nth vs5 0), (.int .i64 1)] (abin2 Tryd.prog .add 3 (.tmp 15) (.const (.int .i64 1)) (nth vs5 0) (.int .i64 1))) fun t16 => j4 [t16] h12)
def X_Inss_10 (t2 : Value) (j1 : List Value → AHeap → Prop) (t1 : Value) (t3 : Value) (t0 : Value) (vs5 : List Value) (h6 : AHeap) (j4 : List Value → AHeap → Prop) : Prop :=
 opt (nb [(nth vs5 0), t2] (abin2 Tryd.prog .lss 3 (.tmp 12) (.tmp 13) (nth vs5 0) t2)) fun t14 => CD t14 (fun j7 => j7 [] h6)
 (fun j7 => j1 [] h6)
 (X_Inss_9 t1 t3 t0 vs5 j4)
def X_Inss (h : AHeap) (t0 t1 t2 t3 : Value) (R : Value → AHeap → Prop) : Prop :=
 opt (nb [t1, (.int .i64 1)] (abin2 Tryd.prog .add 3 (.tmp 10) (.const (.int .i64 1)) t1 (.int .i64 1))) fun t11 => BK (fun j1 => LP (X_Inss_10 t2 j1 t1 t3 t0)
 [t11] h)
 (fun vs2 h3 => rv [] h3 R)
theorem X_Inss_eq (h : AHeap) (t0 t1 t2 t3 : Value) (R : Value → AHeap → Prop) : wpF Tryd.prog (drawW Tryd.prog qs) 200 48 [t0, t1, t2, t3] h R = X_Inss h t0 t1 t2 t3 R := by kernel_rfl
theorem X_Inss_ok {h : AHeap} {t0 t1 t2 t3 : Value} {R : Value → AHeap → Prop} (hw : X_Inss h t0 t1 t2 t3 R) : DC Tryd.prog 48 [t0, t1, t2, t3] h R := DC_of_wp mixed (n := 200) (by rw [X_Inss_eq]; exact hw)

/-- plumbob/plumboblaw14.FlowSolves -/
def X_FlowSolves_1 (t69 : Value) (t74 : Value) (j58 : List Value → AHeap → Prop) (t75 : Value) (h70 : AHeap) : Prop :=
 GD t69 true (fun k71 => opt (nb [t74, t75] (abin2 Tryd.prog .leq 3 (.tmp 74) (.tmp 75) t74 t75)) fun t76 => k71 t76 h70) (fun t76 h72 => opt (pk t69 t76 (.bool false)) fun t77 => j58 [t77] h72) h70
def X_FlowSolves_2 (t69 : Value) (t3 : Value) (j58 : List Value → AHeap → Prop) (t73 : Value) (h66 : AHeap) : Prop :=
 GD t69 true (fun k67 => opt (aload Tryd.prog 3 t73 h66) fun t74 => k67 t74 h66) (fun t74 h68 => GD t69 true (fun k69 => k69 t3 h68) (X_FlowSolves_1 t69 t74 j58) h68) h66
def X_FlowSolves_3 (t69 : Value) (vs44 : List Value) (t3 : Value) (j58 : List Value → AHeap → Prop) (t71 : Value) (h62 : AHeap) : Prop :=
 GD t69 true (fun k63 => k63 (nth vs44 1) h62) (fun t72 h64 => GD t69 true (fun k65 => opt (aindex Tryd.prog 23 t71 t72) fun t73 => k65 t73 h64) (X_FlowSolves_2 t69 t3 j58) h64) h62
def X_FlowSolves_4 (t2 : Value) (vs44 : List Value) (h57 : AHeap) (t3 : Value) (j58 : List Value → AHeap → Prop) : Prop :=
 opt (aindex Tryd.prog 23 t2 (nth vs44 1)) fun t67 => opt (aload Tryd.prog 3 t67 h57) fun t68 => opt (nb [t68, (.int .i64 0)] (abin2 Tryd.prog .geq 3 (.tmp 68) (.const (.int .i64 0)) t68 (.int .i64 0))) fun t69 => GD t69 true (fun k61 => k61 t2 h57) (X_FlowSolves_3 t69 vs44 t3 j58) h57
def X_FlowSolves_5 (vs44 : List Value) (j43 : List Value → AHeap → Prop) (vs59 : List Value) (h60 : AHeap) : Prop :=
 opt (nb [(nth vs44 1), (.int .i64 1)] (abin2 Tryd.prog .add 3 (.tmp 63) (.const (.int .i64 1)) (nth vs44 1) (.int .i64 1))) fun t64 => j43 [(nth vs59 0), t64] h60
def X_FlowSolves_6 (vs44 : List Value) (j40 : List Value → AHeap → Prop) (t2 : Value) (t3 : Value) (j43 : List Value → AHeap → Prop) (t61 : Value) (h54 : AHeap) : Prop :=
 opt (pk (nth vs44 0) t61 (.bool false)) fun t62 => CD t62 (fun j55 => j55 [] h54)
 (fun j55 => j40 [(nth vs44 0)] h54)
 (fun vs56 h57 => BK (X_FlowSolves_4 t2 vs44 h57 t3)
 (X_FlowSolves_5 vs44 j43))
def X_FlowSolves_7 (vs44 : List Value) (t58 : Value) (j40 : List Value → AHeap → Prop) (t2 : Value) (t3 : Value) (j43 : List Value → AHeap → Prop) (t60 : Value) (h51 : AHeap) : Prop :=
 GD (nth vs44 0) true (fun k53 => opt (nb [t58, t60] (abin2 Tryd.prog .lss 3 (.tmp 58) (.tmp 60) t58 t60)) fun t61 => k53 t61 h51) (X_FlowSolves_6 vs44 j40 t2 t3 j43) h51
def X_FlowSolves_8 (vs44 : List Value) (t58 : Value) (j40 : List Value → AHeap → Prop) (t2 : Value) (t3 : Value) (j43 : List Value → AHeap → Prop) (t59 : Value) (h49 : AHeap) : Prop :=
 GD (nth vs44 0) true (fun k50 => optH (nb [t59] (abuiltin Tryd.prog .len [23] 3 [t59] h49)) fun t60 h52 => k50 t60 h52) (X_FlowSolves_7 vs44 t58 j40 t2 t3 j43) h49
def X_FlowSolves_9 (t2 : Value) (j40 : List Value → AHeap → Prop) (t3 : Value) (vs44 : List Value) (h45 : AHeap) (j43 : List Value → AHeap → Prop) : Prop :=
 GD (nth vs44 0) true (fun k46 => k46 (nth vs44 1) h45) (fun t58 h47 => GD (nth vs44 0) true (fun k48 => k48 t2 h47) (X_FlowSolves_8 vs44 t58 j40 t2 t3 j43) h47) h45
def X_FlowSolves_10 (t109 : Value) (t115 : Value) (j91 : List Value → AHeap → Prop) (t116 : Value) (h131 : AHeap) : Prop :=
 GD t109 true (fun k132 => opt (nb [t115, t116] (abin2 Tryd.prog .lss 3 (.tmp 115) (.tmp 116) t115 t116)) fun t117 => k132 t117 h131) (fun t117 h133 => opt (pk t109 t117 (.bool false)) fun t118 => j91 [t118] h133) h131
def X_FlowSolves_11 (t109 : Value) (t0 : Value) (j91 : List Value → AHeap → Prop) (t114 : Value) (h127 : AHeap) : Prop :=
 GD t109 true (fun k128 => opt (aload Tryd.prog 3 t114 h127) fun t115 => k128 t115 h127) (fun t115 h129 => GD t109 true (fun k130 => k130 t0 h129) (X_FlowSolves_10 t109 t115 j91) h129) h127
def X_FlowSolves_12 (t109 : Value) (t111 : Value) (t0 : Value) (j91 : List Value → AHeap → Prop) (t112 : Value) (h123 : AHeap) : Prop :=
 GD t109 true (fun k124 => opt (aindex Tryd.prog 22 t111 t112) fun t113 => k124 t113 h123) (fun t113 h125 => GD t109 true (fun k126 => opt (aindex Tryd.prog 28 t113 (.int .i64 1)) fun t114 => k126 t114 h125) (X_FlowSolves_11 t109 t0 j91) h125) h123
def X_FlowSolves_13 (t101 : Value) (t1 : Value) (vs77 : List Value) (t0 : Value) (j91 : List Value → AHeap → Prop) (t108 : Value) (h119 : AHeap) : Prop :=
 opt (pk t101 t108 (.bool false)) fun t109 => GD t109 true (fun k120 => k120 t1 h119) (fun t111 h121 => GD t109 true (fun k122 => k122 (nth vs77 1) h121) (X_FlowSolves_12 t109 t111 t0 j91) h121) h119
def X_FlowSolves_14 (t101 : Value) (t1 : Value) (vs77 : List Value) (t0 : Value) (j91 : List Value → AHeap → Prop) (t107 : Value) (h117 : AHeap) : Prop :=
 GD t101 true (fun k118 => opt (nb [t107, (.int .i64 0)] (abin2 Tryd.prog .geq 3 (.tmp 107) (.const (.int .i64 0)) t107 (.int .i64 0))) fun t108 => k118 t108 h117) (X_FlowSolves_13 t101 t1 vs77 t0 j91) h117
def X_FlowSolves_15 (t101 : Value) (t1 : Value) (vs77 : List Value) (t0 : Value) (j91 : List Value → AHeap → Prop) (t105 : Value) (h113 : AHeap) : Prop :=
 GD t101 true (fun k114 => opt (aindex Tryd.prog 28 t105 (.int .i64 1)) fun t106 => k114 t106 h113) (fun t106 h115 => GD t101 true (fun k116 => opt (aload Tryd.prog 3 t106 h115) fun t107 => k116 t107 h115) (X_FlowSolves_14 t101 t1 vs77 t0 j91) h115) h113
def X_FlowSolves_16 (t101 : Value) (vs77 : List Value) (t1 : Value) (t0 : Value) (j91 : List Value → AHeap → Prop) (t103 : Value) (h109 : AHeap) : Prop :=
 GD t101 true (fun k110 => k110 (nth vs77 1) h109) (fun t104 h111 => GD t101 true (fun k112 => opt (aindex Tryd.prog 22 t103 t104) fun t105 => k112 t105 h111) (X_FlowSolves_15 t101 t1 vs77 t0 j91) h111) h109
def X_FlowSolves_17 (t92 : Value) (t98 : Value) (t1 : Value) (vs77 : List Value) (t0 : Value) (j91 : List Value → AHeap → Prop) (t99 : Value) (h105 : AHeap) : Prop :=
 GD t92 true (fun k106 => opt (nb [t98, t99] (abin2 Tryd.prog .lss 3 (.tmp 98) (.tmp 99) t98 t99)) fun t100 => k106 t100 h105) (fun t100 h107 => opt (pk t92 t100 (.bool false)) fun t101 => GD t101 true (fun k108 => k108 t1 h107) (X_FlowSolves_16 t101 vs77 t1 t0 j91) h107) h105
def X_FlowSolves_18 (t92 : Value) (t0 : Value) (t1 : Value) (vs77 : List Value) (j91 : List Value → AHeap → Prop) (t97 : Value) (h101 : AHeap) : Prop :=
 GD t92 true (fun k102 => opt (aload Tryd.prog 3 t97 h101) fun t98 => k102 t98 h101) (fun t98 h103 => GD t92 true (fun k104 => k104 t0 h103) (X_FlowSolves_17 t92 t98 t1 vs77 t0 j91) h103) h101
def X_FlowSolves_19 (t92 : Value) (t94 : Value) (t0 : Value) (t1 : Value) (vs77 : List Value) (j91 : List Value → AHeap → Prop) (t95 : Value) (h97 : AHeap) : Prop :=
 GD t92 true (fun k98 => opt (aindex Tryd.prog 22 t94 t95) fun t96 => k98 t96 h97) (fun t96 h99 => GD t92 true (fun k100 => opt (aindex Tryd.prog 28 t96 (.int .i64 0)) fun t97 => k100 t97 h99) (X_FlowSolves_18 t92 t0 t1 vs77 j91) h99) h97
def X_FlowSolves_20 (t1 : Value) (vs77 : List Value) (h90 : AHeap) (t0 : Value) (j91 : List Value → AHeap → Prop) : Prop :=
 opt (aindex Tryd.prog 22 t1 (nth vs77 1)) fun t89 => opt (aindex Tryd.prog 28 t89 (.int .i64 0)) fun t90 => opt (aload Tryd.prog 3 t90 h90) fun t91 => opt (nb [t91, (.int .i64 0)] (abin2 Tryd.prog .geq 3 (.tmp 91) (.const (.int .i64 0)) t91 (.int .i64 0))) fun t92 => GD t92 true (fun k94 => k94 t1 h90) (fun t94 h95 => GD t92 true (fun k96 => k96 (nth vs77 1) h95) (X_FlowSolves_19 t92 t94 t0 t1 vs77 j91) h95) h90
def X_FlowSolves_21 (vs77 : List Value) (j76 : List Value → AHeap → Prop) (vs92 : List Value) (h93 : AHeap) : Prop :=
 opt (nb [(nth vs77 1), (.int .i64 1)] (abin2 Tryd.prog .add 3 (.tmp 85) (.const (.int .i64 1)) (nth vs77 1) (.int .i64 1))) fun t86 => j76 [(nth vs92 0), t86] h93
def X_FlowSolves_22 (vs77 : List Value) (j73 : List Value → AHeap → Prop) (t1 : Value) (t0 : Value) (j76 : List Value → AHeap → Prop) (t83 : Value) (h87 : AHeap) : Prop :=
 opt (pk (nth vs77 0) t83 (.bool false)) fun t84 => CD t84 (fun j88 => j88 [] h87)
 (fun j88 => j73 [(nth vs77 0)] h87)
 (fun vs89 h90 => BK (X_FlowSolves_20 t1 vs77 h90 t0)
 (X_FlowSolves_21 vs77 j76))
def X_FlowSolves_23 (vs77 : List Value) (t80 : Value) (j73 : List Value → AHeap → Prop) (t1 : Value) (t0 : Value) (j76 : List Value → AHeap → Prop) (t82 : Value) (h84 : AHeap) : Prop :=
 GD (nth vs77 0) true (fun k86 => opt (nb [t80, t82] (abin2 Tryd.prog .lss 3 (.tmp 80) (.tmp 82) t80 t82)) fun t83 => k86 t83 h84) (X_FlowSolves_22 vs77 j73 t1 t0 j76) h84
def X_FlowSolves_24 (vs77 : List Value) (t80 : Value) (j73 : List Value → AHeap → Prop) (t1 : Value) (t0 : Value) (j76 : List Value → AHeap → Prop) (t81 : Value) (h82 : AHeap) : Prop :=
 GD (nth vs77 0) true (fun k83 => optH (nb [t81] (abuiltin Tryd.prog .len [22] 3 [t81] h82)) fun t82 h85 => k83 t82 h85) (X_FlowSolves_23 vs77 t80 j73 t1 t0 j76) h82
def X_FlowSolves_25 (t1 : Value) (j73 : List Value → AHeap → Prop) (t0 : Value) (vs77 : List Value) (h78 : AHeap) (j76 : List Value → AHeap → Prop) : Prop :=
 GD (nth vs77 0) true (fun k79 => k79 (nth vs77 1) h78) (fun t80 h80 => GD (nth vs77 0) true (fun k81 => k81 t1 h80) (X_FlowSolves_24 vs77 t80 j73 t1 t0 j76) h80) h78
def X_FlowSolves_26 (t122 : Value) (R : Value → AHeap → Prop) (t125 : Value) (h140 : AHeap) : Prop :=
 GD t122 true (fun k142 => opt (nb [t125, (.int .i64 0)] (abin2 Tryd.prog .eql 3 (.tmp 125) (.const (.int .i64 0)) t125 (.int .i64 0))) fun t126 => k142 t126 h140) (fun t126 h143 => opt (pk t122 t126 (.bool false)) fun t127 => rv [t127] h143 R) h140
def X_FlowSolves_27 (t39 : Value) (t38 : Value) (h75 : AHeap) (R : Value → AHeap → Prop) (j134 : List Value → AHeap → Prop) : Prop :=
 opt (nb [t39, (.int .i64 1)] (abin2 Tryd.prog .eql 25 (.tmp 121) (.const (.int .i64 1)) t39 (.int .i64 1))) fun t122 => GD t122 true (fun k137 => k137 t38 h75) (fun t124 h138 => GD t122 true (fun k139 => optH (nb [t124] (abuiltin Tryd.prog .len [23] 3 [t124] h138)) fun t125 h141 => k139 t125 h141) (X_FlowSolves_26 t122 R) h138) h75
def X_FlowSolves_28 (t1 : Value) (vs162 : List Value) (h167 : AHeap) (t130 : Value) (j171 : List Value → AHeap → Prop) : Prop :=
 opt (aindex Tryd.prog 22 t1 (nth vs162 1)) fun t158 => opt (aindex Tryd.prog 28 t158 (.int .i64 1)) fun t159 => opt (aload Tryd.prog 3 t159 h167) fun t160 => opt (aindex Tryd.prog 22 t1 (nth vs162 1)) fun t164 => opt (aindex Tryd.prog 28 t164 (.int .i64 0)) fun t165 => opt (aload Tryd.prog 3 t165 h167) fun t166 => opt (aindex Tryd.prog 23 t130 t166) fun t167 => opt (aload Tryd.prog 3 t167 h167) fun t168 => opt (aindex Tryd.prog 23 t130 t160) fun t169 => opt (nb [t168] (astore Tryd.prog 3 t169 t168 h167)) fun h175 => j171 [(.bool true)] h175
def X_FlowSolves_29 (t1 : Value) (vs162 : List Value) (h167 : AHeap) (t130 : Value) (j168 : List Value → AHeap → Prop) : Prop :=
 opt (aindex Tryd.prog 22 t1 (nth vs162 1)) fun t141 => opt (aindex Tryd.prog 28 t141 (.int .i64 1)) fun t142 => opt (aload Tryd.prog 3 t142 h167) fun t143 => opt (aindex Tryd.prog 23 t130 t143) fun t144 => opt (aload Tryd.prog 3 t144 h167) fun t145 => opt (aindex Tryd.prog 22 t1 (nth vs162 1)) fun t149 => opt (aindex Tryd.prog 28 t149 (.int .i64 0)) fun t150 => opt (aload Tryd.prog 3 t150 h167) fun t151 => opt (aindex Tryd.prog 23 t130 t151) fun t152 => opt (aload Tryd.prog 3 t152 h167) fun t153 => opt (nb [t145, t153] (abin2 Tryd.prog .lss 3 (.tmp 145) (.tmp 153) t145 t153)) fun t154 => CD t154 (X_FlowSolves_28 t1 vs162 h167 t130)
 (fun j171 => j171 [(nth vs162 0)] h167)
 (fun vs172 h173 => j168 [(nth vs172 0)] h173)
def X_FlowSolves_30 (vs162 : List Value) (j161 : List Value → AHeap → Prop) (vs169 : List Value) (h170 : AHeap) : Prop :=
 opt (nb [(nth vs162 1), (.int .i64 1)] (abin2 Tryd.prog .add 3 (.tmp 136) (.const (.int .i64 1)) (nth vs162 1) (.int .i64 1))) fun t137 => j161 [(nth vs169 0), t137] h170
def X_FlowSolves_31 (t1 : Value) (j158 : List Value → AHeap → Prop) (t130 : Value) (vs162 : List Value) (h163 : AHeap) (j161 : List Value → AHeap → Prop) : Prop :=
 optH (nb [t1] (abuiltin Tryd.prog .len [22] 3 [t1] h163)) fun t134 h164 => opt (nb [(nth vs162 1), t134] (abin2 Tryd.prog .lss 3 (.tmp 132) (.tmp 134) (nth vs162 1) t134)) fun t135 => CD t135 (fun j165 => j165 [] h164)
 (fun j165 => j158 [(nth vs162 0)] h164)
 (fun vs166 h167 => BK (X_FlowSolves_29 t1 vs162 h167 t130)
 (X_FlowSolves_30 vs162 j161))
def X_FlowSolves_32 (t1 : Value) (t130 : Value) (j149 : List Value → AHeap → Prop) (vs153 : List Value) (h154 : AHeap) : Prop :=
 BK (fun j155 => BK (fun j158 => LP (X_FlowSolves_31 t1 j158 t130)
 [(.bool false), (.int .i64 0)] h154)
 (fun vs159 h160 => j155 [(nth vs159 0)] h160))
 (fun vs156 h157 => j149 [(nth vs156 0)] h157)
def X_FlowSolves_33 (t38 : Value) (vs192 : List Value) (h196 : AHeap) (t130 : Value) (R : Value → AHeap → Prop) (j197 : List Value → AHeap → Prop) : Prop :=
 opt (aindex Tryd.prog 23 t38 (nth vs192 1)) fun t185 => opt (aload Tryd.prog 3 t185 h196) fun t186 => opt (aindex Tryd.prog 23 t130 (nth vs192 1)) fun t189 => opt (aload Tryd.prog 3 t189 h196) fun t190 => opt (nb [t186, t190] (abin2 Tryd.prog .neq 3 (.tmp 186) (.tmp 190) t186 t190)) fun t191 => CD t191 (fun j200 => rv [(.bool false)] h196 R)
 (fun j200 => j200 [(nth vs192 0)] h196)
 (fun vs201 h202 => j197 [(nth vs201 0)] h202)
def X_FlowSolves_34 (vs192 : List Value) (j191 : List Value → AHeap → Prop) (vs198 : List Value) (h199 : AHeap) : Prop :=
 opt (nb [(nth vs192 1), (.int .i64 1)] (abin2 Tryd.prog .add 3 (.tmp 181) (.const (.int .i64 1)) (nth vs192 1) (.int .i64 1))) fun t182 => j191 [(nth vs198 0), t182] h199
def X_FlowSolves_35 (t0 : Value) (j188 : List Value → AHeap → Prop) (t38 : Value) (t130 : Value) (R : Value → AHeap → Prop) (vs192 : List Value) (h193 : AHeap) (j191 : List Value → AHeap → Prop) : Prop :=
 opt (nb [(nth vs192 1), t0] (abin2 Tryd.prog .lss 3 (.tmp 178) (.tmp 179) (nth vs192 1) t0)) fun t180 => CD t180 (fun j194 => j194 [] h193)
 (fun j194 => j188 [(nth vs192 0)] h193)
 (fun vs195 h196 => BK (X_FlowSolves_33 t38 vs192 h196 t130 R)
 (X_FlowSolves_34 vs192 j191))
def X_FlowSolves_36 (t171 : Value) (R : Value → AHeap → Prop) (vs135 : List Value) (t0 : Value) (t38 : Value) (t130 : Value) (t176 : Value) (h184 : AHeap) : Prop :=
 opt (pk t171 (.bool true) t176) fun t177 => CD t177 (fun j185 => rv [(.bool false)] h184 R)
 (fun j185 => j185 [(nth vs135 0)] h184)
 (fun vs186 h187 => BK (fun j188 => LP (X_FlowSolves_35 t0 j188 t38 t130 R)
 [(nth vs186 0), (.int .i64 0)] h187)
 (fun vs189 h190 => rv [(.bool true)] h190 R))
def X_FlowSolves_37 (t171 : Value) (t174 : Value) (R : Value → AHeap → Prop) (vs135 : List Value) (t0 : Value) (t38 : Value) (t130 : Value) (t175 : Value) (h182 : AHeap) : Prop :=
 GD t171 false (fun k183 => opt (nb [t174, t175] (abin2 Tryd.prog .neq 3 (.tmp 174) (.tmp 175) t174 t175)) fun t176 => k183 t176 h182) (X_FlowSolves_36 t171 R vs135 t0 t38 t130) h182
def X_FlowSolves_38 (t171 : Value) (t0 : Value) (R : Value → AHeap → Prop) (vs135 : List Value) (t38 : Value) (t130 : Value) (t173 : Value) (h177 : AHeap) : Prop :=
 GD t171 false (fun k178 => optH (nb [t173] (abuiltin Tryd.prog .len [23] 3 [t173] h177)) fun t174 h180 => k178 t174 h180) (fun t174 h179 => GD t171 false (fun k181 => k181 t0 h179) (X_FlowSolves_37 t171 t174 R vs135 t0 t38 t130) h179) h177
def X_FlowSolves_39 (t39 : Value) (t38 : Value) (t0 : Value) (R : Value → AHeap → Prop) (vs135 : List Value) (t130 : Value) (vs147 : List Value) (h148 : AHeap) : Prop :=
 opt (nb [t39, (.int .i64 0)] (abin2 Tryd.prog .neq 25 (.tmp 170) (.const (.int .i64 0)) t39 (.int .i64 0))) fun t171 => GD t171 false (fun k176 => k176 t38 h148) (X_FlowSolves_38 t171 t0 R vs135 t38 t130) h148
def X_FlowSolves_40 (t2 : Value) (t1 : Value) (t39 : Value) (t38 : Value) (t0 : Value) (R : Value → AHeap → Prop) (vs135 : List Value) (h136 : AHeap) : Prop :=
 optH (nb [] (abuildSlice Tryd.prog 23 0 [] h136)) fun t128 h144 => optH (nb [t128, t2] (abuiltin Tryd.prog .append [23, 23] 23 [t128, t2] h144)) fun t130 h145 => BK (fun j146 => LP (fun vs150 h151 j149 => CD (nth vs150 0) (fun j152 => j152 [] h151)
 (fun j152 => j146 [] h151)
 (X_FlowSolves_32 t1 t130 j149))
 [(.bool true)] h145)
 (X_FlowSolves_39 t39 t38 t0 R vs135 t130)
def X_FlowSolves_41 (t39 : Value) (t38 : Value) (R : Value → AHeap → Prop) (vs20 : List Value) (t2 : Value) (t1 : Value) (t0 : Value) (vs74 : List Value) (h75 : AHeap) : Prop :=
 opt (aun Tryd.prog .not (nth vs74 0)) fun t120 => CD t120 (X_FlowSolves_27 t39 t38 h75 R)
 (fun j134 => j134 [(nth vs20 0)] h75)
 (X_FlowSolves_40 t2 t1 t39 t38 t0 R)
def X_FlowSolves_42 (t51 : Value) (t2 : Value) (t3 : Value) (t1 : Value) (t0 : Value) (t39 : Value) (t38 : Value) (R : Value → AHeap → Prop) (vs20 : List Value) (t54 : Value) (h39 : AHeap) : Prop :=
 opt (pk t51 t54 (.bool false)) fun t55 => BK (fun j40 => LP (X_FlowSolves_9 t2 j40 t3)
 [t55, (.int .i64 0)] h39)
 (fun vs41 h42 => BK (fun j73 => LP (X_FlowSolves_25 t1 j73 t0)
 [(nth vs41 0), (.int .i64 0)] h42)
 (X_FlowSolves_41 t39 t38 R vs20 t2 t1 t0))
def X_FlowSolves_43 (t51 : Value) (t2 : Value) (t3 : Value) (t1 : Value) (t0 : Value) (t39 : Value) (t38 : Value) (R : Value → AHeap → Prop) (vs20 : List Value) (t53 : Value) (h37 : AHeap) : Prop :=
 GD t51 true (fun k38 => opt (nb [t53, (.int .i64 1000000)] (abin2 Tryd.prog .leq 3 (.tmp 53) (.const (.int .i64 1000000)) t53 (.int .i64 1000000))) fun t54 => k38 t54 h37) (X_FlowSolves_42 t51 t2 t3 t1 t0 t39 t38 R vs20) h37
def X_FlowSolves_44 (t47 : Value) (t3 : Value) (t2 : Value) (t1 : Value) (t0 : Value) (t39 : Value) (t38 : Value) (R : Value → AHeap → Prop) (vs20 : List Value) (t49 : Value) (h33 : AHeap) : Prop :=
 GD t47 true (fun k34 => opt (nb [t49, (.int .i64 0)] (abin2 Tryd.prog .geq 3 (.tmp 49) (.const (.int .i64 0)) t49 (.int .i64 0))) fun t50 => k34 t50 h33) (fun t50 h35 => opt (pk t47 t50 (.bool false)) fun t51 => GD t51 true (fun k36 => k36 t3 h35) (X_FlowSolves_43 t51 t2 t3 t1 t0 t39 t38 R vs20) h35) h33
def X_FlowSolves_45 (t41 : Value) (t44 : Value) (t3 : Value) (t2 : Value) (t1 : Value) (t0 : Value) (t39 : Value) (t38 : Value) (R : Value → AHeap → Prop) (vs20 : List Value) (t45 : Value) (h29 : AHeap) : Prop :=
 GD t41 true (fun k30 => opt (nb [t44, t45] (abin2 Tryd.prog .eql 3 (.tmp 44) (.tmp 45) t44 t45)) fun t46 => k30 t46 h29) (fun t46 h31 => opt (pk t41 t46 (.bool false)) fun t47 => GD t47 true (fun k32 => k32 t3 h31) (X_FlowSolves_44 t47 t3 t2 t1 t0 t39 t38 R vs20) h31) h29
def X_FlowSolves_46 (t41 : Value) (t0 : Value) (t3 : Value) (t2 : Value) (t1 : Value) (t39 : Value) (t38 : Value) (R : Value → AHeap → Prop) (vs20 : List Value) (t43 : Value) (h24 : AHeap) : Prop :=
 GD t41 true (fun k25 => optH (nb [t43] (abuiltin Tryd.prog .len [23] 3 [t43] h24)) fun t44 h27 => k25 t44 h27) (fun t44 h26 => GD t41 true (fun k28 => k28 t0 h26) (X_FlowSolves_45 t41 t44 t3 t2 t1 t0 t39 t38 R vs20) h26) h24
def X_FlowSolves_47 (t0 : Value) (t2 : Value) (t3 : Value) (t1 : Value) (R : Value → AHeap → Prop) (vs20 : List Value) (t37 : Value) (h22 : AHeap) : Prop :=
 opt (axt t37 0) fun t38 => opt (axt t37 1) fun t39 => opt (nb [t0, (.int .i64 0)] (abin2 Tryd.prog .geq 3 (.tmp 40) (.const (.int .i64 0)) t0 (.int .i64 0))) fun t41 => GD t41 true (fun k23 => k23 t2 h22) (X_FlowSolves_46 t41 t0 t3 t2 t1 t39 t38 R vs20) h22
def X_FlowSolves_48 (t26 : Value) (R : Value → AHeap → Prop) (vs3 : List Value) (t0 : Value) (t1 : Value) (t2 : Value) (t3 : Value) (t30 : Value) (h18 : AHeap) : Prop :=
 opt (pk t26 (.bool true) t30) fun t31 => CD t31 (fun j19 => rv [(.bool true)] h18 R)
 (fun j19 => j19 [(nth vs3 0)] h18)
 (fun vs20 h21 => callV Tryd.prog (.func (.func 6) #[] #[]) [t0, t1, t2, t3] h21 (X_FlowSolves_47 t0 t2 t3 t1 R vs20))
def X_FlowSolves_49 (t26 : Value) (R : Value → AHeap → Prop) (vs3 : List Value) (t0 : Value) (t1 : Value) (t2 : Value) (t3 : Value) (t29 : Value) (h15 : AHeap) : Prop :=
 GD t26 false (fun k17 => opt (nb [t29, (.int .i64 100)] (abin2 Tryd.prog .gtr 3 (.tmp 29) (.const (.int .i64 100)) t29 (.int .i64 100))) fun t30 => k17 t30 h15) (X_FlowSolves_48 t26 R vs3 t0 t1 t2 t3) h15
def X_FlowSolves_50 (t21 : Value) (t2 : Value) (R : Value → AHeap → Prop) (vs3 : List Value) (t0 : Value) (t1 : Value) (t3 : Value) (t25 : Value) (h11 : AHeap) : Prop :=
 opt (pk t21 (.bool true) t25) fun t26 => GD t26 false (fun k12 => k12 t2 h11) (fun t28 h13 => GD t26 false (fun k14 => optH (nb [t28] (abuiltin Tryd.prog .len [23] 3 [t28] h13)) fun t29 h16 => k14 t29 h16) (X_FlowSolves_49 t26 R vs3 t0 t1 t2 t3) h13) h11
def X_FlowSolves_51 (t21 : Value) (t2 : Value) (R : Value → AHeap → Prop) (vs3 : List Value) (t0 : Value) (t1 : Value) (t3 : Value) (t24 : Value) (h8 : AHeap) : Prop :=
 GD t21 false (fun k10 => opt (nb [t24, (.int .i64 300)] (abin2 Tryd.prog .gtr 3 (.tmp 24) (.const (.int .i64 300)) t24 (.int .i64 300))) fun t25 => k10 t25 h8) (X_FlowSolves_50 t21 t2 R vs3 t0 t1 t3) h8
def X_FlowSolves_52 (t0 : Value) (t1 : Value) (t2 : Value) (R : Value → AHeap → Prop) (t3 : Value) (vs3 : List Value) (h4 : AHeap) : Prop :=
 opt (nb [t0, (.int .i64 100)] (abin2 Tryd.prog .gtr 3 (.tmp 20) (.const (.int .i64 100)) t0 (.int .i64 100))) fun t21 => GD t21 false (fun k5 => k5 t1 h4) (fun t23 h6 => GD t21 false (fun k7 => optH (nb [t23] (abuiltin Tryd.prog .len [22] 3 [t23] h6)) fun t24 h9 => k7 t24 h9) (X_FlowSolves_51 t21 t2 R vs3 t0 t1 t3) h6) h4
def X_FlowSolves (h : AHeap) (t0 t1 t2 t3 : Value) (R : Value → AHeap → Prop) : Prop :=
 callV Tryd.prog (.func (.func 5) #[] #[]) [] h (fun t18 h1 => opt (aun Tryd.prog .not t18) fun t19 => CD t19 (fun j2 => rv [(.bool false)] h1 R)
 (fun j2 => j2 [(.bool false)] h1)
 (X_FlowSolves_52 t0 t1 t2 R t3))
theorem X_FlowSolves_eq (h : AHeap) (t0 t1 t2 t3 : Value) (R : Value → AHeap → Prop) : wpF Tryd.prog (drawW Tryd.prog qs) 200 3 [t0, t1, t2, t3] h R = X_FlowSolves h t0 t1 t2 t3 R := by kernel_rfl
theorem X_FlowSolves_ok {h : AHeap} {t0 t1 t2 t3 : Value} {R : Value → AHeap → Prop} (hw : X_FlowSolves h t0 t1 t2 t3 R) : DC Tryd.prog 3 [t0, t1, t2, t3] h R := DC_of_wp mixed (n := 200) (by rw [X_FlowSolves_eq]; exact hw)

/-- plumbob/plumboblaw14.FlowGrows -/
def X_FlowGrows_1 (t72 : Value) (t76 : Value) (h38 : AHeap) (j39 : List Value → AHeap → Prop) : Prop :=
 opt (aindex Tryd.prog 23 t72 t76) fun t84 => opt (aload Tryd.prog 3 t84 h38) fun t85 => opt (nb [t85, (.int .i64 1)] (abin2 Tryd.prog .add 3 (.tmp 85) (.const (.int .i64 1)) t85 (.int .i64 1))) fun t86 => opt (aindex Tryd.prog 23 t72 t76) fun t87 => opt (nb [t86] (astore Tryd.prog 3 t87 t86 h38)) fun h43 => j39 [] h43
def X_FlowGrows_2 (t125 : Value) (R : Value → AHeap → Prop) (vs56 : List Value) (j61 : List Value → AHeap → Prop) (t147 : Value) (h123 : AHeap) : Prop :=
 opt (pk t125 (.bool true) t147) fun t148 => CD t148 (fun j124 => rv [(.bool false)] h123 R)
 (fun j124 => j124 [(nth vs56 0)] h123)
 (fun vs125 h126 => j61 [(nth vs125 0)] h126)
def X_FlowGrows_3 (t137 : Value) (t141 : Value) (t125 : Value) (R : Value → AHeap → Prop) (vs56 : List Value) (j61 : List Value → AHeap → Prop) (t145 : Value) (h119 : AHeap) : Prop :=
 GD t137 true (fun k120 => opt (nb [t141, t145] (abin2 Tryd.prog .neq 3 (.tmp 141) (.tmp 145) t141 t145)) fun t146 => k120 t146 h119) (fun t146 h121 => GD t125 false (fun k122 => opt (pk t137 t146 (.bool false)) fun t147 => k122 t147 h121) (X_FlowGrows_2 t125 R vs56 j61) h121) h119
def X_FlowGrows_4 (t137 : Value) (t142 : Value) (t141 : Value) (t125 : Value) (R : Value → AHeap → Prop) (vs56 : List Value) (j61 : List Value → AHeap → Prop) (t143 : Value) (h115 : AHeap) : Prop :=
 GD t137 true (fun k116 => opt (aindex Tryd.prog 23 t142 t143) fun t144 => k116 t144 h115) (fun t144 h117 => GD t137 true (fun k118 => opt (aload Tryd.prog 3 t144 h117) fun t145 => k118 t145 h117) (X_FlowGrows_3 t137 t141 t125 R vs56 j61) h117) h115
def X_FlowGrows_5 (t137 : Value) (t72 : Value) (t76 : Value) (t125 : Value) (R : Value → AHeap → Prop) (vs56 : List Value) (j61 : List Value → AHeap → Prop) (t140 : Value) (h109 : AHeap) : Prop :=
 GD t137 true (fun k110 => opt (aload Tryd.prog 3 t140 h109) fun t141 => k110 t141 h109) (fun t141 h111 => GD t137 true (fun k112 => k112 t72 h111) (fun t142 h113 => GD t137 true (fun k114 => k114 t76 h113) (X_FlowGrows_4 t137 t142 t141 t125 R vs56 j61) h113) h111) h109
def X_FlowGrows_6 (t137 : Value) (vs56 : List Value) (t72 : Value) (t76 : Value) (t125 : Value) (R : Value → AHeap → Prop) (j61 : List Value → AHeap → Prop) (t138 : Value) (h105 : AHeap) : Prop :=
 GD t137 true (fun k106 => k106 (nth vs56 1) h105) (fun t139 h107 => GD t137 true (fun k108 => opt (aindex Tryd.prog 23 t138 t139) fun t140 => k108 t140 h107) (X_FlowGrows_5 t137 t72 t76 t125 R vs56 j61) h107) h105
def X_FlowGrows_7 (t125 : Value) (t130 : Value) (t93 : Value) (vs56 : List Value) (t72 : Value) (t76 : Value) (R : Value → AHeap → Prop) (j61 : List Value → AHeap → Prop) (t135 : Value) (h99 : AHeap) : Prop :=
 GD t125 false (fun k100 => opt (nb [t130, t135] (abin2 Tryd.prog .gtr 3 (.tmp 130) (.tmp 135) t130 t135)) fun t136 => k100 t136 h99) (fun t136 h101 => GD t125 false (fun k102 => k102 t136 h101) (fun t137 h103 => GD t137 true (fun k104 => k104 t93 h103) (X_FlowGrows_6 t137 vs56 t72 t76 t125 R j61) h103) h101) h99
def X_FlowGrows_8 (t125 : Value) (t130 : Value) (t93 : Value) (vs56 : List Value) (t72 : Value) (t76 : Value) (R : Value → AHeap → Prop) (j61 : List Value → AHeap → Prop) (t134 : Value) (h97 : AHeap) : Prop :=
 GD t125 false (fun k98 => opt (nb [t134, (.int .i64 1)] (abin2 Tryd.prog .add 3 (.tmp 134) (.const (.int .i64 1)) t134 (.int .i64 1))) fun t135 => k98 t135 h97) (X_FlowGrows_7 t125 t130 t93 vs56 t72 t76 R j61) h97
def X_FlowGrows_9 (t125 : Value) (t131 : Value) (t130 : Value) (t93 : Value) (vs56 : List Value) (t72 : Value) (t76 : Value) (R : Value → AHeap → Prop) (j61 : List Value → AHeap → Prop) (t132 : Value) (h93 : AHeap) : Prop :=
 GD t125 false (fun k94 => opt (aindex Tryd.prog 23 t131 t132) fun t133 => k94 t133 h93) (fun t133 h95 => GD t125 false (fun k96 => opt (aload Tryd.prog 3 t133 h95) fun t134 => k96 t134 h95) (X_FlowGrows_8 t125 t130 t93 vs56 t72 t76 R j61) h95) h93
def X_FlowGrows_10 (t125 : Value) (t46 : Value) (vs56 : List Value) (t93 : Value) (t72 : Value) (t76 : Value) (R : Value → AHeap → Prop) (j61 : List Value → AHeap → Prop) (t130 : Value) (h89 : AHeap) : Prop :=
 GD t125 false (fun k90 => k90 t46 h89) (fun t131 h91 => GD t125 false (fun k92 => k92 (nth vs56 1) h91) (X_FlowGrows_9 t125 t131 t130 t93 vs56 t72 t76 R j61) h91) h89
def X_FlowGrows_11 (t125 : Value) (t127 : Value) (t46 : Value) (vs56 : List Value) (t93 : Value) (t72 : Value) (t76 : Value) (R : Value → AHeap → Prop) (j61 : List Value → AHeap → Prop) (t128 : Value) (h85 : AHeap) : Prop :=
 GD t125 false (fun k86 => opt (aindex Tryd.prog 23 t127 t128) fun t129 => k86 t129 h85) (fun t129 h87 => GD t125 false (fun k88 => opt (aload Tryd.prog 3 t129 h87) fun t130 => k88 t130 h87) (X_FlowGrows_10 t125 t46 vs56 t93 t72 t76 R j61) h87) h85
def X_FlowGrows_12 (t114 : Value) (t93 : Value) (vs56 : List Value) (t46 : Value) (t72 : Value) (t76 : Value) (R : Value → AHeap → Prop) (j61 : List Value → AHeap → Prop) (t124 : Value) (h81 : AHeap) : Prop :=
 opt (pk t114 (.bool true) t124) fun t125 => GD t125 false (fun k82 => k82 t93 h81) (fun t127 h83 => GD t125 false (fun k84 => k84 (nth vs56 1) h83) (X_FlowGrows_11 t125 t127 t46 vs56 t93 t72 t76 R j61) h83) h81
def X_FlowGrows_13 (t114 : Value) (t119 : Value) (t93 : Value) (vs56 : List Value) (t46 : Value) (t72 : Value) (t76 : Value) (R : Value → AHeap → Prop) (j61 : List Value → AHeap → Prop) (t123 : Value) (h79 : AHeap) : Prop :=
 GD t114 false (fun k80 => opt (nb [t119, t123] (abin2 Tryd.prog .lss 3 (.tmp 119) (.tmp 123) t119 t123)) fun t124 => k80 t124 h79) (X_FlowGrows_12 t114 t93 vs56 t46 t72 t76 R j61) h79
def X_FlowGrows_14 (t114 : Value) (t120 : Value) (t119 : Value) (t93 : Value) (vs56 : List Value) (t46 : Value) (t72 : Value) (t76 : Value) (R : Value → AHeap → Prop) (j61 : List Value → AHeap → Prop) (t121 : Value) (h75 : AHeap) : Prop :=
 GD t114 false (fun k76 => opt (aindex Tryd.prog 23 t120 t121) fun t122 => k76 t122 h75) (fun t122 h77 => GD t114 false (fun k78 => opt (aload Tryd.prog 3 t122 h77) fun t123 => k78 t123 h77) (X_FlowGrows_13 t114 t119 t93 vs56 t46 t72 t76 R j61) h77) h75
def X_FlowGrows_15 (t114 : Value) (t46 : Value) (vs56 : List Value) (t93 : Value) (t72 : Value) (t76 : Value) (R : Value → AHeap → Prop) (j61 : List Value → AHeap → Prop) (t119 : Value) (h71 : AHeap) : Prop :=
 GD t114 false (fun k72 => k72 t46 h71) (fun t120 h73 => GD t114 false (fun k74 => k74 (nth vs56 1) h73) (X_FlowGrows_14 t114 t120 t119 t93 vs56 t46 t72 t76 R j61) h73) h71
def X_FlowGrows_16 (t114 : Value) (t116 : Value) (t46 : Value) (vs56 : List Value) (t93 : Value) (t72 : Value) (t76 : Value) (R : Value → AHeap → Prop) (j61 : List Value → AHeap → Prop) (t117 : Value) (h67 : AHeap) : Prop :=
 GD t114 false (fun k68 => opt (aindex Tryd.prog 23 t116 t117) fun t118 => k68 t118 h67) (fun t118 h69 => GD t114 false (fun k70 => opt (aload Tryd.prog 3 t118 h69) fun t119 => k70 t119 h69) (X_FlowGrows_15 t114 t46 vs56 t93 t72 t76 R j61) h69) h67
def X_FlowGrows_17 (t68 : Value) (vs56 : List Value) (h60 : AHeap) (t46 : Value) (t93 : Value) (t72 : Value) (t76 : Value) (R : Value → AHeap → Prop) (j61 : List Value → AHeap → Prop) : Prop :=
 opt (aindex Tryd.prog 23 t68 (nth vs56 1)) fun t108 => opt (aload Tryd.prog 3 t108 h60) fun t109 => opt (aindex Tryd.prog 23 t46 (nth vs56 1)) fun t112 => opt (aload Tryd.prog 3 t112 h60) fun t113 => opt (nb [t109, t113] (abin2 Tryd.prog .lss 3 (.tmp 109) (.tmp 113) t109 t113)) fun t114 => GD t114 false (fun k64 => k64 t93 h60) (fun t116 h65 => GD t114 false (fun k66 => k66 (nth vs56 1) h65) (X_FlowGrows_16 t114 t116 t46 vs56 t93 t72 t76 R j61) h65) h60
def X_FlowGrows_18 (vs56 : List Value) (j55 : List Value → AHeap → Prop) (vs62 : List Value) (h63 : AHeap) : Prop :=
 opt (nb [(nth vs56 1), (.int .i64 1)] (abin2 Tryd.prog .add 3 (.tmp 104) (.const (.int .i64 1)) (nth vs56 1) (.int .i64 1))) fun t105 => j55 [(nth vs62 0), t105] h63
def X_FlowGrows_19 (t0 : Value) (j52 : List Value → AHeap → Prop) (t68 : Value) (t46 : Value) (t93 : Value) (t72 : Value) (t76 : Value) (R : Value → AHeap → Prop) (vs56 : List Value) (h57 : AHeap) (j55 : List Value → AHeap → Prop) : Prop :=
 opt (nb [(nth vs56 1), t0] (abin2 Tryd.prog .lss 3 (.tmp 101) (.tmp 102) (nth vs56 1) t0)) fun t103 => CD t103 (fun j58 => j58 [] h57)
 (fun j58 => j52 [(nth vs56 0)] h57)
 (fun vs59 h60 => BK (X_FlowGrows_17 t68 vs56 h60 t46 t93 t72 t76 R)
 (X_FlowGrows_18 vs56 j55))
def X_FlowGrows_20 (t96 : Value) (R : Value → AHeap → Prop) (vs30 : List Value) (t0 : Value) (t68 : Value) (t46 : Value) (t93 : Value) (t72 : Value) (t76 : Value) (t99 : Value) (h48 : AHeap) : Prop :=
 opt (pk t96 (.bool true) t99) fun t100 => CD t100 (fun j49 => rv [(.bool false)] h48 R)
 (fun j49 => j49 [(nth vs30 0)] h48)
 (fun vs50 h51 => BK (fun j52 => LP (X_FlowGrows_19 t0 j52 t68 t46 t93 t72 t76 R)
 [(nth vs50 0), (.int .i64 0)] h51)
 (fun vs53 h54 => rv [(.bool true)] h54 R))
def X_FlowGrows_21 (t96 : Value) (R : Value → AHeap → Prop) (vs30 : List Value) (t0 : Value) (t68 : Value) (t46 : Value) (t93 : Value) (t72 : Value) (t76 : Value) (t98 : Value) (h46 : AHeap) : Prop :=
 GD t96 false (fun k47 => opt (nb [t98, (.int .i64 0)] (abin2 Tryd.prog .neq 25 (.tmp 98) (.const (.int .i64 0)) t98 (.int .i64 0))) fun t99 => k47 t99 h46) (X_FlowGrows_20 t96 R vs30 t0 t68 t46 t93 t72 t76) h46
def X_FlowGrows_22 (t69 : Value) (R : Value → AHeap → Prop) (vs30 : List Value) (t0 : Value) (t68 : Value) (t46 : Value) (t72 : Value) (t76 : Value) (t92 : Value) (h44 : AHeap) : Prop :=
 opt (axt t92 0) fun t93 => opt (axt t92 1) fun t94 => opt (nb [t69, (.int .i64 0)] (abin2 Tryd.prog .neq 25 (.tmp 95) (.const (.int .i64 0)) t69 (.int .i64 0))) fun t96 => GD t96 false (fun k45 => k45 t94 h44) (X_FlowGrows_21 t96 R vs30 t0 t68 t46 t93 t72 t76) h44
def X_FlowGrows_23 (t2 : Value) (t5 : Value) (t0 : Value) (t1 : Value) (R : Value → AHeap → Prop) (vs30 : List Value) (t46 : Value) (t67 : Value) (h36 : AHeap) : Prop :=
 opt (axt t67 0) fun t68 => opt (axt t67 1) fun t69 => optH (nb [] (abuildSlice Tryd.prog 23 0 [] h36)) fun t70 h37 => optH (nb [t70, t2] (abuiltin Tryd.prog .append [23, 23] 23 [t70, t2] h37)) fun t72 h38 => opt (nb [t5, (.int .i64 1023)] (abin2 Tryd.prog .and 3 (.tmp 73) (.const (.int .i64 1023)) t5 (.int .i64 1023))) fun t74 => opt (nb [t74, t0] (abin2 Tryd.prog .rem 3 (.tmp 74) (.tmp 75) t74 t0)) fun t76 => opt (aindex Tryd.prog 23 t72 t76) fun t79 => opt (aload Tryd.prog 3 t79 h38) fun t80 => opt (nb [t80, (.int .i64 1000000)] (abin2 Tryd.prog .lss 3 (.tmp 80) (.const (.int .i64 1000000)) t80 (.int .i64 1000000))) fun t81 => CD t81 (X_FlowGrows_1 t72 t76 h38)
 (fun j39 => j39 [] h38)
 (fun vs40 h41 => callV Tryd.prog (.func (.func 6) #[] #[]) [t0, t1, t72, (.int .i64 1000000)] h41 (X_FlowGrows_22 t69 R vs30 t0 t68 t46 t72 t76))
def X_FlowGrows_24 (t3 : Value) (t0 : Value) (t4 : Value) (t2 : Value) (t5 : Value) (t1 : Value) (R : Value → AHeap → Prop) (vs30 : List Value) (t46 : Value) (t54 : Value) (h33 : AHeap) : Prop :=
 opt (nb [t3, (.int .i64 1023)] (abin2 Tryd.prog .and 3 (.tmp 55) (.const (.int .i64 1023)) t3 (.int .i64 1023))) fun t56 => opt (nb [t56, t0] (abin2 Tryd.prog .rem 3 (.tmp 56) (.tmp 57) t56 t0)) fun t58 => opt (nb [t4, (.int .i64 1023)] (abin2 Tryd.prog .and 3 (.tmp 59) (.const (.int .i64 1023)) t4 (.int .i64 1023))) fun t60 => opt (nb [t60, t0] (abin2 Tryd.prog .rem 3 (.tmp 60) (.tmp 61) t60 t0)) fun t62 => opt (nb [t58, t62] (abuild Tryd.prog 28 [(0, t58), (1, t62)])) fun t63 => optH (nb [t63] (abuildSlice Tryd.prog 22 1 [(0, t63)] h33)) fun t64 h34 => optH (nb [t54, t64] (abuiltin Tryd.prog .append [22, 22] 22 [t54, t64] h34)) fun t65 h35 => callD Tryd.prog 6 [t0, t65, t2, (.int .i64 1000000)] h35 (X_FlowGrows_23 t2 t5 t0 t1 R vs30 t46)
def X_FlowGrows_25 (t1 : Value) (t3 : Value) (t0 : Value) (t4 : Value) (t2 : Value) (t5 : Value) (R : Value → AHeap → Prop) (t46 : Value) (vs30 : List Value) (h31 : AHeap) : Prop :=
 optH (nb [] (abuildSlice Tryd.prog 22 0 [] h31)) fun t52 h32 => appV Tryd.prog [22, 22] 22 [t52, t1] (some (h31.next, h32.next)) h32 h32 (X_FlowGrows_24 t3 t0 t4 t2 t5 t1 R vs30 t46)
def X_FlowGrows_26 (R : Value → AHeap → Prop) (vs26 : List Value) (t1 : Value) (t3 : Value) (t0 : Value) (t4 : Value) (t2 : Value) (t5 : Value) (t45 : Value) (h28 : AHeap) : Prop :=
 opt (axt t45 0) fun t46 => opt (axt t45 1) fun t47 => opt (nb [t47, (.int .i64 0)] (abin2 Tryd.prog .neq 25 (.tmp 48) (.const (.int .i64 0)) t47 (.int .i64 0))) fun t49 => CD t49 (fun j29 => rv [(.bool true)] h28 R)
 (fun j29 => j29 [(nth vs26 0)] h28)
 (X_FlowGrows_25 t1 t3 t0 t4 t2 t5 R t46)
def X_FlowGrows_27 (t34 : Value) (R : Value → AHeap → Prop) (vs3 : List Value) (t0 : Value) (t1 : Value) (t2 : Value) (t3 : Value) (t4 : Value) (t5 : Value) (t39 : Value) (h24 : AHeap) : Prop :=
 opt (pk t34 (.bool true) t39) fun t40 => CD t40 (fun j25 => rv [(.bool true)] h24 R)
 (fun j25 => j25 [(nth vs3 0)] h24)
 (fun vs26 h27 => callV Tryd.prog (.func (.func 6) #[] #[]) [t0, t1, t2, (.int .i64 1000000)] h27 (X_FlowGrows_26 R vs26 t1 t3 t0 t4 t2 t5))
def X_FlowGrows_28 (t34 : Value) (t37 : Value) (R : Value → AHeap → Prop) (vs3 : List Value) (t0 : Value) (t1 : Value) (t2 : Value) (t3 : Value) (t4 : Value) (t5 : Value) (t38 : Value) (h22 : AHeap) : Prop :=
 GD t34 false (fun k23 => opt (nb [t37, t38] (abin2 Tryd.prog .neq 3 (.tmp 37) (.tmp 38) t37 t38)) fun t39 => k23 t39 h22) (X_FlowGrows_27 t34 R vs3 t0 t1 t2 t3 t4 t5) h22
def X_FlowGrows_29 (t34 : Value) (t0 : Value) (R : Value → AHeap → Prop) (vs3 : List Value) (t1 : Value) (t2 : Value) (t3 : Value) (t4 : Value) (t5 : Value) (t36 : Value) (h17 : AHeap) : Prop :=
 GD t34 false (fun k18 => optH (nb [t36] (abuiltin Tryd.prog .len [23] 3 [t36] h17)) fun t37 h20 => k18 t37 h20) (fun t37 h19 => GD t34 false (fun k21 => k21 t0 h19) (X_FlowGrows_28 t34 t37 R vs3 t0 t1 t2 t3 t4 t5) h19) h17
def X_FlowGrows_30 (t29 : Value) (t2 : Value) (t0 : Value) (R : Value → AHeap → Prop) (vs3 : List Value) (t1 : Value) (t3 : Value) (t4 : Value) (t5 : Value) (t32 : Value) (h12 : AHeap) : Prop :=
 GD t29 false (fun k14 => opt (nb [t32, (.int .i64 100)] (abin2 Tryd.prog .gtr 3 (.tmp 32) (.const (.int .i64 100)) t32 (.int .i64 100))) fun t33 => k14 t33 h12) (fun t33 h15 => opt (pk t29 (.bool true) t33) fun t34 => GD t34 false (fun k16 => k16 t2 h15) (X_FlowGrows_29 t34 t0 R vs3 t1 t2 t3 t4 t5) h15) h12
def X_FlowGrows_31 (t25 : Value) (t1 : Value) (t2 : Value) (t0 : Value) (R : Value → AHeap → Prop) (vs3 : List Value) (t3 : Value) (t4 : Value) (t5 : Value) (t28 : Value) (h8 : AHeap) : Prop :=
 opt (pk t25 (.bool true) t28) fun t29 => GD t29 false (fun k9 => k9 t1 h8) (fun t31 h10 => GD t29 false (fun k11 => optH (nb [t31] (abuiltin Tryd.prog .len [22] 3 [t31] h10)) fun t32 h13 => k11 t32 h13) (X_FlowGrows_30 t29 t2 t0 R vs3 t1 t3 t4 t5) h10) h8
def X_FlowGrows_32 (t25 : Value) (t1 : Value) (t2 : Value) (t0 : Value) (R : Value → AHeap → Prop) (vs3 : List Value) (t3 : Value) (t4 : Value) (t5 : Value) (t27 : Value) (h6 : AHeap) : Prop :=
 GD t25 false (fun k7 => opt (nb [t27, (.int .i64 60)] (abin2 Tryd.prog .gtr 3 (.tmp 27) (.const (.int .i64 60)) t27 (.int .i64 60))) fun t28 => k7 t28 h6) (X_FlowGrows_31 t25 t1 t2 t0 R vs3 t3 t4 t5) h6
def X_FlowGrows_33 (t0 : Value) (t1 : Value) (t2 : Value) (R : Value → AHeap → Prop) (t3 : Value) (t4 : Value) (t5 : Value) (vs3 : List Value) (h4 : AHeap) : Prop :=
 opt (nb [t0, (.int .i64 1)] (abin2 Tryd.prog .lss 3 (.tmp 24) (.const (.int .i64 1)) t0 (.int .i64 1))) fun t25 => GD t25 false (fun k5 => k5 t0 h4) (X_FlowGrows_32 t25 t1 t2 t0 R vs3 t3 t4 t5) h4
def X_FlowGrows (h : AHeap) (t0 t1 t2 t3 t4 t5 : Value) (R : Value → AHeap → Prop) : Prop :=
 callV Tryd.prog (.func (.func 5) #[] #[]) [] h (fun t22 h1 => opt (aun Tryd.prog .not t22) fun t23 => CD t23 (fun j2 => rv [(.bool false)] h1 R)
 (fun j2 => j2 [(.bool false)] h1)
 (X_FlowGrows_33 t0 t1 t2 R t3 t4 t5))
theorem X_FlowGrows_eq (h : AHeap) (t0 t1 t2 t3 t4 t5 : Value) (R : Value → AHeap → Prop) : wpF Tryd.prog (drawY Tryd.prog qs) 200 4 [t0, t1, t2, t3, t4, t5] h R = X_FlowGrows h t0 t1 t2 t3 t4 t5 R := by kernel_rfl
theorem X_FlowGrows_ok {h : AHeap} {t0 t1 t2 t3 t4 t5 : Value} {R : Value → AHeap → Prop} (hw : X_FlowGrows h t0 t1 t2 t3 t4 t5 R) : DC Tryd.prog 4 [t0, t1, t2, t3, t4, t5] h R := DC_of_wpY mixed (n := 200) (by rw [X_FlowGrows_eq]; exact hw)

end Go.Fw
