/- -/
import Derived.Test.YtikgepmgdhkngaaGreatDoorChecked
import Derived.KernelRfl
import Derived.Test.YtikgepmgdhkngaaGreatDoorAiHold
import Derived.Test.YtikgepmgdhkngaaGreatDoorAiD
import Derived.Test.YtikgepmgdhkngaaGreatDoorAiV
namespace Go.Rtl
open Go.Ai Go.Proofs
set_option linter.unusedVariables false
set_option maxRecDepth 100000
def qs : FuncId → Nat := fun g => [0,0,0,0,0,0,2,2,0,0,0,0,0,0,0,0,0,0,0,0,0,0,0,0,0,0,0,0,0,0,0,0,0,0,0,0,0,0,0,0,0,0,0,0,0,0,0,0,0,0,0,2,3].getD g 0
theorem mixed : Tryz.prog.follows .mixedOrders = true := Checked.mixed Tryz.checked
/-- plumbob/plumboblaw12.RtlGood -/
def X_RtlGood_1 (t12 : Value) (t14 : Value) (R : Value → AHeap → Prop) (t15 : Value) (h17 : AHeap) : Prop :=
 GD t12 true (fun k18 => callD Tryz.prog 8 [t14, t15] h17 (fun t16 h20 => k18 t16 h20)) (fun t16 h19 => opt (pk t12 t16 (.bool false)) fun t17 => rv [t17] h19 R) h17
def X_RtlGood_2 (t9 : Value) (t1 : Value) (h11 : AHeap) (t3 : Value) (R : Value → AHeap → Prop) (t11 : Value) : Prop :=
 opt (nb [t9, t11] (abin2 Tryz.prog .eql 4 (.tmp 9) (.tmp 11) t9 t11)) fun t12 => GD t12 true (fun k14 => opt (aload Tryz.prog 25 t1 h11) fun t14 => k14 t14 h11) (fun t14 h15 => GD t12 true (fun k16 => opt (aload Tryz.prog 25 t3 h15) fun t15 => k16 t15 h15) (X_RtlGood_1 t12 t14 R) h15) h11
def X_RtlGood_3 (t1 : Value) (R : Value → AHeap → Prop) (t7 : Value) (h7 : AHeap) : Prop :=
 opt (azero Tryz.prog 25) fun z8 => nw h7 (Value.cells z8).toList 25 fun t3 h9 => opt (nb [t7] (astore Tryz.prog 25 t3 t7 h9)) fun h11 => opt (aload Tryz.prog 25 t1 h11) fun t8 => callQ Tryz.prog 6 [t8] h11 (fun t9 => opt (aload Tryz.prog 25 t3 h11) fun t10 => callQ Tryz.prog 7 [t10] h11 (X_RtlGood_2 t9 t1 h11 t3 R))
def X_RtlGood_4 (R : Value → AHeap → Prop) (t1 : Value) (t4 : Value) (h3 : AHeap) : Prop :=
 opt (aun Tryz.prog .not t4) fun t5 => CD t5 (fun j4 => rv [(.bool false)] h3 R)
 (fun j4 => j4 [(.bool false)] h3)
 (fun vs5 h6 => opt (aload Tryz.prog 25 t1 h6) fun t6 => callV Tryz.prog (.func (.func 5) #[] #[]) [t6] h6 (X_RtlGood_3 t1 R))
def X_RtlGood (h : AHeap) (t0 : Value) (R : Value → AHeap → Prop) : Prop :=
 opt (nb [t0] (some (Value.cells t0).toList)) fun c1 => nw h c1 25 fun t1 h2 => callV Tryz.prog (.func (.func 4) #[] #[]) [] h2 (X_RtlGood_4 R t1)
theorem X_RtlGood_eq (h : AHeap) (t0 : Value) (R : Value → AHeap → Prop) : wpF Tryz.prog (drawW Tryz.prog qs) 200 3 [t0] h R = X_RtlGood h t0 R := by kernel_rfl
theorem X_RtlGood_ok {h : AHeap} {t0 : Value} {R : Value → AHeap → Prop} (hw : X_RtlGood h t0 R) : DC Tryz.prog 3 [t0] h R := DC_of_wp mixed (n := 200) (by rw [X_RtlGood_eq]; exact hw)

/-- plumbob/plumbobref12.Copy -/
def X_Copy_1 (t44 : Value) (vs40 : List Value) (j46 : List Value → AHeap → Prop) (t53 : Value) (h50 : AHeap) : Prop :=
 opt (aindex Tryz.prog 46 t44 (nth vs40 0)) fun t54 => opt (afield Tryz.prog 43 t54 6) fun t55 => opt (nb [t53] (astore Tryz.prog 22 t55 t53 h50)) fun h52 => j46 [] h52
def X_Copy_2 (t5 : Value) (h45 : AHeap) (vs40 : List Value) (j46 : List Value → AHeap → Prop) : Prop :=
 opt (afield Tryz.prog 48 t5 5) fun t43 => opt (aload Tryz.prog 46 t43 h45) fun t44 => optH (nb [] (abuildSlice Tryz.prog 22 0 [] h45)) fun t46 h49 => opt (afield Tryz.prog 48 t5 5) fun t47 => opt (aload Tryz.prog 46 t47 (cut h49 h45.next h49.next)) fun t48 => opt (aindex Tryz.prog 46 t48 (nth vs40 0)) fun t50 => opt (afield Tryz.prog 43 t50 6) fun t51 => opt (aload Tryz.prog 22 t51 (cut h49 h45.next h49.next)) fun t52 => appV Tryz.prog [22, 22] 22 [t46, t52] (some (h45.next, h49.next)) h49 h49 (X_Copy_1 t44 vs40 j46)
def X_Copy_3 (t5 : Value) (vs40 : List Value) (j39 : List Value → AHeap → Prop) (vs44 : List Value) (h45 : AHeap) : Prop :=
 BK (X_Copy_2 t5 h45 vs40)
 (fun vs47 h48 => opt (nb [(nth vs40 0), (.int .i64 1)] (abin2 Tryz.prog .add 3 (.tmp 41) (.const (.int .i64 1)) (nth vs40 0) (.int .i64 1))) fun t42 => j39 [t42] h48)
def X_Copy_4 (t5 : Value) (j36 : List Value → AHeap → Prop) (vs40 : List Value) (h41 : AHeap) (j39 : List Value → AHeap → Prop) : Prop :=
 opt (afield Tryz.prog 48 t5 5) fun t37 => opt (aload Tryz.prog 46 t37 h41) fun t38 => optH (nb [t38] (abuiltin Tryz.prog .len [46] 3 [t38] h41)) fun t39 h42 => opt (nb [(nth vs40 0), t39] (abin2 Tryz.prog .lss 3 (.tmp 36) (.tmp 39) (nth vs40 0) t39)) fun t40 => CD t40 (fun j43 => j43 [] h42)
 (fun j43 => j36 [] h42)
 (X_Copy_3 t5 vs40 j39)
def X_Copy_5 (t3 : Value) (t5 : Value) (j21 : List Value → AHeap → Prop) (vs37 : List Value) (h38 : AHeap) : Prop :=
 opt (afield Tryz.prog 25 t3 1) fun t56 => opt (aload Tryz.prog 23 t56 h38) fun t57 => opt (aload Tryz.prog 48 t5 h38) fun t58 => optH (nb [t58] (abuildSlice Tryz.prog 23 1 [(0, t58)] h38)) fun t59 h53 => optH (nb [t57, t59] (abuiltin Tryz.prog .append [23, 23] 23 [t57, t59] h53)) fun t60 h54 => opt (afield Tryz.prog 25 t3 1) fun t61 => opt (nb [t60] (astore Tryz.prog 23 t61 t60 h54)) fun h56 => j21 [] h56
def X_Copy_6 (t1 : Value) (h20 : AHeap) (vs15 : List Value) (t3 : Value) (j21 : List Value → AHeap → Prop) : Prop :=
 opt (afield Tryz.prog 25 t1 1) fun t21 => opt (aload Tryz.prog 23 t21 h20) fun t22 => opt (aindex Tryz.prog 23 t22 (nth vs15 0)) fun t24 => opt (aload Tryz.prog 48 t24 h20) fun t25 => opt (azero Tryz.prog 48) fun z24 => nw h20 (Value.cells z24).toList 48 fun t5 h25 => opt (nb [t25] (astore Tryz.prog 48 t5 t25 h25)) fun h27 => optH (nb [] (abuildSlice Tryz.prog 22 0 [] h27)) fun t26 h28 => opt (afield Tryz.prog 48 t5 1) fun t27 => opt (aload Tryz.prog 22 t27 h28) fun t28 => optH (nb [t26, t28] (abuiltin Tryz.prog .append [22, 22] 22 [t26, t28] h28)) fun t29 h29 => opt (afield Tryz.prog 48 t5 1) fun t30 => opt (nb [t29] (astore Tryz.prog 22 t30 t29 h29)) fun h31 => optH (nb [] (abuildSlice Tryz.prog 46 0 [] h31)) fun t31 h32 => opt (afield Tryz.prog 48 t5 5) fun t32 => opt (aload Tryz.prog 46 t32 h32) fun t33 => optH (nb [t31, t33] (abuiltin Tryz.prog .append [46, 46] 46 [t31, t33] h32)) fun t34 h33 => opt (afield Tryz.prog 48 t5 5) fun t35 => opt (nb [t34] (astore Tryz.prog 46 t35 t34 h33)) fun h35 => BK (fun j36 => LP (X_Copy_4 t5 j36)
 [(.int .i64 0)] h35)
 (X_Copy_5 t3 t5 j21)
def X_Copy_7 (t1 : Value) (vs15 : List Value) (t3 : Value) (j14 : List Value → AHeap → Prop) (vs19 : List Value) (h20 : AHeap) : Prop :=
 BK (X_Copy_6 t1 h20 vs15 t3)
 (fun vs22 h23 => opt (nb [(nth vs15 0), (.int .i64 1)] (abin2 Tryz.prog .add 3 (.tmp 19) (.const (.int .i64 1)) (nth vs15 0) (.int .i64 1))) fun t20 => j14 [t20] h23)
def X_Copy_8 (t1 : Value) (j11 : List Value → AHeap → Prop) (t3 : Value) (vs15 : List Value) (h16 : AHeap) (j14 : List Value → AHeap → Prop) : Prop :=
 opt (afield Tryz.prog 25 t1 1) fun t15 => opt (aload Tryz.prog 23 t15 h16) fun t16 => optH (nb [t16] (abuiltin Tryz.prog .len [23] 3 [t16] h16)) fun t17 h17 => opt (nb [(nth vs15 0), t17] (abin2 Tryz.prog .lss 3 (.tmp 14) (.tmp 17) (nth vs15 0) t17)) fun t18 => CD t18 (fun j18 => j18 [] h17)
 (fun j18 => j11 [] h17)
 (X_Copy_7 t1 vs15 t3 j14)
def X_Copy_9 (t1 : Value) (h4 : AHeap) (h5 : AHeap) (t2 : Value) (R : Value → AHeap → Prop) (t10 : Value) (h6 : AHeap) : Prop :=
 opt (afield Tryz.prog 25 t1 2) fun t11 => opt (aload Tryz.prog 3 t11 (cut (cut h6 h4.next h5.next) h5.next h6.next)) fun t12 => opt (nb [t10, t12] (abuild Tryz.prog 25 [(0, t10), (2, t12)])) fun t13 => opt (azero Tryz.prog 25) fun z7 => nw h6 (Value.cells z7).toList 25 fun t3 h8 => opt (nb [t13] (astore Tryz.prog 25 t3 t13 h8)) fun h10 => BK (fun j11 => LP (X_Copy_8 t1 j11 t3)
 [(.int .i64 0)] h10)
 (fun vs12 h13 => opt (aload Tryz.prog 25 t3 h13) fun t62 => opt (nb [t62] (astore Tryz.prog 25 t2 t62 h13)) fun h58 => opt (aload Tryz.prog 25 t2 h58) fun r0 => rv [r0] h58 R)
def X_Copy (h : AHeap) (t0 : Value) (R : Value → AHeap → Prop) : Prop :=
 opt (nb [t0] (some (Value.cells t0).toList)) fun c1 => nw h c1 25 fun t1 h2 => opt (azero Tryz.prog 25) fun z3 => nw h2 (Value.cells z3).toList 25 fun t2 h4 => optH (nb [] (abuildSlice Tryz.prog 22 0 [] h4)) fun t7 h5 => opt (afield Tryz.prog 25 t1 0) fun t8 => opt (aload Tryz.prog 22 t8 (cut h5 h4.next h5.next)) fun t9 => appV Tryz.prog [22, 22] 22 [t7, t9] (some (h4.next, h5.next)) h5 h5 (X_Copy_9 t1 h4 h5 t2 R)
theorem X_Copy_eq (h : AHeap) (t0 : Value) (R : Value → AHeap → Prop) : wpF Tryz.prog (drawV Tryz.prog qs) 200 5 [t0] h R = X_Copy h t0 R := by kernel_rfl
theorem X_Copy_ok {h : AHeap} {t0 : Value} {R : Value → AHeap → Prop} (hw : X_Copy h t0 R) : DC Tryz.prog 5 [t0] h R := DC_of_wpV mixed (n := 200) (by rw [X_Copy_eq]; exact hw)

/-- plumbob/rtl.Good -/
def X_rGood_1 (t36 : Value) (R : Value → AHeap → Prop) (vs31 : List Value) (j36 : List Value → AHeap → Prop) (t39 : Value) (h42 : AHeap) : Prop :=
 opt (pk t36 (.bool true) t39) fun t40 => CD t40 (fun j43 => rv [(.bool false)] h42 R)
 (fun j43 => j43 [(nth vs31 0)] h42)
 (fun vs44 h45 => j36 [(nth vs44 0)] h45)
def X_rGood_2 (t36 : Value) (R : Value → AHeap → Prop) (vs31 : List Value) (j36 : List Value → AHeap → Prop) (t38 : Value) (h40 : AHeap) : Prop :=
 GD t36 false (fun k41 => opt (nb [t38, (.int .i64 65536)] (abin2 Tryz.prog .gtr 3 (.tmp 38) (.const (.int .i64 65536)) t38 (.int .i64 65536))) fun t39 => k41 t39 h40) (X_rGood_1 t36 R vs31 j36) h40
def X_rGood_3 (t29 : Value) (vs31 : List Value) (h35 : AHeap) (R : Value → AHeap → Prop) (j36 : List Value → AHeap → Prop) : Prop :=
 opt (aindex Tryz.prog 22 t29 (nth vs31 1)) fun t33 => opt (aload Tryz.prog 3 t33 h35) fun t34 => opt (nb [t34, (.int .i64 0)] (abin2 Tryz.prog .lss 3 (.tmp 35) (.const (.int .i64 0)) t34 (.int .i64 0))) fun t36 => GD t36 false (fun k39 => k39 t34 h35) (X_rGood_2 t36 R vs31 j36) h35
def X_rGood_4 (vs31 : List Value) (j30 : List Value → AHeap → Prop) (vs37 : List Value) (h38 : AHeap) : Prop :=
 opt (nb [(nth vs31 1), (.int .i64 1)] (abin2 Tryz.prog .add 3 (.tmp 31) (.const (.int .i64 1)) (nth vs31 1) (.int .i64 1))) fun t41 => j30 [(nth vs37 0), t41] h38
def X_rGood_5 (t30 : Value) (j27 : List Value → AHeap → Prop) (t29 : Value) (R : Value → AHeap → Prop) (vs31 : List Value) (h32 : AHeap) (j30 : List Value → AHeap → Prop) : Prop :=
 opt (nb [(nth vs31 1), t30] (abin2 Tryz.prog .lss 3 (.tmp 31) (.tmp 30) (nth vs31 1) t30)) fun t32 => CD t32 (fun j33 => j33 [] h32)
 (fun j33 => j27 [(nth vs31 0)] h32)
 (fun vs34 h35 => BK (X_rGood_3 t29 vs31 h35 R)
 (X_rGood_4 vs31 j30))
def X_rGood_6 (t89 : Value) (R : Value → AHeap → Prop) (vs72 : List Value) (j133 : List Value → AHeap → Prop) (t113 : Value) (h183 : AHeap) : Prop :=
 opt (pk t89 t113 (.bool false)) fun t114 => CD t114 (fun j184 => rv [(.bool false)] h183 R)
 (fun j184 => j184 [(nth vs72 0)] h183)
 (fun vs185 h186 => j133 [(nth vs185 0)] h186)
def X_rGood_7 (t103 : Value) (t105 : Value) (t89 : Value) (R : Value → AHeap → Prop) (vs72 : List Value) (j133 : List Value → AHeap → Prop) (t111 : Value) (h179 : AHeap) : Prop :=
 GD t103 false (fun k180 => opt (nb [t105, t111] (abin2 Tryz.prog .gtr 2 (.tmp 105) (.tmp 111) t105 t111)) fun t112 => k180 t112 h179) (fun t112 h181 => GD t89 true (fun k182 => opt (pk t103 (.bool true) t112) fun t113 => k182 t113 h181) (X_rGood_6 t89 R vs72 j133) h181) h179
def X_rGood_8 (t103 : Value) (t107 : Value) (t105 : Value) (t89 : Value) (R : Value → AHeap → Prop) (vs72 : List Value) (j133 : List Value → AHeap → Prop) (t109 : Value) (h175 : AHeap) : Prop :=
 GD t103 false (fun k176 => opt (aindex Tryz.prog 22 t107 t109) fun t110 => k176 t110 h175) (fun t110 h177 => GD t103 false (fun k178 => opt (aload Tryz.prog 3 t110 h177) fun t111 => k178 t111 h177) (X_rGood_7 t103 t105 t89 R vs72 j133) h177) h175
def X_rGood_9 (t103 : Value) (t8 : Value) (t105 : Value) (t89 : Value) (R : Value → AHeap → Prop) (vs72 : List Value) (j133 : List Value → AHeap → Prop) (t107 : Value) (h171 : AHeap) : Prop :=
 GD t103 false (fun k172 => opt (afield Tryz.prog 43 t8 1) fun t108 => k172 t108 h171) (fun t108 h173 => GD t103 false (fun k174 => opt (aload Tryz.prog 3 t108 h173) fun t109 => k174 t109 h173) (X_rGood_8 t103 t107 t105 t89 R vs72 j133) h173) h171
def X_rGood_10 (t103 : Value) (t1 : Value) (t8 : Value) (t89 : Value) (R : Value → AHeap → Prop) (vs72 : List Value) (j133 : List Value → AHeap → Prop) (t105 : Value) (h167 : AHeap) : Prop :=
 GD t103 false (fun k168 => opt (afield Tryz.prog 25 t1 0) fun t106 => k168 t106 h167) (fun t106 h169 => GD t103 false (fun k170 => opt (aload Tryz.prog 22 t106 h169) fun t107 => k170 t107 h169) (X_rGood_9 t103 t8 t105 t89 R vs72 j133) h169) h167
def X_rGood_11 (t8 : Value) (t1 : Value) (t89 : Value) (R : Value → AHeap → Prop) (vs72 : List Value) (j133 : List Value → AHeap → Prop) (t103 : Value) (h163 : AHeap) : Prop :=
 GD t103 false (fun k164 => opt (afield Tryz.prog 43 t8 5) fun t104 => k164 t104 h163) (fun t104 h165 => GD t103 false (fun k166 => opt (aload Tryz.prog 2 t104 h165) fun t105 => k166 t105 h165) (X_rGood_10 t103 t1 t8 t89 R vs72 j133) h165) h163
def X_rGood_12 (t89 : Value) (t98 : Value) (t8 : Value) (t1 : Value) (R : Value → AHeap → Prop) (vs72 : List Value) (j133 : List Value → AHeap → Prop) (t101 : Value) (h159 : AHeap) : Prop :=
 GD t89 true (fun k160 => opt (pk t98 (.bool true) t101) fun t102 => k160 t102 h159) (fun t102 h161 => GD t89 true (fun k162 => k162 t102 h161) (X_rGood_11 t8 t1 t89 R vs72 j133) h161) h159
def X_rGood_13 (t98 : Value) (t89 : Value) (t8 : Value) (t1 : Value) (R : Value → AHeap → Prop) (vs72 : List Value) (j133 : List Value → AHeap → Prop) (t100 : Value) (h157 : AHeap) : Prop :=
 GD t98 false (fun k158 => opt (nb [t100, (.int .i64 0)] (abin2 Tryz.prog .lss 2 (.tmp 100) (.const (.int .i64 0)) t100 (.int .i64 0))) fun t101 => k158 t101 h157) (X_rGood_12 t89 t98 t8 t1 R vs72 j133) h157
def X_rGood_14 (t8 : Value) (t89 : Value) (t1 : Value) (R : Value → AHeap → Prop) (vs72 : List Value) (j133 : List Value → AHeap → Prop) (t98 : Value) (h153 : AHeap) : Prop :=
 GD t98 false (fun k154 => opt (afield Tryz.prog 43 t8 5) fun t99 => k154 t99 h153) (fun t99 h155 => GD t98 false (fun k156 => opt (aload Tryz.prog 2 t99 h155) fun t100 => k156 t100 h155) (X_rGood_13 t98 t89 t8 t1 R vs72 j133) h155) h153
def X_rGood_15 (t89 : Value) (t8 : Value) (t1 : Value) (R : Value → AHeap → Prop) (vs72 : List Value) (j133 : List Value → AHeap → Prop) (t96 : Value) (h148 : AHeap) : Prop :=
 GD t89 true (fun k150 => opt (aun Tryz.prog .not t96) fun t97 => k150 t97 h148) (fun t97 h151 => GD t89 true (fun k152 => k152 t97 h151) (X_rGood_14 t8 t89 t1 R vs72 j133) h151) h148
def X_rGood_16 (t89 : Value) (t92 : Value) (t8 : Value) (t1 : Value) (R : Value → AHeap → Prop) (vs72 : List Value) (j133 : List Value → AHeap → Prop) (t94 : Value) (h143 : AHeap) : Prop :=
 GD t89 true (fun k144 => optH (nb [t94] (abuiltin Tryz.prog .len [22] 3 [t94] h143)) fun t95 _ => k144 t95 h143) (fun t95 h145 => GD t89 true (fun k147 => callD Tryz.prog 15 [t92, t95] h145 (fun t96 h149 => k147 t96 h149)) (X_rGood_15 t89 t8 t1 R vs72 j133) h145) h143
def X_rGood_17 (t89 : Value) (t1 : Value) (t8 : Value) (R : Value → AHeap → Prop) (vs72 : List Value) (j133 : List Value → AHeap → Prop) (t92 : Value) (h139 : AHeap) : Prop :=
 GD t89 true (fun k140 => opt (afield Tryz.prog 25 t1 0) fun t93 => k140 t93 h139) (fun t93 h141 => GD t89 true (fun k142 => opt (aload Tryz.prog 22 t93 h141) fun t94 => k142 t94 h141) (X_rGood_16 t89 t92 t8 t1 R vs72 j133) h141) h139
def X_rGood_18 (t8 : Value) (h132 : AHeap) (t1 : Value) (R : Value → AHeap → Prop) (vs72 : List Value) (j133 : List Value → AHeap → Prop) : Prop :=
 opt (afield Tryz.prog 43 t8 0) fun t87 => opt (aload Tryz.prog 3 t87 h132) fun t88 => opt (nb [t88, (.int .i64 8)] (abin2 Tryz.prog .eql 3 (.tmp 88) (.const (.int .i64 8)) t88 (.int .i64 8))) fun t89 => GD t89 true (fun k136 => opt (afield Tryz.prog 43 t8 1) fun t91 => k136 t91 h132) (fun t91 h137 => GD t89 true (fun k138 => opt (aload Tryz.prog 3 t91 h137) fun t92 => k138 t92 h137) (X_rGood_17 t89 t1 t8 R vs72 j133) h137) h132
def X_rGood_19 (t62 : Value) (R : Value → AHeap → Prop) (t8 : Value) (t1 : Value) (vs72 : List Value) (j84 : List Value → AHeap → Prop) (t84 : Value) (h132 : AHeap) : Prop :=
 opt (pk t62 t84 (.bool false)) fun t85 => CD t85 (fun j133 => rv [(.bool false)] h132 R)
 (X_rGood_18 t8 h132 t1 R vs72)
 (fun vs134 h135 => j84 [(nth vs134 0)] h135)
def X_rGood_20 (t71 : Value) (t79 : Value) (t62 : Value) (R : Value → AHeap → Prop) (t8 : Value) (t1 : Value) (vs72 : List Value) (j84 : List Value → AHeap → Prop) (t82 : Value) (h127 : AHeap) : Prop :=
 GD t71 false (fun k129 => opt (nb [t79, t82] (abin2 Tryz.prog .neq 3 (.tmp 79) (.tmp 82) t79 t82)) fun t83 => k129 t83 h127) (fun t83 h130 => GD t62 true (fun k131 => opt (pk t71 (.bool true) t83) fun t84 => k131 t84 h130) (X_rGood_19 t62 R t8 t1 vs72 j84) h130) h127
def X_rGood_21 (t71 : Value) (t79 : Value) (t62 : Value) (R : Value → AHeap → Prop) (t8 : Value) (t1 : Value) (vs72 : List Value) (j84 : List Value → AHeap → Prop) (t80 : Value) (h123 : AHeap) : Prop :=
 GD t71 false (fun k124 => opt (aload Tryz.prog 22 t80 h123) fun t81 => k124 t81 h123) (fun t81 h125 => GD t71 false (fun k126 => optH (nb [t81] (abuiltin Tryz.prog .len [22] 3 [t81] h125)) fun t82 _ => k126 t82 h125) (X_rGood_20 t71 t79 t62 R t8 t1 vs72 j84) h125) h123
def X_rGood_22 (t71 : Value) (t8 : Value) (t62 : Value) (R : Value → AHeap → Prop) (t1 : Value) (vs72 : List Value) (j84 : List Value → AHeap → Prop) (t78 : Value) (h118 : AHeap) : Prop :=
 GD t71 false (fun k119 => optH (nb [t78] (abuiltin Tryz.prog .len [22] 3 [t78] h118)) fun t79 _ => k119 t79 h118) (fun t79 h120 => GD t71 false (fun k122 => opt (afield Tryz.prog 43 t8 6) fun t80 => k122 t80 h120) (X_rGood_21 t71 t79 t62 R t8 t1 vs72 j84) h120) h118
def X_rGood_23 (t71 : Value) (t8 : Value) (t62 : Value) (R : Value → AHeap → Prop) (t1 : Value) (vs72 : List Value) (j84 : List Value → AHeap → Prop) (t76 : Value) (h114 : AHeap) : Prop :=
 GD t71 false (fun k115 => opt (afield Tryz.prog 48 t76 1) fun t77 => k115 t77 h114) (fun t77 h116 => GD t71 false (fun k117 => opt (aload Tryz.prog 22 t77 h116) fun t78 => k117 t78 h116) (X_rGood_22 t71 t8 t62 R t1 vs72 j84) h116) h114
def X_rGood_24 (t71 : Value) (t73 : Value) (t8 : Value) (t62 : Value) (R : Value → AHeap → Prop) (t1 : Value) (vs72 : List Value) (j84 : List Value → AHeap → Prop) (t74 : Value) (h110 : AHeap) : Prop :=
 GD t71 false (fun k111 => opt (aload Tryz.prog 3 t74 h110) fun t75 => k111 t75 h110) (fun t75 h112 => GD t71 false (fun k113 => opt (aindex Tryz.prog 23 t73 t75) fun t76 => k113 t76 h112) (X_rGood_23 t71 t8 t62 R t1 vs72 j84) h112) h110
def X_rGood_25 (t71 : Value) (t8 : Value) (t62 : Value) (R : Value → AHeap → Prop) (t1 : Value) (vs72 : List Value) (j84 : List Value → AHeap → Prop) (t72 : Value) (h106 : AHeap) : Prop :=
 GD t71 false (fun k107 => opt (aload Tryz.prog 23 t72 h106) fun t73 => k107 t73 h106) (fun t73 h108 => GD t71 false (fun k109 => opt (afield Tryz.prog 43 t8 1) fun t74 => k109 t74 h108) (X_rGood_24 t71 t73 t8 t62 R t1 vs72 j84) h108) h106
def X_rGood_26 (t62 : Value) (t1 : Value) (t8 : Value) (R : Value → AHeap → Prop) (vs72 : List Value) (j84 : List Value → AHeap → Prop) (t70 : Value) (h102 : AHeap) : Prop :=
 GD t62 true (fun k103 => k103 t70 h102) (fun t71 h104 => GD t71 false (fun k105 => opt (afield Tryz.prog 25 t1 1) fun t72 => k105 t72 h104) (X_rGood_25 t71 t8 t62 R t1 vs72 j84) h104) h102
def X_rGood_27 (t62 : Value) (t65 : Value) (t1 : Value) (t8 : Value) (R : Value → AHeap → Prop) (vs72 : List Value) (j84 : List Value → AHeap → Prop) (t68 : Value) (h96 : AHeap) : Prop :=
 GD t62 true (fun k98 => callD Tryz.prog 15 [t65, t68] h96 (fun t69 h100 => k98 t69 h100)) (fun t69 h99 => GD t62 true (fun k101 => opt (aun Tryz.prog .not t69) fun t70 => k101 t70 h99) (X_rGood_26 t62 t1 t8 R vs72 j84) h99) h96
def X_rGood_28 (t62 : Value) (t65 : Value) (t1 : Value) (t8 : Value) (R : Value → AHeap → Prop) (vs72 : List Value) (j84 : List Value → AHeap → Prop) (t66 : Value) (h92 : AHeap) : Prop :=
 GD t62 true (fun k93 => opt (aload Tryz.prog 23 t66 h92) fun t67 => k93 t67 h92) (fun t67 h94 => GD t62 true (fun k95 => optH (nb [t67] (abuiltin Tryz.prog .len [23] 3 [t67] h94)) fun t68 _ => k95 t68 h94) (X_rGood_27 t62 t65 t1 t8 R vs72 j84) h94) h92
def X_rGood_29 (t62 : Value) (t1 : Value) (t8 : Value) (R : Value → AHeap → Prop) (vs72 : List Value) (j84 : List Value → AHeap → Prop) (t64 : Value) (h88 : AHeap) : Prop :=
 GD t62 true (fun k89 => opt (aload Tryz.prog 3 t64 h88) fun t65 => k89 t65 h88) (fun t65 h90 => GD t62 true (fun k91 => opt (afield Tryz.prog 25 t1 1) fun t66 => k91 t66 h90) (X_rGood_28 t62 t65 t1 t8 R vs72 j84) h90) h88
def X_rGood_30 (t8 : Value) (h83 : AHeap) (t1 : Value) (R : Value → AHeap → Prop) (vs72 : List Value) (j84 : List Value → AHeap → Prop) : Prop :=
 opt (afield Tryz.prog 43 t8 0) fun t60 => opt (aload Tryz.prog 3 t60 h83) fun t61 => opt (nb [t61, (.int .i64 10)] (abin2 Tryz.prog .eql 3 (.tmp 61) (.const (.int .i64 10)) t61 (.int .i64 10))) fun t62 => GD t62 true (fun k87 => opt (afield Tryz.prog 43 t8 1) fun t64 => k87 t64 h83) (X_rGood_29 t62 t1 t8 R vs72 j84) h83
def X_rGood_31 (t53 : Value) (vs72 : List Value) (h76 : AHeap) (t1 : Value) (R : Value → AHeap → Prop) (j77 : List Value → AHeap → Prop) : Prop :=
 opt (aindex Tryz.prog 46 t53 (nth vs72 1)) fun t57 => opt (aload Tryz.prog 43 t57 h76) fun t58 => opt (azero Tryz.prog 43) fun z80 => nw h76 (Value.cells z80).toList 43 fun t8 h81 => opt (nb [t58] (astore Tryz.prog 43 t8 t58 h81)) fun h83 => BK (X_rGood_30 t8 h83 t1 R vs72)
 (fun vs85 h86 => j77 [(nth vs85 0)] h86)
def X_rGood_32 (vs72 : List Value) (j71 : List Value → AHeap → Prop) (vs78 : List Value) (h79 : AHeap) : Prop :=
 opt (nb [(nth vs72 1), (.int .i64 1)] (abin2 Tryz.prog .add 3 (.tmp 55) (.const (.int .i64 1)) (nth vs72 1) (.int .i64 1))) fun t115 => j71 [(nth vs78 0), t115] h79
def X_rGood_33 (t54 : Value) (j68 : List Value → AHeap → Prop) (t53 : Value) (t1 : Value) (R : Value → AHeap → Prop) (vs72 : List Value) (h73 : AHeap) (j71 : List Value → AHeap → Prop) : Prop :=
 opt (nb [(nth vs72 1), t54] (abin2 Tryz.prog .lss 3 (.tmp 55) (.tmp 54) (nth vs72 1) t54)) fun t56 => CD t56 (fun j74 => j74 [] h73)
 (fun j74 => j68 [(nth vs72 0)] h73)
 (fun vs75 h76 => BK (X_rGood_31 t53 vs72 h76 t1 R)
 (X_rGood_32 vs72 j71))
def X_rGood_34 (t6 : Value) (t1 : Value) (R : Value → AHeap → Prop) (j56 : List Value → AHeap → Prop) (vs65 : List Value) (h66 : AHeap) : Prop :=
 opt (afield Tryz.prog 48 t6 5) fun t52 => opt (aload Tryz.prog 46 t52 h66) fun t53 => optH (nb [t53] (abuiltin Tryz.prog .len [46] 3 [t53] h66)) fun t54 h67 => BK (fun j68 => LP (X_rGood_33 t54 j68 t53 t1 R)
 [(nth vs65 0), (.int .i64 0)] h67)
 (fun vs69 h70 => j56 [(nth vs69 0)] h70)
def X_rGood_35 (t43 : Value) (vs51 : List Value) (h55 : AHeap) (R : Value → AHeap → Prop) (t1 : Value) (j56 : List Value → AHeap → Prop) : Prop :=
 opt (aindex Tryz.prog 23 t43 (nth vs51 1)) fun t47 => opt (aload Tryz.prog 48 t47 h55) fun t48 => opt (azero Tryz.prog 48) fun z59 => nw h55 (Value.cells z59).toList 48 fun t6 h60 => opt (nb [t48] (astore Tryz.prog 48 t6 t48 h60)) fun h62 => opt (aload Tryz.prog 48 t6 h62) fun t49 => callV Tryz.prog (.func (.func 16) #[] #[]) [t49] h62 (fun t50 h63 => opt (aun Tryz.prog .not t50) fun t51 => CD t51 (fun j64 => rv [(.bool false)] h63 R)
 (fun j64 => j64 [(nth vs51 0)] h63)
 (X_rGood_34 t6 t1 R j56))
def X_rGood_36 (vs51 : List Value) (j50 : List Value → AHeap → Prop) (vs57 : List Value) (h58 : AHeap) : Prop :=
 opt (nb [(nth vs51 1), (.int .i64 1)] (abin2 Tryz.prog .add 3 (.tmp 45) (.const (.int .i64 1)) (nth vs51 1) (.int .i64 1))) fun t116 => j50 [(nth vs57 0), t116] h58
def X_rGood_37 (t44 : Value) (j47 : List Value → AHeap → Prop) (t43 : Value) (R : Value → AHeap → Prop) (t1 : Value) (vs51 : List Value) (h52 : AHeap) (j50 : List Value → AHeap → Prop) : Prop :=
 opt (nb [(nth vs51 1), t44] (abin2 Tryz.prog .lss 3 (.tmp 45) (.tmp 44) (nth vs51 1) t44)) fun t46 => CD t46 (fun j53 => j53 [] h52)
 (fun j53 => j47 [(nth vs51 0)] h52)
 (fun vs54 h55 => BK (X_rGood_35 t43 vs51 h55 R t1)
 (X_rGood_36 vs51 j50))
def X_rGood_38 (t1 : Value) (R : Value → AHeap → Prop) (vs28 : List Value) (h29 : AHeap) : Prop :=
 opt (afield Tryz.prog 25 t1 1) fun t42 => opt (aload Tryz.prog 23 t42 h29) fun t43 => optH (nb [t43] (abuiltin Tryz.prog .len [23] 3 [t43] h29)) fun t44 h46 => BK (fun j47 => LP (X_rGood_37 t44 j47 t43 R t1)
 [(nth vs28 0), (.int .i64 0)] h46)
 (fun vs48 h49 => rv [(.bool true)] h49 R)
def X_rGood_39 (t1 : Value) (R : Value → AHeap → Prop) (vs24 : List Value) (h25 : AHeap) : Prop :=
 opt (afield Tryz.prog 25 t1 0) fun t28 => opt (aload Tryz.prog 22 t28 h25) fun t29 => optH (nb [t29] (abuiltin Tryz.prog .len [22] 3 [t29] h25)) fun t30 h26 => BK (fun j27 => LP (X_rGood_5 t30 j27 t29 R)
 [(nth vs24 0), (.int .i64 0)] h26)
 (X_rGood_38 t1 R)
def X_rGood_40 (t21 : Value) (R : Value → AHeap → Prop) (t1 : Value) (t25 : Value) (h19 : AHeap) : Prop :=
 GD t21 false (fun k21 => opt (nb [t25, (.int .i64 200)] (abin2 Tryz.prog .gtr 3 (.tmp 25) (.const (.int .i64 200)) t25 (.int .i64 200))) fun t26 => k21 t26 h19) (fun t26 h22 => opt (pk t21 (.bool true) t26) fun t27 => CD t27 (fun j23 => rv [(.bool false)] h22 R)
 (fun j23 => j23 [(.bool false)] h22)
 (X_rGood_39 t1 R)) h19
def X_rGood_41 (t21 : Value) (R : Value → AHeap → Prop) (t1 : Value) (t23 : Value) (h15 : AHeap) : Prop :=
 GD t21 false (fun k16 => opt (aload Tryz.prog 22 t23 h15) fun t24 => k16 t24 h15) (fun t24 h17 => GD t21 false (fun k18 => optH (nb [t24] (abuiltin Tryz.prog .len [22] 3 [t24] h17)) fun t25 h20 => k18 t25 h20) (X_rGood_40 t21 R t1) h17) h15
def X_rGood_42 (t15 : Value) (t1 : Value) (R : Value → AHeap → Prop) (t19 : Value) (h10 : AHeap) : Prop :=
 GD t15 false (fun k12 => opt (nb [t19, (.int .i64 100)] (abin2 Tryz.prog .gtr 3 (.tmp 19) (.const (.int .i64 100)) t19 (.int .i64 100))) fun t20 => k12 t20 h10) (fun t20 h13 => opt (pk t15 (.bool true) t20) fun t21 => GD t21 false (fun k14 => opt (afield Tryz.prog 25 t1 0) fun t23 => k14 t23 h13) (X_rGood_41 t21 R t1) h13) h10
def X_rGood_43 (t15 : Value) (t1 : Value) (R : Value → AHeap → Prop) (t17 : Value) (h6 : AHeap) : Prop :=
 GD t15 false (fun k7 => opt (aload Tryz.prog 23 t17 h6) fun t18 => k7 t18 h6) (fun t18 h8 => GD t15 false (fun k9 => optH (nb [t18] (abuiltin Tryz.prog .len [23] 3 [t18] h8)) fun t19 h11 => k9 t19 h11) (X_rGood_42 t15 t1 R) h8) h6
def X_rGood (h : AHeap) (t0 : Value) (R : Value → AHeap → Prop) : Prop :=
 opt (nb [t0] (some (Value.cells t0).toList)) fun c1 => nw h c1 25 fun t1 h2 => opt (afield Tryz.prog 25 t1 2) fun t9 => opt (aload Tryz.prog 3 t9 h2) fun t10 => opt (afield Tryz.prog 25 t1 1) fun t11 => opt (aload Tryz.prog 23 t11 h2) fun t12 => optH (nb [t12] (abuiltin Tryz.prog .len [23] 3 [t12] h2)) fun t13 h3 => callV Tryz.prog (.func (.func 15) #[] #[]) [t10, t13] h3 (fun t14 h4 => opt (aun Tryz.prog .not t14) fun t15 => GD t15 false (fun k5 => opt (afield Tryz.prog 25 t1 1) fun t17 => k5 t17 h4) (X_rGood_43 t15 t1 R) h4)
theorem X_rGood_eq (h : AHeap) (t0 : Value) (R : Value → AHeap → Prop) : wpF Tryz.prog (drawW Tryz.prog qs) 200 6 [t0] h R = X_rGood h t0 R := by kernel_rfl
theorem X_rGood_ok {h : AHeap} {t0 : Value} {R : Value → AHeap → Prop} (hw : X_rGood h t0 R) : DC Tryz.prog 6 [t0] h R := DC_of_wp mixed (n := 200) (by rw [X_rGood_eq]; exact hw)

/-- plumbob/plumbobref12.Good -/
def X_dGood_1 (t43 : Value) (R : Value → AHeap → Prop) (vs39 : List Value) (j45 : List Value → AHeap → Prop) (t50 : Value) (h59 : AHeap) : Prop :=
 opt (pk t43 (.bool true) t50) fun t51 => CD t51 (fun j60 => rv [(.bool false)] h59 R)
 (fun j60 => j60 [(nth vs39 0)] h59)
 (fun vs61 h62 => j45 [(nth vs61 0)] h62)
def X_dGood_2 (t43 : Value) (R : Value → AHeap → Prop) (vs39 : List Value) (j45 : List Value → AHeap → Prop) (t49 : Value) (h57 : AHeap) : Prop :=
 GD t43 false (fun k58 => opt (nb [t49, (.int .i64 65536)] (abin2 Tryz.prog .gtr 3 (.tmp 49) (.const (.int .i64 65536)) t49 (.int .i64 65536))) fun t50 => k58 t50 h57) (X_dGood_1 t43 R vs39 j45) h57
def X_dGood_3 (t43 : Value) (t46 : Value) (R : Value → AHeap → Prop) (vs39 : List Value) (j45 : List Value → AHeap → Prop) (t47 : Value) (h53 : AHeap) : Prop :=
 GD t43 false (fun k54 => opt (aindex Tryz.prog 22 t46 t47) fun t48 => k54 t48 h53) (fun t48 h55 => GD t43 false (fun k56 => opt (aload Tryz.prog 3 t48 h55) fun t49 => k56 t49 h55) (X_dGood_2 t43 R vs39 j45) h55) h53
def X_dGood_4 (t43 : Value) (vs39 : List Value) (R : Value → AHeap → Prop) (j45 : List Value → AHeap → Prop) (t45 : Value) (h49 : AHeap) : Prop :=
 GD t43 false (fun k50 => opt (aload Tryz.prog 22 t45 h49) fun t46 => k50 t46 h49) (fun t46 h51 => GD t43 false (fun k52 => k52 (nth vs39 1) h51) (X_dGood_3 t43 t46 R vs39 j45) h51) h49
def X_dGood_5 (t1 : Value) (h44 : AHeap) (vs39 : List Value) (R : Value → AHeap → Prop) (j45 : List Value → AHeap → Prop) : Prop :=
 opt (afield Tryz.prog 25 t1 0) fun t38 => opt (aload Tryz.prog 22 t38 h44) fun t39 => opt (aindex Tryz.prog 22 t39 (nth vs39 1)) fun t41 => opt (aload Tryz.prog 3 t41 h44) fun t42 => opt (nb [t42, (.int .i64 0)] (abin2 Tryz.prog .lss 3 (.tmp 42) (.const (.int .i64 0)) t42 (.int .i64 0))) fun t43 => GD t43 false (fun k48 => opt (afield Tryz.prog 25 t1 0) fun t45 => k48 t45 h44) (X_dGood_4 t43 vs39 R j45) h44
def X_dGood_6 (vs39 : List Value) (j38 : List Value → AHeap → Prop) (vs46 : List Value) (h47 : AHeap) : Prop :=
 opt (nb [(nth vs39 1), (.int .i64 1)] (abin2 Tryz.prog .add 3 (.tmp 36) (.const (.int .i64 1)) (nth vs39 1) (.int .i64 1))) fun t37 => j38 [(nth vs46 0), t37] h47
def X_dGood_7 (t1 : Value) (j35 : List Value → AHeap → Prop) (R : Value → AHeap → Prop) (vs39 : List Value) (h40 : AHeap) (j38 : List Value → AHeap → Prop) : Prop :=
 opt (afield Tryz.prog 25 t1 0) fun t32 => opt (aload Tryz.prog 22 t32 h40) fun t33 => optH (nb [t33] (abuiltin Tryz.prog .len [22] 3 [t33] h40)) fun t34 h41 => opt (nb [(nth vs39 1), t34] (abin2 Tryz.prog .lss 3 (.tmp 31) (.tmp 34) (nth vs39 1) t34)) fun t35 => CD t35 (fun j42 => j42 [] h41)
 (fun j42 => j35 [(nth vs39 0)] h41)
 (fun vs43 h44 => BK (X_dGood_5 t1 h44 vs39 R)
 (X_dGood_6 vs39 j38))
def X_dGood_8 (t111 : Value) (R : Value → AHeap → Prop) (vs155 : List Value) (j94 : List Value → AHeap → Prop) (t139 : Value) (h211 : AHeap) : Prop :=
 opt (pk t111 t139 (.bool false)) fun t140 => CD t140 (fun j212 => rv [(.bool false)] h211 R)
 (fun j212 => j212 [(nth vs155 0)] h211)
 (fun vs213 h214 => j94 [(nth vs213 0)] h214)
def X_dGood_9 (t129 : Value) (t131 : Value) (t111 : Value) (R : Value → AHeap → Prop) (vs155 : List Value) (j94 : List Value → AHeap → Prop) (t137 : Value) (h207 : AHeap) : Prop :=
 GD t129 false (fun k208 => opt (nb [t131, t137] (abin2 Tryz.prog .gtr 2 (.tmp 131) (.tmp 137) t131 t137)) fun t138 => k208 t138 h207) (fun t138 h209 => GD t111 true (fun k210 => opt (pk t129 (.bool true) t138) fun t139 => k210 t139 h209) (X_dGood_8 t111 R vs155 j94) h209) h207
def X_dGood_10 (t129 : Value) (t133 : Value) (t131 : Value) (t111 : Value) (R : Value → AHeap → Prop) (vs155 : List Value) (j94 : List Value → AHeap → Prop) (t135 : Value) (h203 : AHeap) : Prop :=
 GD t129 false (fun k204 => opt (aindex Tryz.prog 22 t133 t135) fun t136 => k204 t136 h203) (fun t136 h205 => GD t129 false (fun k206 => opt (aload Tryz.prog 3 t136 h205) fun t137 => k206 t137 h205) (X_dGood_9 t129 t131 t111 R vs155 j94) h205) h203
def X_dGood_11 (t129 : Value) (t7 : Value) (t131 : Value) (t111 : Value) (R : Value → AHeap → Prop) (vs155 : List Value) (j94 : List Value → AHeap → Prop) (t133 : Value) (h199 : AHeap) : Prop :=
 GD t129 false (fun k200 => opt (afield Tryz.prog 43 t7 1) fun t134 => k200 t134 h199) (fun t134 h201 => GD t129 false (fun k202 => opt (aload Tryz.prog 3 t134 h201) fun t135 => k202 t135 h201) (X_dGood_10 t129 t133 t131 t111 R vs155 j94) h201) h199
def X_dGood_12 (t129 : Value) (t1 : Value) (t7 : Value) (t111 : Value) (R : Value → AHeap → Prop) (vs155 : List Value) (j94 : List Value → AHeap → Prop) (t131 : Value) (h195 : AHeap) : Prop :=
 GD t129 false (fun k196 => opt (afield Tryz.prog 25 t1 0) fun t132 => k196 t132 h195) (fun t132 h197 => GD t129 false (fun k198 => opt (aload Tryz.prog 22 t132 h197) fun t133 => k198 t133 h197) (X_dGood_11 t129 t7 t131 t111 R vs155 j94) h197) h195
def X_dGood_13 (t7 : Value) (t1 : Value) (t111 : Value) (R : Value → AHeap → Prop) (vs155 : List Value) (j94 : List Value → AHeap → Prop) (t129 : Value) (h191 : AHeap) : Prop :=
 GD t129 false (fun k192 => opt (afield Tryz.prog 43 t7 5) fun t130 => k192 t130 h191) (fun t130 h193 => GD t129 false (fun k194 => opt (aload Tryz.prog 2 t130 h193) fun t131 => k194 t131 h193) (X_dGood_12 t129 t1 t7 t111 R vs155 j94) h193) h191
def X_dGood_14 (t111 : Value) (t124 : Value) (t7 : Value) (t1 : Value) (R : Value → AHeap → Prop) (vs155 : List Value) (j94 : List Value → AHeap → Prop) (t127 : Value) (h187 : AHeap) : Prop :=
 GD t111 true (fun k188 => opt (pk t124 (.bool true) t127) fun t128 => k188 t128 h187) (fun t128 h189 => GD t111 true (fun k190 => k190 t128 h189) (X_dGood_13 t7 t1 t111 R vs155 j94) h189) h187
def X_dGood_15 (t124 : Value) (t111 : Value) (t7 : Value) (t1 : Value) (R : Value → AHeap → Prop) (vs155 : List Value) (j94 : List Value → AHeap → Prop) (t126 : Value) (h185 : AHeap) : Prop :=
 GD t124 false (fun k186 => opt (nb [t126, (.int .i64 0)] (abin2 Tryz.prog .lss 2 (.tmp 126) (.const (.int .i64 0)) t126 (.int .i64 0))) fun t127 => k186 t127 h185) (X_dGood_14 t111 t124 t7 t1 R vs155 j94) h185
def X_dGood_16 (t7 : Value) (t111 : Value) (t1 : Value) (R : Value → AHeap → Prop) (vs155 : List Value) (j94 : List Value → AHeap → Prop) (t124 : Value) (h181 : AHeap) : Prop :=
 GD t124 false (fun k182 => opt (afield Tryz.prog 43 t7 5) fun t125 => k182 t125 h181) (fun t125 h183 => GD t124 false (fun k184 => opt (aload Tryz.prog 2 t125 h183) fun t126 => k184 t126 h183) (X_dGood_15 t124 t111 t7 t1 R vs155 j94) h183) h181
def X_dGood_17 (t111 : Value) (t116 : Value) (t7 : Value) (t1 : Value) (R : Value → AHeap → Prop) (vs155 : List Value) (j94 : List Value → AHeap → Prop) (t122 : Value) (h177 : AHeap) : Prop :=
 GD t111 true (fun k178 => opt (pk t116 (.bool true) t122) fun t123 => k178 t123 h177) (fun t123 h179 => GD t111 true (fun k180 => k180 t123 h179) (X_dGood_16 t7 t111 t1 R vs155 j94) h179) h177
def X_dGood_18 (t116 : Value) (t118 : Value) (t111 : Value) (t7 : Value) (t1 : Value) (R : Value → AHeap → Prop) (vs155 : List Value) (j94 : List Value → AHeap → Prop) (t121 : Value) (h174 : AHeap) : Prop :=
 GD t116 false (fun k176 => opt (nb [t118, t121] (abin2 Tryz.prog .geq 3 (.tmp 118) (.tmp 121) t118 t121)) fun t122 => k176 t122 h174) (X_dGood_17 t111 t116 t7 t1 R vs155 j94) h174
def X_dGood_19 (t116 : Value) (t118 : Value) (t111 : Value) (t7 : Value) (t1 : Value) (R : Value → AHeap → Prop) (vs155 : List Value) (j94 : List Value → AHeap → Prop) (t120 : Value) (h172 : AHeap) : Prop :=
 GD t116 false (fun k173 => optH (nb [t120] (abuiltin Tryz.prog .len [22] 3 [t120] h172)) fun t121 _ => k173 t121 h172) (X_dGood_18 t116 t118 t111 t7 t1 R vs155 j94) h172
def X_dGood_20 (t116 : Value) (t1 : Value) (t111 : Value) (t7 : Value) (R : Value → AHeap → Prop) (vs155 : List Value) (j94 : List Value → AHeap → Prop) (t118 : Value) (h168 : AHeap) : Prop :=
 GD t116 false (fun k169 => opt (afield Tryz.prog 25 t1 0) fun t119 => k169 t119 h168) (fun t119 h170 => GD t116 false (fun k171 => opt (aload Tryz.prog 22 t119 h170) fun t120 => k171 t120 h170) (X_dGood_19 t116 t118 t111 t7 t1 R vs155 j94) h170) h168
def X_dGood_21 (t7 : Value) (t1 : Value) (t111 : Value) (R : Value → AHeap → Prop) (vs155 : List Value) (j94 : List Value → AHeap → Prop) (t116 : Value) (h164 : AHeap) : Prop :=
 GD t116 false (fun k165 => opt (afield Tryz.prog 43 t7 1) fun t117 => k165 t117 h164) (fun t117 h166 => GD t116 false (fun k167 => opt (aload Tryz.prog 3 t117 h166) fun t118 => k167 t118 h166) (X_dGood_20 t116 t1 t111 t7 R vs155 j94) h166) h164
def X_dGood_22 (t111 : Value) (t7 : Value) (t1 : Value) (R : Value → AHeap → Prop) (vs155 : List Value) (j94 : List Value → AHeap → Prop) (t114 : Value) (h160 : AHeap) : Prop :=
 GD t111 true (fun k161 => opt (nb [t114, (.int .i64 0)] (abin2 Tryz.prog .lss 3 (.tmp 114) (.const (.int .i64 0)) t114 (.int .i64 0))) fun t115 => k161 t115 h160) (fun t115 h162 => GD t111 true (fun k163 => k163 t115 h162) (X_dGood_21 t7 t1 t111 R vs155 j94) h162) h160
def X_dGood_23 (t7 : Value) (t1 : Value) (R : Value → AHeap → Prop) (j94 : List Value → AHeap → Prop) (vs155 : List Value) (h156 : AHeap) : Prop :=
 opt (afield Tryz.prog 43 t7 0) fun t109 => opt (aload Tryz.prog 3 t109 h156) fun t110 => opt (nb [t110, (.int .i64 8)] (abin2 Tryz.prog .eql 3 (.tmp 110) (.const (.int .i64 8)) t110 (.int .i64 8))) fun t111 => GD t111 true (fun k157 => opt (afield Tryz.prog 43 t7 1) fun t113 => k157 t113 h156) (fun t113 h158 => GD t111 true (fun k159 => opt (aload Tryz.prog 3 t113 h158) fun t114 => k159 t114 h158) (X_dGood_22 t111 t7 t1 R vs155 j94) h158) h156
def X_dGood_24 (t81 : Value) (t94 : Value) (R : Value → AHeap → Prop) (vs88 : List Value) (t7 : Value) (t1 : Value) (j94 : List Value → AHeap → Prop) (t106 : Value) (h151 : AHeap) : Prop :=
 GD t81 true (fun k152 => opt (pk t94 (.bool true) t106) fun t107 => k152 t107 h151) (fun t107 h153 => opt (pk t81 t107 (.bool false)) fun t108 => CD t108 (fun j154 => rv [(.bool false)] h153 R)
 (fun j154 => j154 [(nth vs88 0)] h153)
 (X_dGood_23 t7 t1 R j94)) h151
def X_dGood_25 (t94 : Value) (t102 : Value) (t81 : Value) (R : Value → AHeap → Prop) (vs88 : List Value) (t7 : Value) (t1 : Value) (j94 : List Value → AHeap → Prop) (t105 : Value) (h148 : AHeap) : Prop :=
 GD t94 false (fun k150 => opt (nb [t102, t105] (abin2 Tryz.prog .neq 3 (.tmp 102) (.tmp 105) t102 t105)) fun t106 => k150 t106 h148) (X_dGood_24 t81 t94 R vs88 t7 t1 j94) h148
def X_dGood_26 (t94 : Value) (t102 : Value) (t81 : Value) (R : Value → AHeap → Prop) (vs88 : List Value) (t7 : Value) (t1 : Value) (j94 : List Value → AHeap → Prop) (t104 : Value) (h146 : AHeap) : Prop :=
 GD t94 false (fun k147 => optH (nb [t104] (abuiltin Tryz.prog .len [22] 3 [t104] h146)) fun t105 _ => k147 t105 h146) (X_dGood_25 t94 t102 t81 R vs88 t7 t1 j94) h146
def X_dGood_27 (t94 : Value) (t7 : Value) (t81 : Value) (R : Value → AHeap → Prop) (vs88 : List Value) (t1 : Value) (j94 : List Value → AHeap → Prop) (t102 : Value) (h141 : AHeap) : Prop :=
 GD t94 false (fun k143 => opt (afield Tryz.prog 43 t7 6) fun t103 => k143 t103 h141) (fun t103 h144 => GD t94 false (fun k145 => opt (aload Tryz.prog 22 t103 h144) fun t104 => k145 t104 h144) (X_dGood_26 t94 t102 t81 R vs88 t7 t1 j94) h144) h141
def X_dGood_28 (t94 : Value) (t7 : Value) (t81 : Value) (R : Value → AHeap → Prop) (vs88 : List Value) (t1 : Value) (j94 : List Value → AHeap → Prop) (t100 : Value) (h137 : AHeap) : Prop :=
 GD t94 false (fun k138 => opt (aload Tryz.prog 22 t100 h137) fun t101 => k138 t101 h137) (fun t101 h139 => GD t94 false (fun k140 => optH (nb [t101] (abuiltin Tryz.prog .len [22] 3 [t101] h139)) fun t102 _ => k140 t102 h139) (X_dGood_27 t94 t7 t81 R vs88 t1 j94) h139) h137
def X_dGood_29 (t94 : Value) (t96 : Value) (t7 : Value) (t81 : Value) (R : Value → AHeap → Prop) (vs88 : List Value) (t1 : Value) (j94 : List Value → AHeap → Prop) (t98 : Value) (h133 : AHeap) : Prop :=
 GD t94 false (fun k134 => opt (aindex Tryz.prog 23 t96 t98) fun t99 => k134 t99 h133) (fun t99 h135 => GD t94 false (fun k136 => opt (afield Tryz.prog 48 t99 1) fun t100 => k136 t100 h135) (X_dGood_28 t94 t7 t81 R vs88 t1 j94) h135) h133
def X_dGood_30 (t94 : Value) (t7 : Value) (t81 : Value) (R : Value → AHeap → Prop) (vs88 : List Value) (t1 : Value) (j94 : List Value → AHeap → Prop) (t96 : Value) (h129 : AHeap) : Prop :=
 GD t94 false (fun k130 => opt (afield Tryz.prog 43 t7 1) fun t97 => k130 t97 h129) (fun t97 h131 => GD t94 false (fun k132 => opt (aload Tryz.prog 3 t97 h131) fun t98 => k132 t98 h131) (X_dGood_29 t94 t96 t7 t81 R vs88 t1 j94) h131) h129
def X_dGood_31 (t1 : Value) (t7 : Value) (t81 : Value) (R : Value → AHeap → Prop) (vs88 : List Value) (j94 : List Value → AHeap → Prop) (t94 : Value) (h125 : AHeap) : Prop :=
 GD t94 false (fun k126 => opt (afield Tryz.prog 25 t1 1) fun t95 => k126 t95 h125) (fun t95 h127 => GD t94 false (fun k128 => opt (aload Tryz.prog 23 t95 h127) fun t96 => k128 t96 h127) (X_dGood_30 t94 t7 t81 R vs88 t1 j94) h127) h125
def X_dGood_32 (t81 : Value) (t86 : Value) (t1 : Value) (t7 : Value) (R : Value → AHeap → Prop) (vs88 : List Value) (j94 : List Value → AHeap → Prop) (t92 : Value) (h121 : AHeap) : Prop :=
 GD t81 true (fun k122 => opt (pk t86 (.bool true) t92) fun t93 => k122 t93 h121) (fun t93 h123 => GD t81 true (fun k124 => k124 t93 h123) (X_dGood_31 t1 t7 t81 R vs88 j94) h123) h121
def X_dGood_33 (t86 : Value) (t88 : Value) (t81 : Value) (t1 : Value) (t7 : Value) (R : Value → AHeap → Prop) (vs88 : List Value) (j94 : List Value → AHeap → Prop) (t91 : Value) (h118 : AHeap) : Prop :=
 GD t86 false (fun k120 => opt (nb [t88, t91] (abin2 Tryz.prog .geq 3 (.tmp 88) (.tmp 91) t88 t91)) fun t92 => k120 t92 h118) (X_dGood_32 t81 t86 t1 t7 R vs88 j94) h118
def X_dGood_34 (t86 : Value) (t88 : Value) (t81 : Value) (t1 : Value) (t7 : Value) (R : Value → AHeap → Prop) (vs88 : List Value) (j94 : List Value → AHeap → Prop) (t89 : Value) (h114 : AHeap) : Prop :=
 GD t86 false (fun k115 => opt (aload Tryz.prog 23 t89 h114) fun t90 => k115 t90 h114) (fun t90 h116 => GD t86 false (fun k117 => optH (nb [t90] (abuiltin Tryz.prog .len [23] 3 [t90] h116)) fun t91 _ => k117 t91 h116) (X_dGood_33 t86 t88 t81 t1 t7 R vs88 j94) h116) h114
def X_dGood_35 (t86 : Value) (t1 : Value) (t81 : Value) (t7 : Value) (R : Value → AHeap → Prop) (vs88 : List Value) (j94 : List Value → AHeap → Prop) (t87 : Value) (h110 : AHeap) : Prop :=
 GD t86 false (fun k111 => opt (aload Tryz.prog 3 t87 h110) fun t88 => k111 t88 h110) (fun t88 h112 => GD t86 false (fun k113 => opt (afield Tryz.prog 25 t1 1) fun t89 => k113 t89 h112) (X_dGood_34 t86 t88 t81 t1 t7 R vs88 j94) h112) h110
def X_dGood_36 (t81 : Value) (t7 : Value) (t1 : Value) (R : Value → AHeap → Prop) (vs88 : List Value) (j94 : List Value → AHeap → Prop) (t85 : Value) (h106 : AHeap) : Prop :=
 GD t81 true (fun k107 => k107 t85 h106) (fun t86 h108 => GD t86 false (fun k109 => opt (afield Tryz.prog 43 t7 1) fun t87 => k109 t87 h108) (X_dGood_35 t86 t1 t81 t7 R vs88 j94) h108) h106
def X_dGood_37 (t81 : Value) (t7 : Value) (t1 : Value) (R : Value → AHeap → Prop) (vs88 : List Value) (j94 : List Value → AHeap → Prop) (t84 : Value) (h104 : AHeap) : Prop :=
 GD t81 true (fun k105 => opt (nb [t84, (.int .i64 0)] (abin2 Tryz.prog .lss 3 (.tmp 84) (.const (.int .i64 0)) t84 (.int .i64 0))) fun t85 => k105 t85 h104) (X_dGood_36 t81 t7 t1 R vs88 j94) h104
def X_dGood_38 (t5 : Value) (h93 : AHeap) (vs88 : List Value) (t1 : Value) (R : Value → AHeap → Prop) (j94 : List Value → AHeap → Prop) : Prop :=
 opt (afield Tryz.prog 48 t5 5) fun t74 => opt (aload Tryz.prog 46 t74 h93) fun t75 => opt (aindex Tryz.prog 46 t75 (nth vs88 1)) fun t77 => opt (aload Tryz.prog 43 t77 h93) fun t78 => opt (azero Tryz.prog 43) fun z97 => nw h93 (Value.cells z97).toList 43 fun t7 h98 => opt (nb [t78] (astore Tryz.prog 43 t7 t78 h98)) fun h100 => opt (afield Tryz.prog 43 t7 0) fun t79 => opt (aload Tryz.prog 3 t79 h100) fun t80 => opt (nb [t80, (.int .i64 10)] (abin2 Tryz.prog .eql 3 (.tmp 80) (.const (.int .i64 10)) t80 (.int .i64 10))) fun t81 => GD t81 true (fun k101 => opt (afield Tryz.prog 43 t7 1) fun t83 => k101 t83 h100) (fun t83 h102 => GD t81 true (fun k103 => opt (aload Tryz.prog 3 t83 h102) fun t84 => k103 t84 h102) (X_dGood_37 t81 t7 t1 R vs88 j94) h102) h100
def X_dGood_39 (vs88 : List Value) (j87 : List Value → AHeap → Prop) (vs95 : List Value) (h96 : AHeap) : Prop :=
 opt (nb [(nth vs88 1), (.int .i64 1)] (abin2 Tryz.prog .add 3 (.tmp 72) (.const (.int .i64 1)) (nth vs88 1) (.int .i64 1))) fun t73 => j87 [(nth vs95 0), t73] h96
def X_dGood_40 (t5 : Value) (j84 : List Value → AHeap → Prop) (t1 : Value) (R : Value → AHeap → Prop) (vs88 : List Value) (h89 : AHeap) (j87 : List Value → AHeap → Prop) : Prop :=
 opt (afield Tryz.prog 48 t5 5) fun t68 => opt (aload Tryz.prog 46 t68 h89) fun t69 => optH (nb [t69] (abuiltin Tryz.prog .len [46] 3 [t69] h89)) fun t70 h90 => opt (nb [(nth vs88 1), t70] (abin2 Tryz.prog .lss 3 (.tmp 67) (.tmp 70) (nth vs88 1) t70)) fun t71 => CD t71 (fun j91 => j91 [] h90)
 (fun j91 => j84 [(nth vs88 0)] h90)
 (fun vs92 h93 => BK (X_dGood_38 t5 h93 vs88 t1 R)
 (X_dGood_39 vs88 j87))
def X_dGood_41 (R : Value → AHeap → Prop) (vs67 : List Value) (t5 : Value) (t1 : Value) (j73 : List Value → AHeap → Prop) (t65 : Value) (h80 : AHeap) : Prop :=
 opt (aun Tryz.prog .not t65) fun t66 => CD t66 (fun j81 => rv [(.bool false)] h80 R)
 (fun j81 => j81 [(nth vs67 0)] h80)
 (fun vs82 h83 => BK (fun j84 => LP (X_dGood_40 t5 j84 t1 R)
 [(nth vs82 0), (.int .i64 0)] h83)
 (fun vs85 h86 => j73 [(nth vs85 0)] h86))
def X_dGood_42 (t1 : Value) (h72 : AHeap) (vs67 : List Value) (R : Value → AHeap → Prop) (j73 : List Value → AHeap → Prop) : Prop :=
 opt (afield Tryz.prog 25 t1 1) fun t59 => opt (aload Tryz.prog 23 t59 h72) fun t60 => opt (aindex Tryz.prog 23 t60 (nth vs67 1)) fun t62 => opt (aload Tryz.prog 48 t62 h72) fun t63 => opt (azero Tryz.prog 48) fun z76 => nw h72 (Value.cells z76).toList 48 fun t5 h77 => opt (nb [t63] (astore Tryz.prog 48 t5 t63 h77)) fun h79 => opt (aload Tryz.prog 48 t5 h79) fun t64 => callV Tryz.prog (.func (.func 17) #[] #[]) [t64] h79 (X_dGood_41 R vs67 t5 t1 j73)
def X_dGood_43 (vs67 : List Value) (j66 : List Value → AHeap → Prop) (vs74 : List Value) (h75 : AHeap) : Prop :=
 opt (nb [(nth vs67 1), (.int .i64 1)] (abin2 Tryz.prog .add 3 (.tmp 57) (.const (.int .i64 1)) (nth vs67 1) (.int .i64 1))) fun t58 => j66 [(nth vs74 0), t58] h75
def X_dGood_44 (t1 : Value) (j63 : List Value → AHeap → Prop) (R : Value → AHeap → Prop) (vs67 : List Value) (h68 : AHeap) (j66 : List Value → AHeap → Prop) : Prop :=
 opt (afield Tryz.prog 25 t1 1) fun t53 => opt (aload Tryz.prog 23 t53 h68) fun t54 => optH (nb [t54] (abuiltin Tryz.prog .len [23] 3 [t54] h68)) fun t55 h69 => opt (nb [(nth vs67 1), t55] (abin2 Tryz.prog .lss 3 (.tmp 52) (.tmp 55) (nth vs67 1) t55)) fun t56 => CD t56 (fun j70 => j70 [] h69)
 (fun j70 => j63 [(nth vs67 0)] h69)
 (fun vs71 h72 => BK (X_dGood_42 t1 h72 vs67 R)
 (X_dGood_43 vs67 j66))
def X_dGood_45 (t1 : Value) (R : Value → AHeap → Prop) (vs33 : List Value) (h34 : AHeap) : Prop :=
 BK (fun j35 => LP (X_dGood_7 t1 j35 R)
 [(nth vs33 0), (.int .i64 0)] h34)
 (fun vs36 h37 => BK (fun j63 => LP (X_dGood_44 t1 j63 R)
 [(nth vs36 0), (.int .i64 0)] h37)
 (fun vs64 h65 => rv [(.bool true)] h65 R))
def X_dGood_46 (t22 : Value) (t25 : Value) (R : Value → AHeap → Prop) (t1 : Value) (t28 : Value) (h28 : AHeap) : Prop :=
 GD t22 false (fun k30 => opt (nb [t25, t28] (abin2 Tryz.prog .geq 3 (.tmp 25) (.tmp 28) t25 t28)) fun t29 => k30 t29 h28) (fun t29 h31 => opt (pk t22 (.bool true) t29) fun t30 => CD t30 (fun j32 => rv [(.bool false)] h31 R)
 (fun j32 => j32 [(.bool false)] h31)
 (X_dGood_45 t1 R)) h28
def X_dGood_47 (t22 : Value) (t25 : Value) (R : Value → AHeap → Prop) (t1 : Value) (t26 : Value) (h24 : AHeap) : Prop :=
 GD t22 false (fun k25 => opt (aload Tryz.prog 23 t26 h24) fun t27 => k25 t27 h24) (fun t27 h26 => GD t22 false (fun k27 => optH (nb [t27] (abuiltin Tryz.prog .len [23] 3 [t27] h26)) fun t28 h29 => k27 t28 h29) (X_dGood_46 t22 t25 R t1) h26) h24
def X_dGood_48 (t22 : Value) (t1 : Value) (R : Value → AHeap → Prop) (t24 : Value) (h20 : AHeap) : Prop :=
 GD t22 false (fun k21 => opt (aload Tryz.prog 3 t24 h20) fun t25 => k21 t25 h20) (fun t25 h22 => GD t22 false (fun k23 => opt (afield Tryz.prog 25 t1 1) fun t26 => k23 t26 h22) (X_dGood_47 t22 t25 R t1) h22) h20
def X_dGood_49 (t17 : Value) (t1 : Value) (R : Value → AHeap → Prop) (t20 : Value) (h16 : AHeap) : Prop :=
 GD t17 false (fun k17 => opt (nb [t20, (.int .i64 0)] (abin2 Tryz.prog .lss 3 (.tmp 20) (.const (.int .i64 0)) t20 (.int .i64 0))) fun t21 => k17 t21 h16) (fun t21 h18 => opt (pk t17 (.bool true) t21) fun t22 => GD t22 false (fun k19 => opt (afield Tryz.prog 25 t1 2) fun t24 => k19 t24 h18) (X_dGood_48 t22 t1 R) h18) h16
def X_dGood_50 (t11 : Value) (t1 : Value) (R : Value → AHeap → Prop) (t16 : Value) (h12 : AHeap) : Prop :=
 opt (pk t11 (.bool true) t16) fun t17 => GD t17 false (fun k13 => opt (afield Tryz.prog 25 t1 2) fun t19 => k13 t19 h12) (fun t19 h14 => GD t17 false (fun k15 => opt (aload Tryz.prog 3 t19 h14) fun t20 => k15 t20 h14) (X_dGood_49 t17 t1 R) h14) h12
def X_dGood_51 (t11 : Value) (t1 : Value) (R : Value → AHeap → Prop) (t15 : Value) (h9 : AHeap) : Prop :=
 GD t11 false (fun k11 => opt (nb [t15, (.int .i64 100)] (abin2 Tryz.prog .gtr 3 (.tmp 15) (.const (.int .i64 100)) t15 (.int .i64 100))) fun t16 => k11 t16 h9) (X_dGood_50 t11 t1 R) h9
def X_dGood_52 (t11 : Value) (t1 : Value) (R : Value → AHeap → Prop) (t13 : Value) (h5 : AHeap) : Prop :=
 GD t11 false (fun k6 => opt (aload Tryz.prog 23 t13 h5) fun t14 => k6 t14 h5) (fun t14 h7 => GD t11 false (fun k8 => optH (nb [t14] (abuiltin Tryz.prog .len [23] 3 [t14] h7)) fun t15 h10 => k8 t15 h10) (X_dGood_51 t11 t1 R) h7) h5
def X_dGood (h : AHeap) (t0 : Value) (R : Value → AHeap → Prop) : Prop :=
 opt (nb [t0] (some (Value.cells t0).toList)) fun c1 => nw h c1 25 fun t1 h2 => opt (afield Tryz.prog 25 t1 0) fun t8 => opt (aload Tryz.prog 22 t8 h2) fun t9 => optH (nb [t9] (abuiltin Tryz.prog .len [22] 3 [t9] h2)) fun t10 h3 => opt (nb [t10, (.int .i64 200)] (abin2 Tryz.prog .gtr 3 (.tmp 10) (.const (.int .i64 200)) t10 (.int .i64 200))) fun t11 => GD t11 false (fun k4 => opt (afield Tryz.prog 25 t1 1) fun t13 => k4 t13 h3) (X_dGood_52 t11 t1 R) h3
theorem X_dGood_eq (h : AHeap) (t0 : Value) (R : Value → AHeap → Prop) : wpF Tryz.prog (drawW Tryz.prog qs) 200 7 [t0] h R = X_dGood h t0 R := by kernel_rfl
theorem X_dGood_ok {h : AHeap} {t0 : Value} {R : Value → AHeap → Prop} (hw : X_dGood h t0 R) : DC Tryz.prog 7 [t0] h R := DC_of_wp mixed (n := 200) (by rw [X_dGood_eq]; exact hw)

/-- plumbob/plumbobref12.SameProg -/
def X_SameProg_1 (t2 : Value) (h49 : AHeap) (vs44 : List Value) (t3 : Value) (R : Value → AHeap → Prop) (j50 : List Value → AHeap → Prop) : Prop :=
 opt (afield Tryz.prog 25 t2 0) fun t37 => opt (aload Tryz.prog 22 t37 h49) fun t38 => opt (aindex Tryz.prog 22 t38 (nth vs44 1)) fun t40 => opt (aload Tryz.prog 3 t40 h49) fun t41 => opt (afield Tryz.prog 25 t3 0) fun t42 => opt (aload Tryz.prog 22 t42 h49) fun t43 => opt (aindex Tryz.prog 22 t43 (nth vs44 1)) fun t45 => opt (aload Tryz.prog 3 t45 h49) fun t46 => opt (nb [t41, t46] (abin2 Tryz.prog .neq 3 (.tmp 41) (.tmp 46) t41 t46)) fun t47 => CD t47 (fun j53 => rv [(.bool false)] h49 R)
 (fun j53 => j53 [(nth vs44 0)] h49)
 (fun vs54 h55 => j50 [(nth vs54 0)] h55)
def X_SameProg_2 (vs44 : List Value) (j43 : List Value → AHeap → Prop) (vs51 : List Value) (h52 : AHeap) : Prop :=
 opt (nb [(nth vs44 1), (.int .i64 1)] (abin2 Tryz.prog .add 3 (.tmp 35) (.const (.int .i64 1)) (nth vs44 1) (.int .i64 1))) fun t36 => j43 [(nth vs51 0), t36] h52
def X_SameProg_3 (t2 : Value) (j40 : List Value → AHeap → Prop) (t3 : Value) (R : Value → AHeap → Prop) (vs44 : List Value) (h45 : AHeap) (j43 : List Value → AHeap → Prop) : Prop :=
 opt (afield Tryz.prog 25 t2 0) fun t31 => opt (aload Tryz.prog 22 t31 h45) fun t32 => optH (nb [t32] (abuiltin Tryz.prog .len [22] 3 [t32] h45)) fun t33 h46 => opt (nb [(nth vs44 1), t33] (abin2 Tryz.prog .lss 3 (.tmp 30) (.tmp 33) (nth vs44 1) t33)) fun t34 => CD t34 (fun j47 => j47 [] h46)
 (fun j47 => j40 [(nth vs44 0)] h46)
 (fun vs48 h49 => BK (X_SameProg_1 t2 h49 vs44 t3 R)
 (X_SameProg_2 vs44 j43))
def X_SameProg_4 (R : Value → AHeap → Prop) (vs60 : List Value) (j66 : List Value → AHeap → Prop) (t65 : Value) (h69 : AHeap) : Prop :=
 opt (aun Tryz.prog .not t65) fun t66 => CD t66 (fun j70 => rv [(.bool false)] h69 R)
 (fun j70 => j70 [(nth vs60 0)] h69)
 (fun vs71 h72 => j66 [(nth vs71 0)] h72)
def X_SameProg_5 (t2 : Value) (h65 : AHeap) (vs60 : List Value) (t3 : Value) (R : Value → AHeap → Prop) (j66 : List Value → AHeap → Prop) : Prop :=
 opt (afield Tryz.prog 25 t2 1) fun t55 => opt (aload Tryz.prog 23 t55 h65) fun t56 => opt (aindex Tryz.prog 23 t56 (nth vs60 1)) fun t58 => opt (aload Tryz.prog 48 t58 h65) fun t59 => opt (afield Tryz.prog 25 t3 1) fun t60 => opt (aload Tryz.prog 23 t60 h65) fun t61 => opt (aindex Tryz.prog 23 t61 (nth vs60 1)) fun t63 => opt (aload Tryz.prog 48 t63 h65) fun t64 => callD Tryz.prog 18 [t59, t64] h65 (X_SameProg_4 R vs60 j66)
def X_SameProg_6 (vs60 : List Value) (j59 : List Value → AHeap → Prop) (vs67 : List Value) (h68 : AHeap) : Prop :=
 opt (nb [(nth vs60 1), (.int .i64 1)] (abin2 Tryz.prog .add 3 (.tmp 53) (.const (.int .i64 1)) (nth vs60 1) (.int .i64 1))) fun t54 => j59 [(nth vs67 0), t54] h68
def X_SameProg_7 (t2 : Value) (j56 : List Value → AHeap → Prop) (t3 : Value) (R : Value → AHeap → Prop) (vs60 : List Value) (h61 : AHeap) (j59 : List Value → AHeap → Prop) : Prop :=
 opt (afield Tryz.prog 25 t2 1) fun t49 => opt (aload Tryz.prog 23 t49 h61) fun t50 => optH (nb [t50] (abuiltin Tryz.prog .len [23] 3 [t50] h61)) fun t51 h62 => opt (nb [(nth vs60 1), t51] (abin2 Tryz.prog .lss 3 (.tmp 48) (.tmp 51) (nth vs60 1) t51)) fun t52 => CD t52 (fun j63 => j63 [] h62)
 (fun j63 => j56 [(nth vs60 0)] h62)
 (fun vs64 h65 => BK (X_SameProg_5 t2 h65 vs60 t3 R)
 (X_SameProg_6 vs60 j59))
def X_SameProg_8 (t2 : Value) (t3 : Value) (R : Value → AHeap → Prop) (vs38 : List Value) (h39 : AHeap) : Prop :=
 BK (fun j40 => LP (X_SameProg_3 t2 j40 t3 R)
 [(nth vs38 0), (.int .i64 0)] h39)
 (fun vs41 h42 => BK (fun j56 => LP (X_SameProg_7 t2 j56 t3 R)
 [(nth vs41 0), (.int .i64 0)] h42)
 (fun vs57 h58 => rv [(.bool true)] h58 R))
def X_SameProg_9 (t20 : Value) (t24 : Value) (R : Value → AHeap → Prop) (t2 : Value) (t3 : Value) (t27 : Value) (h33 : AHeap) : Prop :=
 GD t20 false (fun k35 => opt (nb [t24, t27] (abin2 Tryz.prog .neq 3 (.tmp 24) (.tmp 27) t24 t27)) fun t28 => k35 t28 h33) (fun t28 h36 => opt (pk t20 (.bool true) t28) fun t29 => CD t29 (fun j37 => rv [(.bool false)] h36 R)
 (fun j37 => j37 [(.bool false)] h36)
 (X_SameProg_8 t2 t3 R)) h33
def X_SameProg_10 (t20 : Value) (t24 : Value) (R : Value → AHeap → Prop) (t2 : Value) (t3 : Value) (t25 : Value) (h29 : AHeap) : Prop :=
 GD t20 false (fun k30 => opt (aload Tryz.prog 22 t25 h29) fun t26 => k30 t26 h29) (fun t26 h31 => GD t20 false (fun k32 => optH (nb [t26] (abuiltin Tryz.prog .len [22] 3 [t26] h31)) fun t27 h34 => k32 t27 h34) (X_SameProg_9 t20 t24 R t2 t3) h31) h29
def X_SameProg_11 (t20 : Value) (t3 : Value) (R : Value → AHeap → Prop) (t2 : Value) (t23 : Value) (h24 : AHeap) : Prop :=
 GD t20 false (fun k25 => optH (nb [t23] (abuiltin Tryz.prog .len [22] 3 [t23] h24)) fun t24 h27 => k25 t24 h27) (fun t24 h26 => GD t20 false (fun k28 => opt (afield Tryz.prog 25 t3 0) fun t25 => k28 t25 h26) (X_SameProg_10 t20 t24 R t2 t3) h26) h24
def X_SameProg_12 (t11 : Value) (t2 : Value) (t3 : Value) (R : Value → AHeap → Prop) (t19 : Value) (h20 : AHeap) : Prop :=
 opt (pk t11 (.bool true) t19) fun t20 => GD t20 false (fun k21 => opt (afield Tryz.prog 25 t2 0) fun t22 => k21 t22 h20) (fun t22 h22 => GD t20 false (fun k23 => opt (aload Tryz.prog 22 t22 h22) fun t23 => k23 t23 h22) (X_SameProg_11 t20 t3 R t2) h22) h20
def X_SameProg_13 (t11 : Value) (t15 : Value) (t2 : Value) (t3 : Value) (R : Value → AHeap → Prop) (t17 : Value) (h15 : AHeap) : Prop :=
 GD t11 false (fun k16 => optH (nb [t17] (abuiltin Tryz.prog .len [23] 3 [t17] h15)) fun t18 h18 => k16 t18 h18) (fun t18 h17 => GD t11 false (fun k19 => opt (nb [t15, t18] (abin2 Tryz.prog .neq 3 (.tmp 15) (.tmp 18) t15 t18)) fun t19 => k19 t19 h17) (X_SameProg_12 t11 t2 t3 R) h17) h15
def X_SameProg_14 (t11 : Value) (t3 : Value) (t2 : Value) (R : Value → AHeap → Prop) (t15 : Value) (h10 : AHeap) : Prop :=
 GD t11 false (fun k12 => opt (afield Tryz.prog 25 t3 1) fun t16 => k12 t16 h10) (fun t16 h13 => GD t11 false (fun k14 => opt (aload Tryz.prog 23 t16 h13) fun t17 => k14 t17 h13) (X_SameProg_13 t11 t15 t2 t3 R) h13) h10
def X_SameProg_15 (t11 : Value) (t3 : Value) (t2 : Value) (R : Value → AHeap → Prop) (t13 : Value) (h6 : AHeap) : Prop :=
 GD t11 false (fun k7 => opt (aload Tryz.prog 23 t13 h6) fun t14 => k7 t14 h6) (fun t14 h8 => GD t11 false (fun k9 => optH (nb [t14] (abuiltin Tryz.prog .len [23] 3 [t14] h8)) fun t15 h11 => k9 t15 h11) (X_SameProg_14 t11 t3 t2 R) h8) h6
def X_SameProg (h : AHeap) (t0 t1 : Value) (R : Value → AHeap → Prop) : Prop :=
 opt (nb [t0] (some (Value.cells t0).toList)) fun c1 => nw h c1 25 fun t2 h2 => opt (nb [t1] (some (Value.cells t1).toList)) fun c3 => nw h2 c3 25 fun t3 h4 => opt (afield Tryz.prog 25 t2 2) fun t7 => opt (aload Tryz.prog 3 t7 h4) fun t8 => opt (afield Tryz.prog 25 t3 2) fun t9 => opt (aload Tryz.prog 3 t9 h4) fun t10 => opt (nb [t8, t10] (abin2 Tryz.prog .neq 3 (.tmp 8) (.tmp 10) t8 t10)) fun t11 => GD t11 false (fun k5 => opt (afield Tryz.prog 25 t2 1) fun t13 => k5 t13 h4) (X_SameProg_15 t11 t3 t2 R) h4
theorem X_SameProg_eq (h : AHeap) (t0 t1 : Value) (R : Value → AHeap → Prop) : wpF Tryz.prog (drawW Tryz.prog qs) 200 8 [t0, t1] h R = X_SameProg h t0 t1 R := by kernel_rfl
theorem X_SameProg_ok {h : AHeap} {t0 t1 : Value} {R : Value → AHeap → Prop} (hw : X_SameProg h t0 t1 R) : DC Tryz.prog 8 [t0, t1] h R := DC_of_wp mixed (n := 200) (by rw [X_SameProg_eq]; exact hw)

/-- plumbob/rtl.Succs -/
def X_Succs (h : AHeap) (t0 : Value) (R : Value → AHeap → Prop) : Prop :=
 opt (nb [t0] (some (Value.cells t0).toList)) fun c1 => nw h c1 43 fun t1 h2 => opt (nb ([] ++ [t1]) (some (Value.func (.func 20) [].toArray [t1].toArray))) fun t3 => rv [t3] h2 R
theorem X_Succs_eq (h : AHeap) (t0 : Value) (R : Value → AHeap → Prop) : wpF Tryz.prog (drawW Tryz.prog qs) 200 11 [t0] h R = X_Succs h t0 R := by kernel_rfl
theorem X_Succs_ok {h : AHeap} {t0 : Value} {R : Value → AHeap → Prop} (hw : X_Succs h t0 R) : DC Tryz.prog 11 [t0] h R := DC_of_wp mixed (n := 200) (by rw [X_Succs_eq]; exact hw)

/-- plumbob/rtl.Uses -/
def X_Uses (h : AHeap) (t0 : Value) (R : Value → AHeap → Prop) : Prop :=
 opt (nb [t0] (some (Value.cells t0).toList)) fun c1 => nw h c1 43 fun t1 h2 => opt (nb ([] ++ [t1]) (some (Value.func (.func 21) [].toArray [t1].toArray))) fun t3 => rv [t3] h2 R
theorem X_Uses_eq (h : AHeap) (t0 : Value) (R : Value → AHeap → Prop) : wpF Tryz.prog (drawW Tryz.prog qs) 200 12 [t0] h R = X_Uses h t0 R := by kernel_rfl
theorem X_Uses_ok {h : AHeap} {t0 : Value} {R : Value → AHeap → Prop} (hw : X_Uses h t0 R) : DC Tryz.prog 12 [t0] h R := DC_of_wp mixed (n := 200) (by rw [X_Uses_eq]; exact hw)

/-- plumbob/rtl.within -/
def X_within_1 (t6 : Value) (t8 : Value) (R : Value → AHeap → Prop) (t9 : Value) (h4 : AHeap) : Prop :=
 GD t6 true (fun k5 => opt (nb [t8, t9] (abin2 Tryz.prog .lss 3 (.tmp 8) (.tmp 9) t8 t9)) fun t10 => k5 t10 h4) (fun t10 h6 => opt (pk t6 t10 (.bool false)) fun t11 => rv [t11] h6 R) h4
def X_within (h : AHeap) (t0 t1 : Value) (R : Value → AHeap → Prop) : Prop :=
 opt (nb [t0, (.int .i64 0)] (abin2 Tryz.prog .geq 3 (.tmp 5) (.const (.int .i64 0)) t0 (.int .i64 0))) fun t6 => GD t6 true (fun k1 => k1 t0 h) (fun t8 h2 => GD t6 true (fun k3 => k3 t1 h2) (X_within_1 t6 t8 R) h2) h
theorem X_within_eq (h : AHeap) (t0 t1 : Value) (R : Value → AHeap → Prop) : wpF Tryz.prog (drawW Tryz.prog qs) 200 15 [t0, t1] h R = X_within h t0 t1 R := by kernel_rfl
theorem X_within_ok {h : AHeap} {t0 t1 : Value} {R : Value → AHeap → Prop} (hw : X_within h t0 t1 R) : DC Tryz.prog 15 [t0, t1] h R := DC_of_wp mixed (n := 200) (by rw [X_within_eq]; exact hw)

/-- plumbob/rtl.Right -/
def X_Right_1 (t53 : Value) (R : Value → AHeap → Prop) (vs53 : List Value) (t41 : Value) (t48 : Value) (j58 : List Value → AHeap → Prop) (t58 : Value) (h69 : AHeap) : Prop :=
 opt (pk t53 (.bool true) t58) fun t59 => CD t59 (fun j70 => rv [(.bool false)] h69 R)
 (fun j70 => j70 [(nth vs53 0)] h69)
 (fun vs71 h72 => opt (aindex Tryz.prog 70 t41 t48) fun t62 => opt (nb [(.bool true)] (astore Tryz.prog 4 t62 (.bool true) h72)) fun h74 => j58 [(nth vs71 0)] h74)
def X_Right_2 (t53 : Value) (t55 : Value) (R : Value → AHeap → Prop) (vs53 : List Value) (t41 : Value) (t48 : Value) (j58 : List Value → AHeap → Prop) (t56 : Value) (h65 : AHeap) : Prop :=
 GD t53 false (fun k66 => opt (aindex Tryz.prog 70 t55 t56) fun t57 => k66 t57 h65) (fun t57 h67 => GD t53 false (fun k68 => opt (aload Tryz.prog 4 t57 h67) fun t58 => k68 t58 h67) (X_Right_1 t53 R vs53 t41 t48 j58) h67) h65
def X_Right_3 (t41 : Value) (t48 : Value) (R : Value → AHeap → Prop) (vs53 : List Value) (j58 : List Value → AHeap → Prop) (t52 : Value) (h61 : AHeap) : Prop :=
 opt (aun Tryz.prog .not t52) fun t53 => GD t53 false (fun k62 => k62 t41 h61) (fun t55 h63 => GD t53 false (fun k64 => k64 t48 h63) (X_Right_2 t53 t55 R vs53 t41 t48 j58) h63) h61
def X_Right_4 (t43 : Value) (vs53 : List Value) (h57 : AHeap) (t1 : Value) (t41 : Value) (R : Value → AHeap → Prop) (j58 : List Value → AHeap → Prop) : Prop :=
 opt (aindex Tryz.prog 22 t43 (nth vs53 1)) fun t47 => opt (aload Tryz.prog 3 t47 h57) fun t48 => opt (afield Tryz.prog 48 t1 2) fun t50 => opt (aload Tryz.prog 3 t50 h57) fun t51 => callV Tryz.prog (.func (.func 15) #[] #[]) [t48, t51] h57 (X_Right_3 t41 t48 R vs53 j58)
def X_Right_5 (vs53 : List Value) (j52 : List Value → AHeap → Prop) (vs59 : List Value) (h60 : AHeap) : Prop :=
 opt (nb [(nth vs53 1), (.int .i64 1)] (abin2 Tryz.prog .add 3 (.tmp 45) (.const (.int .i64 1)) (nth vs53 1) (.int .i64 1))) fun t63 => j52 [(nth vs59 0), t63] h60
def X_Right_6 (t44 : Value) (j49 : List Value → AHeap → Prop) (t43 : Value) (t1 : Value) (t41 : Value) (R : Value → AHeap → Prop) (vs53 : List Value) (h54 : AHeap) (j52 : List Value → AHeap → Prop) : Prop :=
 opt (nb [(nth vs53 1), t44] (abin2 Tryz.prog .lss 3 (.tmp 45) (.tmp 44) (nth vs53 1) t44)) fun t46 => CD t46 (fun j55 => j55 [] h54)
 (fun j55 => j49 [(nth vs53 0)] h54)
 (fun vs56 h57 => BK (X_Right_4 t43 vs53 h57 t1 t41 R)
 (X_Right_5 vs53 j52))
def X_Right_7 (t1 : Value) (R : Value → AHeap → Prop) (vs50 : List Value) (h51 : AHeap) : Prop :=
 opt (afield Tryz.prog 48 t1 5) fun t64 => opt (aload Tryz.prog 46 t64 h51) fun t65 => opt (nb ([] ++ [t1]) (some (Value.func (.func 30) [].toArray [t1].toArray))) fun t66 => callV Tryz.prog (.func (.func 29) #[] #[]) [t65, t66] h51 (fun t67 h75 => opt (aun Tryz.prog .not t67) fun t68 => rv [t68] h75 R)
def X_Right_8 (t1 : Value) (R : Value → AHeap → Prop) (vs45 : List Value) (h46 : AHeap) : Prop :=
 opt (afield Tryz.prog 48 t1 2) fun t39 => opt (aload Tryz.prog 3 t39 h46) fun t40 => optH (amake Tryz.prog 70 t40 t40 h46) fun t41 h47 => opt (afield Tryz.prog 48 t1 1) fun t42 => opt (aload Tryz.prog 22 t42 h47) fun t43 => optH (nb [t43] (abuiltin Tryz.prog .len [22] 3 [t43] h47)) fun t44 h48 => BK (fun j49 => LP (X_Right_6 t44 j49 t43 t1 t41 R)
 [(nth vs45 0), (.int .i64 0)] h48)
 (X_Right_7 t1 R)
def X_Right_9 (t33 : Value) (R : Value → AHeap → Prop) (t1 : Value) (t36 : Value) (h41 : AHeap) : Prop :=
 GD t33 false (fun k42 => opt (nb [t36, (.int .i64 65536)] (abin2 Tryz.prog .gtr 3 (.tmp 36) (.const (.int .i64 65536)) t36 (.int .i64 65536))) fun t37 => k42 t37 h41) (fun t37 h43 => opt (pk t33 (.bool true) t37) fun t38 => CD t38 (fun j44 => rv [(.bool false)] h43 R)
 (fun j44 => j44 [(.bool false)] h43)
 (X_Right_8 t1 R)) h41
def X_Right_10 (t28 : Value) (t1 : Value) (R : Value → AHeap → Prop) (t32 : Value) (h37 : AHeap) : Prop :=
 opt (pk t28 (.bool true) t32) fun t33 => GD t33 false (fun k38 => opt (afield Tryz.prog 48 t1 3) fun t35 => k38 t35 h37) (fun t35 h39 => GD t33 false (fun k40 => opt (aload Tryz.prog 3 t35 h39) fun t36 => k40 t36 h39) (X_Right_9 t33 R t1) h39) h37
def X_Right_11 (t28 : Value) (t1 : Value) (R : Value → AHeap → Prop) (t31 : Value) (h35 : AHeap) : Prop :=
 GD t28 false (fun k36 => opt (nb [t31, (.int .i64 0)] (abin2 Tryz.prog .lss 3 (.tmp 31) (.const (.int .i64 0)) t31 (.int .i64 0))) fun t32 => k36 t32 h35) (X_Right_10 t28 t1 R) h35
def X_Right_12 (t19 : Value) (t1 : Value) (R : Value → AHeap → Prop) (t27 : Value) (h31 : AHeap) : Prop :=
 opt (pk t19 (.bool true) t27) fun t28 => GD t28 false (fun k32 => opt (afield Tryz.prog 48 t1 3) fun t30 => k32 t30 h31) (fun t30 h33 => GD t28 false (fun k34 => opt (aload Tryz.prog 3 t30 h33) fun t31 => k34 t31 h33) (X_Right_11 t28 t1 R) h33) h31
def X_Right_13 (t19 : Value) (t22 : Value) (t1 : Value) (R : Value → AHeap → Prop) (t25 : Value) (h25 : AHeap) : Prop :=
 GD t19 false (fun k27 => callV Tryz.prog (.func (.func 15) #[] #[]) [t22, t25] h25 (fun t26 h29 => k27 t26 h29)) (fun t26 h28 => GD t19 false (fun k30 => opt (aun Tryz.prog .not t26) fun t27 => k30 t27 h28) (X_Right_12 t19 t1 R) h28) h25
def X_Right_14 (t19 : Value) (t22 : Value) (t1 : Value) (R : Value → AHeap → Prop) (t23 : Value) (h21 : AHeap) : Prop :=
 GD t19 false (fun k22 => opt (aload Tryz.prog 46 t23 h21) fun t24 => k22 t24 h21) (fun t24 h23 => GD t19 false (fun k24 => optH (nb [t24] (abuiltin Tryz.prog .len [46] 3 [t24] h23)) fun t25 h26 => k24 t25 h26) (X_Right_13 t19 t22 t1 R) h23) h21
def X_Right_15 (t19 : Value) (t1 : Value) (R : Value → AHeap → Prop) (t21 : Value) (h17 : AHeap) : Prop :=
 GD t19 false (fun k18 => opt (aload Tryz.prog 3 t21 h17) fun t22 => k18 t22 h17) (fun t22 h19 => GD t19 false (fun k20 => opt (afield Tryz.prog 48 t1 5) fun t23 => k20 t23 h19) (X_Right_14 t19 t22 t1 R) h19) h17
def X_Right_16 (t14 : Value) (t1 : Value) (R : Value → AHeap → Prop) (t17 : Value) (h13 : AHeap) : Prop :=
 GD t14 false (fun k14 => opt (nb [t17, (.int .i64 5000)] (abin2 Tryz.prog .gtr 3 (.tmp 17) (.const (.int .i64 5000)) t17 (.int .i64 5000))) fun t18 => k14 t18 h13) (fun t18 h15 => opt (pk t14 (.bool true) t18) fun t19 => GD t19 false (fun k16 => opt (afield Tryz.prog 48 t1 4) fun t21 => k16 t21 h15) (X_Right_15 t19 t1 R) h15) h13
def X_Right_17 (t9 : Value) (t1 : Value) (R : Value → AHeap → Prop) (t13 : Value) (h9 : AHeap) : Prop :=
 opt (pk t9 (.bool true) t13) fun t14 => GD t14 false (fun k10 => opt (afield Tryz.prog 48 t1 2) fun t16 => k10 t16 h9) (fun t16 h11 => GD t14 false (fun k12 => opt (aload Tryz.prog 3 t16 h11) fun t17 => k12 t17 h11) (X_Right_16 t14 t1 R) h11) h9
def X_Right_18 (t9 : Value) (t1 : Value) (R : Value → AHeap → Prop) (t12 : Value) (h7 : AHeap) : Prop :=
 GD t9 false (fun k8 => opt (nb [t12, (.int .i64 0)] (abin2 Tryz.prog .lss 3 (.tmp 12) (.const (.int .i64 0)) t12 (.int .i64 0))) fun t13 => k8 t13 h7) (X_Right_17 t9 t1 R) h7
def X_Right (h : AHeap) (t0 : Value) (R : Value → AHeap → Prop) : Prop :=
 opt (nb [t0] (some (Value.cells t0).toList)) fun c1 => nw h c1 48 fun t1 h2 => opt (afield Tryz.prog 48 t1 5) fun t6 => opt (aload Tryz.prog 46 t6 h2) fun t7 => optH (nb [t7] (abuiltin Tryz.prog .len [46] 3 [t7] h2)) fun t8 h3 => opt (nb [t8, (.int .i64 5000)] (abin2 Tryz.prog .gtr 3 (.tmp 8) (.const (.int .i64 5000)) t8 (.int .i64 5000))) fun t9 => GD t9 false (fun k4 => opt (afield Tryz.prog 48 t1 2) fun t11 => k4 t11 h3) (fun t11 h5 => GD t9 false (fun k6 => opt (aload Tryz.prog 3 t11 h5) fun t12 => k6 t12 h5) (X_Right_18 t9 t1 R) h5) h3
theorem X_Right_eq (h : AHeap) (t0 : Value) (R : Value → AHeap → Prop) : wpF Tryz.prog (drawW Tryz.prog qs) 200 16 [t0] h R = X_Right h t0 R := by kernel_rfl
theorem X_Right_ok {h : AHeap} {t0 : Value} {R : Value → AHeap → Prop} (hw : X_Right h t0 R) : DC Tryz.prog 16 [t0] h R := DC_of_wp mixed (n := 200) (by rw [X_Right_eq]; exact hw)

/-- plumbob/plumbobref12.Right -/
def X_dRight_1 (t1 : Value) (h92 : AHeap) (vs88 : List Value) (vs56 : List Value) (R : Value → AHeap → Prop) (j93 : List Value → AHeap → Prop) : Prop :=
 opt (afield Tryz.prog 48 t1 1) fun t71 => opt (aload Tryz.prog 22 t71 h92) fun t72 => opt (aindex Tryz.prog 22 t72 (nth vs88 1)) fun t74 => opt (aload Tryz.prog 3 t74 h92) fun t75 => opt (afield Tryz.prog 48 t1 1) fun t76 => opt (aload Tryz.prog 22 t76 h92) fun t77 => opt (aindex Tryz.prog 22 t77 (nth vs56 1)) fun t79 => opt (aload Tryz.prog 3 t79 h92) fun t80 => opt (nb [t75, t80] (abin2 Tryz.prog .eql 3 (.tmp 75) (.tmp 80) t75 t80)) fun t81 => CD t81 (fun j96 => rv [(.bool false)] h92 R)
 (fun j96 => j96 [(nth vs88 0)] h92)
 (fun vs97 h98 => j93 [(nth vs97 0)] h98)
def X_dRight_2 (vs88 : List Value) (j87 : List Value → AHeap → Prop) (vs94 : List Value) (h95 : AHeap) : Prop :=
 opt (nb [(nth vs88 1), (.int .i64 1)] (abin2 Tryz.prog .add 3 (.tmp 69) (.const (.int .i64 1)) (nth vs88 1) (.int .i64 1))) fun t70 => j87 [(nth vs94 0), t70] h95
def X_dRight_3 (vs56 : List Value) (j84 : List Value → AHeap → Prop) (t1 : Value) (R : Value → AHeap → Prop) (vs88 : List Value) (h89 : AHeap) (j87 : List Value → AHeap → Prop) : Prop :=
 opt (nb [(nth vs88 1), (nth vs56 1)] (abin2 Tryz.prog .lss 3 (.tmp 66) (.tmp 67) (nth vs88 1) (nth vs56 1))) fun t68 => CD t68 (fun j90 => j90 [] h89)
 (fun j90 => j84 [(nth vs88 0)] h89)
 (fun vs91 h92 => BK (X_dRight_1 t1 h92 vs88 vs56 R)
 (X_dRight_2 vs88 j87))
def X_dRight_4 (t55 : Value) (R : Value → AHeap → Prop) (vs56 : List Value) (t1 : Value) (j62 : List Value → AHeap → Prop) (t64 : Value) (h80 : AHeap) : Prop :=
 opt (pk t55 (.bool true) t64) fun t65 => CD t65 (fun j81 => rv [(.bool false)] h80 R)
 (fun j81 => j81 [(nth vs56 0)] h80)
 (fun vs82 h83 => BK (fun j84 => LP (X_dRight_3 vs56 j84 t1 R)
 [(nth vs82 0), (.int .i64 0)] h83)
 (fun vs85 h86 => j62 [(nth vs85 0)] h86))
def X_dRight_5 (t55 : Value) (t61 : Value) (R : Value → AHeap → Prop) (vs56 : List Value) (t1 : Value) (j62 : List Value → AHeap → Prop) (t62 : Value) (h76 : AHeap) : Prop :=
 GD t55 false (fun k77 => opt (aload Tryz.prog 3 t62 h76) fun t63 => k77 t63 h76) (fun t63 h78 => GD t55 false (fun k79 => opt (nb [t61, t63] (abin2 Tryz.prog .geq 3 (.tmp 61) (.tmp 63) t61 t63)) fun t64 => k79 t64 h78) (X_dRight_4 t55 R vs56 t1 j62) h78) h76
def X_dRight_6 (t55 : Value) (t1 : Value) (R : Value → AHeap → Prop) (vs56 : List Value) (j62 : List Value → AHeap → Prop) (t60 : Value) (h72 : AHeap) : Prop :=
 GD t55 false (fun k73 => opt (aload Tryz.prog 3 t60 h72) fun t61 => k73 t61 h72) (fun t61 h74 => GD t55 false (fun k75 => opt (afield Tryz.prog 48 t1 2) fun t62 => k75 t62 h74) (X_dRight_5 t55 t61 R vs56 t1 j62) h74) h72
def X_dRight_7 (t55 : Value) (vs56 : List Value) (t1 : Value) (R : Value → AHeap → Prop) (j62 : List Value → AHeap → Prop) (t58 : Value) (h68 : AHeap) : Prop :=
 GD t55 false (fun k69 => k69 (nth vs56 1) h68) (fun t59 h70 => GD t55 false (fun k71 => opt (aindex Tryz.prog 22 t58 t59) fun t60 => k71 t60 h70) (X_dRight_6 t55 t1 R vs56 j62) h70) h68
def X_dRight_8 (t1 : Value) (h61 : AHeap) (vs56 : List Value) (R : Value → AHeap → Prop) (j62 : List Value → AHeap → Prop) : Prop :=
 opt (afield Tryz.prog 48 t1 1) fun t50 => opt (aload Tryz.prog 22 t50 h61) fun t51 => opt (aindex Tryz.prog 22 t51 (nth vs56 1)) fun t53 => opt (aload Tryz.prog 3 t53 h61) fun t54 => opt (nb [t54, (.int .i64 0)] (abin2 Tryz.prog .lss 3 (.tmp 54) (.const (.int .i64 0)) t54 (.int .i64 0))) fun t55 => GD t55 false (fun k65 => opt (afield Tryz.prog 48 t1 1) fun t57 => k65 t57 h61) (fun t57 h66 => GD t55 false (fun k67 => opt (aload Tryz.prog 22 t57 h66) fun t58 => k67 t58 h66) (X_dRight_7 t55 vs56 t1 R j62) h66) h61
def X_dRight_9 (vs56 : List Value) (j55 : List Value → AHeap → Prop) (vs63 : List Value) (h64 : AHeap) : Prop :=
 opt (nb [(nth vs56 1), (.int .i64 1)] (abin2 Tryz.prog .add 3 (.tmp 48) (.const (.int .i64 1)) (nth vs56 1) (.int .i64 1))) fun t49 => j55 [(nth vs63 0), t49] h64
def X_dRight_10 (t1 : Value) (j52 : List Value → AHeap → Prop) (R : Value → AHeap → Prop) (vs56 : List Value) (h57 : AHeap) (j55 : List Value → AHeap → Prop) : Prop :=
 opt (afield Tryz.prog 48 t1 1) fun t44 => opt (aload Tryz.prog 22 t44 h57) fun t45 => optH (nb [t45] (abuiltin Tryz.prog .len [22] 3 [t45] h57)) fun t46 h58 => opt (nb [(nth vs56 1), t46] (abin2 Tryz.prog .lss 3 (.tmp 43) (.tmp 46) (nth vs56 1) t46)) fun t47 => CD t47 (fun j59 => j59 [] h58)
 (fun j59 => j52 [(nth vs56 0)] h58)
 (fun vs60 h61 => BK (X_dRight_8 t1 h61 vs56 R)
 (X_dRight_9 vs56 j55))
def X_dRight_11 (R : Value → AHeap → Prop) (vs103 : List Value) (j109 : List Value → AHeap → Prop) (t95 : Value) (h112 : AHeap) : Prop :=
 opt (aun Tryz.prog .not t95) fun t96 => CD t96 (fun j113 => rv [(.bool false)] h112 R)
 (fun j113 => j113 [(nth vs103 0)] h112)
 (fun vs114 h115 => j109 [(nth vs114 0)] h115)
def X_dRight_12 (t1 : Value) (h108 : AHeap) (vs103 : List Value) (R : Value → AHeap → Prop) (j109 : List Value → AHeap → Prop) : Prop :=
 opt (aload Tryz.prog 48 t1 h108) fun t89 => opt (afield Tryz.prog 48 t1 5) fun t90 => opt (aload Tryz.prog 46 t90 h108) fun t91 => opt (aindex Tryz.prog 46 t91 (nth vs103 1)) fun t93 => opt (aload Tryz.prog 43 t93 h108) fun t94 => callD Tryz.prog 32 [t89, t94] h108 (X_dRight_11 R vs103 j109)
def X_dRight_13 (vs103 : List Value) (j102 : List Value → AHeap → Prop) (vs110 : List Value) (h111 : AHeap) : Prop :=
 opt (nb [(nth vs103 1), (.int .i64 1)] (abin2 Tryz.prog .add 3 (.tmp 87) (.const (.int .i64 1)) (nth vs103 1) (.int .i64 1))) fun t88 => j102 [(nth vs110 0), t88] h111
def X_dRight_14 (t1 : Value) (j99 : List Value → AHeap → Prop) (R : Value → AHeap → Prop) (vs103 : List Value) (h104 : AHeap) (j102 : List Value → AHeap → Prop) : Prop :=
 opt (afield Tryz.prog 48 t1 5) fun t83 => opt (aload Tryz.prog 46 t83 h104) fun t84 => optH (nb [t84] (abuiltin Tryz.prog .len [46] 3 [t84] h104)) fun t85 h105 => opt (nb [(nth vs103 1), t85] (abin2 Tryz.prog .lss 3 (.tmp 82) (.tmp 85) (nth vs103 1) t85)) fun t86 => CD t86 (fun j106 => j106 [] h105)
 (fun j106 => j99 [(nth vs103 0)] h105)
 (fun vs107 h108 => BK (X_dRight_12 t1 h108 vs103 R)
 (X_dRight_13 vs103 j102))
def X_dRight_15 (t1 : Value) (R : Value → AHeap → Prop) (vs50 : List Value) (h51 : AHeap) : Prop :=
 BK (fun j52 => LP (X_dRight_10 t1 j52 R)
 [(nth vs50 0), (.int .i64 0)] h51)
 (fun vs53 h54 => BK (fun j99 => LP (X_dRight_14 t1 j99 R)
 [(nth vs53 0), (.int .i64 0)] h54)
 (fun vs100 h101 => rv [(.bool true)] h101 R))
def X_dRight_16 (t37 : Value) (R : Value → AHeap → Prop) (t1 : Value) (t40 : Value) (h46 : AHeap) : Prop :=
 GD t37 false (fun k47 => opt (nb [t40, (.int .i64 65536)] (abin2 Tryz.prog .gtr 3 (.tmp 40) (.const (.int .i64 65536)) t40 (.int .i64 65536))) fun t41 => k47 t41 h46) (fun t41 h48 => opt (pk t37 (.bool true) t41) fun t42 => CD t42 (fun j49 => rv [(.bool false)] h48 R)
 (fun j49 => j49 [(.bool false)] h48)
 (X_dRight_15 t1 R)) h46
def X_dRight_17 (t32 : Value) (t1 : Value) (R : Value → AHeap → Prop) (t36 : Value) (h42 : AHeap) : Prop :=
 opt (pk t32 (.bool true) t36) fun t37 => GD t37 false (fun k43 => opt (afield Tryz.prog 48 t1 3) fun t39 => k43 t39 h42) (fun t39 h44 => GD t37 false (fun k45 => opt (aload Tryz.prog 3 t39 h44) fun t40 => k45 t40 h44) (X_dRight_16 t37 R t1) h44) h42
def X_dRight_18 (t32 : Value) (t1 : Value) (R : Value → AHeap → Prop) (t35 : Value) (h40 : AHeap) : Prop :=
 GD t32 false (fun k41 => opt (nb [t35, (.int .i64 0)] (abin2 Tryz.prog .lss 3 (.tmp 35) (.const (.int .i64 0)) t35 (.int .i64 0))) fun t36 => k41 t36 h40) (X_dRight_17 t32 t1 R) h40
def X_dRight_19 (t24 : Value) (t1 : Value) (R : Value → AHeap → Prop) (t31 : Value) (h36 : AHeap) : Prop :=
 opt (pk t24 (.bool true) t31) fun t32 => GD t32 false (fun k37 => opt (afield Tryz.prog 48 t1 3) fun t34 => k37 t34 h36) (fun t34 h38 => GD t32 false (fun k39 => opt (aload Tryz.prog 3 t34 h38) fun t35 => k39 t35 h38) (X_dRight_18 t32 t1 R) h38) h36
def X_dRight_20 (t24 : Value) (t27 : Value) (t1 : Value) (R : Value → AHeap → Prop) (t29 : Value) (h31 : AHeap) : Prop :=
 GD t24 false (fun k32 => optH (nb [t29] (abuiltin Tryz.prog .len [46] 3 [t29] h31)) fun t30 h34 => k32 t30 h34) (fun t30 h33 => GD t24 false (fun k35 => opt (nb [t27, t30] (abin2 Tryz.prog .geq 3 (.tmp 27) (.tmp 30) t27 t30)) fun t31 => k35 t31 h33) (X_dRight_19 t24 t1 R) h33) h31
def X_dRight_21 (t24 : Value) (t1 : Value) (R : Value → AHeap → Prop) (t27 : Value) (h27 : AHeap) : Prop :=
 GD t24 false (fun k28 => opt (afield Tryz.prog 48 t1 5) fun t28 => k28 t28 h27) (fun t28 h29 => GD t24 false (fun k30 => opt (aload Tryz.prog 46 t28 h29) fun t29 => k30 t29 h29) (X_dRight_20 t24 t27 t1 R) h29) h27
def X_dRight_22 (t19 : Value) (t1 : Value) (R : Value → AHeap → Prop) (t23 : Value) (h23 : AHeap) : Prop :=
 opt (pk t19 (.bool true) t23) fun t24 => GD t24 false (fun k24 => opt (afield Tryz.prog 48 t1 4) fun t26 => k24 t26 h23) (fun t26 h25 => GD t24 false (fun k26 => opt (aload Tryz.prog 3 t26 h25) fun t27 => k26 t27 h25) (X_dRight_21 t24 t1 R) h25) h23
def X_dRight_23 (t19 : Value) (t1 : Value) (R : Value → AHeap → Prop) (t22 : Value) (h21 : AHeap) : Prop :=
 GD t19 false (fun k22 => opt (nb [t22, (.int .i64 0)] (abin2 Tryz.prog .lss 3 (.tmp 22) (.const (.int .i64 0)) t22 (.int .i64 0))) fun t23 => k22 t23 h21) (X_dRight_22 t19 t1 R) h21
def X_dRight_24 (t13 : Value) (t1 : Value) (R : Value → AHeap → Prop) (t18 : Value) (h17 : AHeap) : Prop :=
 opt (pk t13 (.bool true) t18) fun t19 => GD t19 false (fun k18 => opt (afield Tryz.prog 48 t1 4) fun t21 => k18 t21 h17) (fun t21 h19 => GD t19 false (fun k20 => opt (aload Tryz.prog 3 t21 h19) fun t22 => k20 t22 h19) (X_dRight_23 t19 t1 R) h19) h17
def X_dRight_25 (t13 : Value) (t1 : Value) (R : Value → AHeap → Prop) (t17 : Value) (h14 : AHeap) : Prop :=
 GD t13 false (fun k16 => opt (nb [t17, (.int .i64 5000)] (abin2 Tryz.prog .gtr 3 (.tmp 17) (.const (.int .i64 5000)) t17 (.int .i64 5000))) fun t18 => k16 t18 h14) (X_dRight_24 t13 t1 R) h14
def X_dRight_26 (t13 : Value) (t1 : Value) (R : Value → AHeap → Prop) (t15 : Value) (h10 : AHeap) : Prop :=
 GD t13 false (fun k11 => opt (aload Tryz.prog 46 t15 h10) fun t16 => k11 t16 h10) (fun t16 h12 => GD t13 false (fun k13 => optH (nb [t16] (abuiltin Tryz.prog .len [46] 3 [t16] h12)) fun t17 h15 => k13 t17 h15) (X_dRight_25 t13 t1 R) h12) h10
def X_dRight_27 (t8 : Value) (t1 : Value) (R : Value → AHeap → Prop) (t11 : Value) (h6 : AHeap) : Prop :=
 GD t8 false (fun k7 => opt (nb [t11, (.int .i64 5000)] (abin2 Tryz.prog .gtr 3 (.tmp 11) (.const (.int .i64 5000)) t11 (.int .i64 5000))) fun t12 => k7 t12 h6) (fun t12 h8 => opt (pk t8 (.bool true) t12) fun t13 => GD t13 false (fun k9 => opt (afield Tryz.prog 48 t1 5) fun t15 => k9 t15 h8) (X_dRight_26 t13 t1 R) h8) h6
def X_dRight (h : AHeap) (t0 : Value) (R : Value → AHeap → Prop) : Prop :=
 opt (nb [t0] (some (Value.cells t0).toList)) fun c1 => nw h c1 48 fun t1 h2 => opt (afield Tryz.prog 48 t1 2) fun t6 => opt (aload Tryz.prog 3 t6 h2) fun t7 => opt (nb [t7, (.int .i64 0)] (abin2 Tryz.prog .lss 3 (.tmp 7) (.const (.int .i64 0)) t7 (.int .i64 0))) fun t8 => GD t8 false (fun k3 => opt (afield Tryz.prog 48 t1 2) fun t10 => k3 t10 h2) (fun t10 h4 => GD t8 false (fun k5 => opt (aload Tryz.prog 3 t10 h4) fun t11 => k5 t11 h4) (X_dRight_27 t8 t1 R) h4) h2
theorem X_dRight_eq (h : AHeap) (t0 : Value) (R : Value → AHeap → Prop) : wpF Tryz.prog (drawW Tryz.prog qs) 200 17 [t0] h R = X_dRight h t0 R := by kernel_rfl
theorem X_dRight_ok {h : AHeap} {t0 : Value} {R : Value → AHeap → Prop} (hw : X_dRight h t0 R) : DC Tryz.prog 17 [t0] h R := DC_of_wp mixed (n := 200) (by rw [X_dRight_eq]; exact hw)

/-- plumbob/plumbobref12.Same -/
def X_Same_1 (t2 : Value) (h79 : AHeap) (vs74 : List Value) (t3 : Value) (R : Value → AHeap → Prop) (j80 : List Value → AHeap → Prop) : Prop :=
 opt (afield Tryz.prog 48 t2 1) fun t58 => opt (aload Tryz.prog 22 t58 h79) fun t59 => opt (aindex Tryz.prog 22 t59 (nth vs74 1)) fun t61 => opt (aload Tryz.prog 3 t61 h79) fun t62 => opt (afield Tryz.prog 48 t3 1) fun t63 => opt (aload Tryz.prog 22 t63 h79) fun t64 => opt (aindex Tryz.prog 22 t64 (nth vs74 1)) fun t66 => opt (aload Tryz.prog 3 t66 h79) fun t67 => opt (nb [t62, t67] (abin2 Tryz.prog .neq 3 (.tmp 62) (.tmp 67) t62 t67)) fun t68 => CD t68 (fun j83 => rv [(.bool false)] h79 R)
 (fun j83 => j83 [(nth vs74 0)] h79)
 (fun vs84 h85 => j80 [(nth vs84 0)] h85)
def X_Same_2 (vs74 : List Value) (j73 : List Value → AHeap → Prop) (vs81 : List Value) (h82 : AHeap) : Prop :=
 opt (nb [(nth vs74 1), (.int .i64 1)] (abin2 Tryz.prog .add 3 (.tmp 56) (.const (.int .i64 1)) (nth vs74 1) (.int .i64 1))) fun t57 => j73 [(nth vs81 0), t57] h82
def X_Same_3 (t2 : Value) (j70 : List Value → AHeap → Prop) (t3 : Value) (R : Value → AHeap → Prop) (vs74 : List Value) (h75 : AHeap) (j73 : List Value → AHeap → Prop) : Prop :=
 opt (afield Tryz.prog 48 t2 1) fun t52 => opt (aload Tryz.prog 22 t52 h75) fun t53 => optH (nb [t53] (abuiltin Tryz.prog .len [22] 3 [t53] h75)) fun t54 h76 => opt (nb [(nth vs74 1), t54] (abin2 Tryz.prog .lss 3 (.tmp 51) (.tmp 54) (nth vs74 1) t54)) fun t55 => CD t55 (fun j77 => j77 [] h76)
 (fun j77 => j70 [(nth vs74 0)] h76)
 (fun vs78 h79 => BK (X_Same_1 t2 h79 vs74 t3 R)
 (X_Same_2 vs74 j73))
def X_Same_4 (R : Value → AHeap → Prop) (vs90 : List Value) (j96 : List Value → AHeap → Prop) (t86 : Value) (h99 : AHeap) : Prop :=
 opt (aun Tryz.prog .not t86) fun t87 => CD t87 (fun j100 => rv [(.bool false)] h99 R)
 (fun j100 => j100 [(nth vs90 0)] h99)
 (fun vs101 h102 => j96 [(nth vs101 0)] h102)
def X_Same_5 (t2 : Value) (h95 : AHeap) (vs90 : List Value) (t3 : Value) (R : Value → AHeap → Prop) (j96 : List Value → AHeap → Prop) : Prop :=
 opt (afield Tryz.prog 48 t2 5) fun t76 => opt (aload Tryz.prog 46 t76 h95) fun t77 => opt (aindex Tryz.prog 46 t77 (nth vs90 1)) fun t79 => opt (aload Tryz.prog 43 t79 h95) fun t80 => opt (afield Tryz.prog 48 t3 5) fun t81 => opt (aload Tryz.prog 46 t81 h95) fun t82 => opt (aindex Tryz.prog 46 t82 (nth vs90 1)) fun t84 => opt (aload Tryz.prog 43 t84 h95) fun t85 => callD Tryz.prog 33 [t80, t85] h95 (X_Same_4 R vs90 j96)
def X_Same_6 (vs90 : List Value) (j89 : List Value → AHeap → Prop) (vs97 : List Value) (h98 : AHeap) : Prop :=
 opt (nb [(nth vs90 1), (.int .i64 1)] (abin2 Tryz.prog .add 3 (.tmp 74) (.const (.int .i64 1)) (nth vs90 1) (.int .i64 1))) fun t75 => j89 [(nth vs97 0), t75] h98
def X_Same_7 (t2 : Value) (j86 : List Value → AHeap → Prop) (t3 : Value) (R : Value → AHeap → Prop) (vs90 : List Value) (h91 : AHeap) (j89 : List Value → AHeap → Prop) : Prop :=
 opt (afield Tryz.prog 48 t2 5) fun t70 => opt (aload Tryz.prog 46 t70 h91) fun t71 => optH (nb [t71] (abuiltin Tryz.prog .len [46] 3 [t71] h91)) fun t72 h92 => opt (nb [(nth vs90 1), t72] (abin2 Tryz.prog .lss 3 (.tmp 69) (.tmp 72) (nth vs90 1) t72)) fun t73 => CD t73 (fun j93 => j93 [] h92)
 (fun j93 => j86 [(nth vs90 0)] h92)
 (fun vs94 h95 => BK (X_Same_5 t2 h95 vs90 t3 R)
 (X_Same_6 vs90 j89))
def X_Same_8 (t2 : Value) (t3 : Value) (R : Value → AHeap → Prop) (vs68 : List Value) (h69 : AHeap) : Prop :=
 BK (fun j70 => LP (X_Same_3 t2 j70 t3 R)
 [(nth vs68 0), (.int .i64 0)] h69)
 (fun vs71 h72 => BK (fun j86 => LP (X_Same_7 t2 j86 t3 R)
 [(nth vs71 0), (.int .i64 0)] h72)
 (fun vs87 h88 => rv [(.bool true)] h88 R))
def X_Same_9 (t41 : Value) (t45 : Value) (R : Value → AHeap → Prop) (t2 : Value) (t3 : Value) (t48 : Value) (h63 : AHeap) : Prop :=
 GD t41 false (fun k65 => opt (nb [t45, t48] (abin2 Tryz.prog .neq 3 (.tmp 45) (.tmp 48) t45 t48)) fun t49 => k65 t49 h63) (fun t49 h66 => opt (pk t41 (.bool true) t49) fun t50 => CD t50 (fun j67 => rv [(.bool false)] h66 R)
 (fun j67 => j67 [(.bool false)] h66)
 (X_Same_8 t2 t3 R)) h63
def X_Same_10 (t41 : Value) (t45 : Value) (R : Value → AHeap → Prop) (t2 : Value) (t3 : Value) (t46 : Value) (h59 : AHeap) : Prop :=
 GD t41 false (fun k60 => opt (aload Tryz.prog 46 t46 h59) fun t47 => k60 t47 h59) (fun t47 h61 => GD t41 false (fun k62 => optH (nb [t47] (abuiltin Tryz.prog .len [46] 3 [t47] h61)) fun t48 h64 => k62 t48 h64) (X_Same_9 t41 t45 R t2 t3) h61) h59
def X_Same_11 (t41 : Value) (t3 : Value) (R : Value → AHeap → Prop) (t2 : Value) (t44 : Value) (h54 : AHeap) : Prop :=
 GD t41 false (fun k55 => optH (nb [t44] (abuiltin Tryz.prog .len [46] 3 [t44] h54)) fun t45 h57 => k55 t45 h57) (fun t45 h56 => GD t41 false (fun k58 => opt (afield Tryz.prog 48 t3 5) fun t46 => k58 t46 h56) (X_Same_10 t41 t45 R t2 t3) h56) h54
def X_Same_12 (t32 : Value) (t2 : Value) (t3 : Value) (R : Value → AHeap → Prop) (t40 : Value) (h50 : AHeap) : Prop :=
 opt (pk t32 (.bool true) t40) fun t41 => GD t41 false (fun k51 => opt (afield Tryz.prog 48 t2 5) fun t43 => k51 t43 h50) (fun t43 h52 => GD t41 false (fun k53 => opt (aload Tryz.prog 46 t43 h52) fun t44 => k53 t44 h52) (X_Same_11 t41 t3 R t2) h52) h50
def X_Same_13 (t32 : Value) (t36 : Value) (t2 : Value) (t3 : Value) (R : Value → AHeap → Prop) (t38 : Value) (h45 : AHeap) : Prop :=
 GD t32 false (fun k46 => optH (nb [t38] (abuiltin Tryz.prog .len [22] 3 [t38] h45)) fun t39 h48 => k46 t39 h48) (fun t39 h47 => GD t32 false (fun k49 => opt (nb [t36, t39] (abin2 Tryz.prog .neq 3 (.tmp 36) (.tmp 39) t36 t39)) fun t40 => k49 t40 h47) (X_Same_12 t32 t2 t3 R) h47) h45
def X_Same_14 (t32 : Value) (t3 : Value) (t2 : Value) (R : Value → AHeap → Prop) (t36 : Value) (h40 : AHeap) : Prop :=
 GD t32 false (fun k42 => opt (afield Tryz.prog 48 t3 1) fun t37 => k42 t37 h40) (fun t37 h43 => GD t32 false (fun k44 => opt (aload Tryz.prog 22 t37 h43) fun t38 => k44 t38 h43) (X_Same_13 t32 t36 t2 t3 R) h43) h40
def X_Same_15 (t32 : Value) (t3 : Value) (t2 : Value) (R : Value → AHeap → Prop) (t34 : Value) (h36 : AHeap) : Prop :=
 GD t32 false (fun k37 => opt (aload Tryz.prog 22 t34 h36) fun t35 => k37 t35 h36) (fun t35 h38 => GD t32 false (fun k39 => optH (nb [t35] (abuiltin Tryz.prog .len [22] 3 [t35] h38)) fun t36 h41 => k39 t36 h41) (X_Same_14 t32 t3 t2 R) h38) h36
def X_Same_16 (t25 : Value) (t28 : Value) (t2 : Value) (t3 : Value) (R : Value → AHeap → Prop) (t30 : Value) (h32 : AHeap) : Prop :=
 GD t25 false (fun k33 => opt (nb [t28, t30] (abin2 Tryz.prog .neq 3 (.tmp 28) (.tmp 30) t28 t30)) fun t31 => k33 t31 h32) (fun t31 h34 => opt (pk t25 (.bool true) t31) fun t32 => GD t32 false (fun k35 => opt (afield Tryz.prog 48 t2 1) fun t34 => k35 t34 h34) (X_Same_15 t32 t3 t2 R) h34) h32
def X_Same_17 (t25 : Value) (t3 : Value) (t2 : Value) (R : Value → AHeap → Prop) (t28 : Value) (h28 : AHeap) : Prop :=
 GD t25 false (fun k29 => opt (afield Tryz.prog 48 t3 4) fun t29 => k29 t29 h28) (fun t29 h30 => GD t25 false (fun k31 => opt (aload Tryz.prog 3 t29 h30) fun t30 => k31 t30 h30) (X_Same_16 t25 t28 t2 t3 R) h30) h28
def X_Same_18 (t18 : Value) (t2 : Value) (t3 : Value) (R : Value → AHeap → Prop) (t24 : Value) (h24 : AHeap) : Prop :=
 opt (pk t18 (.bool true) t24) fun t25 => GD t25 false (fun k25 => opt (afield Tryz.prog 48 t2 4) fun t27 => k25 t27 h24) (fun t27 h26 => GD t25 false (fun k27 => opt (aload Tryz.prog 3 t27 h26) fun t28 => k27 t28 h26) (X_Same_17 t25 t3 t2 R) h26) h24
def X_Same_19 (t18 : Value) (t21 : Value) (t2 : Value) (t3 : Value) (R : Value → AHeap → Prop) (t22 : Value) (h20 : AHeap) : Prop :=
 GD t18 false (fun k21 => opt (aload Tryz.prog 3 t22 h20) fun t23 => k21 t23 h20) (fun t23 h22 => GD t18 false (fun k23 => opt (nb [t21, t23] (abin2 Tryz.prog .neq 3 (.tmp 21) (.tmp 23) t21 t23)) fun t24 => k23 t24 h22) (X_Same_18 t18 t2 t3 R) h22) h20
def X_Same_20 (t18 : Value) (t3 : Value) (t2 : Value) (R : Value → AHeap → Prop) (t20 : Value) (h16 : AHeap) : Prop :=
 GD t18 false (fun k17 => opt (aload Tryz.prog 3 t20 h16) fun t21 => k17 t21 h16) (fun t21 h18 => GD t18 false (fun k19 => opt (afield Tryz.prog 48 t3 3) fun t22 => k19 t22 h18) (X_Same_19 t18 t21 t2 t3 R) h18) h16
def X_Same_21 (t11 : Value) (t14 : Value) (t2 : Value) (t3 : Value) (R : Value → AHeap → Prop) (t16 : Value) (h12 : AHeap) : Prop :=
 GD t11 false (fun k13 => opt (nb [t14, t16] (abin2 Tryz.prog .neq 3 (.tmp 14) (.tmp 16) t14 t16)) fun t17 => k13 t17 h12) (fun t17 h14 => opt (pk t11 (.bool true) t17) fun t18 => GD t18 false (fun k15 => opt (afield Tryz.prog 48 t2 3) fun t20 => k15 t20 h14) (X_Same_20 t18 t3 t2 R) h14) h12
def X_Same_22 (t11 : Value) (t3 : Value) (t2 : Value) (R : Value → AHeap → Prop) (t14 : Value) (h8 : AHeap) : Prop :=
 GD t11 false (fun k9 => opt (afield Tryz.prog 48 t3 2) fun t15 => k9 t15 h8) (fun t15 h10 => GD t11 false (fun k11 => opt (aload Tryz.prog 3 t15 h10) fun t16 => k11 t16 h10) (X_Same_21 t11 t14 t2 t3 R) h10) h8
def X_Same (h : AHeap) (t0 t1 : Value) (R : Value → AHeap → Prop) : Prop :=
 opt (nb [t0] (some (Value.cells t0).toList)) fun c1 => nw h c1 48 fun t2 h2 => opt (nb [t1] (some (Value.cells t1).toList)) fun c3 => nw h2 c3 48 fun t3 h4 => opt (afield Tryz.prog 48 t2 0) fun t7 => opt (aload Tryz.prog 9 t7 h4) fun t8 => opt (afield Tryz.prog 48 t3 0) fun t9 => opt (aload Tryz.prog 9 t9 h4) fun t10 => opt (nb [t8, t10] (abin2 Tryz.prog .neq 9 (.tmp 8) (.tmp 10) t8 t10)) fun t11 => GD t11 false (fun k5 => opt (afield Tryz.prog 48 t2 2) fun t13 => k5 t13 h4) (fun t13 h6 => GD t11 false (fun k7 => opt (aload Tryz.prog 3 t13 h6) fun t14 => k7 t14 h6) (X_Same_22 t11 t3 t2 R) h6) h4
theorem X_Same_eq (h : AHeap) (t0 t1 : Value) (R : Value → AHeap → Prop) : wpF Tryz.prog (drawW Tryz.prog qs) 200 18 [t0, t1] h R = X_Same h t0 t1 R := by kernel_rfl
theorem X_Same_ok {h : AHeap} {t0 t1 : Value} {R : Value → AHeap → Prop} (hw : X_Same h t0 t1 R) : DC Tryz.prog 18 [t0, t1] h R := DC_of_wp mixed (n := 200) (by rw [X_Same_eq]; exact hw)

/-- plumbob/rtl.Succs$1 -/
def X_Succs1_1 (t1 : Value) (t0 : Value) (R : Value → AHeap → Prop) (vs13 : List Value) (h14 : AHeap) : Prop :=
 opt (afield Tryz.prog 43 t1 0) fun t13 => opt (aload Tryz.prog 3 t13 h14) fun t14 => opt (nb [t14, (.int .i64 11)] (abin2 Tryz.prog .eql 3 (.tmp 14) (.const (.int .i64 11)) t14 (.int .i64 11))) fun t15 => CD t15 (fun j15 => opt (afield Tryz.prog 43 t1 8) fun t17 => opt (aload Tryz.prog 3 t17 h14) fun t18 => callV Tryz.prog t0 [t18] h14 (fun t19 h18 => j15 [] h18))
 (fun j15 => j15 [] h14)
 (fun vs16 h17 => rv [] h17 R)
def X_Succs1_2 (t5 : Value) (R : Value → AHeap → Prop) (t1 : Value) (t0 : Value) (t10 : Value) (h8 : AHeap) : Prop :=
 GD t5 true (fun k10 => opt (aun Tryz.prog .not t10) fun t11 => k10 t11 h8) (fun t11 h11 => opt (pk t5 t11 (.bool false)) fun t12 => CD t12 (fun j12 => rv [] h11 R)
 (fun j12 => j12 [] h11)
 (X_Succs1_1 t1 t0 R)) h8
def X_Succs1_3 (t5 : Value) (t7 : Value) (R : Value → AHeap → Prop) (t1 : Value) (t0 : Value) (t8 : Value) (h4 : AHeap) : Prop :=
 GD t5 true (fun k5 => opt (aload Tryz.prog 3 t8 h4) fun t9 => k5 t9 h4) (fun t9 h6 => GD t5 true (fun k7 => callV Tryz.prog t7 [t9] h6 (fun t10 h9 => k7 t10 h9)) (X_Succs1_2 t5 R t1 t0) h6) h4
def X_Succs1 (h : AHeap) (t0 t1 : Value) (R : Value → AHeap → Prop) : Prop :=
 opt (afield Tryz.prog 43 t1 0) fun t3 => opt (aload Tryz.prog 3 t3 h) fun t4 => opt (nb [t4, (.int .i64 12)] (abin2 Tryz.prog .neq 3 (.tmp 4) (.const (.int .i64 12)) t4 (.int .i64 12))) fun t5 => GD t5 true (fun k1 => k1 t0 h) (fun t7 h2 => GD t5 true (fun k3 => opt (afield Tryz.prog 43 t1 7) fun t8 => k3 t8 h2) (X_Succs1_3 t5 t7 R t1 t0) h2) h
theorem X_Succs1_eq (h : AHeap) (t0 t1 : Value) (R : Value → AHeap → Prop) : wpF Tryz.prog (drawW Tryz.prog qs) 200 20 [t0, t1] h R = X_Succs1 h t0 t1 R := by kernel_rfl
theorem X_Succs1_ok {h : AHeap} {t0 t1 : Value} {R : Value → AHeap → Prop} (hw : X_Succs1 h t0 t1 R) : DC Tryz.prog 20 [t0, t1] h R := DC_of_wp mixed (n := 200) (by rw [X_Succs1_eq]; exact hw)

/-- plumbob/rtl.Uses$1 -/
def X_Uses1_1 (t6 : Value) (h : AHeap) (j19 : List Value → AHeap → Prop) : Prop :=
 opt (nb [t6, (.int .i64 11)] (abin2 Tryz.prog .eql 3 (.tmp 6) (.const (.int .i64 11)) t6 (.int .i64 11))) fun t14 => CD t14 (fun j22 => j22 [t14] h)
 (fun j22 => opt (nb [t6, (.int .i64 7)] (abin2 Tryz.prog .eql 3 (.tmp 6) (.const (.int .i64 7)) t6 (.int .i64 7))) fun t15 => j22 [t15] h)
 (fun vs23 h24 => j19 [(nth vs23 0)] h24)
def X_Uses1_2 (t6 : Value) (h : AHeap) (j16 : List Value → AHeap → Prop) : Prop :=
 opt (nb [t6, (.int .i64 5)] (abin2 Tryz.prog .eql 3 (.tmp 6) (.const (.int .i64 5)) t6 (.int .i64 5))) fun t13 => CD t13 (fun j19 => j19 [t13] h)
 (X_Uses1_1 t6 h)
 (fun vs20 h21 => j16 [(nth vs20 0)] h21)
def X_Uses1_3 (t6 : Value) (h : AHeap) (j13 : List Value → AHeap → Prop) : Prop :=
 opt (nb [t6, (.int .i64 14)] (abin2 Tryz.prog .eql 3 (.tmp 6) (.const (.int .i64 14)) t6 (.int .i64 14))) fun t12 => CD t12 (fun j16 => j16 [t12] h)
 (X_Uses1_2 t6 h)
 (fun vs17 h18 => j13 [(nth vs17 0)] h18)
def X_Uses1_4 (t6 : Value) (h : AHeap) (j10 : List Value → AHeap → Prop) : Prop :=
 opt (nb [t6, (.int .i64 12)] (abin2 Tryz.prog .eql 3 (.tmp 6) (.const (.int .i64 12)) t6 (.int .i64 12))) fun t11 => CD t11 (fun j13 => j13 [t11] h)
 (X_Uses1_3 t6 h)
 (fun vs14 h15 => j10 [(nth vs14 0)] h15)
def X_Uses1_5 (t6 : Value) (h : AHeap) (j7 : List Value → AHeap → Prop) : Prop :=
 opt (nb [t6, (.int .i64 6)] (abin2 Tryz.prog .eql 3 (.tmp 6) (.const (.int .i64 6)) t6 (.int .i64 6))) fun t10 => CD t10 (fun j10 => j10 [t10] h)
 (X_Uses1_4 t6 h)
 (fun vs11 h12 => j7 [(nth vs11 0)] h12)
def X_Uses1_6 (t6 : Value) (h : AHeap) (j4 : List Value → AHeap → Prop) : Prop :=
 opt (nb [t6, (.int .i64 4)] (abin2 Tryz.prog .eql 3 (.tmp 6) (.const (.int .i64 4)) t6 (.int .i64 4))) fun t9 => CD t9 (fun j7 => j7 [t9] h)
 (X_Uses1_5 t6 h)
 (fun vs8 h9 => j4 [(nth vs8 0)] h9)
def X_Uses1_7 (t18 : Value) (R : Value → AHeap → Prop) (j25 : List Value → AHeap → Prop) (t23 : Value) (h35 : AHeap) : Prop :=
 GD t18 true (fun k37 => opt (aun Tryz.prog .not t23) fun t24 => k37 t24 h35) (fun t24 h38 => opt (pk t18 t24 (.bool false)) fun t25 => CD t25 (fun j39 => rv [] h38 R)
 (fun j39 => j39 [] h38)
 (fun vs40 h41 => j25 [] h41)) h35
def X_Uses1_8 (t18 : Value) (t20 : Value) (R : Value → AHeap → Prop) (j25 : List Value → AHeap → Prop) (t21 : Value) (h31 : AHeap) : Prop :=
 GD t18 true (fun k32 => opt (aload Tryz.prog 3 t21 h31) fun t22 => k32 t22 h31) (fun t22 h33 => GD t18 true (fun k34 => callV Tryz.prog t20 [t22] h33 (fun t23 h36 => k34 t23 h36)) (X_Uses1_7 t18 R j25) h33) h31
def X_Uses1_9 (t1 : Value) (h6 : AHeap) (t0 : Value) (R : Value → AHeap → Prop) (j25 : List Value → AHeap → Prop) : Prop :=
 opt (afield Tryz.prog 43 t1 2) fun t16 => opt (aload Tryz.prog 3 t16 h6) fun t17 => opt (nb [t17, (.int .i64 (-1))] (abin2 Tryz.prog .neq 3 (.tmp 17) (.const (.int .i64 (-1))) t17 (.int .i64 (-1)))) fun t18 => GD t18 true (fun k28 => k28 t0 h6) (fun t20 h29 => GD t18 true (fun k30 => opt (afield Tryz.prog 43 t1 2) fun t21 => k30 t21 h29) (X_Uses1_8 t18 t20 R j25) h29) h6
def X_Uses1_10 (t6 : Value) (h : AHeap) (t1 : Value) (t0 : Value) (R : Value → AHeap → Prop) (j1 : List Value → AHeap → Prop) : Prop :=
 opt (nb [t6, (.int .i64 3)] (abin2 Tryz.prog .eql 3 (.tmp 6) (.const (.int .i64 3)) t6 (.int .i64 3))) fun t8 => CD t8 (fun j4 => j4 [t8] h)
 (X_Uses1_6 t6 h)
 (fun vs5 h6 => CD (nth vs5 0) (X_Uses1_9 t1 h6 t0 R)
 (fun j25 => j25 [] h6)
 (fun vs26 h27 => j1 [] h27))
def X_Uses1_11 (t27 : Value) (h3 : AHeap) (j45 : List Value → AHeap → Prop) : Prop :=
 opt (nb [t27, (.int .i64 11)] (abin2 Tryz.prog .eql 3 (.tmp 27) (.const (.int .i64 11)) t27 (.int .i64 11))) fun t30 => CD t30 (fun j48 => j48 [t30] h3)
 (fun j48 => opt (nb [t27, (.int .i64 7)] (abin2 Tryz.prog .eql 3 (.tmp 27) (.const (.int .i64 7)) t27 (.int .i64 7))) fun t31 => j48 [t31] h3)
 (fun vs49 h50 => j45 [(nth vs49 0)] h50)
def X_Uses1_12 (t34 : Value) (R : Value → AHeap → Prop) (j51 : List Value → AHeap → Prop) (t39 : Value) (h61 : AHeap) : Prop :=
 GD t34 true (fun k63 => opt (aun Tryz.prog .not t39) fun t40 => k63 t40 h61) (fun t40 h64 => opt (pk t34 t40 (.bool false)) fun t41 => CD t41 (fun j65 => rv [] h64 R)
 (fun j65 => j65 [] h64)
 (fun vs66 h67 => j51 [] h67)) h61
def X_Uses1_13 (t34 : Value) (t36 : Value) (R : Value → AHeap → Prop) (j51 : List Value → AHeap → Prop) (t37 : Value) (h57 : AHeap) : Prop :=
 GD t34 true (fun k58 => opt (aload Tryz.prog 3 t37 h57) fun t38 => k58 t38 h57) (fun t38 h59 => GD t34 true (fun k60 => callV Tryz.prog t36 [t38] h59 (fun t39 h62 => k60 t39 h62)) (X_Uses1_12 t34 R j51) h59) h57
def X_Uses1_14 (t1 : Value) (h47 : AHeap) (t0 : Value) (R : Value → AHeap → Prop) (j51 : List Value → AHeap → Prop) : Prop :=
 opt (afield Tryz.prog 43 t1 3) fun t32 => opt (aload Tryz.prog 3 t32 h47) fun t33 => opt (nb [t33, (.int .i64 (-1))] (abin2 Tryz.prog .neq 3 (.tmp 33) (.const (.int .i64 (-1))) t33 (.int .i64 (-1)))) fun t34 => GD t34 true (fun k54 => k54 t0 h47) (fun t36 h55 => GD t34 true (fun k56 => opt (afield Tryz.prog 43 t1 3) fun t37 => k56 t37 h55) (X_Uses1_13 t34 t36 R j51) h55) h47
def X_Uses1_15 (t27 : Value) (h3 : AHeap) (t1 : Value) (t0 : Value) (R : Value → AHeap → Prop) (j42 : List Value → AHeap → Prop) : Prop :=
 opt (nb [t27, (.int .i64 5)] (abin2 Tryz.prog .eql 3 (.tmp 27) (.const (.int .i64 5)) t27 (.int .i64 5))) fun t29 => CD t29 (fun j45 => j45 [t29] h3)
 (X_Uses1_11 t27 h3)
 (fun vs46 h47 => CD (nth vs46 0) (X_Uses1_14 t1 h47 t0 R)
 (fun j51 => j51 [] h47)
 (fun vs52 h53 => j42 [] h53))
def X_Uses1_16 (t46 : Value) (vs76 : List Value) (h80 : AHeap) (t0 : Value) (R : Value → AHeap → Prop) (j81 : List Value → AHeap → Prop) : Prop :=
 opt (aindex Tryz.prog 22 t46 (nth vs76 0)) fun t50 => opt (aload Tryz.prog 3 t50 h80) fun t51 => callV Tryz.prog t0 [t51] h80 (fun t54 h84 => opt (aun Tryz.prog .not t54) fun t55 => CD t55 (fun j85 => rv [] h84 R)
 (fun j85 => j85 [] h84)
 (fun vs86 h87 => j81 [] h87))
def X_Uses1_17 (t46 : Value) (vs76 : List Value) (t0 : Value) (R : Value → AHeap → Prop) (j75 : List Value → AHeap → Prop) (vs79 : List Value) (h80 : AHeap) : Prop :=
 BK (X_Uses1_16 t46 vs76 h80 t0 R)
 (fun vs82 h83 => opt (nb [(nth vs76 0), (.int .i64 1)] (abin2 Tryz.prog .add 3 (.tmp 48) (.const (.int .i64 1)) (nth vs76 0) (.int .i64 1))) fun t56 => j75 [t56] h83)
def X_Uses1_18 (t47 : Value) (j72 : List Value → AHeap → Prop) (t46 : Value) (t0 : Value) (R : Value → AHeap → Prop) (vs76 : List Value) (h77 : AHeap) (j75 : List Value → AHeap → Prop) : Prop :=
 opt (nb [(nth vs76 0), t47] (abin2 Tryz.prog .lss 3 (.tmp 48) (.tmp 47) (nth vs76 0) t47)) fun t49 => CD t49 (fun j78 => j78 [] h77)
 (fun j78 => j72 [] h77)
 (X_Uses1_17 t46 vs76 t0 R j75)
def X_Uses1_19 (t1 : Value) (t0 : Value) (R : Value → AHeap → Prop) (vs69 : List Value) (h70 : AHeap) : Prop :=
 opt (afield Tryz.prog 43 t1 6) fun t45 => opt (aload Tryz.prog 22 t45 h70) fun t46 => optH (nb [t46] (abuiltin Tryz.prog .len [22] 3 [t46] h70)) fun t47 h71 => BK (fun j72 => LP (X_Uses1_18 t47 j72 t46 t0 R)
 [(.int .i64 0)] h71)
 (fun vs73 h74 => rv [] h74 R)
def X_Uses1_20 (t1 : Value) (R : Value → AHeap → Prop) (t0 : Value) (vs43 : List Value) (h44 : AHeap) : Prop :=
 opt (afield Tryz.prog 43 t1 0) fun t42 => opt (aload Tryz.prog 3 t42 h44) fun t43 => opt (nb [t43, (.int .i64 10)] (abin2 Tryz.prog .neq 3 (.tmp 43) (.const (.int .i64 10)) t43 (.int .i64 10))) fun t44 => CD t44 (fun j68 => rv [] h44 R)
 (fun j68 => j68 [] h44)
 (X_Uses1_19 t1 t0 R)
def X_Uses1 (h : AHeap) (t0 t1 : Value) (R : Value → AHeap → Prop) : Prop :=
 opt (afield Tryz.prog 43 t1 0) fun t5 => opt (aload Tryz.prog 3 t5 h) fun t6 => BK (X_Uses1_10 t6 h t1 t0 R)
 (fun vs2 h3 => opt (afield Tryz.prog 43 t1 0) fun t26 => opt (aload Tryz.prog 3 t26 h3) fun t27 => BK (X_Uses1_15 t27 h3 t1 t0 R)
 (X_Uses1_20 t1 R t0))
theorem X_Uses1_eq (h : AHeap) (t0 t1 : Value) (R : Value → AHeap → Prop) : wpF Tryz.prog (drawW Tryz.prog qs) 200 21 [t0, t1] h R = X_Uses1 h t0 t1 R := by kernel_rfl
theorem X_Uses1_ok {h : AHeap} {t0 t1 : Value} {R : Value → AHeap → Prop} (hw : X_Uses1 h t0 t1 R) : DC Tryz.prog 21 [t0, t1] h R := DC_of_wp mixed (n := 200) (by rw [X_Uses1_eq]; exact hw)

/-- slices.ContainsFunc[[]plumbob/rtl.Instr,plumbob/rtl.Instr] -/
def X_ContainsFunc (h : AHeap) (t0 t1 : Value) (R : Value → AHeap → Prop) : Prop :=
 callV Tryz.prog (.func (.func 46) #[] #[]) [t0, t1] h (fun t7 h1 => opt (nb [t7, (.int .i64 0)] (abin2 Tryz.prog .geq 3 (.tmp 7) (.const (.int .i64 0)) t7 (.int .i64 0))) fun t8 => rv [t8] h1 R)
theorem X_ContainsFunc_eq (h : AHeap) (t0 t1 : Value) (R : Value → AHeap → Prop) : wpF Tryz.prog (drawW Tryz.prog qs) 200 29 [t0, t1] h R = X_ContainsFunc h t0 t1 R := by kernel_rfl
theorem X_ContainsFunc_ok {h : AHeap} {t0 t1 : Value} {R : Value → AHeap → Prop} (hw : X_ContainsFunc h t0 t1 R) : DC Tryz.prog 29 [t0, t1] h R := DC_of_wp mixed (n := 200) (by rw [X_ContainsFunc_eq]; exact hw)

/-- plumbob/rtl.Right$1 -/
def X_Right1 (h : AHeap) (t0 t1 : Value) (R : Value → AHeap → Prop) : Prop :=
 opt (nb [t0] (some (Value.cells t0).toList)) fun c1 => nw h c1 43 fun t2 h2 => opt (aload Tryz.prog 48 t1 h2) fun t4 => opt (aload Tryz.prog 43 t2 h2) fun t5 => callV Tryz.prog (.func (.func 31) #[] #[]) [t4, t5] h2 (fun t6 h3 => opt (aun Tryz.prog .not t6) fun t7 => rv [t7] h3 R)
theorem X_Right1_eq (h : AHeap) (t0 t1 : Value) (R : Value → AHeap → Prop) : wpF Tryz.prog (drawW Tryz.prog qs) 200 30 [t0, t1] h R = X_Right1 h t0 t1 R := by kernel_rfl
theorem X_Right1_ok {h : AHeap} {t0 t1 : Value} {R : Value → AHeap → Prop} (hw : X_Right1 h t0 t1 R) : DC Tryz.prog 30 [t0, t1] h R := DC_of_wp mixed (n := 200) (by rw [X_Right1_eq]; exact hw)

/-- plumbob/rtl.goodInstr -/
def X_rInstr_1 (t4 : Value) (L : Nat) (K : Value → AHeap → Prop) (j27 : List Value → AHeap → Prop) (t24 : Value) (h31 : AHeap) : Prop :=
 opt (aun Tryz.prog .not t24) fun t25 => CD t25 (fun j32 => opt (nb [(.bool false)] (astore Tryz.prog 4 t4 (.bool false) h31)) fun h36 => Fin L K .ret h36)
 (fun j32 => j32 [] h31)
 (fun vs33 h34 => j27 [] h34)
def X_rInstr_2 (t2 : Value) (h26 : AHeap) (t19 : Value) (t4 : Value) (L : Nat) (K : Value → AHeap → Prop) (j27 : List Value → AHeap → Prop) : Prop :=
 opt (afield Tryz.prog 48 t2 5) fun t21 => opt (aload Tryz.prog 46 t21 h26) fun t22 => optH (nb [t22] (abuiltin Tryz.prog .len [46] 3 [t22] h26)) fun t23 h30 => callV Tryz.prog (.func (.func 15) #[] #[]) [t19, t23] h30 (X_rInstr_1 t4 L K j27)
def X_rInstr_r0 (t2 : Value) (t19 : Value) (t4 : Value) (t0 : Value) (t1 : Value) (t3 : Value) (t9 : Value) (t10 : Value) (t11 : Value) (t12 : Value) (t13 : Value) (t14 : Value) (t15 : Value) (t16 : Value) (t17 : Value) (t18 : Value) (L : Nat) (h : AHeap) (K : Value → AHeap → Prop) : Prop :=
 RA L h (fun h26 => BK (X_rInstr_2 t2 h26 t19 t4 L K)
 (fun vs28 h29 => Fin L K .normal h29))
def X_rInstr_4 (t18 : Value) (t0 : Value) (t1 : Value) (t2 : Value) (t3 : Value) (t4 : Value) (t9 : Value) (t10 : Value) (t11 : Value) (t13 : Value) (t14 : Value) (t15 : Value) (t16 : Value) (t17 : Value) (h18 : AHeap) (R : Value → AHeap → Prop) (j19 : List Value → AHeap → Prop) : Prop :=
 RF Tryz.prog t18 (rangeAt Tryz.prog 31 0).1 (rangeAt Tryz.prog 31 0).2.1 (rangeAt Tryz.prog 31 0).2.2 (envT 125 [(0, t0), (1, t1), (2, t2), (3, t3), (4, t4), (9, t9), (10, t10), (11, t11), (12, t11), (13, t13), (14, t14), (15, t15), (16, t16), (17, t17), (18, t18)]) h18 (fun h22 => j19 [] h22) (fun h23 => opt (aload Tryz.prog 4 t4 h23) fun r0 => rv [r0] h23 R) (fun x25 h24 => cond (Nat.beq x25 0) (j19 [] h24) (False))
def X_rInstr_5 (t4 : Value) (L : Nat) (K : Value → AHeap → Prop) (j46 : List Value → AHeap → Prop) (t32 : Value) (h49 : AHeap) : Prop :=
 opt (aun Tryz.prog .not t32) fun t33 => CD t33 (fun j50 => opt (nb [(.bool false)] (astore Tryz.prog 4 t4 (.bool false) h49)) fun h54 => Fin L K .ret h54)
 (fun j50 => j50 [] h49)
 (fun vs51 h52 => j46 [] h52)
def X_rInstr_6 (t2 : Value) (h45 : AHeap) (t28 : Value) (t4 : Value) (L : Nat) (K : Value → AHeap → Prop) (j46 : List Value → AHeap → Prop) : Prop :=
 opt (afield Tryz.prog 48 t2 2) fun t30 => opt (aload Tryz.prog 3 t30 h45) fun t31 => callV Tryz.prog (.func (.func 15) #[] #[]) [t28, t31] h45 (X_rInstr_5 t4 L K j46)
def X_rInstr_r1 (t2 : Value) (t28 : Value) (t4 : Value) (t0 : Value) (t1 : Value) (t3 : Value) (t9 : Value) (t10 : Value) (t11 : Value) (t12 : Value) (t13 : Value) (t14 : Value) (t15 : Value) (t16 : Value) (t17 : Value) (t18 : Value) (t26 : Value) (t27 : Value) (L : Nat) (h : AHeap) (K : Value → AHeap → Prop) : Prop :=
 RA L h (fun h45 => BK (X_rInstr_6 t2 h45 t28 t4 L K)
 (fun vs47 h48 => Fin L K .normal h48))
def X_rInstr_8 (t27 : Value) (t0 : Value) (t1 : Value) (t2 : Value) (t3 : Value) (t4 : Value) (t9 : Value) (t10 : Value) (t11 : Value) (t13 : Value) (t14 : Value) (t15 : Value) (t16 : Value) (t17 : Value) (t18 : Value) (t26 : Value) (h37 : AHeap) (R : Value → AHeap → Prop) (j38 : List Value → AHeap → Prop) : Prop :=
 RF Tryz.prog t27 (rangeAt Tryz.prog 31 1).1 (rangeAt Tryz.prog 31 1).2.1 (rangeAt Tryz.prog 31 1).2.2 (envT 125 [(0, t0), (1, t1), (2, t2), (3, t3), (4, t4), (9, t9), (10, t10), (11, t11), (12, t11), (13, t13), (14, t14), (15, t15), (16, t16), (17, t17), (18, t18), (26, t26), (27, t27)]) h37 (fun h41 => j38 [] h41) (fun h42 => opt (aload Tryz.prog 4 t4 h42) fun r0 => rv [r0] h42 R) (fun x44 h43 => cond (Nat.beq x44 2) (j38 [] h43) (False))
def X_rInstr_9 (t35 : Value) (h40 : AHeap) (j67 : List Value → AHeap → Prop) : Prop :=
 opt (nb [t35, (.int .i64 5)] (abin2 Tryz.prog .eql 3 (.tmp 35) (.const (.int .i64 5)) t35 (.int .i64 5))) fun t41 => CD t41 (fun j70 => j70 [t41] h40)
 (fun j70 => opt (nb [t35, (.int .i64 11)] (abin2 Tryz.prog .eql 3 (.tmp 35) (.const (.int .i64 11)) t35 (.int .i64 11))) fun t42 => j70 [t42] h40)
 (fun vs71 h72 => j67 [(nth vs71 0)] h72)
def X_rInstr_10 (t35 : Value) (h40 : AHeap) (j64 : List Value → AHeap → Prop) : Prop :=
 opt (nb [t35, (.int .i64 14)] (abin2 Tryz.prog .eql 3 (.tmp 35) (.const (.int .i64 14)) t35 (.int .i64 14))) fun t40 => CD t40 (fun j67 => j67 [t40] h40)
 (X_rInstr_9 t35 h40)
 (fun vs68 h69 => j64 [(nth vs68 0)] h69)
def X_rInstr_11 (t35 : Value) (h40 : AHeap) (j61 : List Value → AHeap → Prop) : Prop :=
 opt (nb [t35, (.int .i64 6)] (abin2 Tryz.prog .eql 3 (.tmp 35) (.const (.int .i64 6)) t35 (.int .i64 6))) fun t39 => CD t39 (fun j64 => j64 [t39] h40)
 (X_rInstr_10 t35 h40)
 (fun vs65 h66 => j61 [(nth vs65 0)] h66)
def X_rInstr_12 (t35 : Value) (h40 : AHeap) (j58 : List Value → AHeap → Prop) : Prop :=
 opt (nb [t35, (.int .i64 4)] (abin2 Tryz.prog .eql 3 (.tmp 35) (.const (.int .i64 4)) t35 (.int .i64 4))) fun t38 => CD t38 (fun j61 => j61 [t38] h40)
 (X_rInstr_11 t35 h40)
 (fun vs62 h63 => j58 [(nth vs62 0)] h63)
def X_rInstr_13 (t50 : Value) (t4 : Value) (R : Value → AHeap → Prop) (j81 : List Value → AHeap → Prop) (t54 : Value) (h89 : AHeap) : Prop :=
 opt (pk t50 (.bool true) t54) fun t55 => CD t55 (fun j90 => opt (nb [(.bool false)] (astore Tryz.prog 4 t4 (.bool false) h89)) fun h94 => opt (aload Tryz.prog 4 t4 h94) fun r0 => rv [r0] h94 R)
 (fun j90 => j90 [] h89)
 (fun vs91 h92 => j81 [] h92)
def X_rInstr_14 (t50 : Value) (t4 : Value) (R : Value → AHeap → Prop) (j81 : List Value → AHeap → Prop) (t53 : Value) (h87 : AHeap) : Prop :=
 GD t50 false (fun k88 => opt (nb [t53, (.int .i64 (-1))] (abin2 Tryz.prog .eql 3 (.tmp 53) (.const (.int .i64 (-1))) t53 (.int .i64 (-1)))) fun t54 => k88 t54 h87) (X_rInstr_13 t50 t4 R j81) h87
def X_rInstr_15 (t3 : Value) (h60 : AHeap) (t4 : Value) (R : Value → AHeap → Prop) (j95 : List Value → AHeap → Prop) : Prop :=
 opt (afield Tryz.prog 43 t3 4) fun t58 => opt (aload Tryz.prog 3 t58 h60) fun t59 => opt (nb [t59, (.int .i64 (-1))] (abin2 Tryz.prog .eql 3 (.tmp 59) (.const (.int .i64 (-1))) t59 (.int .i64 (-1)))) fun t60 => CD t60 (fun j98 => opt (nb [(.bool true)] (astore Tryz.prog 4 t4 (.bool true) h60)) fun h102 => opt (aload Tryz.prog 4 t4 h102) fun r0 => rv [r0] h102 R)
 (fun j98 => j98 [] h60)
 (fun vs99 h100 => j95 [] h100)
def X_rInstr_16 (t3 : Value) (h60 : AHeap) (t4 : Value) (R : Value → AHeap → Prop) (j81 : List Value → AHeap → Prop) : Prop :=
 opt (afield Tryz.prog 43 t3 2) fun t48 => opt (aload Tryz.prog 3 t48 h60) fun t49 => opt (nb [t49, (.int .i64 (-1))] (abin2 Tryz.prog .eql 3 (.tmp 49) (.const (.int .i64 (-1))) t49 (.int .i64 (-1)))) fun t50 => GD t50 false (fun k84 => opt (afield Tryz.prog 43 t3 3) fun t52 => k84 t52 h60) (fun t52 h85 => GD t50 false (fun k86 => opt (aload Tryz.prog 3 t52 h85) fun t53 => k86 t53 h85) (X_rInstr_14 t50 t4 R j81) h85) h60
def X_rInstr_17 (t35 : Value) (t3 : Value) (h60 : AHeap) (t4 : Value) (R : Value → AHeap → Prop) (j81 : List Value → AHeap → Prop) : Prop :=
 opt (nb [t35, (.int .i64 10)] (abin2 Tryz.prog .eql 3 (.tmp 35) (.const (.int .i64 10)) t35 (.int .i64 10))) fun t57 => CD t57 (X_rInstr_15 t3 h60 t4 R)
 (fun j95 => j95 [] h60)
 (fun vs96 h97 => j81 [] h97)
def X_rInstr_18 (t3 : Value) (h60 : AHeap) (t4 : Value) (R : Value → AHeap → Prop) (j73 : List Value → AHeap → Prop) : Prop :=
 opt (afield Tryz.prog 43 t3 2) fun t43 => opt (aload Tryz.prog 3 t43 h60) fun t44 => opt (nb [t44, (.int .i64 (-1))] (abin2 Tryz.prog .eql 3 (.tmp 44) (.const (.int .i64 (-1))) t44 (.int .i64 (-1)))) fun t45 => CD t45 (fun j76 => opt (nb [(.bool false)] (astore Tryz.prog 4 t4 (.bool false) h60)) fun h80 => opt (aload Tryz.prog 4 t4 h80) fun r0 => rv [r0] h80 R)
 (fun j76 => j76 [] h60)
 (fun vs77 h78 => j73 [] h78)
def X_rInstr_19 (t35 : Value) (t3 : Value) (h60 : AHeap) (t4 : Value) (R : Value → AHeap → Prop) (j73 : List Value → AHeap → Prop) : Prop :=
 opt (nb [t35, (.int .i64 7)] (abin2 Tryz.prog .eql 3 (.tmp 35) (.const (.int .i64 7)) t35 (.int .i64 7))) fun t47 => CD t47 (X_rInstr_16 t3 h60 t4 R)
 (X_rInstr_17 t35 t3 h60 t4 R)
 (fun vs82 h83 => j73 [] h83)
def X_rInstr_20 (t35 : Value) (h40 : AHeap) (t3 : Value) (t4 : Value) (R : Value → AHeap → Prop) (j55 : List Value → AHeap → Prop) : Prop :=
 opt (nb [t35, (.int .i64 3)] (abin2 Tryz.prog .eql 3 (.tmp 35) (.const (.int .i64 3)) t35 (.int .i64 3))) fun t37 => CD t37 (fun j58 => j58 [t37] h40)
 (X_rInstr_12 t35 h40)
 (fun vs59 h60 => CD (nth vs59 0) (X_rInstr_18 t3 h60 t4 R)
 (X_rInstr_19 t35 t3 h60 t4 R)
 (fun vs74 h75 => j55 [] h75))
def X_rInstr_21 (t67 : Value) (t4 : Value) (R : Value → AHeap → Prop) (j106 : List Value → AHeap → Prop) (t71 : Value) (h114 : AHeap) : Prop :=
 opt (pk t67 (.bool true) t71) fun t72 => CD t72 (fun j115 => opt (nb [(.bool false)] (astore Tryz.prog 4 t4 (.bool false) h114)) fun h119 => opt (aload Tryz.prog 4 t4 h119) fun r0 => rv [r0] h119 R)
 (fun j115 => j115 [] h114)
 (fun vs116 h117 => j106 [] h117)
def X_rInstr_22 (t67 : Value) (t4 : Value) (R : Value → AHeap → Prop) (j106 : List Value → AHeap → Prop) (t70 : Value) (h112 : AHeap) : Prop :=
 GD t67 false (fun k113 => opt (nb [t70, (.int .i64 4)] (abin2 Tryz.prog .gtr 3 (.tmp 70) (.const (.int .i64 4)) t70 (.int .i64 4))) fun t71 => k113 t71 h112) (X_rInstr_21 t67 t4 R j106) h112
def X_rInstr_23 (t4 : Value) (R : Value → AHeap → Prop) (j120 : List Value → AHeap → Prop) (t77 : Value) (h123 : AHeap) : Prop :=
 opt (aun Tryz.prog .not t77) fun t78 => CD t78 (fun j124 => opt (nb [(.bool false)] (astore Tryz.prog 4 t4 (.bool false) h123)) fun h128 => opt (aload Tryz.prog 4 t4 h128) fun r0 => rv [r0] h128 R)
 (fun j124 => j124 [] h123)
 (fun vs125 h126 => j120 [] h126)
def X_rInstr_24 (t4 : Value) (R : Value → AHeap → Prop) (j129 : List Value → AHeap → Prop) (t84 : Value) (h132 : AHeap) : Prop :=
 opt (axt t84 0) fun t85 => opt (axt t84 1) fun t86 => opt (aun Tryz.prog .not t86) fun t88 => CD t88 (fun j133 => opt (nb [(.bool false)] (astore Tryz.prog 4 t4 (.bool false) h132)) fun h137 => opt (aload Tryz.prog 4 t4 h137) fun r0 => rv [r0] h137 R)
 (fun j133 => j133 [] h132)
 (fun vs134 h135 => j129 [] h135)
def X_rInstr_25 (t4 : Value) (R : Value → AHeap → Prop) (j141 : List Value → AHeap → Prop) (t94 : Value) (h144 : AHeap) : Prop :=
 opt (aun Tryz.prog .not t94) fun t95 => CD t95 (fun j145 => opt (nb [(.bool false)] (astore Tryz.prog 4 t4 (.bool false) h144)) fun h149 => opt (aload Tryz.prog 4 t4 h149) fun r0 => rv [r0] h149 R)
 (fun j145 => j145 [] h144)
 (fun vs146 h147 => j141 [] h147)
def X_rInstr_26 (t100 : Value) (t4 : Value) (R : Value → AHeap → Prop) (j150 : List Value → AHeap → Prop) (t106 : Value) (h162 : AHeap) : Prop :=
 opt (pk t100 (.bool true) t106) fun t107 => CD t107 (fun j163 => opt (nb [(.bool false)] (astore Tryz.prog 4 t4 (.bool false) h162)) fun h167 => opt (aload Tryz.prog 4 t4 h167) fun r0 => rv [r0] h167 R)
 (fun j163 => j163 [] h162)
 (fun vs164 h165 => j150 [] h165)
def X_rInstr_27 (t100 : Value) (t103 : Value) (t4 : Value) (R : Value → AHeap → Prop) (j150 : List Value → AHeap → Prop) (t105 : Value) (h160 : AHeap) : Prop :=
 GD t100 false (fun k161 => opt (nb [t103, t105] (abin2 Tryz.prog .gtr 2 (.tmp 103) (.tmp 105) t103 t105)) fun t106 => k161 t106 h160) (X_rInstr_26 t100 t4 R j150) h160
def X_rInstr_28 (t100 : Value) (t2 : Value) (t4 : Value) (R : Value → AHeap → Prop) (j150 : List Value → AHeap → Prop) (t103 : Value) (h156 : AHeap) : Prop :=
 GD t100 false (fun k157 => opt (afield Tryz.prog 48 t2 3) fun t104 => k157 t104 h156) (fun t104 h158 => GD t100 false (fun k159 => opt (aload Tryz.prog 3 t104 h158) fun t105 => k159 t105 h158) (X_rInstr_27 t100 t103 t4 R j150) h158) h156
def X_rInstr_29 (t3 : Value) (h140 : AHeap) (t2 : Value) (t4 : Value) (R : Value → AHeap → Prop) (j150 : List Value → AHeap → Prop) : Prop :=
 opt (afield Tryz.prog 43 t3 5) fun t98 => opt (aload Tryz.prog 2 t98 h140) fun t99 => opt (nb [t99, (.int .i64 0)] (abin2 Tryz.prog .lss 2 (.tmp 99) (.const (.int .i64 0)) t99 (.int .i64 0))) fun t100 => GD t100 false (fun k153 => opt (afield Tryz.prog 43 t3 5) fun t102 => k153 t102 h140) (fun t102 h154 => GD t100 false (fun k155 => opt (aload Tryz.prog 2 t102 h154) fun t103 => k155 t103 h154) (X_rInstr_28 t100 t2 t4 R j150) h154) h140
def X_rInstr_30 (t3 : Value) (h140 : AHeap) (t4 : Value) (R : Value → AHeap → Prop) (j141 : List Value → AHeap → Prop) : Prop :=
 opt (afield Tryz.prog 43 t3 1) fun t92 => opt (aload Tryz.prog 3 t92 h140) fun t93 => callV Tryz.prog (.func (.func 49) #[] #[]) [t93] h140 (X_rInstr_25 t4 R j141)
def X_rInstr_31 (t62 : Value) (t3 : Value) (h140 : AHeap) (t2 : Value) (t4 : Value) (R : Value → AHeap → Prop) (j141 : List Value → AHeap → Prop) : Prop :=
 opt (nb [t62, (.int .i64 9)] (abin2 Tryz.prog .eql 3 (.tmp 62) (.const (.int .i64 9)) t62 (.int .i64 9))) fun t97 => CD t97 (X_rInstr_29 t3 h140 t2 t4 R)
 (fun j150 => j150 [] h140)
 (fun vs151 h152 => j141 [] h152)
def X_rInstr_32 (t62 : Value) (h57 : AHeap) (t3 : Value) (t4 : Value) (R : Value → AHeap → Prop) (t2 : Value) (j129 : List Value → AHeap → Prop) : Prop :=
 opt (nb [t62, (.int .i64 6)] (abin2 Tryz.prog .eql 3 (.tmp 62) (.const (.int .i64 6)) t62 (.int .i64 6))) fun t90 => CD t90 (fun j138 => j138 [t90] h57)
 (fun j138 => opt (nb [t62, (.int .i64 7)] (abin2 Tryz.prog .eql 3 (.tmp 62) (.const (.int .i64 7)) t62 (.int .i64 7))) fun t91 => j138 [t91] h57)
 (fun vs139 h140 => CD (nth vs139 0) (X_rInstr_30 t3 h140 t4 R)
 (X_rInstr_31 t62 t3 h140 t2 t4 R)
 (fun vs142 h143 => j129 [] h143))
def X_rInstr_33 (t62 : Value) (t3 : Value) (h57 : AHeap) (t4 : Value) (R : Value → AHeap → Prop) (t2 : Value) (j120 : List Value → AHeap → Prop) : Prop :=
 opt (nb [t62, (.int .i64 11)] (abin2 Tryz.prog .eql 3 (.tmp 62) (.const (.int .i64 11)) t62 (.int .i64 11))) fun t80 => CD t80 (fun j129 => opt (afield Tryz.prog 43 t3 1) fun t82 => opt (aload Tryz.prog 3 t82 h57) fun t83 => callV Tryz.prog (.func (.func 48) #[] #[]) [t83] h57 (X_rInstr_24 t4 R j129))
 (X_rInstr_32 t62 h57 t3 t4 R t2)
 (fun vs130 h131 => j120 [] h131)
def X_rInstr_34 (t3 : Value) (h57 : AHeap) (t4 : Value) (R : Value → AHeap → Prop) (j106 : List Value → AHeap → Prop) : Prop :=
 opt (afield Tryz.prog 43 t3 1) fun t65 => opt (aload Tryz.prog 3 t65 h57) fun t66 => opt (nb [t66, (.int .i64 1)] (abin2 Tryz.prog .lss 3 (.tmp 66) (.const (.int .i64 1)) t66 (.int .i64 1))) fun t67 => GD t67 false (fun k109 => opt (afield Tryz.prog 43 t3 1) fun t69 => k109 t69 h57) (fun t69 h110 => GD t67 false (fun k111 => opt (aload Tryz.prog 3 t69 h110) fun t70 => k111 t70 h110) (X_rInstr_22 t67 t4 R j106) h110) h57
def X_rInstr_35 (t62 : Value) (t3 : Value) (h57 : AHeap) (t4 : Value) (R : Value → AHeap → Prop) (t2 : Value) (j106 : List Value → AHeap → Prop) : Prop :=
 opt (nb [t62, (.int .i64 5)] (abin2 Tryz.prog .eql 3 (.tmp 62) (.const (.int .i64 5)) t62 (.int .i64 5))) fun t74 => CD t74 (fun j120 => opt (afield Tryz.prog 43 t3 1) fun t75 => opt (aload Tryz.prog 3 t75 h57) fun t76 => callV Tryz.prog (.func (.func 47) #[] #[]) [t76] h57 (X_rInstr_23 t4 R j120))
 (X_rInstr_33 t62 t3 h57 t4 R t2)
 (fun vs121 h122 => j106 [] h122)
def X_rInstr_36 (t62 : Value) (t3 : Value) (h57 : AHeap) (t4 : Value) (R : Value → AHeap → Prop) (t2 : Value) (j103 : List Value → AHeap → Prop) : Prop :=
 opt (nb [t62, (.int .i64 4)] (abin2 Tryz.prog .eql 3 (.tmp 62) (.const (.int .i64 4)) t62 (.int .i64 4))) fun t64 => CD t64 (X_rInstr_34 t3 h57 t4 R)
 (X_rInstr_35 t62 t3 h57 t4 R t2)
 (fun vs107 h108 => j103 [] h108)
def X_rInstr_37 (t109 : Value) (h105 : AHeap) (j189 : List Value → AHeap → Prop) : Prop :=
 opt (nb [t109, (.int .i64 13)] (abin2 Tryz.prog .eql 3 (.tmp 109) (.const (.int .i64 13)) t109 (.int .i64 13))) fun t118 => CD t118 (fun j192 => j192 [t118] h105)
 (fun j192 => opt (nb [t109, (.int .i64 10)] (abin2 Tryz.prog .eql 3 (.tmp 109) (.const (.int .i64 10)) t109 (.int .i64 10))) fun t119 => j192 [t119] h105)
 (fun vs193 h194 => j189 [(nth vs193 0)] h194)
def X_rInstr_38 (t109 : Value) (h105 : AHeap) (j186 : List Value → AHeap → Prop) : Prop :=
 opt (nb [t109, (.int .i64 9)] (abin2 Tryz.prog .eql 3 (.tmp 109) (.const (.int .i64 9)) t109 (.int .i64 9))) fun t117 => CD t117 (fun j189 => j189 [t117] h105)
 (X_rInstr_37 t109 h105)
 (fun vs190 h191 => j186 [(nth vs190 0)] h191)
def X_rInstr_39 (t109 : Value) (h105 : AHeap) (j183 : List Value → AHeap → Prop) : Prop :=
 opt (nb [t109, (.int .i64 8)] (abin2 Tryz.prog .eql 3 (.tmp 109) (.const (.int .i64 8)) t109 (.int .i64 8))) fun t116 => CD t116 (fun j186 => j186 [t116] h105)
 (X_rInstr_38 t109 h105)
 (fun vs187 h188 => j183 [(nth vs187 0)] h188)
def X_rInstr_40 (t109 : Value) (h105 : AHeap) (j180 : List Value → AHeap → Prop) : Prop :=
 opt (nb [t109, (.int .i64 6)] (abin2 Tryz.prog .eql 3 (.tmp 109) (.const (.int .i64 6)) t109 (.int .i64 6))) fun t115 => CD t115 (fun j183 => j183 [t115] h105)
 (X_rInstr_39 t109 h105)
 (fun vs184 h185 => j180 [(nth vs184 0)] h185)
def X_rInstr_41 (t109 : Value) (h105 : AHeap) (j177 : List Value → AHeap → Prop) : Prop :=
 opt (nb [t109, (.int .i64 5)] (abin2 Tryz.prog .eql 3 (.tmp 109) (.const (.int .i64 5)) t109 (.int .i64 5))) fun t114 => CD t114 (fun j180 => j180 [t114] h105)
 (X_rInstr_40 t109 h105)
 (fun vs181 h182 => j177 [(nth vs181 0)] h182)
def X_rInstr_42 (t109 : Value) (h105 : AHeap) (j174 : List Value → AHeap → Prop) : Prop :=
 opt (nb [t109, (.int .i64 4)] (abin2 Tryz.prog .eql 3 (.tmp 109) (.const (.int .i64 4)) t109 (.int .i64 4))) fun t113 => CD t113 (fun j177 => j177 [t113] h105)
 (X_rInstr_41 t109 h105)
 (fun vs178 h179 => j174 [(nth vs178 0)] h179)
def X_rInstr_43 (t109 : Value) (h105 : AHeap) (j171 : List Value → AHeap → Prop) : Prop :=
 opt (nb [t109, (.int .i64 3)] (abin2 Tryz.prog .eql 3 (.tmp 109) (.const (.int .i64 3)) t109 (.int .i64 3))) fun t112 => CD t112 (fun j174 => j174 [t112] h105)
 (X_rInstr_42 t109 h105)
 (fun vs175 h176 => j171 [(nth vs175 0)] h176)
def X_rInstr_44 (t3 : Value) (h173 : AHeap) (t2 : Value) (t4 : Value) (R : Value → AHeap → Prop) (j195 : List Value → AHeap → Prop) : Prop :=
 opt (afield Tryz.prog 43 t3 4) fun t120 => opt (aload Tryz.prog 3 t120 h173) fun t121 => opt (afield Tryz.prog 48 t2 2) fun t122 => opt (aload Tryz.prog 3 t122 h173) fun t123 => callV Tryz.prog (.func (.func 15) #[] #[]) [t121, t123] h173 (fun t124 h198 => opt (nb [t124] (astore Tryz.prog 4 t4 t124 h198)) fun h200 => opt (aload Tryz.prog 4 t4 h200) fun r0 => rv [r0] h200 R)
def X_rInstr_45 (t109 : Value) (h105 : AHeap) (t3 : Value) (t2 : Value) (t4 : Value) (R : Value → AHeap → Prop) (j168 : List Value → AHeap → Prop) : Prop :=
 opt (nb [t109, (.int .i64 2)] (abin2 Tryz.prog .eql 3 (.tmp 109) (.const (.int .i64 2)) t109 (.int .i64 2))) fun t111 => CD t111 (fun j171 => j171 [t111] h105)
 (X_rInstr_43 t109 h105)
 (fun vs172 h173 => CD (nth vs172 0) (X_rInstr_44 t3 h173 t2 t4 R)
 (fun j195 => j195 [] h173)
 (fun vs196 h197 => j168 [] h197))
def X_rInstr_46 (t3 : Value) (t2 : Value) (t4 : Value) (R : Value → AHeap → Prop) (vs104 : List Value) (h105 : AHeap) : Prop :=
 opt (afield Tryz.prog 43 t3 0) fun t108 => opt (aload Tryz.prog 3 t108 h105) fun t109 => BK (X_rInstr_45 t109 h105 t3 t2 t4 R)
 (fun vs169 h170 => opt (nb [(.bool true)] (astore Tryz.prog 4 t4 (.bool true) h170)) fun h202 => opt (aload Tryz.prog 4 t4 h202) fun r0 => rv [r0] h202 R)
def X_rInstr_47 (t3 : Value) (t4 : Value) (R : Value → AHeap → Prop) (t2 : Value) (vs39 : List Value) (h40 : AHeap) : Prop :=
 opt (afield Tryz.prog 43 t3 0) fun t34 => opt (aload Tryz.prog 3 t34 h40) fun t35 => BK (X_rInstr_20 t35 h40 t3 t4 R)
 (fun vs56 h57 => opt (afield Tryz.prog 43 t3 0) fun t61 => opt (aload Tryz.prog 3 t61 h57) fun t62 => BK (X_rInstr_36 t62 t3 h57 t4 R t2)
 (X_rInstr_46 t3 t2 t4 R))
def X_rInstr_48 (t3 : Value) (t0 : Value) (t1 : Value) (t2 : Value) (t4 : Value) (t9 : Value) (t10 : Value) (t11 : Value) (t13 : Value) (t14 : Value) (t15 : Value) (t16 : Value) (t17 : Value) (t18 : Value) (R : Value → AHeap → Prop) (vs20 : List Value) (h21 : AHeap) : Prop :=
 opt (aload Tryz.prog 43 t3 h21) fun t26 => callV Tryz.prog (.func (.func 12) #[] #[]) [t26] h21 (fun t27 h37 => BK (X_rInstr_8 t27 t0 t1 t2 t3 t4 t9 t10 t11 t13 t14 t15 t16 t17 t18 t26 h37 R)
 (X_rInstr_47 t3 t4 R t2))
def X_rInstr_49 (t3 : Value) (t0 : Value) (t1 : Value) (t2 : Value) (t4 : Value) (t9 : Value) (t10 : Value) (t11 : Value) (t13 : Value) (t14 : Value) (t15 : Value) (t16 : Value) (R : Value → AHeap → Prop) (vs14 : List Value) (h15 : AHeap) : Prop :=
 opt (aload Tryz.prog 43 t3 h15) fun t17 => callV Tryz.prog (.func (.func 11) #[] #[]) [t17] h15 (fun t18 h18 => BK (X_rInstr_4 t18 t0 t1 t2 t3 t4 t9 t10 t11 t13 t14 t15 t16 t17 h18 R)
 (X_rInstr_48 t3 t0 t1 t2 t4 t9 t10 t11 t13 t14 t15 t16 t17 t18 R))
def X_rInstr_50 (t11 : Value) (t4 : Value) (R : Value → AHeap → Prop) (t3 : Value) (t0 : Value) (t1 : Value) (t2 : Value) (t9 : Value) (t10 : Value) (t13 : Value) (t14 : Value) (t15 : Value) (h12 : AHeap) : Prop :=
 opt (pk t11 (.bool true) t15) fun t16 => CD t16 (fun j13 => opt (nb [(.bool false)] (astore Tryz.prog 4 t4 (.bool false) h12)) fun h17 => opt (aload Tryz.prog 4 t4 h17) fun r0 => rv [r0] h17 R)
 (fun j13 => j13 [] h12)
 (X_rInstr_49 t3 t0 t1 t2 t4 t9 t10 t11 t13 t14 t15 t16 R)
def X_rInstr_51 (t11 : Value) (t4 : Value) (R : Value → AHeap → Prop) (t3 : Value) (t0 : Value) (t1 : Value) (t2 : Value) (t9 : Value) (t10 : Value) (t13 : Value) (t14 : Value) (h10 : AHeap) : Prop :=
 GD t11 false (fun k11 => opt (nb [t14, (.int .i64 14)] (abin2 Tryz.prog .gtr 3 (.tmp 14) (.const (.int .i64 14)) t14 (.int .i64 14))) fun t15 => k11 t15 h10) (X_rInstr_50 t11 t4 R t3 t0 t1 t2 t9 t10 t13 t14) h10
theorem X_rInstr_r0_eq (t2 : Value) (t19 : Value) (t4 : Value) (t0 : Value) (t1 : Value) (t3 : Value) (t9 : Value) (t10 : Value) (t11 : Value) (t12 : Value) (t13 : Value) (t14 : Value) (t15 : Value) (t16 : Value) (t17 : Value) (t18 : Value) (L : Nat) (h : AHeap) (K : Value → AHeap → Prop) : RndW Tryz.prog (drawW Tryz.prog qs) 150 52 0 L (rangeAt Tryz.prog 31 0).2.1 (rangeAt Tryz.prog 31 0).2.2 (envT 125 [(0, t0), (1, t1), (2, t2), (3, t3), (4, t4), (9, t9), (10, t10), (11, t11), (12, t12), (13, t13), (14, t14), (15, t15), (16, t16), (17, t17), (18, t18), (19, t19)]) h K = X_rInstr_r0 t2 t19 t4 t0 t1 t3 t9 t10 t11 t12 t13 t14 t15 t16 t17 t18 L h K := by kernel_rfl
theorem X_rInstr_r1_eq (t2 : Value) (t28 : Value) (t4 : Value) (t0 : Value) (t1 : Value) (t3 : Value) (t9 : Value) (t10 : Value) (t11 : Value) (t12 : Value) (t13 : Value) (t14 : Value) (t15 : Value) (t16 : Value) (t17 : Value) (t18 : Value) (t26 : Value) (t27 : Value) (L : Nat) (h : AHeap) (K : Value → AHeap → Prop) : RndW Tryz.prog (drawW Tryz.prog qs) 150 84 0 L (rangeAt Tryz.prog 31 1).2.1 (rangeAt Tryz.prog 31 1).2.2 (envT 125 [(0, t0), (1, t1), (2, t2), (3, t3), (4, t4), (9, t9), (10, t10), (11, t11), (12, t12), (13, t13), (14, t14), (15, t15), (16, t16), (17, t17), (18, t18), (26, t26), (27, t27), (28, t28)]) h K = X_rInstr_r1 t2 t28 t4 t0 t1 t3 t9 t10 t11 t12 t13 t14 t15 t16 t17 t18 t26 t27 L h K := by kernel_rfl
def X_rInstr (h : AHeap) (t0 t1 : Value) (R : Value → AHeap → Prop) : Prop :=
 opt (nb [t0] (some (Value.cells t0).toList)) fun c1 => nw h c1 48 fun t2 h2 => opt (nb [t1] (some (Value.cells t1).toList)) fun c3 => nw h2 c3 43 fun t3 h4 => opt (azero Tryz.prog 4) fun z5 => nw h4 (Value.cells z5).toList 4 fun t4 h6 => opt (afield Tryz.prog 43 t3 0) fun t9 => opt (aload Tryz.prog 3 t9 h6) fun t10 => opt (nb [t10, (.int .i64 1)] (abin2 Tryz.prog .lss 3 (.tmp 10) (.const (.int .i64 1)) t10 (.int .i64 1))) fun t11 => GD t11 false (fun k7 => opt (afield Tryz.prog 43 t3 0) fun t13 => k7 t13 h6) (fun t13 h8 => GD t11 false (fun k9 => opt (aload Tryz.prog 3 t13 h8) fun t14 => k9 t14 h8) (X_rInstr_51 t11 t4 R t3 t0 t1 t2 t9 t10 t13) h8) h6
theorem X_rInstr_eq (h : AHeap) (t0 t1 : Value) (R : Value → AHeap → Prop) : wpF Tryz.prog (drawW Tryz.prog qs) 200 31 [t0, t1] h R = X_rInstr h t0 t1 R := by kernel_rfl
theorem X_rInstr_ok {h : AHeap} {t0 t1 : Value} {R : Value → AHeap → Prop} (hw : X_rInstr h t0 t1 R) : DC Tryz.prog 31 [t0, t1] h R := DC_of_wp mixed (n := 200) (by rw [X_rInstr_eq]; exact hw)

/-- plumbob/plumbobref12.right -/
def X_dInstr_1 (t62 : Value) (R : Value → AHeap → Prop) (vs61 : List Value) (j67 : List Value → AHeap → Prop) (t70 : Value) (h83 : AHeap) : Prop :=
 opt (pk t62 (.bool true) t70) fun t71 => CD t71 (fun j84 => rv [(.bool false)] h83 R)
 (fun j84 => j84 [(nth vs61 0)] h83)
 (fun vs85 h86 => j67 [(nth vs85 0)] h86)
def X_dInstr_2 (t62 : Value) (t67 : Value) (R : Value → AHeap → Prop) (vs61 : List Value) (j67 : List Value → AHeap → Prop) (t68 : Value) (h79 : AHeap) : Prop :=
 GD t62 false (fun k80 => opt (aload Tryz.prog 3 t68 h79) fun t69 => k80 t69 h79) (fun t69 h81 => GD t62 false (fun k82 => opt (nb [t67, t69] (abin2 Tryz.prog .geq 3 (.tmp 67) (.tmp 69) t67 t69)) fun t70 => k82 t70 h81) (X_dInstr_1 t62 R vs61 j67) h81) h79
def X_dInstr_3 (t62 : Value) (t2 : Value) (R : Value → AHeap → Prop) (vs61 : List Value) (j67 : List Value → AHeap → Prop) (t66 : Value) (h75 : AHeap) : Prop :=
 GD t62 false (fun k76 => opt (aload Tryz.prog 3 t66 h75) fun t67 => k76 t67 h75) (fun t67 h77 => GD t62 false (fun k78 => opt (afield Tryz.prog 48 t2 2) fun t68 => k78 t68 h77) (X_dInstr_2 t62 t67 R vs61 j67) h77) h75
def X_dInstr_4 (t62 : Value) (vs61 : List Value) (t2 : Value) (R : Value → AHeap → Prop) (j67 : List Value → AHeap → Prop) (t64 : Value) (h71 : AHeap) : Prop :=
 GD t62 false (fun k72 => k72 (nth vs61 1) h71) (fun t65 h73 => GD t62 false (fun k74 => opt (aindex Tryz.prog 22 t64 t65) fun t66 => k74 t66 h73) (X_dInstr_3 t62 t2 R vs61 j67) h73) h71
def X_dInstr_5 (t51 : Value) (vs61 : List Value) (h66 : AHeap) (t2 : Value) (R : Value → AHeap → Prop) (j67 : List Value → AHeap → Prop) : Prop :=
 opt (aindex Tryz.prog 22 t51 (nth vs61 1)) fun t60 => opt (aload Tryz.prog 3 t60 h66) fun t61 => opt (nb [t61, (.int .i64 0)] (abin2 Tryz.prog .lss 3 (.tmp 61) (.const (.int .i64 0)) t61 (.int .i64 0))) fun t62 => GD t62 false (fun k70 => k70 t51 h66) (X_dInstr_4 t62 vs61 t2 R j67) h66
def X_dInstr_6 (vs61 : List Value) (j60 : List Value → AHeap → Prop) (vs68 : List Value) (h69 : AHeap) : Prop :=
 opt (nb [(nth vs61 1), (.int .i64 1)] (abin2 Tryz.prog .add 3 (.tmp 56) (.const (.int .i64 1)) (nth vs61 1) (.int .i64 1))) fun t57 => j60 [(nth vs68 0), t57] h69
def X_dInstr_7 (t51 : Value) (j57 : List Value → AHeap → Prop) (t2 : Value) (R : Value → AHeap → Prop) (vs61 : List Value) (h62 : AHeap) (j60 : List Value → AHeap → Prop) : Prop :=
 optH (nb [t51] (abuiltin Tryz.prog .len [22] 3 [t51] h62)) fun t54 h63 => opt (nb [(nth vs61 1), t54] (abin2 Tryz.prog .lss 3 (.tmp 52) (.tmp 54) (nth vs61 1) t54)) fun t55 => CD t55 (fun j64 => j64 [] h63)
 (fun j64 => j57 [(nth vs61 0)] h63)
 (fun vs65 h66 => BK (X_dInstr_5 t51 vs61 h66 t2 R)
 (X_dInstr_6 vs61 j60))
def X_dInstr_8 (t94 : Value) (R : Value → AHeap → Prop) (vs103 : List Value) (j109 : List Value → AHeap → Prop) (t103 : Value) (h128 : AHeap) : Prop :=
 opt (pk t94 (.bool true) t103) fun t104 => CD t104 (fun j129 => rv [(.bool false)] h128 R)
 (fun j129 => j129 [(nth vs103 0)] h128)
 (fun vs130 h131 => j109 [(nth vs130 0)] h131)
def X_dInstr_9 (t94 : Value) (t99 : Value) (R : Value → AHeap → Prop) (vs103 : List Value) (j109 : List Value → AHeap → Prop) (t102 : Value) (h125 : AHeap) : Prop :=
 GD t94 false (fun k127 => opt (nb [t99, t102] (abin2 Tryz.prog .geq 3 (.tmp 99) (.tmp 102) t99 t102)) fun t103 => k127 t103 h125) (X_dInstr_8 t94 R vs103 j109) h125
def X_dInstr_10 (t94 : Value) (t99 : Value) (R : Value → AHeap → Prop) (vs103 : List Value) (j109 : List Value → AHeap → Prop) (t100 : Value) (h121 : AHeap) : Prop :=
 GD t94 false (fun k122 => opt (aload Tryz.prog 46 t100 h121) fun t101 => k122 t101 h121) (fun t101 h123 => GD t94 false (fun k124 => optH (nb [t101] (abuiltin Tryz.prog .len [46] 3 [t101] h123)) fun t102 _ => k124 t102 h123) (X_dInstr_9 t94 t99 R vs103 j109) h123) h121
def X_dInstr_11 (t94 : Value) (t2 : Value) (R : Value → AHeap → Prop) (vs103 : List Value) (j109 : List Value → AHeap → Prop) (t98 : Value) (h117 : AHeap) : Prop :=
 GD t94 false (fun k118 => opt (aload Tryz.prog 3 t98 h117) fun t99 => k118 t99 h117) (fun t99 h119 => GD t94 false (fun k120 => opt (afield Tryz.prog 48 t2 5) fun t100 => k120 t100 h119) (X_dInstr_10 t94 t99 R vs103 j109) h119) h117
def X_dInstr_12 (t94 : Value) (vs103 : List Value) (t2 : Value) (R : Value → AHeap → Prop) (j109 : List Value → AHeap → Prop) (t96 : Value) (h113 : AHeap) : Prop :=
 GD t94 false (fun k114 => k114 (nth vs103 1) h113) (fun t97 h115 => GD t94 false (fun k116 => opt (aindex Tryz.prog 22 t96 t97) fun t98 => k116 t98 h115) (X_dInstr_11 t94 t2 R vs103 j109) h115) h113
def X_dInstr_13 (t83 : Value) (vs103 : List Value) (h108 : AHeap) (t2 : Value) (R : Value → AHeap → Prop) (j109 : List Value → AHeap → Prop) : Prop :=
 opt (aindex Tryz.prog 22 t83 (nth vs103 1)) fun t92 => opt (aload Tryz.prog 3 t92 h108) fun t93 => opt (nb [t93, (.int .i64 0)] (abin2 Tryz.prog .lss 3 (.tmp 93) (.const (.int .i64 0)) t93 (.int .i64 0))) fun t94 => GD t94 false (fun k112 => k112 t83 h108) (X_dInstr_12 t94 vs103 t2 R j109) h108
def X_dInstr_14 (vs103 : List Value) (j102 : List Value → AHeap → Prop) (vs110 : List Value) (h111 : AHeap) : Prop :=
 opt (nb [(nth vs103 1), (.int .i64 1)] (abin2 Tryz.prog .add 3 (.tmp 88) (.const (.int .i64 1)) (nth vs103 1) (.int .i64 1))) fun t89 => j102 [(nth vs110 0), t89] h111
def X_dInstr_15 (t83 : Value) (j99 : List Value → AHeap → Prop) (t2 : Value) (R : Value → AHeap → Prop) (vs103 : List Value) (h104 : AHeap) (j102 : List Value → AHeap → Prop) : Prop :=
 optH (nb [t83] (abuiltin Tryz.prog .len [22] 3 [t83] h104)) fun t86 h105 => opt (nb [(nth vs103 1), t86] (abin2 Tryz.prog .lss 3 (.tmp 84) (.tmp 86) (nth vs103 1) t86)) fun t87 => CD t87 (fun j106 => j106 [] h105)
 (fun j106 => j99 [(nth vs103 0)] h105)
 (fun vs107 h108 => BK (X_dInstr_13 t83 vs103 h108 t2 R)
 (X_dInstr_14 vs103 j102))
def X_dInstr_16 (t106 : Value) (h101 : AHeap) (j150 : List Value → AHeap → Prop) : Prop :=
 opt (nb [t106, (.int .i64 8)] (abin2 Tryz.prog .eql 3 (.tmp 106) (.const (.int .i64 8)) t106 (.int .i64 8))) fun t114 => CD t114 (fun j153 => j153 [t114] h101)
 (fun j153 => opt (nb [t106, (.int .i64 10)] (abin2 Tryz.prog .eql 3 (.tmp 106) (.const (.int .i64 10)) t106 (.int .i64 10))) fun t115 => j153 [t115] h101)
 (fun vs154 h155 => j150 [(nth vs154 0)] h155)
def X_dInstr_17 (t106 : Value) (h101 : AHeap) (j147 : List Value → AHeap → Prop) : Prop :=
 opt (nb [t106, (.int .i64 14)] (abin2 Tryz.prog .eql 3 (.tmp 106) (.const (.int .i64 14)) t106 (.int .i64 14))) fun t113 => CD t113 (fun j150 => j150 [t113] h101)
 (X_dInstr_16 t106 h101)
 (fun vs151 h152 => j147 [(nth vs151 0)] h152)
def X_dInstr_18 (t106 : Value) (h101 : AHeap) (j144 : List Value → AHeap → Prop) : Prop :=
 opt (nb [t106, (.int .i64 13)] (abin2 Tryz.prog .eql 3 (.tmp 106) (.const (.int .i64 13)) t106 (.int .i64 13))) fun t112 => CD t112 (fun j147 => j147 [t112] h101)
 (X_dInstr_17 t106 h101)
 (fun vs148 h149 => j144 [(nth vs148 0)] h149)
def X_dInstr_19 (t106 : Value) (h101 : AHeap) (j141 : List Value → AHeap → Prop) : Prop :=
 opt (nb [t106, (.int .i64 12)] (abin2 Tryz.prog .eql 3 (.tmp 106) (.const (.int .i64 12)) t106 (.int .i64 12))) fun t111 => CD t111 (fun j144 => j144 [t111] h101)
 (X_dInstr_18 t106 h101)
 (fun vs145 h146 => j141 [(nth vs145 0)] h146)
def X_dInstr_20 (t106 : Value) (h101 : AHeap) (j138 : List Value → AHeap → Prop) : Prop :=
 opt (nb [t106, (.int .i64 3)] (abin2 Tryz.prog .eql 3 (.tmp 106) (.const (.int .i64 3)) t106 (.int .i64 3))) fun t110 => CD t110 (fun j141 => j141 [t110] h101)
 (X_dInstr_19 t106 h101)
 (fun vs142 h143 => j138 [(nth vs142 0)] h143)
def X_dInstr_21 (t106 : Value) (h101 : AHeap) (j135 : List Value → AHeap → Prop) : Prop :=
 opt (nb [t106, (.int .i64 2)] (abin2 Tryz.prog .eql 3 (.tmp 106) (.const (.int .i64 2)) t106 (.int .i64 2))) fun t109 => CD t109 (fun j138 => j138 [t109] h101)
 (X_dInstr_20 t106 h101)
 (fun vs139 h140 => j135 [(nth vs139 0)] h140)
def X_dInstr_22 (t120 : Value) (R : Value → AHeap → Prop) (t123 : Value) (h165 : AHeap) : Prop :=
 GD t120 true (fun k166 => opt (nb [t123, (.int .i64 4)] (abin2 Tryz.prog .leq 3 (.tmp 123) (.const (.int .i64 4)) t123 (.int .i64 4))) fun t124 => k166 t124 h165) (fun t124 h167 => opt (pk t120 t124 (.bool false)) fun t125 => rv [t125] h167 R) h165
def X_dInstr_23 (t130 : Value) (R : Value → AHeap → Prop) (t133 : Value) (h174 : AHeap) : Prop :=
 GD t130 true (fun k175 => opt (nb [t133, (.int .i64 26)] (abin2 Tryz.prog .leq 3 (.tmp 133) (.const (.int .i64 26)) t133 (.int .i64 26))) fun t134 => k175 t134 h174) (fun t134 h176 => opt (pk t130 t134 (.bool false)) fun t135 => rv [t135] h176 R) h174
def X_dInstr_24 (t140 : Value) (R : Value → AHeap → Prop) (t143 : Value) (h183 : AHeap) : Prop :=
 GD t140 true (fun k184 => opt (nb [t143, (.int .i64 26)] (abin2 Tryz.prog .leq 3 (.tmp 143) (.const (.int .i64 26)) t143 (.int .i64 26))) fun t144 => k184 t144 h183) (fun t144 h185 => opt (pk t140 t144 (.bool false)) fun t145 => rv [t145] h185 R) h183
def X_dInstr_25 (t156 : Value) (R : Value → AHeap → Prop) (t159 : Value) (h201 : AHeap) : Prop :=
 GD t156 false (fun k202 => opt (nb [t159, (.int .i64 8)] (abin2 Tryz.prog .eql 3 (.tmp 159) (.const (.int .i64 8)) t159 (.int .i64 8))) fun t160 => k202 t160 h201) (fun t160 h203 => opt (pk t156 (.bool true) t160) fun t161 => rv [t161] h203 R) h201
def X_dInstr_26 (t151 : Value) (t3 : Value) (R : Value → AHeap → Prop) (t155 : Value) (h197 : AHeap) : Prop :=
 opt (pk t151 (.bool true) t155) fun t156 => GD t156 false (fun k198 => opt (afield Tryz.prog 43 t3 1) fun t158 => k198 t158 h197) (fun t158 h199 => GD t156 false (fun k200 => opt (aload Tryz.prog 3 t158 h199) fun t159 => k200 t159 h199) (X_dInstr_25 t156 R) h199) h197
def X_dInstr_27 (t151 : Value) (t3 : Value) (R : Value → AHeap → Prop) (t154 : Value) (h195 : AHeap) : Prop :=
 GD t151 false (fun k196 => opt (nb [t154, (.int .i64 4)] (abin2 Tryz.prog .eql 3 (.tmp 154) (.const (.int .i64 4)) t154 (.int .i64 4))) fun t155 => k196 t155 h195) (X_dInstr_26 t151 t3 R) h195
def X_dInstr_28 (t166 : Value) (t169 : Value) (R : Value → AHeap → Prop) (t171 : Value) (h214 : AHeap) : Prop :=
 GD t166 true (fun k215 => opt (nb [t169, t171] (abin2 Tryz.prog .leq 2 (.tmp 169) (.tmp 171) t169 t171)) fun t172 => k215 t172 h214) (fun t172 h216 => opt (pk t166 t172 (.bool false)) fun t173 => rv [t173] h216 R) h214
def X_dInstr_29 (t166 : Value) (t2 : Value) (R : Value → AHeap → Prop) (t169 : Value) (h210 : AHeap) : Prop :=
 GD t166 true (fun k211 => opt (afield Tryz.prog 48 t2 3) fun t170 => k211 t170 h210) (fun t170 h212 => GD t166 true (fun k213 => opt (aload Tryz.prog 3 t170 h212) fun t171 => k213 t171 h212) (X_dInstr_28 t166 t169 R) h212) h210
def X_dInstr_30 (t3 : Value) (h188 : AHeap) (t2 : Value) (R : Value → AHeap → Prop) (j204 : List Value → AHeap → Prop) : Prop :=
 opt (afield Tryz.prog 43 t3 5) fun t164 => opt (aload Tryz.prog 2 t164 h188) fun t165 => opt (nb [t165, (.int .i64 0)] (abin2 Tryz.prog .geq 2 (.tmp 165) (.const (.int .i64 0)) t165 (.int .i64 0))) fun t166 => GD t166 true (fun k207 => opt (afield Tryz.prog 43 t3 5) fun t168 => k207 t168 h188) (fun t168 h208 => GD t166 true (fun k209 => opt (aload Tryz.prog 2 t168 h208) fun t169 => k209 t169 h208) (X_dInstr_29 t166 t2 R) h208) h188
def X_dInstr_31 (t3 : Value) (h188 : AHeap) (R : Value → AHeap → Prop) (j189 : List Value → AHeap → Prop) : Prop :=
 opt (afield Tryz.prog 43 t3 1) fun t149 => opt (aload Tryz.prog 3 t149 h188) fun t150 => opt (nb [t150, (.int .i64 1)] (abin2 Tryz.prog .eql 3 (.tmp 150) (.const (.int .i64 1)) t150 (.int .i64 1))) fun t151 => GD t151 false (fun k192 => opt (afield Tryz.prog 43 t3 1) fun t153 => k192 t153 h188) (fun t153 h193 => GD t151 false (fun k194 => opt (aload Tryz.prog 3 t153 h193) fun t154 => k194 t154 h193) (X_dInstr_27 t151 t3 R) h193) h188
def X_dInstr_32 (t106 : Value) (t3 : Value) (h188 : AHeap) (t2 : Value) (R : Value → AHeap → Prop) (vs100 : List Value) (j189 : List Value → AHeap → Prop) : Prop :=
 opt (nb [t106, (.int .i64 9)] (abin2 Tryz.prog .eql 3 (.tmp 106) (.const (.int .i64 9)) t106 (.int .i64 9))) fun t163 => CD t163 (X_dInstr_30 t3 h188 t2 R)
 (fun j204 => j204 [(nth vs100 0)] h188)
 (fun vs205 h206 => j189 [(nth vs205 0)] h206)
def X_dInstr_33 (t3 : Value) (h137 : AHeap) (R : Value → AHeap → Prop) (j177 : List Value → AHeap → Prop) : Prop :=
 opt (afield Tryz.prog 43 t3 1) fun t138 => opt (aload Tryz.prog 3 t138 h137) fun t139 => opt (nb [t139, (.int .i64 21)] (abin2 Tryz.prog .geq 3 (.tmp 139) (.const (.int .i64 21)) t139 (.int .i64 21))) fun t140 => GD t140 true (fun k180 => opt (afield Tryz.prog 43 t3 1) fun t142 => k180 t142 h137) (fun t142 h181 => GD t140 true (fun k182 => opt (aload Tryz.prog 3 t142 h181) fun t143 => k182 t143 h181) (X_dInstr_24 t140 R) h181) h137
def X_dInstr_34 (t106 : Value) (h137 : AHeap) (t3 : Value) (R : Value → AHeap → Prop) (t2 : Value) (vs100 : List Value) (j177 : List Value → AHeap → Prop) : Prop :=
 opt (nb [t106, (.int .i64 6)] (abin2 Tryz.prog .eql 3 (.tmp 106) (.const (.int .i64 6)) t106 (.int .i64 6))) fun t147 => CD t147 (fun j186 => j186 [t147] h137)
 (fun j186 => opt (nb [t106, (.int .i64 7)] (abin2 Tryz.prog .eql 3 (.tmp 106) (.const (.int .i64 7)) t106 (.int .i64 7))) fun t148 => j186 [t148] h137)
 (fun vs187 h188 => CD (nth vs187 0) (X_dInstr_31 t3 h188 R)
 (X_dInstr_32 t106 t3 h188 t2 R vs100)
 (fun vs190 h191 => j177 [(nth vs190 0)] h191))
def X_dInstr_35 (t3 : Value) (h137 : AHeap) (R : Value → AHeap → Prop) (j168 : List Value → AHeap → Prop) : Prop :=
 opt (afield Tryz.prog 43 t3 1) fun t128 => opt (aload Tryz.prog 3 t128 h137) fun t129 => opt (nb [t129, (.int .i64 11)] (abin2 Tryz.prog .geq 3 (.tmp 129) (.const (.int .i64 11)) t129 (.int .i64 11))) fun t130 => GD t130 true (fun k171 => opt (afield Tryz.prog 43 t3 1) fun t132 => k171 t132 h137) (fun t132 h172 => GD t130 true (fun k173 => opt (aload Tryz.prog 3 t132 h172) fun t133 => k173 t133 h172) (X_dInstr_23 t130 R) h172) h137
def X_dInstr_36 (t106 : Value) (t3 : Value) (h137 : AHeap) (R : Value → AHeap → Prop) (t2 : Value) (vs100 : List Value) (j168 : List Value → AHeap → Prop) : Prop :=
 opt (nb [t106, (.int .i64 11)] (abin2 Tryz.prog .eql 3 (.tmp 106) (.const (.int .i64 11)) t106 (.int .i64 11))) fun t137 => CD t137 (X_dInstr_33 t3 h137 R)
 (X_dInstr_34 t106 h137 t3 R t2 vs100)
 (fun vs178 h179 => j168 [(nth vs178 0)] h179)
def X_dInstr_37 (t3 : Value) (h137 : AHeap) (R : Value → AHeap → Prop) (j159 : List Value → AHeap → Prop) : Prop :=
 opt (afield Tryz.prog 43 t3 1) fun t118 => opt (aload Tryz.prog 3 t118 h137) fun t119 => opt (nb [t119, (.int .i64 1)] (abin2 Tryz.prog .geq 3 (.tmp 119) (.const (.int .i64 1)) t119 (.int .i64 1))) fun t120 => GD t120 true (fun k162 => opt (afield Tryz.prog 43 t3 1) fun t122 => k162 t122 h137) (fun t122 h163 => GD t120 true (fun k164 => opt (aload Tryz.prog 3 t122 h163) fun t123 => k164 t123 h163) (X_dInstr_22 t120 R) h163) h137
def X_dInstr_38 (t106 : Value) (t3 : Value) (h137 : AHeap) (R : Value → AHeap → Prop) (t2 : Value) (vs100 : List Value) (j159 : List Value → AHeap → Prop) : Prop :=
 opt (nb [t106, (.int .i64 5)] (abin2 Tryz.prog .eql 3 (.tmp 106) (.const (.int .i64 5)) t106 (.int .i64 5))) fun t127 => CD t127 (X_dInstr_35 t3 h137 R)
 (X_dInstr_36 t106 t3 h137 R t2 vs100)
 (fun vs169 h170 => j159 [(nth vs169 0)] h170)
def X_dInstr_39 (t106 : Value) (t3 : Value) (h137 : AHeap) (R : Value → AHeap → Prop) (t2 : Value) (vs100 : List Value) (j156 : List Value → AHeap → Prop) : Prop :=
 opt (nb [t106, (.int .i64 4)] (abin2 Tryz.prog .eql 3 (.tmp 106) (.const (.int .i64 4)) t106 (.int .i64 4))) fun t117 => CD t117 (X_dInstr_37 t3 h137 R)
 (X_dInstr_38 t106 t3 h137 R t2 vs100)
 (fun vs160 h161 => j156 [(nth vs160 0)] h161)
def X_dInstr_40 (t106 : Value) (h101 : AHeap) (R : Value → AHeap → Prop) (t3 : Value) (t2 : Value) (vs100 : List Value) (j132 : List Value → AHeap → Prop) : Prop :=
 opt (nb [t106, (.int .i64 1)] (abin2 Tryz.prog .eql 3 (.tmp 106) (.const (.int .i64 1)) t106 (.int .i64 1))) fun t108 => CD t108 (fun j135 => j135 [t108] h101)
 (X_dInstr_21 t106 h101)
 (fun vs136 h137 => CD (nth vs136 0) (fun j156 => rv [(.bool true)] h137 R)
 (X_dInstr_39 t106 t3 h137 R t2 vs100)
 (fun vs157 h158 => j132 [(nth vs157 0)] h158))
def X_dInstr_41 (t3 : Value) (R : Value → AHeap → Prop) (t2 : Value) (vs100 : List Value) (h101 : AHeap) : Prop :=
 opt (afield Tryz.prog 43 t3 0) fun t105 => opt (aload Tryz.prog 3 t105 h101) fun t106 => BK (X_dInstr_40 t106 h101 R t3 t2 vs100)
 (fun vs133 h134 => rv [(.bool false)] h134 R)
def X_dInstr_42 (t3 : Value) (t2 : Value) (R : Value → AHeap → Prop) (vs96 : List Value) (h97 : AHeap) : Prop :=
 opt (aload Tryz.prog 43 t3 h97) fun t82 => callV Tryz.prog (.func (.func 53) #[] #[]) [t82] h97 (fun t83 h98 => BK (fun j99 => LP (X_dInstr_15 t83 j99 t2 R)
 [(nth vs96 0), (.int .i64 0)] h98)
 (X_dInstr_41 t3 R t2))
def X_dInstr_43 (t76 : Value) (R : Value → AHeap → Prop) (vs58 : List Value) (t3 : Value) (t2 : Value) (t79 : Value) (h91 : AHeap) : Prop :=
 GD t76 false (fun k93 => opt (nb [t79, (.int .i64 (-1))] (abin2 Tryz.prog .lss 3 (.tmp 79) (.const (.int .i64 (-1))) t79 (.int .i64 (-1)))) fun t80 => k93 t80 h91) (fun t80 h94 => opt (pk t76 (.bool true) t80) fun t81 => CD t81 (fun j95 => rv [(.bool false)] h94 R)
 (fun j95 => j95 [(nth vs58 0)] h94)
 (X_dInstr_42 t3 t2 R)) h91
def X_dInstr_44 (t2 : Value) (h59 : AHeap) (t3 : Value) (R : Value → AHeap → Prop) (vs58 : List Value) (t73 : Value) : Prop :=
 opt (afield Tryz.prog 48 t2 2) fun t74 => opt (aload Tryz.prog 3 t74 h59) fun t75 => opt (nb [t73, t75] (abin2 Tryz.prog .geq 3 (.tmp 73) (.tmp 75) t73 t75)) fun t76 => GD t76 false (fun k88 => opt (aload Tryz.prog 43 t3 h59) fun t78 => k88 t78 h59) (fun t78 h89 => GD t76 false (fun k90 => callQ Tryz.prog 51 [t78] h89 (fun t79 => k90 t79 h89)) (X_dInstr_43 t76 R vs58 t3 t2) h89) h59
def X_dInstr_45 (t2 : Value) (R : Value → AHeap → Prop) (vs54 : List Value) (t3 : Value) (t51 : Value) (h56 : AHeap) : Prop :=
 BK (fun j57 => LP (X_dInstr_7 t51 j57 t2 R)
 [(nth vs54 0), (.int .i64 0)] h56)
 (fun vs58 h59 => opt (aload Tryz.prog 43 t3 h59) fun t72 => callQ Tryz.prog 51 [t72] h59 (X_dInstr_44 t2 h59 t3 R vs58))
def X_dInstr_46 (t39 : Value) (R : Value → AHeap → Prop) (t3 : Value) (t2 : Value) (t48 : Value) (h52 : AHeap) : Prop :=
 opt (pk t39 (.bool true) t48) fun t49 => CD t49 (fun j53 => rv [(.bool false)] h52 R)
 (fun j53 => j53 [(.bool false)] h52)
 (fun vs54 h55 => opt (aload Tryz.prog 43 t3 h55) fun t50 => callV Tryz.prog (.func (.func 52) #[] #[]) [t50] h55 (X_dInstr_45 t2 R vs54 t3))
def X_dInstr_47 (t44 : Value) (t39 : Value) (R : Value → AHeap → Prop) (t3 : Value) (t2 : Value) (t46 : Value) (h48 : AHeap) : Prop :=
 GD t44 true (fun k49 => opt (nb [t46, (.int .i64 (-1))] (abin2 Tryz.prog .lss 3 (.tmp 46) (.const (.int .i64 (-1))) t46 (.int .i64 (-1)))) fun t47 => k49 t47 h48) (fun t47 h50 => GD t39 false (fun k51 => opt (pk t44 t47 (.bool false)) fun t48 => k51 t48 h50) (X_dInstr_46 t39 R t3 t2) h50) h48
def X_dInstr_48 (t3 : Value) (t39 : Value) (R : Value → AHeap → Prop) (t2 : Value) (t44 : Value) (h44 : AHeap) : Prop :=
 GD t44 true (fun k45 => opt (afield Tryz.prog 43 t3 4) fun t45 => k45 t45 h44) (fun t45 h46 => GD t44 true (fun k47 => opt (aload Tryz.prog 3 t45 h46) fun t46 => k47 t46 h46) (X_dInstr_47 t44 t39 R t3 t2) h46) h44
def X_dInstr_49 (t39 : Value) (t3 : Value) (R : Value → AHeap → Prop) (t2 : Value) (t42 : Value) (h40 : AHeap) : Prop :=
 GD t39 false (fun k41 => opt (nb [t42, (.int .i64 10)] (abin2 Tryz.prog .eql 3 (.tmp 42) (.const (.int .i64 10)) t42 (.int .i64 10))) fun t43 => k41 t43 h40) (fun t43 h42 => GD t39 false (fun k43 => k43 t43 h42) (X_dInstr_48 t3 t39 R t2) h42) h40
def X_dInstr_50 (t31 : Value) (t3 : Value) (R : Value → AHeap → Prop) (t2 : Value) (t38 : Value) (h36 : AHeap) : Prop :=
 opt (pk t31 (.bool true) t38) fun t39 => GD t39 false (fun k37 => opt (afield Tryz.prog 43 t3 0) fun t41 => k37 t41 h36) (fun t41 h38 => GD t39 false (fun k39 => opt (aload Tryz.prog 3 t41 h38) fun t42 => k39 t42 h38) (X_dInstr_49 t39 t3 R t2) h38) h36
def X_dInstr_51 (t34 : Value) (t31 : Value) (t3 : Value) (R : Value → AHeap → Prop) (t2 : Value) (t36 : Value) (h31 : AHeap) : Prop :=
 GD t34 true (fun k33 => opt (nb [t36, (.int .i64 (-1))] (abin2 Tryz.prog .eql 3 (.tmp 36) (.const (.int .i64 (-1))) t36 (.int .i64 (-1)))) fun t37 => k33 t37 h31) (fun t37 h34 => GD t31 false (fun k35 => opt (pk t34 t37 (.bool false)) fun t38 => k35 t38 h34) (X_dInstr_50 t31 t3 R t2) h34) h31
def X_dInstr_52 (t3 : Value) (t31 : Value) (R : Value → AHeap → Prop) (t2 : Value) (t34 : Value) (h27 : AHeap) : Prop :=
 GD t34 true (fun k28 => opt (aload Tryz.prog 43 t3 h27) fun t35 => k28 t35 h27) (fun t35 h29 => GD t34 true (fun k30 => callV Tryz.prog (.func (.func 51) #[] #[]) [t35] h29 (fun t36 h32 => k30 t36 h32)) (X_dInstr_51 t34 t31 t3 R t2) h29) h27
def X_dInstr_53 (t23 : Value) (t17 : Value) (t3 : Value) (R : Value → AHeap → Prop) (t2 : Value) (t30 : Value) (h23 : AHeap) : Prop :=
 opt (pk t23 (.bool true) t30) fun t31 => GD t31 false (fun k24 => k24 t17 h23) (fun t33 h25 => GD t31 false (fun k26 => k26 t33 h25) (X_dInstr_52 t3 t31 R t2) h25) h23
def X_dInstr_54 (t26 : Value) (t23 : Value) (t17 : Value) (t3 : Value) (R : Value → AHeap → Prop) (t2 : Value) (t28 : Value) (h19 : AHeap) : Prop :=
 GD t26 true (fun k20 => opt (nb [t28, (.int .i64 (-1))] (abin2 Tryz.prog .eql 3 (.tmp 28) (.const (.int .i64 (-1))) t28 (.int .i64 (-1)))) fun t29 => k20 t29 h19) (fun t29 h21 => GD t23 false (fun k22 => opt (pk t26 t29 (.bool false)) fun t30 => k22 t30 h21) (X_dInstr_53 t23 t17 t3 R t2) h21) h19
def X_dInstr_55 (t3 : Value) (t23 : Value) (t17 : Value) (R : Value → AHeap → Prop) (t2 : Value) (t26 : Value) (h15 : AHeap) : Prop :=
 GD t26 true (fun k16 => opt (afield Tryz.prog 43 t3 3) fun t27 => k16 t27 h15) (fun t27 h17 => GD t26 true (fun k18 => opt (aload Tryz.prog 3 t27 h17) fun t28 => k18 t28 h17) (X_dInstr_54 t26 t23 t17 t3 R t2) h17) h15
def X_dInstr_56 (t15 : Value) (t16 : Value) (t3 : Value) (t17 : Value) (R : Value → AHeap → Prop) (t2 : Value) (t22 : Value) (h11 : AHeap) : Prop :=
 opt (pk t15 t22 (.bool false)) fun t23 => GD t23 false (fun k12 => k12 t16 h11) (fun t25 h13 => GD t23 false (fun k14 => k14 t25 h13) (X_dInstr_55 t3 t23 t17 R t2) h13) h11
def X_dInstr_57 (t15 : Value) (t16 : Value) (t3 : Value) (t17 : Value) (R : Value → AHeap → Prop) (t2 : Value) (t21 : Value) (h9 : AHeap) : Prop :=
 GD t15 true (fun k10 => opt (nb [t21, (.int .i64 (-1))] (abin2 Tryz.prog .eql 3 (.tmp 21) (.const (.int .i64 (-1))) t21 (.int .i64 (-1)))) fun t22 => k10 t22 h9) (X_dInstr_56 t15 t16 t3 t17 R t2) h9
def X_dInstr_58 (t3 : Value) (R : Value → AHeap → Prop) (t2 : Value) (t14 : Value) (h5 : AHeap) : Prop :=
 opt (axt t14 0) fun t15 => opt (axt t14 1) fun t16 => opt (axt t14 2) fun t17 => GD t15 true (fun k6 => opt (afield Tryz.prog 43 t3 2) fun t20 => k6 t20 h5) (fun t20 h7 => GD t15 true (fun k8 => opt (aload Tryz.prog 3 t20 h7) fun t21 => k8 t21 h7) (X_dInstr_57 t15 t16 t3 t17 R t2) h7) h5
def X_dInstr (h : AHeap) (t0 t1 : Value) (R : Value → AHeap → Prop) : Prop :=
 opt (nb [t0] (some (Value.cells t0).toList)) fun c1 => nw h c1 48 fun t2 h2 => opt (nb [t1] (some (Value.cells t1).toList)) fun c3 => nw h2 c3 43 fun t3 h4 => opt (aload Tryz.prog 43 t3 h4) fun t13 => callV Tryz.prog (.func (.func 50) #[] #[]) [t13] h4 (X_dInstr_58 t3 R t2)
theorem X_dInstr_eq (h : AHeap) (t0 t1 : Value) (R : Value → AHeap → Prop) : wpF Tryz.prog (drawW Tryz.prog qs) 200 32 [t0, t1] h R = X_dInstr h t0 t1 R := by kernel_rfl
theorem X_dInstr_ok {h : AHeap} {t0 t1 : Value} {R : Value → AHeap → Prop} (hw : X_dInstr h t0 t1 R) : DC Tryz.prog 32 [t0, t1] h R := DC_of_wp mixed (n := 200) (by rw [X_dInstr_eq]; exact hw)

/-- plumbob/plumbobref12.SameInstr -/
def X_SameInstr_1 (t2 : Value) (h103 : AHeap) (vs98 : List Value) (t3 : Value) (R : Value → AHeap → Prop) (j104 : List Value → AHeap → Prop) : Prop :=
 opt (afield Tryz.prog 43 t2 6) fun t76 => opt (aload Tryz.prog 22 t76 h103) fun t77 => opt (aindex Tryz.prog 22 t77 (nth vs98 1)) fun t79 => opt (aload Tryz.prog 3 t79 h103) fun t80 => opt (afield Tryz.prog 43 t3 6) fun t81 => opt (aload Tryz.prog 22 t81 h103) fun t82 => opt (aindex Tryz.prog 22 t82 (nth vs98 1)) fun t84 => opt (aload Tryz.prog 3 t84 h103) fun t85 => opt (nb [t80, t85] (abin2 Tryz.prog .neq 3 (.tmp 80) (.tmp 85) t80 t85)) fun t86 => CD t86 (fun j107 => rv [(.bool false)] h103 R)
 (fun j107 => j107 [(nth vs98 0)] h103)
 (fun vs108 h109 => j104 [(nth vs108 0)] h109)
def X_SameInstr_2 (vs98 : List Value) (j97 : List Value → AHeap → Prop) (vs105 : List Value) (h106 : AHeap) : Prop :=
 opt (nb [(nth vs98 1), (.int .i64 1)] (abin2 Tryz.prog .add 3 (.tmp 74) (.const (.int .i64 1)) (nth vs98 1) (.int .i64 1))) fun t75 => j97 [(nth vs105 0), t75] h106
def X_SameInstr_3 (t2 : Value) (j94 : List Value → AHeap → Prop) (t3 : Value) (R : Value → AHeap → Prop) (vs98 : List Value) (h99 : AHeap) (j97 : List Value → AHeap → Prop) : Prop :=
 opt (afield Tryz.prog 43 t2 6) fun t70 => opt (aload Tryz.prog 22 t70 h99) fun t71 => optH (nb [t71] (abuiltin Tryz.prog .len [22] 3 [t71] h99)) fun t72 h100 => opt (nb [(nth vs98 1), t72] (abin2 Tryz.prog .lss 3 (.tmp 69) (.tmp 72) (nth vs98 1) t72)) fun t73 => CD t73 (fun j101 => j101 [] h100)
 (fun j101 => j94 [(nth vs98 0)] h100)
 (fun vs102 h103 => BK (X_SameInstr_1 t2 h103 vs98 t3 R)
 (X_SameInstr_2 vs98 j97))
def X_SameInstr_4 (t59 : Value) (R : Value → AHeap → Prop) (t2 : Value) (t3 : Value) (t67 : Value) (h90 : AHeap) : Prop :=
 opt (pk t59 (.bool true) t67) fun t68 => CD t68 (fun j91 => rv [(.bool false)] h90 R)
 (fun j91 => j91 [(.bool false)] h90)
 (fun vs92 h93 => BK (fun j94 => LP (X_SameInstr_3 t2 j94 t3 R)
 [(nth vs92 0), (.int .i64 0)] h93)
 (fun vs95 h96 => rv [(.bool true)] h96 R))
def X_SameInstr_5 (t59 : Value) (t63 : Value) (R : Value → AHeap → Prop) (t2 : Value) (t3 : Value) (t65 : Value) (h85 : AHeap) : Prop :=
 GD t59 false (fun k86 => optH (nb [t65] (abuiltin Tryz.prog .len [22] 3 [t65] h85)) fun t66 h88 => k86 t66 h88) (fun t66 h87 => GD t59 false (fun k89 => opt (nb [t63, t66] (abin2 Tryz.prog .neq 3 (.tmp 63) (.tmp 66) t63 t66)) fun t67 => k89 t67 h87) (X_SameInstr_4 t59 R t2 t3) h87) h85
def X_SameInstr_6 (t59 : Value) (t3 : Value) (R : Value → AHeap → Prop) (t2 : Value) (t63 : Value) (h80 : AHeap) : Prop :=
 GD t59 false (fun k82 => opt (afield Tryz.prog 43 t3 6) fun t64 => k82 t64 h80) (fun t64 h83 => GD t59 false (fun k84 => opt (aload Tryz.prog 22 t64 h83) fun t65 => k84 t65 h83) (X_SameInstr_5 t59 t63 R t2 t3) h83) h80
def X_SameInstr_7 (t59 : Value) (t3 : Value) (R : Value → AHeap → Prop) (t2 : Value) (t61 : Value) (h76 : AHeap) : Prop :=
 GD t59 false (fun k77 => opt (aload Tryz.prog 22 t61 h76) fun t62 => k77 t62 h76) (fun t62 h78 => GD t59 false (fun k79 => optH (nb [t62] (abuiltin Tryz.prog .len [22] 3 [t62] h78)) fun t63 h81 => k79 t63 h81) (X_SameInstr_6 t59 t3 R t2) h78) h76
def X_SameInstr_8 (t52 : Value) (t55 : Value) (t2 : Value) (t3 : Value) (R : Value → AHeap → Prop) (t57 : Value) (h72 : AHeap) : Prop :=
 GD t52 false (fun k73 => opt (nb [t55, t57] (abin2 Tryz.prog .neq 3 (.tmp 55) (.tmp 57) t55 t57)) fun t58 => k73 t58 h72) (fun t58 h74 => opt (pk t52 (.bool true) t58) fun t59 => GD t59 false (fun k75 => opt (afield Tryz.prog 43 t2 6) fun t61 => k75 t61 h74) (X_SameInstr_7 t59 t3 R t2) h74) h72
def X_SameInstr_9 (t52 : Value) (t3 : Value) (t2 : Value) (R : Value → AHeap → Prop) (t55 : Value) (h68 : AHeap) : Prop :=
 GD t52 false (fun k69 => opt (afield Tryz.prog 43 t3 8) fun t56 => k69 t56 h68) (fun t56 h70 => GD t52 false (fun k71 => opt (aload Tryz.prog 3 t56 h70) fun t57 => k71 t57 h70) (X_SameInstr_8 t52 t55 t2 t3 R) h70) h68
def X_SameInstr_10 (t45 : Value) (t2 : Value) (t3 : Value) (R : Value → AHeap → Prop) (t51 : Value) (h64 : AHeap) : Prop :=
 opt (pk t45 (.bool true) t51) fun t52 => GD t52 false (fun k65 => opt (afield Tryz.prog 43 t2 8) fun t54 => k65 t54 h64) (fun t54 h66 => GD t52 false (fun k67 => opt (aload Tryz.prog 3 t54 h66) fun t55 => k67 t55 h66) (X_SameInstr_9 t52 t3 t2 R) h66) h64
def X_SameInstr_11 (t45 : Value) (t48 : Value) (t2 : Value) (t3 : Value) (R : Value → AHeap → Prop) (t49 : Value) (h60 : AHeap) : Prop :=
 GD t45 false (fun k61 => opt (aload Tryz.prog 3 t49 h60) fun t50 => k61 t50 h60) (fun t50 h62 => GD t45 false (fun k63 => opt (nb [t48, t50] (abin2 Tryz.prog .neq 3 (.tmp 48) (.tmp 50) t48 t50)) fun t51 => k63 t51 h62) (X_SameInstr_10 t45 t2 t3 R) h62) h60
def X_SameInstr_12 (t45 : Value) (t3 : Value) (t2 : Value) (R : Value → AHeap → Prop) (t47 : Value) (h56 : AHeap) : Prop :=
 GD t45 false (fun k57 => opt (aload Tryz.prog 3 t47 h56) fun t48 => k57 t48 h56) (fun t48 h58 => GD t45 false (fun k59 => opt (afield Tryz.prog 43 t3 7) fun t49 => k59 t49 h58) (X_SameInstr_11 t45 t48 t2 t3 R) h58) h56
def X_SameInstr_13 (t38 : Value) (t41 : Value) (t2 : Value) (t3 : Value) (R : Value → AHeap → Prop) (t43 : Value) (h52 : AHeap) : Prop :=
 GD t38 false (fun k53 => opt (nb [t41, t43] (abin2 Tryz.prog .neq 2 (.tmp 41) (.tmp 43) t41 t43)) fun t44 => k53 t44 h52) (fun t44 h54 => opt (pk t38 (.bool true) t44) fun t45 => GD t45 false (fun k55 => opt (afield Tryz.prog 43 t2 7) fun t47 => k55 t47 h54) (X_SameInstr_12 t45 t3 t2 R) h54) h52
def X_SameInstr_14 (t38 : Value) (t3 : Value) (t2 : Value) (R : Value → AHeap → Prop) (t41 : Value) (h48 : AHeap) : Prop :=
 GD t38 false (fun k49 => opt (afield Tryz.prog 43 t3 5) fun t42 => k49 t42 h48) (fun t42 h50 => GD t38 false (fun k51 => opt (aload Tryz.prog 2 t42 h50) fun t43 => k51 t43 h50) (X_SameInstr_13 t38 t41 t2 t3 R) h50) h48
def X_SameInstr_15 (t31 : Value) (t2 : Value) (t3 : Value) (R : Value → AHeap → Prop) (t37 : Value) (h44 : AHeap) : Prop :=
 opt (pk t31 (.bool true) t37) fun t38 => GD t38 false (fun k45 => opt (afield Tryz.prog 43 t2 5) fun t40 => k45 t40 h44) (fun t40 h46 => GD t38 false (fun k47 => opt (aload Tryz.prog 2 t40 h46) fun t41 => k47 t41 h46) (X_SameInstr_14 t38 t3 t2 R) h46) h44
def X_SameInstr_16 (t31 : Value) (t34 : Value) (t2 : Value) (t3 : Value) (R : Value → AHeap → Prop) (t35 : Value) (h40 : AHeap) : Prop :=
 GD t31 false (fun k41 => opt (aload Tryz.prog 3 t35 h40) fun t36 => k41 t36 h40) (fun t36 h42 => GD t31 false (fun k43 => opt (nb [t34, t36] (abin2 Tryz.prog .neq 3 (.tmp 34) (.tmp 36) t34 t36)) fun t37 => k43 t37 h42) (X_SameInstr_15 t31 t2 t3 R) h42) h40
def X_SameInstr_17 (t31 : Value) (t3 : Value) (t2 : Value) (R : Value → AHeap → Prop) (t33 : Value) (h36 : AHeap) : Prop :=
 GD t31 false (fun k37 => opt (aload Tryz.prog 3 t33 h36) fun t34 => k37 t34 h36) (fun t34 h38 => GD t31 false (fun k39 => opt (afield Tryz.prog 43 t3 4) fun t35 => k39 t35 h38) (X_SameInstr_16 t31 t34 t2 t3 R) h38) h36
def X_SameInstr_18 (t24 : Value) (t27 : Value) (t2 : Value) (t3 : Value) (R : Value → AHeap → Prop) (t29 : Value) (h32 : AHeap) : Prop :=
 GD t24 false (fun k33 => opt (nb [t27, t29] (abin2 Tryz.prog .neq 3 (.tmp 27) (.tmp 29) t27 t29)) fun t30 => k33 t30 h32) (fun t30 h34 => opt (pk t24 (.bool true) t30) fun t31 => GD t31 false (fun k35 => opt (afield Tryz.prog 43 t2 4) fun t33 => k35 t33 h34) (X_SameInstr_17 t31 t3 t2 R) h34) h32
def X_SameInstr_19 (t24 : Value) (t3 : Value) (t2 : Value) (R : Value → AHeap → Prop) (t27 : Value) (h28 : AHeap) : Prop :=
 GD t24 false (fun k29 => opt (afield Tryz.prog 43 t3 3) fun t28 => k29 t28 h28) (fun t28 h30 => GD t24 false (fun k31 => opt (aload Tryz.prog 3 t28 h30) fun t29 => k31 t29 h30) (X_SameInstr_18 t24 t27 t2 t3 R) h30) h28
def X_SameInstr_20 (t17 : Value) (t2 : Value) (t3 : Value) (R : Value → AHeap → Prop) (t23 : Value) (h24 : AHeap) : Prop :=
 opt (pk t17 (.bool true) t23) fun t24 => GD t24 false (fun k25 => opt (afield Tryz.prog 43 t2 3) fun t26 => k25 t26 h24) (fun t26 h26 => GD t24 false (fun k27 => opt (aload Tryz.prog 3 t26 h26) fun t27 => k27 t27 h26) (X_SameInstr_19 t24 t3 t2 R) h26) h24
def X_SameInstr_21 (t17 : Value) (t20 : Value) (t2 : Value) (t3 : Value) (R : Value → AHeap → Prop) (t21 : Value) (h20 : AHeap) : Prop :=
 GD t17 false (fun k21 => opt (aload Tryz.prog 3 t21 h20) fun t22 => k21 t22 h20) (fun t22 h22 => GD t17 false (fun k23 => opt (nb [t20, t22] (abin2 Tryz.prog .neq 3 (.tmp 20) (.tmp 22) t20 t22)) fun t23 => k23 t23 h22) (X_SameInstr_20 t17 t2 t3 R) h22) h20
def X_SameInstr_22 (t17 : Value) (t3 : Value) (t2 : Value) (R : Value → AHeap → Prop) (t19 : Value) (h16 : AHeap) : Prop :=
 GD t17 false (fun k17 => opt (aload Tryz.prog 3 t19 h16) fun t20 => k17 t20 h16) (fun t20 h18 => GD t17 false (fun k19 => opt (afield Tryz.prog 43 t3 2) fun t21 => k19 t21 h18) (X_SameInstr_21 t17 t20 t2 t3 R) h18) h16
def X_SameInstr_23 (t10 : Value) (t13 : Value) (t2 : Value) (t3 : Value) (R : Value → AHeap → Prop) (t15 : Value) (h12 : AHeap) : Prop :=
 GD t10 false (fun k13 => opt (nb [t13, t15] (abin2 Tryz.prog .neq 3 (.tmp 13) (.tmp 15) t13 t15)) fun t16 => k13 t16 h12) (fun t16 h14 => opt (pk t10 (.bool true) t16) fun t17 => GD t17 false (fun k15 => opt (afield Tryz.prog 43 t2 2) fun t19 => k15 t19 h14) (X_SameInstr_22 t17 t3 t2 R) h14) h12
def X_SameInstr_24 (t10 : Value) (t3 : Value) (t2 : Value) (R : Value → AHeap → Prop) (t13 : Value) (h8 : AHeap) : Prop :=
 GD t10 false (fun k9 => opt (afield Tryz.prog 43 t3 1) fun t14 => k9 t14 h8) (fun t14 h10 => GD t10 false (fun k11 => opt (aload Tryz.prog 3 t14 h10) fun t15 => k11 t15 h10) (X_SameInstr_23 t10 t13 t2 t3 R) h10) h8
def X_SameInstr (h : AHeap) (t0 t1 : Value) (R : Value → AHeap → Prop) : Prop :=
 opt (nb [t0] (some (Value.cells t0).toList)) fun c1 => nw h c1 43 fun t2 h2 => opt (nb [t1] (some (Value.cells t1).toList)) fun c3 => nw h2 c3 43 fun t3 h4 => opt (afield Tryz.prog 43 t2 0) fun t6 => opt (aload Tryz.prog 3 t6 h4) fun t7 => opt (afield Tryz.prog 43 t3 0) fun t8 => opt (aload Tryz.prog 3 t8 h4) fun t9 => opt (nb [t7, t9] (abin2 Tryz.prog .neq 3 (.tmp 7) (.tmp 9) t7 t9)) fun t10 => GD t10 false (fun k5 => opt (afield Tryz.prog 43 t2 1) fun t12 => k5 t12 h4) (fun t12 h6 => GD t10 false (fun k7 => opt (aload Tryz.prog 3 t12 h6) fun t13 => k7 t13 h6) (X_SameInstr_24 t10 t3 t2 R) h6) h4
theorem X_SameInstr_eq (h : AHeap) (t0 t1 : Value) (R : Value → AHeap → Prop) : wpF Tryz.prog (drawW Tryz.prog qs) 200 33 [t0, t1] h R = X_SameInstr h t0 t1 R := by kernel_rfl
theorem X_SameInstr_ok {h : AHeap} {t0 t1 : Value} {R : Value → AHeap → Prop} (hw : X_SameInstr h t0 t1 R) : DC Tryz.prog 33 [t0, t1] h R := DC_of_wp mixed (n := 200) (by rw [X_SameInstr_eq]; exact hw)

/-- slices.IndexFunc[[]plumbob/rtl.Instr,plumbob/rtl.Instr] -/
def X_IndexFunc_1 (t0 : Value) (vs6 : List Value) (h10 : AHeap) (t1 : Value) (R : Value → AHeap → Prop) (j11 : List Value → AHeap → Prop) : Prop :=
 opt (aindex Tryz.prog 46 t0 (nth vs6 1)) fun t14 => opt (aload Tryz.prog 43 t14 h10) fun t15 => callV Tryz.prog t1 [t15] h10 (fun t16 h14 => CD t16 (fun j15 => rv [(nth vs6 1)] h14 R)
 (fun j15 => j15 [(nth vs6 0)] h14)
 (fun vs16 h17 => j11 [(nth vs16 0)] h17))
def X_IndexFunc_2 (t0 : Value) (vs6 : List Value) (t1 : Value) (R : Value → AHeap → Prop) (j5 : List Value → AHeap → Prop) (vs9 : List Value) (h10 : AHeap) : Prop :=
 BK (X_IndexFunc_1 t0 vs6 h10 t1 R)
 (fun vs12 h13 => opt (nb [(nth vs6 1), (.int .i64 1)] (abin2 Tryz.prog .add 3 (.tmp 8) (.const (.int .i64 1)) (nth vs6 1) (.int .i64 1))) fun t18 => j5 [(nth vs12 0), t18] h13)
def X_IndexFunc_3 (t7 : Value) (j2 : List Value → AHeap → Prop) (t0 : Value) (t1 : Value) (R : Value → AHeap → Prop) (vs6 : List Value) (h7 : AHeap) (j5 : List Value → AHeap → Prop) : Prop :=
 opt (nb [(nth vs6 1), t7] (abin2 Tryz.prog .lss 3 (.tmp 8) (.tmp 7) (nth vs6 1) t7)) fun t9 => CD t9 (fun j8 => j8 [] h7)
 (fun j8 => j2 [(nth vs6 0)] h7)
 (X_IndexFunc_2 t0 vs6 t1 R j5)
def X_IndexFunc (h : AHeap) (t0 t1 : Value) (R : Value → AHeap → Prop) : Prop :=
 optH (nb [t0] (abuiltin Tryz.prog .len [46] 3 [t0] h)) fun t7 h1 => BK (fun j2 => LP (X_IndexFunc_3 t7 j2 t0 t1 R)
 [(.int .i64 0), (.int .i64 0)] h1)
 (fun vs3 h4 => rv [(.int .i64 (-1))] h4 R)
theorem X_IndexFunc_eq (h : AHeap) (t0 t1 : Value) (R : Value → AHeap → Prop) : wpF Tryz.prog (drawW Tryz.prog qs) 200 46 [t0, t1] h R = X_IndexFunc h t0 t1 R := by kernel_rfl
theorem X_IndexFunc_ok {h : AHeap} {t0 t1 : Value} {R : Value → AHeap → Prop} (hw : X_IndexFunc h t0 t1 R) : DC Tryz.prog 46 [t0, t1] h R := DC_of_wp mixed (n := 200) (by rw [X_IndexFunc_eq]; exact hw)

/-- plumbob/rtl.operation -/
def X_operation_1 (t4 : Value) (R : Value → AHeap → Prop) (t6 : Value) (h2 : AHeap) : Prop :=
 GD t4 true (fun k3 => opt (nb [t6, (.int .i64 26)] (abin2 Tryz.prog .leq 3 (.tmp 6) (.const (.int .i64 26)) t6 (.int .i64 26))) fun t7 => k3 t7 h2) (fun t7 h4 => opt (pk t4 t7 (.bool false)) fun t8 => rv [t8] h4 R) h2
def X_operation (h : AHeap) (t0 : Value) (R : Value → AHeap → Prop) : Prop :=
 opt (nb [t0, (.int .i64 11)] (abin2 Tryz.prog .geq 3 (.tmp 3) (.const (.int .i64 11)) t0 (.int .i64 11))) fun t4 => GD t4 true (fun k1 => k1 t0 h) (X_operation_1 t4 R) h
theorem X_operation_eq (h : AHeap) (t0 : Value) (R : Value → AHeap → Prop) : wpF Tryz.prog (drawW Tryz.prog qs) 200 47 [t0] h R = X_operation h t0 R := by kernel_rfl
theorem X_operation_ok {h : AHeap} {t0 : Value} {R : Value → AHeap → Prop} (hw : X_operation h t0 R) : DC Tryz.prog 47 [t0] h R := DC_of_wp mixed (n := 200) (by rw [X_operation_eq]; exact hw)

/-- plumbob/val.Flip -/
def X_Flip_1 (t0 : Value) (h : AHeap) (R : Value → AHeap → Prop) (j16 : List Value → AHeap → Prop) : Prop :=
 opt (nb [t0, (.int .i64 25)] (abin2 Tryz.prog .eql 3 (.tmp 4) (.const (.int .i64 25)) t0 (.int .i64 25))) fun t16 => CD t16 (fun j19 => rv [(.int .i64 24), (.bool true)] h R)
 (fun j19 => j19 [(.int .i64 0), (.bool false)] h)
 (fun vs20 h21 => j16 [(nth vs20 0), (nth vs20 1)] h21)
def X_Flip_2 (t0 : Value) (h : AHeap) (R : Value → AHeap → Prop) (j13 : List Value → AHeap → Prop) : Prop :=
 opt (nb [t0, (.int .i64 24)] (abin2 Tryz.prog .eql 3 (.tmp 4) (.const (.int .i64 24)) t0 (.int .i64 24))) fun t14 => CD t14 (fun j16 => rv [(.int .i64 25), (.bool true)] h R)
 (X_Flip_1 t0 h R)
 (fun vs17 h18 => j13 [(nth vs17 0), (nth vs17 1)] h18)
def X_Flip_3 (t0 : Value) (h : AHeap) (R : Value → AHeap → Prop) (j10 : List Value → AHeap → Prop) : Prop :=
 opt (nb [t0, (.int .i64 26)] (abin2 Tryz.prog .eql 3 (.tmp 4) (.const (.int .i64 26)) t0 (.int .i64 26))) fun t12 => CD t12 (fun j13 => rv [(.int .i64 23), (.bool true)] h R)
 (X_Flip_2 t0 h R)
 (fun vs14 h15 => j10 [(nth vs14 0), (nth vs14 1)] h15)
def X_Flip_4 (t0 : Value) (h : AHeap) (R : Value → AHeap → Prop) (j7 : List Value → AHeap → Prop) : Prop :=
 opt (nb [t0, (.int .i64 23)] (abin2 Tryz.prog .eql 3 (.tmp 4) (.const (.int .i64 23)) t0 (.int .i64 23))) fun t10 => CD t10 (fun j10 => rv [(.int .i64 26), (.bool true)] h R)
 (X_Flip_3 t0 h R)
 (fun vs11 h12 => j7 [(nth vs11 0), (nth vs11 1)] h12)
def X_Flip_5 (t0 : Value) (h : AHeap) (R : Value → AHeap → Prop) (j4 : List Value → AHeap → Prop) : Prop :=
 opt (nb [t0, (.int .i64 22)] (abin2 Tryz.prog .eql 3 (.tmp 4) (.const (.int .i64 22)) t0 (.int .i64 22))) fun t8 => CD t8 (fun j7 => rv [(.int .i64 21), (.bool true)] h R)
 (X_Flip_4 t0 h R)
 (fun vs8 h9 => j4 [(nth vs8 0), (nth vs8 1)] h9)
def X_Flip_6 (t0 : Value) (h : AHeap) (R : Value → AHeap → Prop) (j1 : List Value → AHeap → Prop) : Prop :=
 opt (nb [t0, (.int .i64 21)] (abin2 Tryz.prog .eql 3 (.tmp 4) (.const (.int .i64 21)) t0 (.int .i64 21))) fun t6 => CD t6 (fun j4 => rv [(.int .i64 22), (.bool true)] h R)
 (X_Flip_5 t0 h R)
 (fun vs5 h6 => j1 [(nth vs5 0), (nth vs5 1)] h6)
def X_Flip (h : AHeap) (t0 : Value) (R : Value → AHeap → Prop) : Prop :=
 BK (X_Flip_6 t0 h R)
 (fun vs2 h3 => rv [(.int .i64 0), (.bool false)] h3 R)
theorem X_Flip_eq (h : AHeap) (t0 : Value) (R : Value → AHeap → Prop) : wpF Tryz.prog (drawW Tryz.prog qs) 200 48 [t0] h R = X_Flip h t0 R := by kernel_rfl
theorem X_Flip_ok {h : AHeap} {t0 : Value} {R : Value → AHeap → Prop} (hw : X_Flip h t0 R) : DC Tryz.prog 48 [t0] h R := DC_of_wp mixed (n := 200) (by rw [X_Flip_eq]; exact hw)

/-- plumbob/rtl.chunk -/
def X_chunk_1 (t8 : Value) (R : Value → AHeap → Prop) (t10 : Value) (h6 : AHeap) : Prop :=
 GD t8 false (fun k7 => opt (nb [t10, (.int .i64 8)] (abin2 Tryz.prog .eql 3 (.tmp 10) (.const (.int .i64 8)) t10 (.int .i64 8))) fun t11 => k7 t11 h6) (fun t11 h8 => opt (pk t8 (.bool true) t11) fun t12 => rv [t12] h8 R) h6
def X_chunk_2 (t4 : Value) (t0 : Value) (R : Value → AHeap → Prop) (t6 : Value) (h2 : AHeap) : Prop :=
 GD t4 false (fun k3 => opt (nb [t6, (.int .i64 4)] (abin2 Tryz.prog .eql 3 (.tmp 6) (.const (.int .i64 4)) t6 (.int .i64 4))) fun t7 => k3 t7 h2) (fun t7 h4 => opt (pk t4 (.bool true) t7) fun t8 => GD t8 false (fun k5 => k5 t0 h4) (X_chunk_1 t8 R) h4) h2
def X_chunk (h : AHeap) (t0 : Value) (R : Value → AHeap → Prop) : Prop :=
 opt (nb [t0, (.int .i64 1)] (abin2 Tryz.prog .eql 3 (.tmp 3) (.const (.int .i64 1)) t0 (.int .i64 1))) fun t4 => GD t4 false (fun k1 => k1 t0 h) (X_chunk_2 t4 t0 R) h
theorem X_chunk_eq (h : AHeap) (t0 : Value) (R : Value → AHeap → Prop) : wpF Tryz.prog (drawW Tryz.prog qs) 200 49 [t0] h R = X_chunk h t0 R := by kernel_rfl
theorem X_chunk_ok {h : AHeap} {t0 : Value} {R : Value → AHeap → Prop} (hw : X_chunk h t0 R) : DC Tryz.prog 49 [t0] h R := DC_of_wp mixed (n := 200) (by rw [X_chunk_eq]; exact hw)

/-- plumbob/plumbobref12.needs -/
def X_needs_1 (t6 : Value) (h2 : AHeap) (j9 : List Value → AHeap → Prop) : Prop :=
 opt (nb [t6, (.int .i64 5)] (abin2 Tryz.prog .eql 3 (.tmp 6) (.const (.int .i64 5)) t6 (.int .i64 5))) fun t10 => CD t10 (fun j12 => j12 [t10] h2)
 (fun j12 => opt (nb [t6, (.int .i64 6)] (abin2 Tryz.prog .eql 3 (.tmp 6) (.const (.int .i64 6)) t6 (.int .i64 6))) fun t11 => j12 [t11] h2)
 (fun vs13 h14 => j9 [(nth vs13 0)] h14)
def X_needs_2 (t6 : Value) (h2 : AHeap) (j6 : List Value → AHeap → Prop) : Prop :=
 opt (nb [t6, (.int .i64 4)] (abin2 Tryz.prog .eql 3 (.tmp 6) (.const (.int .i64 4)) t6 (.int .i64 4))) fun t9 => CD t9 (fun j9 => j9 [t9] h2)
 (X_needs_1 t6 h2)
 (fun vs10 h11 => j6 [(nth vs10 0)] h11)
def X_needs_3 (t6 : Value) (h23 : AHeap) (j30 : List Value → AHeap → Prop) : Prop :=
 opt (nb [t6, (.int .i64 9)] (abin2 Tryz.prog .eql 3 (.tmp 6) (.const (.int .i64 9)) t6 (.int .i64 9))) fun t20 => CD t20 (fun j33 => j33 [t20] h23)
 (fun j33 => opt (nb [t6, (.int .i64 13)] (abin2 Tryz.prog .eql 3 (.tmp 6) (.const (.int .i64 13)) t6 (.int .i64 13))) fun t21 => j33 [t21] h23)
 (fun vs34 h35 => j30 [(nth vs34 0)] h35)
def X_needs_4 (t6 : Value) (h23 : AHeap) (j27 : List Value → AHeap → Prop) : Prop :=
 opt (nb [t6, (.int .i64 8)] (abin2 Tryz.prog .eql 3 (.tmp 6) (.const (.int .i64 8)) t6 (.int .i64 8))) fun t19 => CD t19 (fun j30 => j30 [t19] h23)
 (X_needs_3 t6 h23)
 (fun vs31 h32 => j27 [(nth vs31 0)] h32)
def X_needs_5 (R : Value → AHeap → Prop) (j24 : List Value → AHeap → Prop) (vs28 : List Value) (h29 : AHeap) : Prop :=
 CD (nth vs28 0) (fun j36 => rv [(.bool false), (.bool false), (.bool true)] h29 R)
 (fun j36 => j36 [(.bool false), (.bool false), (.bool false)] h29)
 (fun vs37 h38 => j24 [(nth vs37 0), (nth vs37 1), (nth vs37 2)] h38)
def X_needs_6 (t6 : Value) (h23 : AHeap) (R : Value → AHeap → Prop) (j24 : List Value → AHeap → Prop) : Prop :=
 opt (nb [t6, (.int .i64 2)] (abin2 Tryz.prog .eql 3 (.tmp 6) (.const (.int .i64 2)) t6 (.int .i64 2))) fun t18 => CD t18 (fun j27 => j27 [t18] h23)
 (X_needs_4 t6 h23)
 (X_needs_5 R j24)
def X_needs_7 (R : Value → AHeap → Prop) (t6 : Value) (j18 : List Value → AHeap → Prop) (vs22 : List Value) (h23 : AHeap) : Prop :=
 CD (nth vs22 0) (fun j24 => rv [(.bool true), (.bool false), (.bool false)] h23 R)
 (X_needs_6 t6 h23 R)
 (fun vs25 h26 => j18 [(nth vs25 0), (nth vs25 1), (nth vs25 2)] h26)
def X_needs_8 (t6 : Value) (h8 : AHeap) (R : Value → AHeap → Prop) (j18 : List Value → AHeap → Prop) : Prop :=
 opt (nb [t6, (.int .i64 11)] (abin2 Tryz.prog .eql 3 (.tmp 6) (.const (.int .i64 11)) t6 (.int .i64 11))) fun t15 => CD t15 (fun j21 => j21 [t15] h8)
 (fun j21 => opt (nb [t6, (.int .i64 14)] (abin2 Tryz.prog .eql 3 (.tmp 6) (.const (.int .i64 14)) t6 (.int .i64 14))) fun t16 => j21 [t16] h8)
 (X_needs_7 R t6 j18)
def X_needs_9 (t6 : Value) (h8 : AHeap) (R : Value → AHeap → Prop) (j15 : List Value → AHeap → Prop) : Prop :=
 opt (nb [t6, (.int .i64 7)] (abin2 Tryz.prog .eql 3 (.tmp 6) (.const (.int .i64 7)) t6 (.int .i64 7))) fun t13 => CD t13 (fun j18 => rv [(.bool true), (.bool true), (.bool false)] h8 R)
 (X_needs_8 t6 h8 R)
 (fun vs19 h20 => j15 [(nth vs19 0), (nth vs19 1), (nth vs19 2)] h20)
def X_needs_10 (R : Value → AHeap → Prop) (t6 : Value) (j3 : List Value → AHeap → Prop) (vs7 : List Value) (h8 : AHeap) : Prop :=
 CD (nth vs7 0) (fun j15 => rv [(.bool true), (.bool false), (.bool true)] h8 R)
 (X_needs_9 t6 h8 R)
 (fun vs16 h17 => j3 [(nth vs16 0), (nth vs16 1), (nth vs16 2)] h17)
def X_needs_11 (t6 : Value) (h2 : AHeap) (R : Value → AHeap → Prop) (j3 : List Value → AHeap → Prop) : Prop :=
 opt (nb [t6, (.int .i64 3)] (abin2 Tryz.prog .eql 3 (.tmp 6) (.const (.int .i64 3)) t6 (.int .i64 3))) fun t8 => CD t8 (fun j6 => j6 [t8] h2)
 (X_needs_2 t6 h2)
 (X_needs_10 R t6 j3)
def X_needs (h : AHeap) (t0 : Value) (R : Value → AHeap → Prop) : Prop :=
 opt (nb [t0] (some (Value.cells t0).toList)) fun c1 => nw h c1 43 fun t1 h2 => opt (afield Tryz.prog 43 t1 0) fun t5 => opt (aload Tryz.prog 3 t5 h2) fun t6 => BK (X_needs_11 t6 h2 R)
 (fun vs4 h5 => rv [(.bool false), (.bool false), (.bool false)] h5 R)
theorem X_needs_eq (h : AHeap) (t0 : Value) (R : Value → AHeap → Prop) : wpF Tryz.prog (drawW Tryz.prog qs) 200 50 [t0] h R = X_needs h t0 R := by kernel_rfl
theorem X_needs_ok {h : AHeap} {t0 : Value} {R : Value → AHeap → Prop} (hw : X_needs h t0 R) : DC Tryz.prog 50 [t0] h R := DC_of_wp mixed (n := 200) (by rw [X_needs_eq]; exact hw)

/-- plumbob/plumbobref12.Writes -/
def X_Writes_1 (t4 : Value) (h2 : AHeap) (j24 : List Value → AHeap → Prop) : Prop :=
 opt (nb [t4, (.int .i64 10)] (abin2 Tryz.prog .eql 3 (.tmp 4) (.const (.int .i64 10)) t4 (.int .i64 10))) fun t13 => CD t13 (fun j27 => j27 [t13] h2)
 (fun j27 => opt (nb [t4, (.int .i64 13)] (abin2 Tryz.prog .eql 3 (.tmp 4) (.const (.int .i64 13)) t4 (.int .i64 13))) fun t14 => j27 [t14] h2)
 (fun vs28 h29 => j24 [(nth vs28 0)] h29)
def X_Writes_2 (t4 : Value) (h2 : AHeap) (j21 : List Value → AHeap → Prop) : Prop :=
 opt (nb [t4, (.int .i64 9)] (abin2 Tryz.prog .eql 3 (.tmp 4) (.const (.int .i64 9)) t4 (.int .i64 9))) fun t12 => CD t12 (fun j24 => j24 [t12] h2)
 (X_Writes_1 t4 h2)
 (fun vs25 h26 => j21 [(nth vs25 0)] h26)
def X_Writes_3 (t4 : Value) (h2 : AHeap) (j18 : List Value → AHeap → Prop) : Prop :=
 opt (nb [t4, (.int .i64 8)] (abin2 Tryz.prog .eql 3 (.tmp 4) (.const (.int .i64 8)) t4 (.int .i64 8))) fun t11 => CD t11 (fun j21 => j21 [t11] h2)
 (X_Writes_2 t4 h2)
 (fun vs22 h23 => j18 [(nth vs22 0)] h23)
def X_Writes_4 (t4 : Value) (h2 : AHeap) (j15 : List Value → AHeap → Prop) : Prop :=
 opt (nb [t4, (.int .i64 6)] (abin2 Tryz.prog .eql 3 (.tmp 4) (.const (.int .i64 6)) t4 (.int .i64 6))) fun t10 => CD t10 (fun j18 => j18 [t10] h2)
 (X_Writes_3 t4 h2)
 (fun vs19 h20 => j15 [(nth vs19 0)] h20)
def X_Writes_5 (t4 : Value) (h2 : AHeap) (j12 : List Value → AHeap → Prop) : Prop :=
 opt (nb [t4, (.int .i64 5)] (abin2 Tryz.prog .eql 3 (.tmp 4) (.const (.int .i64 5)) t4 (.int .i64 5))) fun t9 => CD t9 (fun j15 => j15 [t9] h2)
 (X_Writes_4 t4 h2)
 (fun vs16 h17 => j12 [(nth vs16 0)] h17)
def X_Writes_6 (t4 : Value) (h2 : AHeap) (j9 : List Value → AHeap → Prop) : Prop :=
 opt (nb [t4, (.int .i64 4)] (abin2 Tryz.prog .eql 3 (.tmp 4) (.const (.int .i64 4)) t4 (.int .i64 4))) fun t8 => CD t8 (fun j12 => j12 [t8] h2)
 (X_Writes_5 t4 h2)
 (fun vs13 h14 => j9 [(nth vs13 0)] h14)
def X_Writes_7 (t4 : Value) (h2 : AHeap) (j6 : List Value → AHeap → Prop) : Prop :=
 opt (nb [t4, (.int .i64 3)] (abin2 Tryz.prog .eql 3 (.tmp 4) (.const (.int .i64 3)) t4 (.int .i64 3))) fun t7 => CD t7 (fun j9 => j9 [t7] h2)
 (X_Writes_6 t4 h2)
 (fun vs10 h11 => j6 [(nth vs10 0)] h11)
def X_Writes_8 (t1 : Value) (R : Value → AHeap → Prop) (j3 : List Value → AHeap → Prop) (vs7 : List Value) (h8 : AHeap) : Prop :=
 CD (nth vs7 0) (fun j30 => opt (afield Tryz.prog 43 t1 4) fun t15 => opt (aload Tryz.prog 3 t15 h8) fun t16 => rv [t16] h8 R)
 (fun j30 => j30 [(.int .i64 0)] h8)
 (fun vs31 h32 => j3 [(nth vs31 0)] h32)
def X_Writes_9 (t4 : Value) (h2 : AHeap) (t1 : Value) (R : Value → AHeap → Prop) (j3 : List Value → AHeap → Prop) : Prop :=
 opt (nb [t4, (.int .i64 2)] (abin2 Tryz.prog .eql 3 (.tmp 4) (.const (.int .i64 2)) t4 (.int .i64 2))) fun t6 => CD t6 (fun j6 => j6 [t6] h2)
 (X_Writes_7 t4 h2)
 (X_Writes_8 t1 R j3)
def X_Writes (h : AHeap) (t0 : Value) (R : Value → AHeap → Prop) : Prop :=
 opt (nb [t0] (some (Value.cells t0).toList)) fun c1 => nw h c1 43 fun t1 h2 => opt (afield Tryz.prog 43 t1 0) fun t3 => opt (aload Tryz.prog 3 t3 h2) fun t4 => BK (X_Writes_9 t4 h2 t1 R)
 (fun vs4 h5 => rv [(.int .i64 (-1))] h5 R)
theorem X_Writes_eq (h : AHeap) (t0 : Value) (R : Value → AHeap → Prop) : wpF Tryz.prog (drawW Tryz.prog qs) 200 51 [t0] h R = X_Writes h t0 R := by kernel_rfl
theorem X_Writes_ok {h : AHeap} {t0 : Value} {R : Value → AHeap → Prop} (hw : X_Writes h t0 R) : DC Tryz.prog 51 [t0] h R := DC_of_wp mixed (n := 200) (by rw [X_Writes_eq]; exact hw)

/-- plumbob/plumbobref12.Uses -/
def X_dUses_1 (t1 : Value) (h62 : AHeap) (j63 : List Value → AHeap → Prop) : Prop :=
 opt (afield Tryz.prog 43 t1 2) fun t64 => opt (aload Tryz.prog 3 t64 h62) fun t65 => optH (nb [t65] (abuildSlice Tryz.prog 22 1 [(0, t65)] h62)) fun t66 h66 => optH (nb [(.slice none 0 0), t66] (abuiltin Tryz.prog .append [22, 22] 22 [(.slice none 0 0), t66] h66)) fun t67 h67 => j63 [t67] h67
def X_dUses_2 (t1 : Value) (h73 : AHeap) (vs64 : List Value) (j74 : List Value → AHeap → Prop) : Prop :=
 opt (afield Tryz.prog 43 t1 3) fun t75 => opt (aload Tryz.prog 3 t75 h73) fun t76 => optH (nb [t76] (abuildSlice Tryz.prog 22 1 [(0, t76)] h73)) fun t77 h77 => optH (nb [(nth vs64 0), t77] (abuiltin Tryz.prog .append [22, 22] 22 [(nth vs64 0), t77] h77)) fun t78 h78 => j74 [t78] h78
def X_dUses_3 (t1 : Value) (h76 : AHeap) (vs75 : List Value) (j79 : List Value → AHeap → Prop) : Prop :=
 opt (afield Tryz.prog 43 t1 6) fun t83 => opt (aload Tryz.prog 22 t83 h76) fun t84 => optH (nb [(nth vs75 0), t84] (abuiltin Tryz.prog .append [22, 22] 22 [(nth vs75 0), t84] h76)) fun t85 h82 => j79 [t85] h82
def X_dUses_4 (t1 : Value) (R : Value → AHeap → Prop) (vs75 : List Value) (h76 : AHeap) : Prop :=
 opt (afield Tryz.prog 43 t1 0) fun t79 => opt (aload Tryz.prog 3 t79 h76) fun t80 => opt (nb [t80, (.int .i64 10)] (abin2 Tryz.prog .eql 3 (.tmp 80) (.const (.int .i64 10)) t80 (.int .i64 10))) fun t81 => CD t81 (X_dUses_3 t1 h76 vs75)
 (fun j79 => j79 [(nth vs75 0)] h76)
 (fun vs80 h81 => rv [(nth vs80 0)] h81 R)
def X_dUses_5 (t56 : Value) (t1 : Value) (vs64 : List Value) (R : Value → AHeap → Prop) (t71 : Value) (h71 : AHeap) : Prop :=
 GD t56 true (fun k72 => opt (nb [t71, (.int .i64 (-1))] (abin2 Tryz.prog .neq 3 (.tmp 71) (.const (.int .i64 (-1))) t71 (.int .i64 (-1)))) fun t72 => k72 t72 h71) (fun t72 h73 => opt (pk t56 t72 (.bool false)) fun t73 => CD t73 (X_dUses_2 t1 h73 vs64)
 (fun j74 => j74 [(nth vs64 0)] h73)
 (X_dUses_4 t1 R)) h71
def X_dUses_6 (t56 : Value) (t1 : Value) (R : Value → AHeap → Prop) (vs64 : List Value) (h65 : AHeap) : Prop :=
 GD t56 true (fun k68 => opt (afield Tryz.prog 43 t1 3) fun t70 => k68 t70 h65) (fun t70 h69 => GD t56 true (fun k70 => opt (aload Tryz.prog 3 t70 h69) fun t71 => k70 t71 h69) (X_dUses_5 t56 t1 vs64 R) h69) h65
def X_dUses_7 (t43 : Value) (t1 : Value) (t56 : Value) (R : Value → AHeap → Prop) (t60 : Value) (h60 : AHeap) : Prop :=
 GD t43 true (fun k61 => opt (nb [t60, (.int .i64 (-1))] (abin2 Tryz.prog .neq 3 (.tmp 60) (.const (.int .i64 (-1))) t60 (.int .i64 (-1)))) fun t61 => k61 t61 h60) (fun t61 h62 => opt (pk t43 t61 (.bool false)) fun t62 => CD t62 (X_dUses_1 t1 h62)
 (fun j63 => j63 [(.slice none 0 0)] h62)
 (X_dUses_6 t56 t1 R)) h60
def X_dUses_8 (t51 : Value) (t43 : Value) (t1 : Value) (R : Value → AHeap → Prop) (t55 : Value) (h56 : AHeap) : Prop :=
 opt (pk t51 (.bool true) t55) fun t56 => GD t43 true (fun k57 => opt (afield Tryz.prog 43 t1 2) fun t59 => k57 t59 h56) (fun t59 h58 => GD t43 true (fun k59 => opt (aload Tryz.prog 3 t59 h58) fun t60 => k59 t60 h58) (X_dUses_7 t43 t1 t56 R) h58) h56
def X_dUses_9 (t51 : Value) (t43 : Value) (t1 : Value) (R : Value → AHeap → Prop) (t54 : Value) (h54 : AHeap) : Prop :=
 GD t51 false (fun k55 => opt (nb [t54, (.int .i64 11)] (abin2 Tryz.prog .eql 3 (.tmp 54) (.const (.int .i64 11)) t54 (.int .i64 11))) fun t55 => k55 t55 h54) (X_dUses_8 t51 t43 t1 R) h54
def X_dUses_10 (t46 : Value) (t1 : Value) (t43 : Value) (R : Value → AHeap → Prop) (t50 : Value) (h50 : AHeap) : Prop :=
 opt (pk t46 (.bool true) t50) fun t51 => GD t51 false (fun k51 => opt (afield Tryz.prog 43 t1 0) fun t53 => k51 t53 h50) (fun t53 h52 => GD t51 false (fun k53 => opt (aload Tryz.prog 3 t53 h52) fun t54 => k53 t54 h52) (X_dUses_9 t51 t43 t1 R) h52) h50
def X_dUses_11 (t46 : Value) (t1 : Value) (t43 : Value) (R : Value → AHeap → Prop) (t49 : Value) (h48 : AHeap) : Prop :=
 GD t46 false (fun k49 => opt (nb [t49, (.int .i64 7)] (abin2 Tryz.prog .eql 3 (.tmp 49) (.const (.int .i64 7)) t49 (.int .i64 7))) fun t50 => k49 t50 h48) (X_dUses_10 t46 t1 t43 R) h48
def X_dUses_12 (t38 : Value) (t1 : Value) (R : Value → AHeap → Prop) (t42 : Value) (h44 : AHeap) : Prop :=
 opt (pk t38 (.bool true) t42) fun t43 => opt (afield Tryz.prog 43 t1 0) fun t44 => opt (aload Tryz.prog 3 t44 h44) fun t45 => opt (nb [t45, (.int .i64 5)] (abin2 Tryz.prog .eql 3 (.tmp 45) (.const (.int .i64 5)) t45 (.int .i64 5))) fun t46 => GD t46 false (fun k45 => opt (afield Tryz.prog 43 t1 0) fun t48 => k45 t48 h44) (fun t48 h46 => GD t46 false (fun k47 => opt (aload Tryz.prog 3 t48 h46) fun t49 => k47 t49 h46) (X_dUses_11 t46 t1 t43 R) h46) h44
def X_dUses_13 (t38 : Value) (t1 : Value) (R : Value → AHeap → Prop) (t41 : Value) (h42 : AHeap) : Prop :=
 GD t38 false (fun k43 => opt (nb [t41, (.int .i64 14)] (abin2 Tryz.prog .eql 3 (.tmp 41) (.const (.int .i64 14)) t41 (.int .i64 14))) fun t42 => k43 t42 h42) (X_dUses_12 t38 t1 R) h42
def X_dUses_14 (t33 : Value) (t1 : Value) (R : Value → AHeap → Prop) (t37 : Value) (h38 : AHeap) : Prop :=
 opt (pk t33 (.bool true) t37) fun t38 => GD t38 false (fun k39 => opt (afield Tryz.prog 43 t1 0) fun t40 => k39 t40 h38) (fun t40 h40 => GD t38 false (fun k41 => opt (aload Tryz.prog 3 t40 h40) fun t41 => k41 t41 h40) (X_dUses_13 t38 t1 R) h40) h38
def X_dUses_15 (t33 : Value) (t1 : Value) (R : Value → AHeap → Prop) (t36 : Value) (h36 : AHeap) : Prop :=
 GD t33 false (fun k37 => opt (nb [t36, (.int .i64 12)] (abin2 Tryz.prog .eql 3 (.tmp 36) (.const (.int .i64 12)) t36 (.int .i64 12))) fun t37 => k37 t37 h36) (X_dUses_14 t33 t1 R) h36
def X_dUses_16 (t28 : Value) (t1 : Value) (R : Value → AHeap → Prop) (t32 : Value) (h32 : AHeap) : Prop :=
 opt (pk t28 (.bool true) t32) fun t33 => GD t33 false (fun k33 => opt (afield Tryz.prog 43 t1 0) fun t35 => k33 t35 h32) (fun t35 h34 => GD t33 false (fun k35 => opt (aload Tryz.prog 3 t35 h34) fun t36 => k35 t36 h34) (X_dUses_15 t33 t1 R) h34) h32
def X_dUses_17 (t28 : Value) (t1 : Value) (R : Value → AHeap → Prop) (t31 : Value) (h30 : AHeap) : Prop :=
 GD t28 false (fun k31 => opt (nb [t31, (.int .i64 11)] (abin2 Tryz.prog .eql 3 (.tmp 31) (.const (.int .i64 11)) t31 (.int .i64 11))) fun t32 => k31 t32 h30) (X_dUses_16 t28 t1 R) h30
def X_dUses_18 (t23 : Value) (t1 : Value) (R : Value → AHeap → Prop) (t27 : Value) (h26 : AHeap) : Prop :=
 opt (pk t23 (.bool true) t27) fun t28 => GD t28 false (fun k27 => opt (afield Tryz.prog 43 t1 0) fun t30 => k27 t30 h26) (fun t30 h28 => GD t28 false (fun k29 => opt (aload Tryz.prog 3 t30 h28) fun t31 => k29 t31 h28) (X_dUses_17 t28 t1 R) h28) h26
def X_dUses_19 (t23 : Value) (t1 : Value) (R : Value → AHeap → Prop) (t26 : Value) (h24 : AHeap) : Prop :=
 GD t23 false (fun k25 => opt (nb [t26, (.int .i64 7)] (abin2 Tryz.prog .eql 3 (.tmp 26) (.const (.int .i64 7)) t26 (.int .i64 7))) fun t27 => k25 t27 h24) (X_dUses_18 t23 t1 R) h24
def X_dUses_20 (t18 : Value) (t1 : Value) (R : Value → AHeap → Prop) (t22 : Value) (h20 : AHeap) : Prop :=
 opt (pk t18 (.bool true) t22) fun t23 => GD t23 false (fun k21 => opt (afield Tryz.prog 43 t1 0) fun t25 => k21 t25 h20) (fun t25 h22 => GD t23 false (fun k23 => opt (aload Tryz.prog 3 t25 h22) fun t26 => k23 t26 h22) (X_dUses_19 t23 t1 R) h22) h20
def X_dUses_21 (t18 : Value) (t1 : Value) (R : Value → AHeap → Prop) (t21 : Value) (h18 : AHeap) : Prop :=
 GD t18 false (fun k19 => opt (nb [t21, (.int .i64 6)] (abin2 Tryz.prog .eql 3 (.tmp 21) (.const (.int .i64 6)) t21 (.int .i64 6))) fun t22 => k19 t22 h18) (X_dUses_20 t18 t1 R) h18
def X_dUses_22 (t13 : Value) (t1 : Value) (R : Value → AHeap → Prop) (t17 : Value) (h14 : AHeap) : Prop :=
 opt (pk t13 (.bool true) t17) fun t18 => GD t18 false (fun k15 => opt (afield Tryz.prog 43 t1 0) fun t20 => k15 t20 h14) (fun t20 h16 => GD t18 false (fun k17 => opt (aload Tryz.prog 3 t20 h16) fun t21 => k17 t21 h16) (X_dUses_21 t18 t1 R) h16) h14
def X_dUses_23 (t13 : Value) (t1 : Value) (R : Value → AHeap → Prop) (t16 : Value) (h12 : AHeap) : Prop :=
 GD t13 false (fun k13 => opt (nb [t16, (.int .i64 5)] (abin2 Tryz.prog .eql 3 (.tmp 16) (.const (.int .i64 5)) t16 (.int .i64 5))) fun t17 => k13 t17 h12) (X_dUses_22 t13 t1 R) h12
def X_dUses_24 (t8 : Value) (t1 : Value) (R : Value → AHeap → Prop) (t12 : Value) (h8 : AHeap) : Prop :=
 opt (pk t8 (.bool true) t12) fun t13 => GD t13 false (fun k9 => opt (afield Tryz.prog 43 t1 0) fun t15 => k9 t15 h8) (fun t15 h10 => GD t13 false (fun k11 => opt (aload Tryz.prog 3 t15 h10) fun t16 => k11 t16 h10) (X_dUses_23 t13 t1 R) h10) h8
def X_dUses_25 (t8 : Value) (t1 : Value) (R : Value → AHeap → Prop) (t11 : Value) (h6 : AHeap) : Prop :=
 GD t8 false (fun k7 => opt (nb [t11, (.int .i64 4)] (abin2 Tryz.prog .eql 3 (.tmp 11) (.const (.int .i64 4)) t11 (.int .i64 4))) fun t12 => k7 t12 h6) (X_dUses_24 t8 t1 R) h6
def X_dUses (h : AHeap) (t0 : Value) (R : Value → AHeap → Prop) : Prop :=
 opt (nb [t0] (some (Value.cells t0).toList)) fun c1 => nw h c1 43 fun t1 h2 => opt (afield Tryz.prog 43 t1 0) fun t6 => opt (aload Tryz.prog 3 t6 h2) fun t7 => opt (nb [t7, (.int .i64 3)] (abin2 Tryz.prog .eql 3 (.tmp 7) (.const (.int .i64 3)) t7 (.int .i64 3))) fun t8 => GD t8 false (fun k3 => opt (afield Tryz.prog 43 t1 0) fun t10 => k3 t10 h2) (fun t10 h4 => GD t8 false (fun k5 => opt (aload Tryz.prog 3 t10 h4) fun t11 => k5 t11 h4) (X_dUses_25 t8 t1 R) h4) h2
theorem X_dUses_eq (h : AHeap) (t0 : Value) (R : Value → AHeap → Prop) : wpF Tryz.prog (drawW Tryz.prog qs) 200 52 [t0] h R = X_dUses h t0 R := by kernel_rfl
theorem X_dUses_ok {h : AHeap} {t0 : Value} {R : Value → AHeap → Prop} (hw : X_dUses h t0 R) : DC Tryz.prog 52 [t0] h R := DC_of_wp mixed (n := 200) (by rw [X_dUses_eq]; exact hw)

/-- plumbob/plumbobref12.Succs -/
def X_dSuccs_1 (t1 : Value) (h2 : AHeap) (R : Value → AHeap → Prop) (j9 : List Value → AHeap → Prop) : Prop :=
 opt (afield Tryz.prog 43 t1 7) fun t9 => opt (aload Tryz.prog 3 t9 h2) fun t10 => opt (afield Tryz.prog 43 t1 8) fun t11 => opt (aload Tryz.prog 3 t11 h2) fun t12 => optH (nb [t10, t12] (abuildSlice Tryz.prog 22 2 [(0, t10), (1, t12)] h2)) fun t13 h12 => rv [t13] h12 R
def X_dSuccs_2 (t4 : Value) (t1 : Value) (h2 : AHeap) (R : Value → AHeap → Prop) (j6 : List Value → AHeap → Prop) : Prop :=
 opt (nb [t4, (.int .i64 11)] (abin2 Tryz.prog .eql 3 (.tmp 4) (.const (.int .i64 11)) t4 (.int .i64 11))) fun t8 => CD t8 (X_dSuccs_1 t1 h2 R)
 (fun j9 => j9 [(.slice none 0 0)] h2)
 (fun vs10 h11 => j6 [(nth vs10 0)] h11)
def X_dSuccs_3 (t4 : Value) (h2 : AHeap) (R : Value → AHeap → Prop) (t1 : Value) (j3 : List Value → AHeap → Prop) : Prop :=
 opt (nb [t4, (.int .i64 12)] (abin2 Tryz.prog .eql 3 (.tmp 4) (.const (.int .i64 12)) t4 (.int .i64 12))) fun t6 => CD t6 (fun j6 => rv [(.slice none 0 0)] h2 R)
 (X_dSuccs_2 t4 t1 h2 R)
 (fun vs7 h8 => j3 [(nth vs7 0)] h8)
def X_dSuccs_4 (t1 : Value) (R : Value → AHeap → Prop) (vs4 : List Value) (h5 : AHeap) : Prop :=
 opt (afield Tryz.prog 43 t1 7) fun t14 => opt (aload Tryz.prog 3 t14 h5) fun t15 => optH (nb [t15] (abuildSlice Tryz.prog 22 1 [(0, t15)] h5)) fun t16 h13 => rv [t16] h13 R
def X_dSuccs (h : AHeap) (t0 : Value) (R : Value → AHeap → Prop) : Prop :=
 opt (nb [t0] (some (Value.cells t0).toList)) fun c1 => nw h c1 43 fun t1 h2 => opt (afield Tryz.prog 43 t1 0) fun t3 => opt (aload Tryz.prog 3 t3 h2) fun t4 => BK (X_dSuccs_3 t4 h2 R t1)
 (X_dSuccs_4 t1 R)
theorem X_dSuccs_eq (h : AHeap) (t0 : Value) (R : Value → AHeap → Prop) : wpF Tryz.prog (drawW Tryz.prog qs) 200 53 [t0] h R = X_dSuccs h t0 R := by kernel_rfl
theorem X_dSuccs_ok {h : AHeap} {t0 : Value} {R : Value → AHeap → Prop} (hw : X_dSuccs h t0 R) : DC Tryz.prog 53 [t0] h R := DC_of_wp mixed (n := 200) (by rw [X_dSuccs_eq]; exact hw)

/-- plumbob/rtl.Defines -/
def X_Defines_1 (t4 : Value) (h2 : AHeap) (j24 : List Value → AHeap → Prop) : Prop :=
 opt (nb [t4, (.int .i64 13)] (abin2 Tryz.prog .eql 3 (.tmp 4) (.const (.int .i64 13)) t4 (.int .i64 13))) fun t13 => CD t13 (fun j27 => j27 [t13] h2)
 (fun j27 => opt (nb [t4, (.int .i64 10)] (abin2 Tryz.prog .eql 3 (.tmp 4) (.const (.int .i64 10)) t4 (.int .i64 10))) fun t14 => j27 [t14] h2)
 (fun vs28 h29 => j24 [(nth vs28 0)] h29)
def X_Defines_2 (t4 : Value) (h2 : AHeap) (j21 : List Value → AHeap → Prop) : Prop :=
 opt (nb [t4, (.int .i64 9)] (abin2 Tryz.prog .eql 3 (.tmp 4) (.const (.int .i64 9)) t4 (.int .i64 9))) fun t12 => CD t12 (fun j24 => j24 [t12] h2)
 (X_Defines_1 t4 h2)
 (fun vs25 h26 => j21 [(nth vs25 0)] h26)
def X_Defines_3 (t4 : Value) (h2 : AHeap) (j18 : List Value → AHeap → Prop) : Prop :=
 opt (nb [t4, (.int .i64 8)] (abin2 Tryz.prog .eql 3 (.tmp 4) (.const (.int .i64 8)) t4 (.int .i64 8))) fun t11 => CD t11 (fun j21 => j21 [t11] h2)
 (X_Defines_2 t4 h2)
 (fun vs22 h23 => j18 [(nth vs22 0)] h23)
def X_Defines_4 (t4 : Value) (h2 : AHeap) (j15 : List Value → AHeap → Prop) : Prop :=
 opt (nb [t4, (.int .i64 6)] (abin2 Tryz.prog .eql 3 (.tmp 4) (.const (.int .i64 6)) t4 (.int .i64 6))) fun t10 => CD t10 (fun j18 => j18 [t10] h2)
 (X_Defines_3 t4 h2)
 (fun vs19 h20 => j15 [(nth vs19 0)] h20)
def X_Defines_5 (t4 : Value) (h2 : AHeap) (j12 : List Value → AHeap → Prop) : Prop :=
 opt (nb [t4, (.int .i64 5)] (abin2 Tryz.prog .eql 3 (.tmp 4) (.const (.int .i64 5)) t4 (.int .i64 5))) fun t9 => CD t9 (fun j15 => j15 [t9] h2)
 (X_Defines_4 t4 h2)
 (fun vs16 h17 => j12 [(nth vs16 0)] h17)
def X_Defines_6 (t4 : Value) (h2 : AHeap) (j9 : List Value → AHeap → Prop) : Prop :=
 opt (nb [t4, (.int .i64 4)] (abin2 Tryz.prog .eql 3 (.tmp 4) (.const (.int .i64 4)) t4 (.int .i64 4))) fun t8 => CD t8 (fun j12 => j12 [t8] h2)
 (X_Defines_5 t4 h2)
 (fun vs13 h14 => j9 [(nth vs13 0)] h14)
def X_Defines_7 (t4 : Value) (h2 : AHeap) (j6 : List Value → AHeap → Prop) : Prop :=
 opt (nb [t4, (.int .i64 3)] (abin2 Tryz.prog .eql 3 (.tmp 4) (.const (.int .i64 3)) t4 (.int .i64 3))) fun t7 => CD t7 (fun j9 => j9 [t7] h2)
 (X_Defines_6 t4 h2)
 (fun vs10 h11 => j6 [(nth vs10 0)] h11)
def X_Defines_8 (t1 : Value) (R : Value → AHeap → Prop) (j3 : List Value → AHeap → Prop) (vs7 : List Value) (h8 : AHeap) : Prop :=
 CD (nth vs7 0) (fun j30 => opt (afield Tryz.prog 43 t1 4) fun t15 => opt (aload Tryz.prog 3 t15 h8) fun t16 => rv [t16] h8 R)
 (fun j30 => j30 [(.int .i64 0)] h8)
 (fun vs31 h32 => j3 [(nth vs31 0)] h32)
def X_Defines_9 (t4 : Value) (h2 : AHeap) (t1 : Value) (R : Value → AHeap → Prop) (j3 : List Value → AHeap → Prop) : Prop :=
 opt (nb [t4, (.int .i64 2)] (abin2 Tryz.prog .eql 3 (.tmp 4) (.const (.int .i64 2)) t4 (.int .i64 2))) fun t6 => CD t6 (fun j6 => j6 [t6] h2)
 (X_Defines_7 t4 h2)
 (X_Defines_8 t1 R j3)
def X_Defines (h : AHeap) (t0 : Value) (R : Value → AHeap → Prop) : Prop :=
 opt (nb [t0] (some (Value.cells t0).toList)) fun c1 => nw h c1 43 fun t1 h2 => opt (afield Tryz.prog 43 t1 0) fun t3 => opt (aload Tryz.prog 3 t3 h2) fun t4 => BK (X_Defines_9 t4 h2 t1 R)
 (fun vs4 h5 => rv [(.int .i64 (-1))] h5 R)
theorem X_Defines_eq (h : AHeap) (t0 : Value) (R : Value → AHeap → Prop) : wpF Tryz.prog (drawW Tryz.prog qs) 200 71 [t0] h R = X_Defines h t0 R := by kernel_rfl
theorem X_Defines_ok {h : AHeap} {t0 : Value} {R : Value → AHeap → Prop} (hw : X_Defines h t0 R) : DC Tryz.prog 71 [t0] h R := DC_of_wp mixed (n := 200) (by rw [X_Defines_eq]; exact hw)

end Go.Rtl
