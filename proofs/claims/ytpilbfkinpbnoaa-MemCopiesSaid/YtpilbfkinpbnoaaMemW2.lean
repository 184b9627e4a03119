/- -/
import Derived.Test.YtpilbfkinpbnoaaChecked
import Derived.KernelRfl
import Derived.Test.YtpilbfkinpbnoaaAiHold
namespace Go.Mem
open Go.Ai Go.Proofs
set_option linter.unusedVariables false
set_option maxRecDepth 100000
def qs2 : FuncId → Nat := fun g => [0,0,0,0,0,0,0,0,0,0,0,0,0,2,2,0,0,0,0,2,0,0,0,0,0,0,0,0,0,0,0,0,0,3,2,0,0].getD g 0
theorem mixed2 : Try.prog.follows .mixedOrders = true := Checked.mixed Try.checked
/-- plumbob/plumboblaw2.MemCopies -/
def X_MemCopies_1 (t1 : Value) (vs23 : List Value) (h28 : AHeap) (t27 : Value) (j43 : List Value → AHeap → Prop) : Prop :=
 opt (aindex Try.prog 22 t1 (nth vs23 0)) fun t77 => opt (afield Try.prog 32 t77 1) fun t78 => opt (aload Try.prog 3 t78 h28) fun t79 => callV Try.prog (.func (.func 15) #[] #[]) [t27, t79] h28 (fun t80 h46 => j43 [] h46)
def X_MemCopies_2 (t1 : Value) (vs23 : List Value) (h28 : AHeap) (t27 : Value) (j39 : List Value → AHeap → Prop) : Prop :=
 opt (aindex Try.prog 22 t1 (nth vs23 0)) fun t58 => opt (afield Try.prog 32 t58 2) fun t59 => opt (aload Try.prog 3 t59 h28) fun t60 => opt (aindex Try.prog 22 t1 (nth vs23 0)) fun t63 => opt (afield Try.prog 32 t63 3) fun t64 => opt (aload Try.prog 24 t64 h28) fun t65 => opt (aindex Try.prog 22 t1 (nth vs23 0)) fun t68 => opt (afield Try.prog 32 t68 4) fun t69 => opt (aload Try.prog 24 t69 h28) fun t70 => callD Try.prog 10 [t27, t60, t65, t70] h28 (fun t71 h42 => j39 [] h42)
def X_MemCopies_3 (t43 : Value) (t1 : Value) (vs23 : List Value) (h28 : AHeap) (t27 : Value) (j39 : List Value → AHeap → Prop) : Prop :=
 opt (nb [t43, (.int .i64 4)] (abin2 Try.prog .eql 3 (.tmp 43) (.const (.int .i64 4)) t43 (.int .i64 4))) fun t73 => CD t73 (X_MemCopies_1 t1 vs23 h28 t27)
 (fun j43 => j43 [] h28)
 (fun vs44 h45 => j39 [] h45)
def X_MemCopies_4 (t1 : Value) (vs23 : List Value) (h28 : AHeap) (t27 : Value) (j35 : List Value → AHeap → Prop) : Prop :=
 opt (aindex Try.prog 22 t1 (nth vs23 0)) fun t49 => opt (afield Try.prog 32 t49 1) fun t50 => opt (aload Try.prog 3 t50 h28) fun t51 => callV Try.prog (.func (.func 16) #[] #[]) [t27, t51] h28 (fun t52 h38 => j35 [] h38)
def X_MemCopies_5 (t43 : Value) (t1 : Value) (vs23 : List Value) (h28 : AHeap) (t27 : Value) (j35 : List Value → AHeap → Prop) : Prop :=
 opt (nb [t43, (.int .i64 3)] (abin2 Try.prog .eql 3 (.tmp 43) (.const (.int .i64 3)) t43 (.int .i64 3))) fun t54 => CD t54 (X_MemCopies_2 t1 vs23 h28 t27)
 (X_MemCopies_3 t43 t1 vs23 h28 t27)
 (fun vs40 h41 => j35 [] h41)
def X_MemCopies_6 (t43 : Value) (t1 : Value) (vs23 : List Value) (h28 : AHeap) (t27 : Value) (j32 : List Value → AHeap → Prop) : Prop :=
 opt (nb [t43, (.int .i64 1)] (abin2 Try.prog .eql 3 (.tmp 43) (.const (.int .i64 1)) t43 (.int .i64 1))) fun t45 => CD t45 (X_MemCopies_4 t1 vs23 h28 t27)
 (X_MemCopies_5 t43 t1 vs23 h28 t27)
 (fun vs36 h37 => j32 [] h37)
def X_MemCopies_7 (t1 : Value) (vs23 : List Value) (h28 : AHeap) (t27 : Value) (j29 : List Value → AHeap → Prop) : Prop :=
 opt (aindex Try.prog 22 t1 (nth vs23 0)) fun t41 => opt (afield Try.prog 32 t41 0) fun t42 => opt (aload Try.prog 3 t42 h28) fun t43 => BK (X_MemCopies_6 t43 t1 vs23 h28 t27)
 (fun vs33 h34 => j29 [] h34)
def X_MemCopies_8 (t1 : Value) (vs23 : List Value) (t27 : Value) (j22 : List Value → AHeap → Prop) (vs27 : List Value) (h28 : AHeap) : Prop :=
 BK (X_MemCopies_7 t1 vs23 h28 t27)
 (fun vs30 h31 => opt (nb [(nth vs23 0), (.int .i64 1)] (abin2 Try.prog .add 3 (.tmp 37) (.const (.int .i64 1)) (nth vs23 0) (.int .i64 1))) fun t38 => j22 [t38] h31)
def X_MemCopies_9 (t1 : Value) (j19 : List Value → AHeap → Prop) (t27 : Value) (vs23 : List Value) (h24 : AHeap) (j22 : List Value → AHeap → Prop) : Prop :=
 optH (nb [t1] (abuiltin Try.prog .len [22] 3 [t1] h24)) fun t35 h25 => opt (nb [(nth vs23 0), t35] (abin2 Try.prog .lss 3 (.tmp 33) (.tmp 35) (nth vs23 0) t35)) fun t36 => CD t36 (fun j26 => j26 [] h25)
 (fun j26 => j19 [] h25)
 (X_MemCopies_8 t1 vs23 t27 j22)
def X_MemCopies_10 (t83 : Value) (t85 : Value) (R : Value → AHeap → Prop) (t86 : Value) (h51 : AHeap) : Prop :=
 GD t83 true (fun k52 => callV Try.prog (.func (.func 23) #[] #[]) [t85, t86] h51 (fun t87 h54 => k52 t87 h54)) (fun t87 h53 => opt (pk t83 t87 (.bool false)) fun t88 => rv [t88] h53 R) h51
def X_MemCopies_11 (t24 : Value) (t31 : Value) (R : Value → AHeap → Prop) (vs20 : List Value) (h21 : AHeap) : Prop :=
 callV Try.prog (.func (.func 23) #[] #[]) [t24, t31] h21 (fun t83 h47 => GD t83 true (fun k48 => k48 t31 h47) (fun t85 h49 => GD t83 true (fun k50 => k50 t24 h49) (X_MemCopies_10 t83 t85 R) h49) h47)
def X_MemCopies_12 (t0 : Value) (t1 : Value) (t24 : Value) (R : Value → AHeap → Prop) (t27 : Value) (h17 : AHeap) : Prop :=
 callV Try.prog (.func (.func 21) #[] #[]) [t0] h17 (fun t30 h18 => opt (axt t30 0) fun t31 => opt (axt t30 1) fun t32 => BK (fun j19 => LP (X_MemCopies_9 t1 j19 t27)
 [(.int .i64 0)] h18)
 (X_MemCopies_11 t24 t31 R))
def X_MemCopies_13 (t0 : Value) (t1 : Value) (R : Value → AHeap → Prop) (vs14 : List Value) (h15 : AHeap) : Prop :=
 callV Try.prog (.func (.func 21) #[] #[]) [t0] h15 (fun t23 h16 => opt (axt t23 0) fun t24 => opt (axt t23 1) fun t25 => callV Try.prog (.func (.func 22) #[] #[]) [t24] h16 (X_MemCopies_12 t0 t1 t24 R))
def X_MemCopies_14 (t15 : Value) (R : Value → AHeap → Prop) (vs3 : List Value) (t0 : Value) (t1 : Value) (t18 : Value) (h9 : AHeap) : Prop :=
 GD t15 false (fun k11 => opt (nb [t18, (.int .i64 40)] (abin2 Try.prog .gtr 3 (.tmp 18) (.const (.int .i64 40)) t18 (.int .i64 40))) fun t19 => k11 t19 h9) (fun t19 h12 => opt (pk t15 (.bool true) t19) fun t20 => CD t20 (fun j13 => rv [(.bool true)] h12 R)
 (fun j13 => j13 [(nth vs3 0)] h12)
 (X_MemCopies_13 t0 t1 R)) h9
def X_MemCopies_15 (t0 : Value) (t1 : Value) (R : Value → AHeap → Prop) (vs3 : List Value) (h4 : AHeap) : Prop :=
 optH (nb [t0] (abuiltin Try.prog .len [22] 3 [t0] h4)) fun t14 h5 => opt (nb [t14, (.int .i64 40)] (abin2 Try.prog .gtr 3 (.tmp 14) (.const (.int .i64 40)) t14 (.int .i64 40))) fun t15 => GD t15 false (fun k6 => k6 t1 h5) (fun t17 h7 => GD t15 false (fun k8 => optH (nb [t17] (abuiltin Try.prog .len [22] 3 [t17] h7)) fun t18 h10 => k8 t18 h10) (X_MemCopies_14 t15 R vs3 t0 t1) h7) h5
def X_MemCopies (h : AHeap) (t0 t1 : Value) (R : Value → AHeap → Prop) : Prop :=
 callV Try.prog (.func (.func 7) #[] #[]) [] h (fun t11 h1 => opt (aun Try.prog .not t11) fun t12 => CD t12 (fun j2 => rv [(.bool false)] h1 R)
 (fun j2 => j2 [(.bool false)] h1)
 (X_MemCopies_15 t0 t1 R))
theorem X_MemCopies_eq (h : AHeap) (t0 t1 : Value) (R : Value → AHeap → Prop) : wpF Try.prog (drawW Try.prog qs2) 200 6 [t0, t1] h R = X_MemCopies h t0 t1 R := by kernel_rfl
theorem X_MemCopies_ok {h : AHeap} {t0 t1 : Value} {R : Value → AHeap → Prop} (hw : X_MemCopies h t0 t1 R) : DC Try.prog 6 [t0, t1] h R := DC_of_wp mixed2 (n := 200) (by rw [X_MemCopies_eq]; exact hw)

/-- plumbob/plumboblaw2.played -/
def X_played_1 (t7 : Value) (t10 : Value) (j27 : List Value → AHeap → Prop) (t31 : Value) (h30 : AHeap) : Prop :=
 opt (afield Try.prog 32 t7 1) fun t33 => opt (aload Try.prog 3 t33 h30) fun t34 => callV Try.prog (.func (.func 29) #[] #[]) [t10, t34] h30 (fun t35 h31 => j27 [] h31)
def X_played_2 (t7 : Value) (h20 : AHeap) (t8 : Value) (t10 : Value) (j27 : List Value → AHeap → Prop) : Prop :=
 opt (afield Try.prog 32 t7 1) fun t29 => opt (aload Try.prog 3 t29 h20) fun t30 => callV Try.prog (.func (.func 9) #[] #[]) [t8, t30] h20 (X_played_1 t7 t10 j27)
def X_played_3 (t7 : Value) (t10 : Value) (j32 : List Value → AHeap → Prop) (t41 : Value) (h35 : AHeap) : Prop :=
 opt (afield Try.prog 32 t7 1) fun t43 => opt (aload Try.prog 3 t43 h35) fun t44 => callV Try.prog (.func (.func 30) #[] #[]) [t10, t44] h35 (fun t45 h36 => j32 [] h36)
def X_played_4 (t7 : Value) (t10 : Value) (j37 : List Value → AHeap → Prop) (t55 : Value) (h40 : AHeap) : Prop :=
 opt (afield Try.prog 32 t7 2) fun t57 => opt (aload Try.prog 3 t57 h40) fun t58 => opt (afield Try.prog 32 t7 3) fun t59 => opt (aload Try.prog 24 t59 h40) fun t60 => opt (afield Try.prog 32 t7 4) fun t61 => opt (aload Try.prog 24 t61 h40) fun t62 => callV Try.prog (.func (.func 31) #[] #[]) [t10, t58, t60, t62] h40 (fun t63 h41 => j37 [] h41)
def X_played_5 (t7 : Value) (t10 : Value) (j42 : List Value → AHeap → Prop) (t69 : Value) (h45 : AHeap) : Prop :=
 opt (afield Try.prog 32 t7 1) fun t71 => opt (aload Try.prog 3 t71 h45) fun t72 => callV Try.prog (.func (.func 32) #[] #[]) [t10, t72] h45 (fun t73 h46 => j42 [] h46)
def X_played_6 (t7 : Value) (h20 : AHeap) (t8 : Value) (t10 : Value) (j42 : List Value → AHeap → Prop) : Prop :=
 opt (afield Try.prog 32 t7 1) fun t67 => opt (aload Try.prog 3 t67 h20) fun t68 => callV Try.prog (.func (.func 15) #[] #[]) [t8, t68] h20 (X_played_5 t7 t10 j42)
def X_played_7 (t7 : Value) (h20 : AHeap) (t8 : Value) (t10 : Value) (j37 : List Value → AHeap → Prop) : Prop :=
 opt (afield Try.prog 32 t7 2) fun t49 => opt (aload Try.prog 3 t49 h20) fun t50 => opt (afield Try.prog 32 t7 3) fun t51 => opt (aload Try.prog 24 t51 h20) fun t52 => opt (afield Try.prog 32 t7 4) fun t53 => opt (aload Try.prog 24 t53 h20) fun t54 => callV Try.prog (.func (.func 10) #[] #[]) [t8, t50, t52, t54] h20 (X_played_4 t7 t10 j37)
def X_played_8 (t22 : Value) (t7 : Value) (h20 : AHeap) (t8 : Value) (t10 : Value) (j37 : List Value → AHeap → Prop) : Prop :=
 opt (nb [t22, (.int .i64 4)] (abin2 Try.prog .eql 3 (.tmp 22) (.const (.int .i64 4)) t22 (.int .i64 4))) fun t65 => CD t65 (X_played_6 t7 h20 t8 t10)
 (fun j42 => j42 [] h20)
 (fun vs43 h44 => j37 [] h44)
def X_played_9 (t7 : Value) (h20 : AHeap) (t8 : Value) (t10 : Value) (j32 : List Value → AHeap → Prop) : Prop :=
 opt (afield Try.prog 32 t7 1) fun t39 => opt (aload Try.prog 3 t39 h20) fun t40 => callV Try.prog (.func (.func 16) #[] #[]) [t8, t40] h20 (X_played_3 t7 t10 j32)
def X_played_10 (t22 : Value) (t7 : Value) (h20 : AHeap) (t8 : Value) (t10 : Value) (j32 : List Value → AHeap → Prop) : Prop :=
 opt (nb [t22, (.int .i64 3)] (abin2 Try.prog .eql 3 (.tmp 22) (.const (.int .i64 3)) t22 (.int .i64 3))) fun t47 => CD t47 (X_played_7 t7 h20 t8 t10)
 (X_played_8 t22 t7 h20 t8 t10)
 (fun vs38 h39 => j32 [] h39)
def X_played_11 (t7 : Value) (h20 : AHeap) (t8 : Value) (t10 : Value) (j24 : List Value → AHeap → Prop) : Prop :=
 opt (afield Try.prog 32 t7 1) fun t25 => opt (aload Try.prog 3 t25 h20) fun t26 => opt (nb [t26, (.int .i64 4096)] (abin2 Try.prog .leq 3 (.tmp 26) (.const (.int .i64 4096)) t26 (.int .i64 4096))) fun t27 => CD t27 (X_played_2 t7 h20 t8 t10)
 (fun j27 => j27 [] h20)
 (fun vs28 h29 => j24 [] h29)
def X_played_12 (t22 : Value) (t7 : Value) (h20 : AHeap) (t8 : Value) (t10 : Value) (j24 : List Value → AHeap → Prop) : Prop :=
 opt (nb [t22, (.int .i64 1)] (abin2 Try.prog .eql 3 (.tmp 22) (.const (.int .i64 1)) t22 (.int .i64 1))) fun t37 => CD t37 (X_played_9 t7 h20 t8 t10)
 (X_played_10 t22 t7 h20 t8 t10)
 (fun vs33 h34 => j24 [] h34)
def X_played_13 (t22 : Value) (t7 : Value) (h20 : AHeap) (t8 : Value) (t10 : Value) (j21 : List Value → AHeap → Prop) : Prop :=
 opt (nb [t22, (.int .i64 0)] (abin2 Try.prog .eql 3 (.tmp 22) (.const (.int .i64 0)) t22 (.int .i64 0))) fun t24 => CD t24 (X_played_11 t7 h20 t8 t10)
 (X_played_12 t22 t7 h20 t8 t10)
 (fun vs25 h26 => j21 [] h26)
def X_played_14 (t0 : Value) (vs8 : List Value) (h13 : AHeap) (t8 : Value) (t10 : Value) (j14 : List Value → AHeap → Prop) : Prop :=
 opt (aindex Try.prog 22 t0 (nth vs8 0)) fun t19 => opt (aload Try.prog 32 t19 h13) fun t20 => opt (azero Try.prog 32) fun z17 => nw h13 (Value.cells z17).toList 32 fun t7 h18 => opt (nb [t20] (astore Try.prog 32 t7 t20 h18)) fun h20 => opt (afield Try.prog 32 t7 0) fun t21 => opt (aload Try.prog 3 t21 h20) fun t22 => BK (X_played_13 t22 t7 h20 t8 t10)
 (fun vs22 h23 => j14 [] h23)
def X_played_15 (t0 : Value) (vs8 : List Value) (t8 : Value) (t10 : Value) (j7 : List Value → AHeap → Prop) (vs12 : List Value) (h13 : AHeap) : Prop :=
 BK (X_played_14 t0 vs8 h13 t8 t10)
 (fun vs15 h16 => opt (nb [(nth vs8 0), (.int .i64 1)] (abin2 Try.prog .add 3 (.tmp 15) (.const (.int .i64 1)) (nth vs8 0) (.int .i64 1))) fun t16 => j7 [t16] h16)
def X_played_16 (t0 : Value) (j4 : List Value → AHeap → Prop) (t8 : Value) (t10 : Value) (vs8 : List Value) (h9 : AHeap) (j7 : List Value → AHeap → Prop) : Prop :=
 optH (nb [t0] (abuiltin Try.prog .len [22] 3 [t0] h9)) fun t13 h10 => opt (nb [(nth vs8 0), t13] (abin2 Try.prog .lss 3 (.tmp 11) (.tmp 13) (nth vs8 0) t13)) fun t14 => CD t14 (fun j11 => j11 [] h10)
 (fun j11 => j4 [] h10)
 (X_played_15 t0 vs8 t8 t10 j7)
def X_played_17 (t0 : Value) (R : Value → AHeap → Prop) (t8 : Value) (h1 : AHeap) : Prop :=
 opt (nb [] (abuild Try.prog 74 [])) fun t9 => opt (nb [t9] (some (Value.cells t9).toList)) fun c2 => nw h1 c2 74 fun t10 h3 => BK (fun j4 => LP (X_played_16 t0 j4 t8 t10)
 [(.int .i64 0)] h3)
 (fun vs5 h6 => rv [t8, t10] h6 R)
def X_played (h : AHeap) (t0 : Value) (R : Value → AHeap → Prop) : Prop :=
 callV Try.prog (.func (.func 8) #[] #[]) [] h (X_played_17 t0 R)
theorem X_played_eq (h : AHeap) (t0 : Value) (R : Value → AHeap → Prop) : wpF Try.prog (drawW Try.prog qs2) 200 21 [t0] h R = X_played h t0 R := by kernel_rfl
theorem X_played_ok {h : AHeap} {t0 : Value} {R : Value → AHeap → Prop} (hw : X_played h t0 R) : DC Try.prog 21 [t0] h R := DC_of_wp mixed2 (n := 200) (by rw [X_played_eq]; exact hw)

/-- (*plumbob/mem.Mem).Copy -/
def X_Copy_1 (t49 : Value) (h28 : AHeap) (t39 : Value) (vs24 : List Value) (j32 : List Value → AHeap → Prop) : Prop :=
 opt (nck t49) fun t53 => opt (aload Try.prog 81 t53 h28) fun t54 => opt (azero Try.prog 81) fun z35 => nw h28 (Value.cells z35).toList 81 fun t9 h36 => opt (nb [t54] (astore Try.prog 81 t9 t54 h36)) fun h38 => opt (nck t39) fun t56 => opt (afield Try.prog 60 t56 1) fun t57 => opt (aload Try.prog 58 t57 h38) fun t58 => opt (aindex Try.prog 58 t58 (nth vs24 0)) fun t60 => opt (nb [t9] (astore Try.prog 69 t60 t9 h38)) fun h40 => j32 [] h40
def X_Copy_2 (t43 : Value) (vs24 : List Value) (h28 : AHeap) (t39 : Value) (j29 : List Value → AHeap → Prop) : Prop :=
 opt (aindex Try.prog 58 t43 (nth vs24 0)) fun t48 => opt (aload Try.prog 69 t48 h28) fun t49 => opt (nb [t49, (.pointer none)] (abin2 Try.prog .neq 69 (.tmp 50) (.const (.pointer none)) t49 (.pointer none))) fun t51 => CD t51 (X_Copy_1 t49 h28 t39 vs24)
 (fun j32 => j32 [] h28)
 (fun vs33 h34 => j29 [] h34)
def X_Copy_3 (t43 : Value) (vs24 : List Value) (t39 : Value) (j23 : List Value → AHeap → Prop) (vs27 : List Value) (h28 : AHeap) : Prop :=
 BK (X_Copy_2 t43 vs24 h28 t39)
 (fun vs30 h31 => opt (nb [(nth vs24 0), (.int .i64 1)] (abin2 Try.prog .add 3 (.tmp 45) (.const (.int .i64 1)) (nth vs24 0) (.int .i64 1))) fun t61 => j23 [t61] h31)
def X_Copy_4 (t44 : Value) (j20 : List Value → AHeap → Prop) (t43 : Value) (t39 : Value) (vs24 : List Value) (h25 : AHeap) (j23 : List Value → AHeap → Prop) : Prop :=
 opt (nb [(nth vs24 0), t44] (abin2 Try.prog .lss 3 (.tmp 45) (.tmp 44) (nth vs24 0) t44)) fun t46 => CD t46 (fun j26 => j26 [] h25)
 (fun j26 => j20 [] h25)
 (X_Copy_3 t43 vs24 t39 j23)
def X_Copy_5 (t15 : Value) (t39 : Value) (j13 : List Value → AHeap → Prop) (vs21 : List Value) (h22 : AHeap) : Prop :=
 opt (nck t15) fun t64 => opt (afield Try.prog 56 t64 0) fun t65 => opt (aload Try.prog 54 t65 h22) fun t66 => optH (nb [t39] (abuildSlice Try.prog 54 1 [(0, t39)] h22)) fun t68 h41 => optH (nb [t66, t68] (abuiltin Try.prog .append [54, 54] 54 [t66, t68] h41)) fun t69 h42 => opt (nck t15) fun t70 => opt (afield Try.prog 56 t70 0) fun t71 => opt (nb [t69] (astore Try.prog 54 t71 t69 h42)) fun h44 => j13 [] h44
def X_Copy_6 (t24 : Value) (h12 : AHeap) (t28 : Value) (t15 : Value) (j13 : List Value → AHeap → Prop) (t33 : Value) (h16 : AHeap) : Prop :=
 opt (nck t24) fun t35 => opt (afield Try.prog 60 t35 2) fun t36 => opt (aload Try.prog 4 t36 (trim h16 h12.next)) fun t37 => opt (nb [t28, t33, t37] (abuild Try.prog 60 [(0, t28), (1, t33), (2, t37)])) fun t38 => opt (nb [t38] (some (Value.cells t38).toList)) fun c17 => nw h16 c17 60 fun t39 h18 => opt (nck t39) fun t41 => opt (afield Try.prog 60 t41 1) fun t42 => opt (aload Try.prog 58 t42 h18) fun t43 => optH (nb [t43] (abuiltin Try.prog .len [58] 3 [t43] h18)) fun t44 h19 => BK (fun j20 => LP (X_Copy_4 t44 j20 t43 t39)
 [(.int .i64 0)] h19)
 (X_Copy_5 t15 t39 j13)
def X_Copy_7 (t19 : Value) (vs8 : List Value) (h12 : AHeap) (t15 : Value) (j13 : List Value → AHeap → Prop) : Prop :=
 opt (aindex Try.prog 54 t19 (nth vs8 0)) fun t23 => opt (aload Try.prog 57 t23 h12) fun t24 => opt (nck t24) fun t26 => opt (afield Try.prog 60 t26 0) fun t27 => opt (aload Try.prog 3 t27 h12) fun t28 => opt (nck t24) fun t30 => opt (afield Try.prog 60 t30 1) fun t31 => opt (aload Try.prog 58 t31 h12) fun t32 => callX Try.prog 33 [t32] h12 (X_Copy_6 t24 h12 t28 t15 j13)
def X_Copy_8 (t19 : Value) (vs8 : List Value) (t15 : Value) (j7 : List Value → AHeap → Prop) (vs11 : List Value) (h12 : AHeap) : Prop :=
 BK (X_Copy_7 t19 vs8 h12 t15)
 (fun vs14 h15 => opt (nb [(nth vs8 0), (.int .i64 1)] (abin2 Try.prog .add 3 (.tmp 21) (.const (.int .i64 1)) (nth vs8 0) (.int .i64 1))) fun t72 => j7 [t72] h15)
def X_Copy_9 (t20 : Value) (j4 : List Value → AHeap → Prop) (t19 : Value) (t15 : Value) (vs8 : List Value) (h9 : AHeap) (j7 : List Value → AHeap → Prop) : Prop :=
 opt (nb [(nth vs8 0), t20] (abin2 Try.prog .lss 3 (.tmp 21) (.tmp 20) (nth vs8 0) t20)) fun t22 => CD t22 (fun j10 => j10 [] h9)
 (fun j10 => j4 [] h9)
 (X_Copy_8 t19 vs8 t15 j7)
def X_Copy (h : AHeap) (t0 : Value) (R : Value → AHeap → Prop) : Prop :=
 opt (nck t0) fun t11 => opt (afield Try.prog 56 t11 1) fun t12 => opt (aload Try.prog 3 t12 h) fun t13 => opt (nb [t13] (abuild Try.prog 56 [(1, t13)])) fun t14 => opt (nb [t14] (some (Value.cells t14).toList)) fun c1 => nw h c1 56 fun t15 h2 => opt (nck t0) fun t17 => opt (afield Try.prog 56 t17 0) fun t18 => opt (aload Try.prog 54 t18 h2) fun t19 => optH (nb [t19] (abuiltin Try.prog .len [54] 3 [t19] h2)) fun t20 h3 => BK (fun j4 => LP (X_Copy_9 t20 j4 t19 t15)
 [(.int .i64 0)] h3)
 (fun vs5 h6 => rv [t15] h6 R)
theorem X_Copy_eq (h : AHeap) (t0 : Value) (R : Value → AHeap → Prop) : wpF Try.prog (drawW Try.prog qs2) 200 22 [t0] h R = X_Copy h t0 R := by kernel_rfl
theorem X_Copy_ok {h : AHeap} {t0 : Value} {R : Value → AHeap → Prop} (hw : X_Copy h t0 R) : DC Try.prog 22 [t0] h R := DC_of_wp mixed2 (n := 200) (by rw [X_Copy_eq]; exact hw)

/-- (*plumbob/mem.Mem).Same -/
def X_Same (h : AHeap) (t0 t1 : Value) (R : Value → AHeap → Prop) : Prop :=
 opt (nck t0) fun t6 => opt (afield Try.prog 56 t6 0) fun t7 => opt (aload Try.prog 54 t7 h) fun t8 => opt (nck t1) fun t10 => opt (afield Try.prog 56 t10 0) fun t11 => opt (aload Try.prog 54 t11 h) fun t12 => callQ Try.prog 34 [t8, t12, (.func (.func 35) #[] #[])] h (fun t13 => rv [t13] h R)
theorem X_Same_eq (h : AHeap) (t0 t1 : Value) (R : Value → AHeap → Prop) : wpF Try.prog (drawW Try.prog qs2) 200 23 [t0, t1] h R = X_Same h t0 t1 R := by kernel_rfl
theorem X_Same_ok {h : AHeap} {t0 t1 : Value} {R : Value → AHeap → Prop} (hw : X_Same h t0 t1 R) : DC Try.prog 23 [t0, t1] h R := DC_of_wp mixed2 (n := 200) (by rw [X_Same_eq]; exact hw)

/-- (*plumbob/mem.Mem).Same$1 -/
def X_Same1 (h : AHeap) (t0 t1 : Value) (R : Value → AHeap → Prop) : Prop :=
 callV Try.prog (.func (.func 36) #[] #[]) [t0, t1] h (fun t7 h1 => rv [t7] h1 R)
theorem X_Same1_eq (h : AHeap) (t0 t1 : Value) (R : Value → AHeap → Prop) : wpF Try.prog (drawW Try.prog qs2) 200 35 [t0, t1] h R = X_Same1 h t0 t1 R := by kernel_rfl
theorem X_Same1_ok {h : AHeap} {t0 t1 : Value} {R : Value → AHeap → Prop} (hw : X_Same1 h t0 t1 R) : DC Try.prog 35 [t0, t1] h R := DC_of_wp mixed2 (n := 200) (by rw [X_Same1_eq]; exact hw)

/-- (*plumbob/mem.block).same -/
def X_same_1 (t6 : Value) (t7 : Value) (R : Value → AHeap → Prop) (vs26 : List Value) (j31 : List Value → AHeap → Prop) (vs46 : List Value) (h47 : AHeap) : Prop :=
 opt (aload Try.prog 81 t6 h47) fun t54 => opt (aload Try.prog 81 t7 h47) fun t55 => opt (nb [t54, t55] (abin2 Try.prog .neq 81 (.tmp 54) (.tmp 55) t54 t55)) fun t56 => CD t56 (fun j50 => rv [(.bool false)] h47 R)
 (fun j50 => j50 [(nth vs26 0)] h47)
 (fun vs51 h52 => j31 [(nth vs51 0)] h52)
def X_same_2 (t7 : Value) (t6 : Value) (R : Value → AHeap → Prop) (vs26 : List Value) (j31 : List Value → AHeap → Prop) (t48 : Value) (h44 : AHeap) : Prop :=
 opt (nb [t48, (.pointer none)] (abin2 Try.prog .neq 69 (.tmp 49) (.const (.pointer none)) t48 (.pointer none))) fun t50 => CD t50 (fun j45 => opt (nck t48) fun t52 => opt (aload Try.prog 81 t52 h44) fun t53 => opt (nb [t53] (astore Try.prog 81 t7 t53 h44)) fun h49 => j45 [] h49)
 (fun j45 => j45 [] h44)
 (X_same_1 t6 t7 R vs26 j31)
def X_same_3 (t6 : Value) (t1 : Value) (vs26 : List Value) (t7 : Value) (R : Value → AHeap → Prop) (j31 : List Value → AHeap → Prop) (t40 : Value) (h38 : AHeap) : Prop :=
 opt (nb [t40, (.pointer none)] (abin2 Try.prog .neq 69 (.tmp 41) (.const (.pointer none)) t40 (.pointer none))) fun t42 => CD t42 (fun j39 => opt (nck t40) fun t44 => opt (aload Try.prog 81 t44 h38) fun t45 => opt (nb [t45] (astore Try.prog 81 t6 t45 h38)) fun h43 => j39 [] h43)
 (fun j39 => j39 [] h38)
 (fun vs40 h41 => callV Try.prog (.func (.func 28) #[] #[]) [t1, (nth vs26 1), (.bool false)] h41 (X_same_2 t7 t6 R vs26 j31))
def X_same_4 (h30 : AHeap) (t0 : Value) (vs26 : List Value) (t1 : Value) (R : Value → AHeap → Prop) (j31 : List Value → AHeap → Prop) : Prop :=
 opt (azero Try.prog 81) fun z34 => nw h30 (Value.cells z34).toList 81 fun t6 h35 => opt (azero Try.prog 81) fun z36 => nw h35 (Value.cells z36).toList 81 fun t7 h37 => callV Try.prog (.func (.func 28) #[] #[]) [t0, (nth vs26 1), (.bool false)] h37 (X_same_3 t6 t1 vs26 t7 R j31)
def X_same_5 (vs26 : List Value) (j25 : List Value → AHeap → Prop) (vs32 : List Value) (h33 : AHeap) : Prop :=
 opt (nb [(nth vs26 1), (.int .i64 64)] (abin2 Try.prog .add 3 (.tmp 36) (.const (.int .i64 64)) (nth vs26 1) (.int .i64 64))) fun t37 => j25 [(nth vs32 0), t37] h33
def X_same_6 (t0 : Value) (j22 : List Value → AHeap → Prop) (t1 : Value) (R : Value → AHeap → Prop) (vs26 : List Value) (h27 : AHeap) (j25 : List Value → AHeap → Prop) : Prop :=
 opt (nck t0) fun t32 => opt (afield Try.prog 60 t32 0) fun t33 => opt (aload Try.prog 3 t33 h27) fun t34 => opt (nb [(nth vs26 1), t34] (abin2 Try.prog .lss 3 (.tmp 30) (.tmp 34) (nth vs26 1) t34)) fun t35 => CD t35 (fun j28 => j28 [] h27)
 (fun j28 => j22 [(nth vs26 0)] h27)
 (fun vs29 h30 => BK (X_same_4 h30 t0 vs26 t1 R)
 (X_same_5 vs26 j25))
def X_same_7 (t18 : Value) (R : Value → AHeap → Prop) (t0 : Value) (t1 : Value) (t28 : Value) (h18 : AHeap) : Prop :=
 opt (pk t18 (.bool true) t28) fun t29 => CD t29 (fun j19 => rv [(.bool false)] h18 R)
 (fun j19 => j19 [(.bool false)] h18)
 (fun vs20 h21 => BK (fun j22 => LP (X_same_6 t0 j22 t1 R)
 [(nth vs20 0), (.int .i64 0)] h21)
 (fun vs23 h24 => rv [(.bool true)] h24 R))
def X_same_8 (t18 : Value) (t23 : Value) (R : Value → AHeap → Prop) (t0 : Value) (t1 : Value) (t26 : Value) (h14 : AHeap) : Prop :=
 GD t18 false (fun k15 => opt (aload Try.prog 3 t26 h14) fun t27 => k15 t27 h14) (fun t27 h16 => GD t18 false (fun k17 => opt (nb [t23, t27] (abin2 Try.prog .neq 3 (.tmp 23) (.tmp 27) t23 t27)) fun t28 => k17 t28 h16) (X_same_7 t18 R t0 t1) h16) h14
def X_same_9 (t18 : Value) (t23 : Value) (R : Value → AHeap → Prop) (t0 : Value) (t1 : Value) (t24 : Value) (h10 : AHeap) : Prop :=
 GD t18 false (fun k11 => opt (nck t24) fun t25 => k11 t25 h10) (fun t25 h12 => GD t18 false (fun k13 => opt (afield Try.prog 60 t25 0) fun t26 => k13 t26 h12) (X_same_8 t18 t23 R t0 t1) h12) h10
def X_same_10 (t18 : Value) (t1 : Value) (R : Value → AHeap → Prop) (t0 : Value) (t21 : Value) (h4 : AHeap) : Prop :=
 GD t18 false (fun k5 => opt (afield Try.prog 60 t21 0) fun t22 => k5 t22 h4) (fun t22 h6 => GD t18 false (fun k7 => opt (aload Try.prog 3 t22 h6) fun t23 => k7 t23 h6) (fun t23 h8 => GD t18 false (fun k9 => k9 t1 h8) (X_same_9 t18 t23 R t0 t1) h8) h6) h4
def X_same (h : AHeap) (t0 t1 : Value) (R : Value → AHeap → Prop) : Prop :=
 opt (nck t0) fun t11 => opt (afield Try.prog 60 t11 2) fun t12 => opt (aload Try.prog 4 t12 h) fun t13 => opt (nck t1) fun t15 => opt (afield Try.prog 60 t15 2) fun t16 => opt (aload Try.prog 4 t16 h) fun t17 => opt (nb [t13, t17] (abin2 Try.prog .neq 4 (.tmp 13) (.tmp 17) t13 t17)) fun t18 => GD t18 false (fun k1 => k1 t0 h) (fun t20 h2 => GD t18 false (fun k3 => opt (nck t20) fun t21 => k3 t21 h2) (X_same_10 t18 t1 R t0) h2) h
theorem X_same_eq (h : AHeap) (t0 t1 : Value) (R : Value → AHeap → Prop) : wpF Try.prog (drawW Try.prog qs2) 200 36 [t0, t1] h R = X_same h t0 t1 R := by kernel_rfl
theorem X_same_ok {h : AHeap} {t0 t1 : Value} {R : Value → AHeap → Prop} (hw : X_same h t0 t1 R) : DC Try.prog 36 [t0, t1] h R := DC_of_wp mixed2 (n := 200) (by rw [X_same_eq]; exact hw)

/-- slices.Clone[[]*plumbob/mem.page,*plumbob/mem.page] -/
def X_Clone (h : AHeap) (t0 : Value) (R : Value → AHeap → Prop) : Prop :=
 opt (nb [t0, (.slice none 0 0)] (abin2 Try.prog .eql 58 (.tmp 3) (.const (.slice none 0 0)) t0 (.slice none 0 0))) fun t4 => CD t4 (fun j1 => rv [(.slice none 0 0)] h R)
 (fun j1 => j1 [(.slice none 0 0)] h)
 (fun vs2 h3 => optH (nb [] (abuildSlice Try.prog 58 0 [] h3)) fun t5 h4 => optH (nb [t5, t0] (abuiltin Try.prog .append [58, 58] 58 [t5, t0] h4)) fun t7 h5 => rv [t7] h5 R)
theorem X_Clone_eq (h : AHeap) (t0 : Value) (R : Value → AHeap → Prop) : wpF Try.prog (drawW Try.prog qs2) 200 33 [t0] h R = X_Clone h t0 R := by kernel_rfl
theorem X_Clone_ok {h : AHeap} {t0 : Value} {R : Value → AHeap → Prop} (hw : X_Clone h t0 R) : DC Try.prog 33 [t0] h R := DC_of_wp mixed2 (n := 200) (by rw [X_Clone_eq]; exact hw)

/-- slices.EqualFunc[[]*plumbob/mem.block,[]*plumbob/mem.block,*plumbob/mem.block,*plumbob/mem.block] -/
def X_EqualFunc_1 (R : Value → AHeap → Prop) (vs11 : List Value) (j16 : List Value → AHeap → Prop) (t29 : Value) (h19 : AHeap) : Prop :=
 opt (aun Try.prog .not t29) fun t30 => CD t30 (fun j20 => rv [(.bool false)] h19 R)
 (fun j20 => j20 [(nth vs11 0)] h19)
 (fun vs21 h22 => j16 [(nth vs21 0)] h22)
def X_EqualFunc_2 (t0 : Value) (vs11 : List Value) (h15 : AHeap) (t1 : Value) (t2 : Value) (R : Value → AHeap → Prop) (j16 : List Value → AHeap → Prop) : Prop :=
 opt (aindex Try.prog 54 t0 (nth vs11 1)) fun t20 => opt (aload Try.prog 57 t20 h15) fun t21 => opt (aindex Try.prog 54 t1 (nth vs11 1)) fun t24 => opt (aload Try.prog 57 t24 h15) fun t25 => callV Try.prog t2 [t21, t25] h15 (X_EqualFunc_1 R vs11 j16)
def X_EqualFunc_3 (vs11 : List Value) (j10 : List Value → AHeap → Prop) (vs17 : List Value) (h18 : AHeap) : Prop :=
 opt (nb [(nth vs11 1), (.int .i64 1)] (abin2 Try.prog .add 3 (.tmp 17) (.const (.int .i64 1)) (nth vs11 1) (.int .i64 1))) fun t31 => j10 [(nth vs17 0), t31] h18
def X_EqualFunc_4 (t16 : Value) (j7 : List Value → AHeap → Prop) (t0 : Value) (t1 : Value) (t2 : Value) (R : Value → AHeap → Prop) (vs11 : List Value) (h12 : AHeap) (j10 : List Value → AHeap → Prop) : Prop :=
 opt (nb [(nth vs11 1), t16] (abin2 Try.prog .lss 3 (.tmp 17) (.tmp 16) (nth vs11 1) t16)) fun t18 => CD t18 (fun j13 => j13 [] h12)
 (fun j13 => j7 [(nth vs11 0)] h12)
 (fun vs14 h15 => BK (X_EqualFunc_2 t0 vs11 h15 t1 t2 R)
 (X_EqualFunc_3 vs11 j10))
def X_EqualFunc_5 (t0 : Value) (t1 : Value) (t2 : Value) (R : Value → AHeap → Prop) (vs4 : List Value) (h5 : AHeap) : Prop :=
 optH (nb [t0] (abuiltin Try.prog .len [54] 3 [t0] h5)) fun t16 h6 => BK (fun j7 => LP (X_EqualFunc_4 t16 j7 t0 t1 t2 R)
 [(nth vs4 0), (.int .i64 0)] h6)
 (fun vs8 h9 => rv [(.bool true)] h9 R)
def X_EqualFunc (h : AHeap) (t0 t1 t2 : Value) (R : Value → AHeap → Prop) : Prop :=
 optH (nb [t0] (abuiltin Try.prog .len [54] 3 [t0] h)) fun t11 h1 => optH (nb [t1] (abuiltin Try.prog .len [54] 3 [t1] h1)) fun t13 h2 => opt (nb [t11, t13] (abin2 Try.prog .neq 3 (.tmp 11) (.tmp 13) t11 t13)) fun t14 => CD t14 (fun j3 => rv [(.bool false)] h2 R)
 (fun j3 => j3 [(.bool false)] h2)
 (X_EqualFunc_5 t0 t1 t2 R)
theorem X_EqualFunc_eq (h : AHeap) (t0 t1 t2 : Value) (R : Value → AHeap → Prop) : wpF Try.prog (drawW Try.prog qs2) 200 34 [t0, t1, t2] h R = X_EqualFunc h t0 t1 t2 R := by kernel_rfl
theorem X_EqualFunc_ok {h : AHeap} {t0 t1 t2 : Value} {R : Value → AHeap → Prop} (hw : X_EqualFunc h t0 t1 t2 R) : DC Try.prog 34 [t0, t1, t2] h R := DC_of_wp mixed2 (n := 200) (by rw [X_EqualFunc_eq]; exact hw)

/-- plumbob/plumbobref2.Alloc -/
def X_refAlloc_1 (t21 : Value) (vs17 : List Value) (j16 : List Value → AHeap → Prop) (vs20 : List Value) (h21 : AHeap) : Prop :=
 BK (fun j22 => opt (aindex Try.prog 41 t21 (nth vs17 0)) fun t29 => opt (nb [(.int .i64 (-1))] (astore Try.prog 3 t29 (.int .i64 (-1)) h21)) fun h26 => j22 [] h26)
 (fun vs23 h24 => opt (nb [(nth vs17 0), (.int .i64 1)] (abin2 Try.prog .add 3 (.tmp 25) (.const (.int .i64 1)) (nth vs17 0) (.int .i64 1))) fun t26 => j16 [t26] h24)
def X_refAlloc_2 (t1 : Value) (j13 : List Value → AHeap → Prop) (t21 : Value) (vs17 : List Value) (h18 : AHeap) (j16 : List Value → AHeap → Prop) : Prop :=
 opt (nb [(nth vs17 0), t1] (abin2 Try.prog .lss 3 (.tmp 22) (.tmp 23) (nth vs17 0) t1)) fun t24 => CD t24 (fun j19 => j19 [] h18)
 (fun j19 => j13 [] h18)
 (X_refAlloc_1 t21 vs17 j16)
def X_refAlloc_3 (t0 : Value) (t21 : Value) (R : Value → AHeap → Prop) (vs14 : List Value) (h15 : AHeap) : Prop :=
 opt (nck t0) fun t32 => opt (afield Try.prog 74 t32 0) fun t33 => opt (aload Try.prog 71 t33 h15) fun t34 => opt (nb [t21] (abuild Try.prog 86 [(0, t21)])) fun t36 => optH (nb [t36] (abuildSlice Try.prog 71 1 [(0, t36)] h15)) fun t37 h27 => optH (nb [t34, t37] (abuiltin Try.prog .append [71, 71] 71 [t34, t37] h27)) fun t38 h28 => opt (nck t0) fun t39 => opt (afield Try.prog 74 t39 0) fun t40 => opt (nb [t38] (astore Try.prog 71 t40 t38 h28)) fun h30 => opt (nck t0) fun t42 => opt (afield Try.prog 74 t42 0) fun t43 => opt (aload Try.prog 71 t43 h30) fun t44 => optH (nb [t44] (abuiltin Try.prog .len [71] 3 [t44] h30)) fun t45 h31 => rv [t45, (.int .i64 0)] h31 R
def X_refAlloc_4 (t0 : Value) (R : Value → AHeap → Prop) (t1 : Value) (vs6 : List Value) (h7 : AHeap) : Prop :=
 opt (nck t0) fun t15 => opt (afield Try.prog 74 t15 0) fun t16 => opt (aload Try.prog 71 t16 h7) fun t17 => optH (nb [t17] (abuiltin Try.prog .len [71] 3 [t17] h7)) fun t18 h8 => opt (nb [t18, (.int .i64 100000)] (abin2 Try.prog .geq 3 (.tmp 18) (.const (.int .i64 100000)) t18 (.int .i64 100000))) fun t19 => CD t19 (fun j9 => rv [(.int .i64 0), (.int .i64 2)] h8 R)
 (fun j9 => j9 [(nth vs6 0), (nth vs6 1)] h8)
 (fun vs10 h11 => optH (amake Try.prog 41 t1 t1 h11) fun t21 h12 => BK (fun j13 => LP (X_refAlloc_2 t1 j13 t21)
 [(.int .i64 0)] h12)
 (X_refAlloc_3 t0 t21 R))
def X_refAlloc_5 (t9 : Value) (R : Value → AHeap → Prop) (t0 : Value) (t1 : Value) (t12 : Value) (h4 : AHeap) : Prop :=
 opt (pk t9 (.bool true) t12) fun t13 => CD t13 (fun j5 => rv [(.int .i64 0), (.int .i64 1)] h4 R)
 (fun j5 => j5 [(.int .i64 0), (.int .i64 0)] h4)
 (X_refAlloc_4 t0 R t1)
def X_refAlloc_6 (t9 : Value) (R : Value → AHeap → Prop) (t0 : Value) (t1 : Value) (t11 : Value) (h2 : AHeap) : Prop :=
 GD t9 false (fun k3 => opt (nb [t11, (.int .i64 65536)] (abin2 Try.prog .gtr 3 (.tmp 11) (.const (.int .i64 65536)) t11 (.int .i64 65536))) fun t12 => k3 t12 h2) (X_refAlloc_5 t9 R t0 t1) h2
def X_refAlloc (h : AHeap) (t0 t1 : Value) (R : Value → AHeap → Prop) : Prop :=
 opt (nb [t1, (.int .i64 0)] (abin2 Try.prog .lss 3 (.tmp 8) (.const (.int .i64 0)) t1 (.int .i64 0))) fun t9 => GD t9 false (fun k1 => k1 t1 h) (X_refAlloc_6 t9 R t0 t1) h
theorem X_refAlloc_eq (h : AHeap) (t0 t1 : Value) (R : Value → AHeap → Prop) : wpF Try.prog (drawW Try.prog qs2) 200 29 [t0, t1] h R = X_refAlloc h t0 t1 R := by kernel_rfl
theorem X_refAlloc_ok {h : AHeap} {t0 t1 : Value} {R : Value → AHeap → Prop} (hw : X_refAlloc h t0 t1 R) : DC Try.prog 29 [t0, t1] h R := DC_of_wp mixed2 (n := 200) (by rw [X_refAlloc_eq]; exact hw)

/-- plumbob/plumbobref2.Free -/
def X_refFree_1 (t0 : Value) (t1 : Value) (R : Value → AHeap → Prop) (vs3 : List Value) (h4 : AHeap) : Prop :=
 opt (nck t0) fun t10 => opt (afield Try.prog 74 t10 0) fun t11 => opt (aload Try.prog 71 t11 h4) fun t12 => opt (nb [t1, (.int .i64 1)] (abin2 Try.prog .sub 3 (.tmp 13) (.const (.int .i64 1)) t1 (.int .i64 1))) fun t14 => opt (aindex Try.prog 71 t12 t14) fun t15 => opt (afield Try.prog 86 t15 1) fun t16 => opt (nb [(.bool true)] (astore Try.prog 4 t16 (.bool true) h4)) fun h6 => rv [(.bool true)] h6 R
def X_refFree (h : AHeap) (t0 t1 : Value) (R : Value → AHeap → Prop) : Prop :=
 callV Try.prog (.func (.func 37) #[] #[]) [t0, t1] h (fun t7 h1 => opt (aun Try.prog .not t7) fun t8 => CD t8 (fun j2 => rv [(.bool false)] h1 R)
 (fun j2 => j2 [(.bool false)] h1)
 (X_refFree_1 t0 t1 R))
theorem X_refFree_eq (h : AHeap) (t0 t1 : Value) (R : Value → AHeap → Prop) : wpF Try.prog (drawW Try.prog qs2) 200 30 [t0, t1] h R = X_refFree h t0 t1 R := by kernel_rfl
theorem X_refFree_ok {h : AHeap} {t0 t1 : Value} {R : Value → AHeap → Prop} (hw : X_refFree h t0 t1 R) : DC Try.prog 30 [t0, t1] h R := DC_of_wp mixed2 (n := 200) (by rw [X_refFree_eq]; exact hw)

/-- plumbob/plumbobref2.Store -/
def X_refStore_1 (t0 : Value) (h25 : AHeap) (t7 : Value) (j26 : List Value → AHeap → Prop) : Prop :=
 opt (nck t0) fun t51 => opt (afield Try.prog 74 t51 1) fun t52 => opt (aload Try.prog 72 t52 h25) fun t53 => opt (aload Try.prog 24 t7 h25) fun t54 => optH (nb [t54] (abuildSlice Try.prog 72 1 [(0, t54)] h25)) fun t55 h29 => optH (nb [t53, t55] (abuiltin Try.prog .append [72, 72] 72 [t53, t55] h29)) fun t56 h30 => opt (nck t0) fun t57 => opt (afield Try.prog 74 t57 1) fun t58 => opt (nb [t56] (astore Try.prog 72 t58 t56 h30)) fun h32 => j26 [] h32
def X_refStore_2 (t7 : Value) (h59 : AHeap) (vs37 : List Value) (t47 : Value) (j60 : List Value → AHeap → Prop) : Prop :=
 opt (afield Try.prog 24 t7 1) fun t90 => opt (aload Try.prog 2 t90 h59) fun t91 => opt (nb [(.int .i64 8), (nth vs37 0)] (abin2 Try.prog .mul 3 (.const (.int .i64 8)) (.tmp 92) (.int .i64 8) (nth vs37 0))) fun t93 => optH (nb [t93] (aconv Try.prog 3 39 t93 h59)) fun t94 h63 => opt (nb [t91, t94] (abin2 Try.prog .shr 2 (.tmp 91) (.tmp 94) t91 t94)) fun t95 => opt (nb [t95, (.int .i64 255)] (abin2 Try.prog .and 2 (.tmp 95) (.const (.int .i64 255)) t95 (.int .i64 255))) fun t96 => opt (aindex Try.prog 41 t47 (nth vs37 0)) fun t97 => opt (nb [t96] (astore Try.prog 3 t97 t96 h63)) fun h65 => j60 [] h65
def X_refStore_3 (t82 : Value) (t7 : Value) (vs37 : List Value) (t47 : Value) (j47 : List Value → AHeap → Prop) (t85 : Value) (h57 : AHeap) : Prop :=
 GD t82 true (fun k58 => opt (nb [t85, (.int .i64 1)] (abin2 Try.prog .eql 3 (.tmp 85) (.const (.int .i64 1)) t85 (.int .i64 1))) fun t86 => k58 t86 h57) (fun t86 h59 => opt (pk t82 t86 (.bool false)) fun t87 => CD t87 (X_refStore_2 t7 h59 vs37 t47)
 (fun j60 => j60 [] h59)
 (fun vs61 h62 => j47 [] h62)) h57
def X_refStore_4 (t7 : Value) (vs37 : List Value) (t47 : Value) (j47 : List Value → AHeap → Prop) (t82 : Value) (h53 : AHeap) : Prop :=
 GD t82 true (fun k54 => opt (afield Try.prog 24 t7 0) fun t84 => k54 t84 h53) (fun t84 h55 => GD t82 true (fun k56 => opt (aload Try.prog 3 t84 h55) fun t85 => k56 t85 h55) (X_refStore_3 t82 t7 vs37 t47 j47) h55) h53
def X_refStore_5 (t0 : Value) (h46 : AHeap) (vs37 : List Value) (t47 : Value) (j47 : List Value → AHeap → Prop) : Prop :=
 opt (nck t0) fun t71 => opt (afield Try.prog 74 t71 1) fun t72 => opt (aload Try.prog 72 t72 h46) fun t73 => optH (nb [t73] (abuiltin Try.prog .len [72] 3 [t73] h46)) fun t74 h50 => opt (nb [t74, (.int .i64 1)] (abin2 Try.prog .sub 3 (.tmp 74) (.const (.int .i64 1)) t74 (.int .i64 1))) fun t75 => opt (nb [(.int .i64 8), t75] (abin2 Try.prog .mul 3 (.const (.int .i64 8)) (.tmp 75) (.int .i64 8) t75)) fun t76 => opt (nb [(.int .i64 1000), t76] (abin2 Try.prog .add 3 (.const (.int .i64 1000)) (.tmp 76) (.int .i64 1000) t76)) fun t77 => opt (nb [t77, (nth vs37 0)] (abin2 Try.prog .add 3 (.tmp 77) (.tmp 78) t77 (nth vs37 0))) fun t79 => opt (aindex Try.prog 41 t47 (nth vs37 0)) fun t80 => opt (nb [t79] (astore Try.prog 3 t80 t79 h50)) fun h52 => j47 [] h52
def X_refStore_6 (t47 : Value) (vs37 : List Value) (h41 : AHeap) (t18 : Value) (t0 : Value) (t7 : Value) (j42 : List Value → AHeap → Prop) : Prop :=
 opt (aindex Try.prog 41 t47 (nth vs37 0)) fun t66 => opt (nb [(.int .i64 (-1))] (astore Try.prog 3 t66 (.int .i64 (-1)) h41)) fun h46 => CD t18 (X_refStore_5 t0 h46 vs37 t47)
 (fun j47 => opt (aload Try.prog 24 t7 h46) fun t81 => callV Try.prog (.func (.func 12) #[] #[]) [t81] h46 (X_refStore_4 t7 vs37 t47 j47))
 (fun vs48 h49 => j42 [] h49)
def X_refStore_7 (t47 : Value) (vs37 : List Value) (t18 : Value) (t0 : Value) (t7 : Value) (j36 : List Value → AHeap → Prop) (vs40 : List Value) (h41 : AHeap) : Prop :=
 BK (X_refStore_6 t47 vs37 h41 t18 t0 t7)
 (fun vs43 h44 => opt (nb [(nth vs37 0), (.int .i64 1)] (abin2 Try.prog .add 3 (.tmp 62) (.const (.int .i64 1)) (nth vs37 0) (.int .i64 1))) fun t63 => j36 [t63] h44)
def X_refStore_8 (t1 : Value) (j33 : List Value → AHeap → Prop) (t47 : Value) (t18 : Value) (t0 : Value) (t7 : Value) (vs37 : List Value) (h38 : AHeap) (j36 : List Value → AHeap → Prop) : Prop :=
 opt (nb [(nth vs37 0), t1] (abin2 Try.prog .lss 3 (.tmp 59) (.tmp 60) (nth vs37 0) t1)) fun t61 => CD t61 (fun j39 => j39 [] h38)
 (fun j39 => j33 [] h38)
 (X_refStore_7 t47 vs37 t18 t0 t7 j36)
def X_refStore_9 (t0 : Value) (t6 : Value) (t1 : Value) (t18 : Value) (t7 : Value) (R : Value → AHeap → Prop) (vs24 : List Value) (h25 : AHeap) : Prop :=
 opt (nck t0) fun t32 => opt (afield Try.prog 74 t32 0) fun t33 => opt (aload Try.prog 71 t33 h25) fun t34 => opt (afield Try.prog 24 t6 2) fun t35 => opt (aload Try.prog 3 t35 h25) fun t36 => opt (nb [t36, (.int .i64 1)] (abin2 Try.prog .sub 3 (.tmp 36) (.const (.int .i64 1)) t36 (.int .i64 1))) fun t37 => opt (aindex Try.prog 71 t34 t37) fun t38 => opt (afield Try.prog 86 t38 0) fun t39 => opt (aload Try.prog 41 t39 h25) fun t40 => opt (afield Try.prog 24 t6 1) fun t41 => opt (aload Try.prog 2 t41 h25) fun t42 => opt (afield Try.prog 24 t6 1) fun t43 => opt (aload Try.prog 2 t43 h25) fun t44 => opt (nb [t44, t1] (abin2 Try.prog .add 2 (.tmp 44) (.tmp 45) t44 t1)) fun t46 => opt (nb [t40] (cond (onb (some t42) && onb (some t46)) (asl Try.prog 41 t40 (some t42) (some t46) h25) none)) fun t47 => CD t18 (X_refStore_1 t0 h25 t7)
 (fun j26 => j26 [] h25)
 (fun vs27 h28 => BK (fun j33 => LP (X_refStore_8 t1 j33 t47 t18 t0 t7)
 [(.int .i64 0)] h28)
 (fun vs34 h35 => rv [(.bool true)] h35 R))
def X_refStore_10 (t23 : Value) (t26 : Value) (R : Value → AHeap → Prop) (t0 : Value) (t6 : Value) (t1 : Value) (t18 : Value) (t7 : Value) (t28 : Value) (h20 : AHeap) : Prop :=
 GD t23 false (fun k21 => opt (pk t26 t28 (.bool false)) fun t29 => k21 t29 h20) (fun t29 h22 => opt (pk t23 (.bool true) t29) fun t30 => CD t30 (fun j23 => rv [(.bool false)] h22 R)
 (fun j23 => j23 [(.bool false)] h22)
 (X_refStore_9 t0 t6 t1 t18 t7 R)) h20
def X_refStore_11 (t26 : Value) (t23 : Value) (R : Value → AHeap → Prop) (t0 : Value) (t6 : Value) (t1 : Value) (t18 : Value) (t7 : Value) (t27 : Value) (h18 : AHeap) : Prop :=
 GD t26 true (fun k19 => opt (nb [t27, (.int .i64 8)] (abin2 Try.prog .neq 3 (.tmp 27) (.const (.int .i64 8)) t27 (.int .i64 8))) fun t28 => k19 t28 h18) (X_refStore_10 t23 t26 R t0 t6 t1 t18 t7) h18
def X_refStore_12 (t18 : Value) (t1 : Value) (R : Value → AHeap → Prop) (t0 : Value) (t6 : Value) (t7 : Value) (t22 : Value) (h12 : AHeap) : Prop :=
 opt (aun Try.prog .not t22) fun t23 => GD t23 false (fun k13 => k13 t18 h12) (fun t25 h14 => GD t23 false (fun k15 => k15 t25 h14) (fun t26 h16 => GD t26 true (fun k17 => k17 t1 h16) (X_refStore_11 t26 t23 R t0 t6 t1 t18 t7) h16) h14) h12
def X_refStore_13 (t13 : Value) (t6 : Value) (t0 : Value) (t1 : Value) (R : Value → AHeap → Prop) (t7 : Value) (t17 : Value) (h11 : AHeap) : Prop :=
 opt (pk t13 t17 (.bool false)) fun t18 => opt (aload Try.prog 24 t6 h11) fun t21 => callV Try.prog (.func (.func 38) #[] #[]) [t0, t1, t21] h11 (X_refStore_12 t18 t1 R t0 t6 t7)
def X_refStore_14 (t13 : Value) (t6 : Value) (t0 : Value) (t1 : Value) (R : Value → AHeap → Prop) (t7 : Value) (t16 : Value) (h9 : AHeap) : Prop :=
 GD t13 true (fun k10 => opt (nb [t16, (.int .i64 2)] (abin2 Try.prog .eql 3 (.tmp 16) (.const (.int .i64 2)) t16 (.int .i64 2))) fun t17 => k10 t17 h9) (X_refStore_13 t13 t6 t0 t1 R t7) h9
def X_refStore_15 (t7 : Value) (t6 : Value) (t0 : Value) (t1 : Value) (R : Value → AHeap → Prop) (t13 : Value) (h5 : AHeap) : Prop :=
 GD t13 true (fun k6 => opt (afield Try.prog 24 t7 0) fun t15 => k6 t15 h5) (fun t15 h7 => GD t13 true (fun k8 => opt (aload Try.prog 3 t15 h7) fun t16 => k8 t16 h7) (X_refStore_14 t13 t6 t0 t1 R t7) h7) h5
def X_refStore (h : AHeap) (t0 t1 t2 t3 : Value) (R : Value → AHeap → Prop) : Prop :=
 opt (nb [t2] (some (Value.cells t2).toList)) fun c1 => nw h c1 24 fun t6 h2 => opt (nb [t3] (some (Value.cells t3).toList)) fun c3 => nw h2 c3 24 fun t7 h4 => opt (aload Try.prog 24 t7 h4) fun t12 => callV Try.prog (.func (.func 12) #[] #[]) [t12] h4 (X_refStore_15 t7 t6 t0 t1 R)
theorem X_refStore_eq (h : AHeap) (t0 t1 t2 t3 : Value) (R : Value → AHeap → Prop) : wpF Try.prog (drawW Try.prog qs2) 200 31 [t0, t1, t2, t3] h R = X_refStore h t0 t1 t2 t3 R := by kernel_rfl
theorem X_refStore_ok {h : AHeap} {t0 t1 t2 t3 : Value} {R : Value → AHeap → Prop} (hw : X_refStore h t0 t1 t2 t3 R) : DC Try.prog 31 [t0, t1, t2, t3] h R := DC_of_wp mixed2 (n := 200) (by rw [X_refStore_eq]; exact hw)

/-- plumbob/plumbobref2.Zero -/
def X_refZero_1 (t19 : Value) (vs9 : List Value) (j8 : List Value → AHeap → Prop) (vs13 : List Value) (h14 : AHeap) : Prop :=
 BK (fun j15 => opt (aindex Try.prog 41 t19 (nth vs9 0)) fun t28 => opt (nb [(.int .i64 0)] (astore Try.prog 3 t28 (.int .i64 0) h14)) fun h19 => j15 [] h19)
 (fun vs16 h17 => opt (nb [(nth vs9 0), (.int .i64 1)] (abin2 Try.prog .add 3 (.tmp 24) (.const (.int .i64 1)) (nth vs9 0) (.int .i64 1))) fun t25 => j8 [t25] h17)
def X_refZero_2 (t19 : Value) (j5 : List Value → AHeap → Prop) (vs9 : List Value) (h10 : AHeap) (j8 : List Value → AHeap → Prop) : Prop :=
 optH (nb [t19] (abuiltin Try.prog .len [41] 3 [t19] h10)) fun t22 h11 => opt (nb [(nth vs9 0), t22] (abin2 Try.prog .lss 3 (.tmp 20) (.tmp 22) (nth vs9 0) t22)) fun t23 => CD t23 (fun j12 => j12 [] h11)
 (fun j12 => j5 [] h11)
 (X_refZero_1 t19 vs9 j8)
def X_refZero_3 (t0 : Value) (t1 : Value) (R : Value → AHeap → Prop) (vs3 : List Value) (h4 : AHeap) : Prop :=
 opt (nck t0) fun t12 => opt (afield Try.prog 74 t12 0) fun t13 => opt (aload Try.prog 71 t13 h4) fun t14 => opt (nb [t1, (.int .i64 1)] (abin2 Try.prog .sub 3 (.tmp 15) (.const (.int .i64 1)) t1 (.int .i64 1))) fun t16 => opt (aindex Try.prog 71 t14 t16) fun t17 => opt (afield Try.prog 86 t17 0) fun t18 => opt (aload Try.prog 41 t18 h4) fun t19 => BK (fun j5 => LP (X_refZero_2 t19 j5)
 [(.int .i64 0)] h4)
 (fun vs6 h7 => rv [(.bool true)] h7 R)
def X_refZero (h : AHeap) (t0 t1 : Value) (R : Value → AHeap → Prop) : Prop :=
 callV Try.prog (.func (.func 37) #[] #[]) [t0, t1] h (fun t9 h1 => opt (aun Try.prog .not t9) fun t10 => CD t10 (fun j2 => rv [(.bool false)] h1 R)
 (fun j2 => j2 [(.bool false)] h1)
 (X_refZero_3 t0 t1 R))
theorem X_refZero_eq (h : AHeap) (t0 t1 : Value) (R : Value → AHeap → Prop) : wpF Try.prog (drawW Try.prog qs2) 200 32 [t0, t1] h R = X_refZero h t0 t1 R := by kernel_rfl
theorem X_refZero_ok {h : AHeap} {t0 t1 : Value} {R : Value → AHeap → Prop} (hw : X_refZero h t0 t1 R) : DC Try.prog 32 [t0, t1] h R := DC_of_wp mixed2 (n := 200) (by rw [X_refZero_eq]; exact hw)

/-- plumbob/plumbobref2.Is -/
def X_refIs_1 (t15 : Value) (R : Value → AHeap → Prop) (t24 : Value) (h31 : AHeap) : Prop :=
 GD t15 true (fun k32 => opt (aload Try.prog 4 t24 h31) fun t25 => k32 t25 h31) (fun t25 h33 => GD t15 true (fun k34 => opt (aun Try.prog .not t25) fun t26 => k34 t26 h33) (fun t26 h35 => opt (pk t15 t26 (.bool false)) fun t27 => rv [t27] h35 R) h33) h31
def X_refIs_2 (t15 : Value) (t20 : Value) (R : Value → AHeap → Prop) (t22 : Value) (h27 : AHeap) : Prop :=
 GD t15 true (fun k28 => opt (aindex Try.prog 71 t20 t22) fun t23 => k28 t23 h27) (fun t23 h29 => GD t15 true (fun k30 => opt (afield Try.prog 86 t23 1) fun t24 => k30 t24 h29) (X_refIs_1 t15 R) h29) h27
def X_refIs_3 (t15 : Value) (t20 : Value) (R : Value → AHeap → Prop) (t21 : Value) (h25 : AHeap) : Prop :=
 GD t15 true (fun k26 => opt (nb [t21, (.int .i64 1)] (abin2 Try.prog .sub 3 (.tmp 21) (.const (.int .i64 1)) t21 (.int .i64 1))) fun t22 => k26 t22 h25) (X_refIs_2 t15 t20 R) h25
def X_refIs_4 (t15 : Value) (t1 : Value) (R : Value → AHeap → Prop) (t19 : Value) (h21 : AHeap) : Prop :=
 GD t15 true (fun k22 => opt (aload Try.prog 71 t19 h21) fun t20 => k22 t20 h21) (fun t20 h23 => GD t15 true (fun k24 => k24 t1 h23) (X_refIs_3 t15 t20 R) h23) h21
def X_refIs_5 (t15 : Value) (t1 : Value) (R : Value → AHeap → Prop) (t17 : Value) (h17 : AHeap) : Prop :=
 GD t15 true (fun k18 => opt (nck t17) fun t18 => k18 t18 h17) (fun t18 h19 => GD t15 true (fun k20 => opt (afield Try.prog 74 t18 0) fun t19 => k20 t19 h19) (X_refIs_4 t15 t1 R) h19) h17
def X_refIs_6 (t6 : Value) (t8 : Value) (t0 : Value) (t1 : Value) (R : Value → AHeap → Prop) (t13 : Value) (h12 : AHeap) : Prop :=
 GD t6 true (fun k14 => opt (nb [t8, t13] (abin2 Try.prog .leq 3 (.tmp 8) (.tmp 13) t8 t13)) fun t14 => k14 t14 h12) (fun t14 h15 => opt (pk t6 t14 (.bool false)) fun t15 => GD t15 true (fun k16 => k16 t0 h15) (X_refIs_5 t15 t1 R) h15) h12
def X_refIs_7 (t6 : Value) (t8 : Value) (t0 : Value) (t1 : Value) (R : Value → AHeap → Prop) (t11 : Value) (h8 : AHeap) : Prop :=
 GD t6 true (fun k9 => opt (aload Try.prog 71 t11 h8) fun t12 => k9 t12 h8) (fun t12 h10 => GD t6 true (fun k11 => optH (nb [t12] (abuiltin Try.prog .len [71] 3 [t12] h10)) fun t13 h13 => k11 t13 h13) (X_refIs_6 t6 t8 t0 t1 R) h10) h8
def X_refIs_8 (t6 : Value) (t8 : Value) (t0 : Value) (t1 : Value) (R : Value → AHeap → Prop) (t9 : Value) (h4 : AHeap) : Prop :=
 GD t6 true (fun k5 => opt (nck t9) fun t10 => k5 t10 h4) (fun t10 h6 => GD t6 true (fun k7 => opt (afield Try.prog 74 t10 0) fun t11 => k7 t11 h6) (X_refIs_7 t6 t8 t0 t1 R) h6) h4
def X_refIs (h : AHeap) (t0 t1 : Value) (R : Value → AHeap → Prop) : Prop :=
 opt (nb [t1, (.int .i64 1)] (abin2 Try.prog .geq 3 (.tmp 5) (.const (.int .i64 1)) t1 (.int .i64 1))) fun t6 => GD t6 true (fun k1 => k1 t1 h) (fun t8 h2 => GD t6 true (fun k3 => k3 t0 h2) (X_refIs_8 t6 t8 t0 t1 R) h2) h
theorem X_refIs_eq (h : AHeap) (t0 t1 : Value) (R : Value → AHeap → Prop) : wpF Try.prog (drawW Try.prog qs2) 200 37 [t0, t1] h R = X_refIs h t0 t1 R := by kernel_rfl
theorem X_refIs_ok {h : AHeap} {t0 t1 : Value} {R : Value → AHeap → Prop} (hw : X_refIs h t0 t1 R) : DC Try.prog 37 [t0, t1] h R := DC_of_wp mixed2 (n := 200) (by rw [X_refIs_eq]; exact hw)

/-- plumbob/plumbobref2.Right -/
def X_refRight_1 (t54 : Value) (R : Value → AHeap → Prop) (t59 : Value) (h78 : AHeap) : Prop :=
 GD t54 true (fun k79 => opt (nb [t59, (.int .i64 0)] (abin2 Try.prog .eql 2 (.tmp 59) (.const (.int .i64 0)) t59 (.int .i64 0))) fun t60 => k79 t60 h78) (fun t60 h80 => opt (pk t54 t60 (.bool false)) fun t61 => rv [t61] h80 R) h78
def X_refRight_2 (t54 : Value) (t1 : Value) (R : Value → AHeap → Prop) (t57 : Value) (h74 : AHeap) : Prop :=
 GD t54 true (fun k75 => k75 t1 h74) (fun t58 h76 => GD t54 true (fun k77 => opt (nb [t57, t58] (abin2 Try.prog .rem 2 (.tmp 57) (.tmp 58) t57 t58)) fun t59 => k77 t59 h76) (X_refRight_1 t54 R) h76) h74
def X_refRight_3 (t36 : Value) (t5 : Value) (t1 : Value) (R : Value → AHeap → Prop) (t53 : Value) (h70 : AHeap) : Prop :=
 opt (pk t36 t53 (.bool false)) fun t54 => GD t54 true (fun k71 => opt (afield Try.prog 24 t5 1) fun t56 => k71 t56 h70) (fun t56 h72 => GD t54 true (fun k73 => opt (aload Try.prog 2 t56 h72) fun t57 => k73 t57 h72) (X_refRight_2 t54 t1 R) h72) h70
def X_refRight_4 (t36 : Value) (t50 : Value) (t39 : Value) (t5 : Value) (t1 : Value) (R : Value → AHeap → Prop) (t51 : Value) (h66 : AHeap) : Prop :=
 GD t36 true (fun k67 => opt (nb [t50, t51] (abin2 Try.prog .sub 3 (.tmp 50) (.tmp 51) t50 t51)) fun t52 => k67 t52 h66) (fun t52 h68 => GD t36 true (fun k69 => opt (nb [t39, t52] (abin2 Try.prog .leq 2 (.tmp 39) (.tmp 52) t39 t52)) fun t53 => k69 t53 h68) (X_refRight_3 t36 t5 t1 R) h68) h66
def X_refRight_5 (t36 : Value) (t1 : Value) (t39 : Value) (t5 : Value) (R : Value → AHeap → Prop) (t49 : Value) (h61 : AHeap) : Prop :=
 GD t36 true (fun k62 => optH (nb [t49] (abuiltin Try.prog .len [41] 3 [t49] h61)) fun t50 _ => k62 t50 h61) (fun t50 h63 => GD t36 true (fun k65 => k65 t1 h63) (X_refRight_4 t36 t50 t39 t5 t1 R) h63) h61
def X_refRight_6 (t36 : Value) (t1 : Value) (t39 : Value) (t5 : Value) (R : Value → AHeap → Prop) (t47 : Value) (h57 : AHeap) : Prop :=
 GD t36 true (fun k58 => opt (afield Try.prog 86 t47 0) fun t48 => k58 t48 h57) (fun t48 h59 => GD t36 true (fun k60 => opt (aload Try.prog 41 t48 h59) fun t49 => k60 t49 h59) (X_refRight_5 t36 t1 t39 t5 R) h59) h57
def X_refRight_7 (t36 : Value) (t43 : Value) (t1 : Value) (t39 : Value) (t5 : Value) (R : Value → AHeap → Prop) (t45 : Value) (h53 : AHeap) : Prop :=
 GD t36 true (fun k54 => opt (nb [t45, (.int .i64 1)] (abin2 Try.prog .sub 3 (.tmp 45) (.const (.int .i64 1)) t45 (.int .i64 1))) fun t46 => k54 t46 h53) (fun t46 h55 => GD t36 true (fun k56 => opt (aindex Try.prog 71 t43 t46) fun t47 => k56 t47 h55) (X_refRight_6 t36 t1 t39 t5 R) h55) h53
def X_refRight_8 (t36 : Value) (t5 : Value) (t1 : Value) (t39 : Value) (R : Value → AHeap → Prop) (t43 : Value) (h49 : AHeap) : Prop :=
 GD t36 true (fun k50 => opt (afield Try.prog 24 t5 2) fun t44 => k50 t44 h49) (fun t44 h51 => GD t36 true (fun k52 => opt (aload Try.prog 3 t44 h51) fun t45 => k52 t45 h51) (X_refRight_7 t36 t43 t1 t39 t5 R) h51) h49
def X_refRight_9 (t36 : Value) (t5 : Value) (t1 : Value) (t39 : Value) (R : Value → AHeap → Prop) (t41 : Value) (h45 : AHeap) : Prop :=
 GD t36 true (fun k46 => opt (afield Try.prog 74 t41 0) fun t42 => k46 t42 h45) (fun t42 h47 => GD t36 true (fun k48 => opt (aload Try.prog 71 t42 h47) fun t43 => k48 t43 h47) (X_refRight_8 t36 t5 t1 t39 R) h47) h45
def X_refRight_10 (t36 : Value) (t0 : Value) (t5 : Value) (t1 : Value) (R : Value → AHeap → Prop) (t38 : Value) (h39 : AHeap) : Prop :=
 GD t36 true (fun k40 => opt (aload Try.prog 2 t38 h39) fun t39 => k40 t39 h39) (fun t39 h41 => GD t36 true (fun k42 => k42 t0 h41) (fun t40 h43 => GD t36 true (fun k44 => opt (nck t40) fun t41 => k44 t41 h43) (X_refRight_9 t36 t5 t1 t39 R) h43) h41) h39
def X_refRight_11 (t5 : Value) (t0 : Value) (t1 : Value) (R : Value → AHeap → Prop) (vs36 : List Value) (h37 : AHeap) : Prop :=
 opt (afield Try.prog 24 t5 1) fun t34 => opt (aload Try.prog 2 t34 h37) fun t35 => opt (nb [t35, (.int .i64 0)] (abin2 Try.prog .geq 2 (.tmp 35) (.const (.int .i64 0)) t35 (.int .i64 0))) fun t36 => GD t36 true (fun k38 => opt (afield Try.prog 24 t5 1) fun t38 => k38 t38 h37) (X_refRight_10 t36 t0 t5 t1 R) h37
def X_refRight_12 (t26 : Value) (R : Value → AHeap → Prop) (t5 : Value) (t0 : Value) (t1 : Value) (t31 : Value) (h31 : AHeap) : Prop :=
 GD t26 false (fun k33 => opt (aun Try.prog .not t31) fun t32 => k33 t32 h31) (fun t32 h34 => opt (pk t26 (.bool true) t32) fun t33 => CD t33 (fun j35 => rv [(.bool false)] h34 R)
 (fun j35 => j35 [(.bool false)] h34)
 (X_refRight_11 t5 t0 t1 R)) h31
def X_refRight_13 (t26 : Value) (t28 : Value) (R : Value → AHeap → Prop) (t5 : Value) (t0 : Value) (t1 : Value) (t29 : Value) (h27 : AHeap) : Prop :=
 GD t26 false (fun k28 => opt (aload Try.prog 3 t29 h27) fun t30 => k28 t30 h27) (fun t30 h29 => GD t26 false (fun k30 => callV Try.prog (.func (.func 37) #[] #[]) [t28, t30] h29 (fun t31 h32 => k30 t31 h32)) (X_refRight_12 t26 R t5 t0 t1) h29) h27
def X_refRight_14 (t21 : Value) (t0 : Value) (t5 : Value) (R : Value → AHeap → Prop) (t1 : Value) (t25 : Value) (h23 : AHeap) : Prop :=
 opt (pk t21 (.bool true) t25) fun t26 => GD t26 false (fun k24 => k24 t0 h23) (fun t28 h25 => GD t26 false (fun k26 => opt (afield Try.prog 24 t5 2) fun t29 => k26 t29 h25) (X_refRight_13 t26 t28 R t5 t0 t1) h25) h23
def X_refRight_15 (t21 : Value) (t0 : Value) (t5 : Value) (R : Value → AHeap → Prop) (t1 : Value) (t24 : Value) (h21 : AHeap) : Prop :=
 GD t21 false (fun k22 => opt (nb [t24, (.int .i64 2)] (abin2 Try.prog .neq 3 (.tmp 24) (.const (.int .i64 2)) t24 (.int .i64 2))) fun t25 => k22 t25 h21) (X_refRight_14 t21 t0 t5 R t1) h21
def X_refRight_16 (t16 : Value) (t5 : Value) (t0 : Value) (R : Value → AHeap → Prop) (t1 : Value) (t20 : Value) (h17 : AHeap) : Prop :=
 opt (pk t16 (.bool true) t20) fun t21 => GD t21 false (fun k18 => opt (afield Try.prog 24 t5 0) fun t23 => k18 t23 h17) (fun t23 h19 => GD t21 false (fun k20 => opt (aload Try.prog 3 t23 h19) fun t24 => k20 t24 h19) (X_refRight_15 t21 t0 t5 R t1) h19) h17
def X_refRight_17 (t16 : Value) (t5 : Value) (t0 : Value) (R : Value → AHeap → Prop) (t1 : Value) (t18 : Value) (h12 : AHeap) : Prop :=
 GD t16 false (fun k13 => callV Try.prog (.func (.func 12) #[] #[]) [t18] h12 (fun t19 h15 => k13 t19 h15)) (fun t19 h14 => GD t16 false (fun k16 => opt (aun Try.prog .not t19) fun t20 => k16 t20 h14) (X_refRight_16 t16 t5 t0 R t1) h14) h12
def X_refRight_18 (t12 : Value) (t5 : Value) (t0 : Value) (R : Value → AHeap → Prop) (t1 : Value) (t14 : Value) (h8 : AHeap) : Prop :=
 GD t12 true (fun k9 => opt (nb [t14, (.int .i64 8)] (abin2 Try.prog .neq 3 (.tmp 14) (.const (.int .i64 8)) t14 (.int .i64 8))) fun t15 => k9 t15 h8) (fun t15 h10 => opt (pk t12 t15 (.bool false)) fun t16 => GD t16 false (fun k11 => opt (aload Try.prog 24 t5 h10) fun t18 => k11 t18 h10) (X_refRight_17 t16 t5 t0 R t1) h10) h8
def X_refRight_19 (t8 : Value) (t1 : Value) (t5 : Value) (t0 : Value) (R : Value → AHeap → Prop) (t10 : Value) (h4 : AHeap) : Prop :=
 GD t8 true (fun k5 => opt (nb [t10, (.int .i64 4)] (abin2 Try.prog .neq 3 (.tmp 10) (.const (.int .i64 4)) t10 (.int .i64 4))) fun t11 => k5 t11 h4) (fun t11 h6 => opt (pk t8 t11 (.bool false)) fun t12 => GD t12 true (fun k7 => k7 t1 h6) (X_refRight_18 t12 t5 t0 R t1) h6) h4
def X_refRight (h : AHeap) (t0 t1 t2 : Value) (R : Value → AHeap → Prop) : Prop :=
 opt (nb [t2] (some (Value.cells t2).toList)) fun c1 => nw h c1 24 fun t5 h2 => opt (nb [t1, (.int .i64 1)] (abin2 Try.prog .neq 3 (.tmp 7) (.const (.int .i64 1)) t1 (.int .i64 1))) fun t8 => GD t8 true (fun k3 => k3 t1 h2) (X_refRight_19 t8 t1 t5 t0 R) h2
theorem X_refRight_eq (h : AHeap) (t0 t1 t2 : Value) (R : Value → AHeap → Prop) : wpF Try.prog (drawW Try.prog qs2) 200 38 [t0, t1, t2] h R = X_refRight h t0 t1 t2 R := by kernel_rfl
theorem X_refRight_ok {h : AHeap} {t0 t1 t2 : Value} {R : Value → AHeap → Prop} (hw : X_refRight h t0 t1 t2 R) : DC Try.prog 38 [t0, t1, t2] h R := DC_of_wp mixed2 (n := 200) (by rw [X_refRight_eq]; exact hw)

end Go.Mem
