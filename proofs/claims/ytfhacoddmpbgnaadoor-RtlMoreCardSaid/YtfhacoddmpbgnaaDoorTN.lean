/- A part of the proof. -/
import Derived.Test.YtfhacoddmpbgnaaDoorTL
import Derived.Test.YtfhacoddmpbgnaaDoorTM
import Derived.Test.YtfhacoddmpbgnaaDoorTJ
import Derived.Test.YtfhacoddmpbgnaaDoorTH
set_option linter.unusedVariables false
set_option linter.unusedSimpArgs false
namespace Go.Rm
open Go.Ai Go.Proofs Go.Mem
open Go.Rtl (Ins Pg writesI)
set_option linter.unusedVariables false
set_option linter.unusedSimpArgs false
set_option maxRecDepth 10000
abbrev vv (a : V) : Value := .agg #[.int .i64 a.k, .int .i64 a.n, .int .i64 a.b]
def isO (u : Value) (v : Value) (_ : za) : Prop := v = u
theorem qh {f : FuncId} {args : List Value} {h : za} {u : Value} (hs : zec u = true) (d : DC Tryd.prog f args h.lock (isO u)) : xG Tryd.prog f args h u := xG.of hs d
def vB (o : Option V) : Value := .tuple #[vv (o.getD v0), .bool o.isSome]
theorem YZ (n : Int) (h : za) : xG Tryd.prog 32 [.int .i64 n] h (vv (ofV n)) := qh rfl ((Go.Mem.YZ n h.lock).mono fun v h1 e => e.1)
theorem JD (a : V) (h : za) : xG Tryd.prog 77 [vv a] h (.bool (Uv a)) := Go.Mem.JD a h
theorem zmL (b n : Int) (h : za) : xG Tryd.prog 55 [.int .i64 b, .int .i64 n] h (vv (atV b n)) := by
  apply qh rfl
  apply zh8
  unfold zmG atV
  by_cases h1 : b < 1
  . simp -implicitDefEqProofs only [EE, ↓nw, Value.cells, ze, if_true, Nat.reduceAdd, sto, ldn, zo, zC, yZ, yg, h1]; rfl
  . simp -implicitDefEqProofs only [EE, ↓nw, Value.cells, ze, if_true, if_false, Nat.reduceAdd, sto, ldn, zo, zC, yZ, zb0, zfq, h1]; rfl
theorem yO (a : V) (h : za) : xG Tryd.prog 72 [vv a] h (.bool (isInt a)) := by
  apply qh rfl
  apply ze2
  unfold zhV isInt
  by_cases h1 : a.k = 1
  . simp -implicitDefEqProofs only [EE, ↓nw, Value.cells, if_true, Nat.reduceAdd, ldn, ld1, yc, zo, yJ, UC, h1]
    refine zi (by kernel_rfl) rfl (JD ⟨1, a.n, a.b⟩ _) ?_
    simp -implicitDefEqProofs only [EE]
    have : a = ⟨1, a.n, a.b⟩ := by rw [<- h1]
    rw [<- this]; simp [isO, h1]
  . simp -implicitDefEqProofs only [EE, ↓nw, Value.cells, ld1, yc, yJ, UC, h1]; simp [isO]
theorem xj (a : V) (h : za) : xG Tryd.prog 74 [vv a] h (.bool (x7 a)) := by
  apply qh rfl
  apply zeQ
  unfold zfI x7
  by_cases h1 : a.k = 2
  . simp -implicitDefEqProofs only [EE, ↓nw, Value.cells, if_true, Nat.reduceAdd, ldn, ld1, yc, zo, yJ, Vf, h1]
    refine zi (by kernel_rfl) rfl (JD ⟨2, a.n, a.b⟩ _) ?_
    simp -implicitDefEqProofs only [EE]
    have : a = ⟨2, a.n, a.b⟩ := by rw [<- h1]
    rw [<- this]; simp [isO, h1]
  . simp -implicitDefEqProofs only [EE, ↓nw, Value.cells, ld1, yc, yJ, Vf, h1]; simp [isO]
theorem Yr (b : Bool) (h : za) : xG Tryd.prog 87 [.bool b] h (vv (jn b)) := by
  apply qh rfl
  apply zeN
  unfold zf0 jn
  cases b with
  | true =>
    simp -implicitDefEqProofs only [EE, ↓nw, Value.cells, yZ, JM]
    refine zi (by kernel_rfl) rfl (YZ 1 _) ?_
    simp -implicitDefEqProofs only [EE, ze, if_true, Nat.reduceAdd, sto, ldn, zo, zC]; rfl
  | false =>
    simp -implicitDefEqProofs only [EE, ↓nw, Value.cells, yZ, za1]
    refine zi (by kernel_rfl) rfl (YZ 0 _) ?_
    simp -implicitDefEqProofs only [EE, ze, if_true, Nat.reduceAdd, sto, ldn, zo, zC]; rfl
theorem K6 (op a b : Int) (h : za) : xG Tryd.prog 73 [.int .i64 op, .int .i64 a, .int .i64 b] h (vB (uB op a b)) := by
  apply qh rfl
  apply zhg
  unfold zjs
  by_cases o11 : op = 11
  . subst o11
    simp -implicitDefEqProofs only [EE, ↓nw, Value.cells, ↓BK, yZ, JN, yk]
    refine zi (by kernel_rfl) rfl (YZ (w64 (a + b)) _) ?_
    simp -implicitDefEqProofs only [EE, ze, if_true, Nat.reduceAdd, sto, ldn, zo, zC]; rfl
  by_cases o12 : op = 12
  . subst o12
    simp -implicitDefEqProofs only [EE, ↓nw, Value.cells, ↓BK, Int.reduceEq, yZ, zaA, yo, yk]
    refine zi (by kernel_rfl) rfl (YZ (w64 (a - b)) _) ?_
    simp -implicitDefEqProofs only [EE, ze, if_true, Nat.reduceAdd, sto, ldn, zo, zC]; rfl
  by_cases o13 : op = 13
  . subst o13
    simp -implicitDefEqProofs only [EE, ↓nw, Value.cells, ↓BK, Int.reduceEq, yZ, JT, yu, yo, yk]
    refine zi (by kernel_rfl) rfl (YZ (w64 (a * b)) _) ?_
    simp -implicitDefEqProofs only [EE, ze, if_true, Nat.reduceAdd, sto, ldn, zo, zC]; rfl
  by_cases o14 : op = 14
  . subst o14
    by_cases b0 : b = 0
    . simp -implicitDefEqProofs only [EE, nth, ↓nw, Value.cells, ↓BK, ze, if_true, Nat.reduceAdd, Int.reduceEq, sto, ldn, zo, zC, yZ, yg, Xl, uH, uG, uF, vF, yA, yu, yo, yk, yC, b0]; simp [isO, vB, uB, v0]
    by_cases am : a = -9223372036854775808
    . by_cases b1 : b = -1
      . simp -implicitDefEqProofs only [EE, nth, ↓nw, Value.cells, ↓BK, ze, if_true, Nat.reduceAdd, Int.reduceEq, Int.reduceNeg, sto, ldn, zo, zC, yZ, yg, Xl, uH, uG, uF, vF, yA, yu, yo, yk, yC, am, b1]; simp [isO, vB, uB, v0]
      . simp -implicitDefEqProofs only [EE, nth, ↓nw, Value.cells, ↓BK, ze, Nat.reduceAdd, Int.reduceEq, Int.reduceNeg, sto, zC, yZ, yg, Q5, Xi, uH, uG, uF, vF, yA, yu, yo, yk, yC, b0, am, b1]
        refine zi (by kernel_rfl) rfl (YZ (w64 (Int.tdiv (-9223372036854775808) b)) _) ?_
        simp -implicitDefEqProofs only [EE, ze, if_true, Nat.reduceAdd, Int.reduceNeg, sto, ldn, zo, zC]
        simp [isO, vB, uB, b0, b1]
    . simp -implicitDefEqProofs only [EE, nth, ↓nw, Value.cells, ↓BK, ze, Nat.reduceAdd, Int.reduceEq, Int.reduceNeg, sto, zC, yZ, yg, Q5, Xi, uH, uG, uF, vF, yA, yu, yo, yk, yC, b0, am]
      refine zi (by kernel_rfl) rfl (YZ (w64 (a.tdiv b)) _) ?_
      simp -implicitDefEqProofs only [EE, ze, if_true, Nat.reduceAdd, sto, ldn, zo, zC]
      simp [isO, vB, uB, b0, am]
  by_cases o15 : op = 15
  . subst o15
    by_cases b0 : b = 0
    . simp -implicitDefEqProofs only [EE, nth, ↓nw, Value.cells, ↓BK, ze, if_true, Nat.reduceAdd, Int.reduceEq, sto, ldn, zo, zC, yZ, yg, Xl, uH, uG, uF, vF, yA, yu, yo, yk, yC, b0]; simp [isO, vB, uB, v0]
    by_cases am : a = -9223372036854775808
    . by_cases b1 : b = -1
      . simp -implicitDefEqProofs only [EE, nth, ↓nw, Value.cells, ↓BK, ze, if_true, Nat.reduceAdd, Int.reduceEq, Int.reduceNeg, sto, ldn, zo, zC, yZ, yg, Xl, uH, uG, uF, vF, yA, yu, yo, yk, yC, am, b1]; simp [isO, vB, uB, v0]
      . simp -implicitDefEqProofs only [EE, nth, ↓nw, Value.cells, ↓BK, ze, Nat.reduceAdd, Int.reduceEq, Int.reduceNeg, sto, zC, yZ, yg, KX, Xi, uH, uG, uF, vF, yA, yu, yo, yk, yC, b0, am, b1]
        refine zi (by kernel_rfl) rfl (YZ ((Int.tmod (-9223372036854775808) b)) _) ?_
        simp -implicitDefEqProofs only [EE, ze, if_true, Nat.reduceAdd, Int.reduceNeg, sto, ldn, zo, zC]
        simp [isO, vB, uB, b0, b1]
    . simp -implicitDefEqProofs only [EE, nth, ↓nw, Value.cells, ↓BK, ze, Nat.reduceAdd, Int.reduceEq, Int.reduceNeg, sto, zC, yZ, yg, KX, Xi, uH, uG, uF, vF, yA, yu, yo, yk, yC, b0, am]
      refine zi (by kernel_rfl) rfl (YZ ((a.tmod b)) _) ?_
      simp -implicitDefEqProofs only [EE, ze, if_true, Nat.reduceAdd, sto, ldn, zo, zC]
      simp [isO, vB, uB, b0, am]
  by_cases o16 : op = 16
  . subst o16
    simp -implicitDefEqProofs only [EE, nth, ↓nw, Value.cells, ↓BK, ze, Nat.reduceAdd, Int.reduceEq, sto, zC, yZ, yg, JO, y5, yA, yu, yo, yk, yC]
    refine zi (by kernel_rfl) rfl (YZ (zeo (· &&& ·) a b) _) ?_
    simp -implicitDefEqProofs only [EE, ze, if_true, Nat.reduceAdd, sto, ldn, zo, zC]; rfl
  by_cases o17 : op = 17
  . subst o17
    simp -implicitDefEqProofs only [EE, nth, ↓nw, Value.cells, ↓BK, ze, Nat.reduceAdd, Int.reduceEq, sto, zC, yZ, yg, JW, xi, y5, yA, yu, yo, yk, yC]
    refine zi (by kernel_rfl) rfl (YZ (zeo (· ||| ·) a b) _) ?_
    simp -implicitDefEqProofs only [EE, ze, if_true, Nat.reduceAdd, sto, ldn, zo, zC]; rfl
  by_cases o18 : op = 18
  . subst o18
    simp -implicitDefEqProofs only [EE, nth, ↓nw, Value.cells, ↓BK, ze, Nat.reduceAdd, Int.reduceEq, sto, zC, yZ, yg, zaG, xw, xi, y5, yA, yu, yo, yk, yC]
    refine zi (by kernel_rfl) rfl (YZ (zeo (· ^^^ ·) a b) _) ?_
    simp -implicitDefEqProofs only [EE, ze, if_true, Nat.reduceAdd, sto, ldn, zo, zC]; rfl
  by_cases o19 : op = 19
  . subst o19
    by_cases b0 : b < 0
    . simp -implicitDefEqProofs only [EE, nth, ↓nw, Value.cells, ↓BK, ze, if_true, Nat.reduceAdd, Int.reduceEq, sto, ldn, zo, zC, yZ, yg, YY, qj, u1, xL, xw, xi, y5, yA, yu, yo, yk, yC, b0]; simp [isO, vB, uB, v0, b0]
    by_cases b1 : 63 < b
    . simp -implicitDefEqProofs only [EE, nth, ↓nw, Value.cells, ↓BK, ze, if_true, Nat.reduceAdd, Int.reduceEq, sto, ldn, zo, zC, yZ, yg, YY, qj, u1, xL, xw, xi, y5, yA, yu, yo, yk, yC, b0, b1]; simp [isO, vB, uB, v0, b1]
    have b2 : 0 <= b := by omega
    have b3 : min b.toNat 64 = b.toNat := by omega
    simp -implicitDefEqProofs only [EE, nth, ↓nw, Value.cells, ↓BK, ze, Nat.reduceAdd, Int.reduceEq, sto, zC, yZ, yg, zdd, W4, qj, u1, xL, xw, xi, y5, yA, yu, yo, yk, yC, b0, b1, b2, IntKind.bits, b3]
    refine zi (by kernel_rfl) rfl (YZ (w64 (a * 2 ^ b.toNat)) _) ?_
    simp -implicitDefEqProofs only [EE, ze, if_true, Nat.reduceAdd, sto, ldn, zo, zC]
    simp [isO, vB, uB, b0, b1]
  by_cases o20 : op = 20
  . subst o20
    by_cases b0 : b < 0
    . simp -implicitDefEqProofs only [EE, nth, ↓nw, Value.cells, ↓BK, ze, if_true, Nat.reduceAdd, Int.reduceEq, sto, ldn, zo, zC, yZ, yg, YY, qj, u1, xL, xw, xi, y5, yA, yu, yo, yk, yC, b0]; simp [isO, vB, uB, v0, b0]
    by_cases b1 : 63 < b
    . simp -implicitDefEqProofs only [EE, nth, ↓nw, Value.cells, ↓BK, ze, if_true, Nat.reduceAdd, Int.reduceEq, sto, ldn, zo, zC, yZ, yg, YY, qj, u1, xL, xw, xi, y5, yA, yu, yo, yk, yC, b0, b1]; simp [isO, vB, uB, v0, b1]
    have b2 : 0 <= b := by omega
    have b3 : min b.toNat 64 = b.toNat := by omega
    simp -implicitDefEqProofs only [EE, nth, ↓nw, Value.cells, ↓BK, ze, Nat.reduceAdd, Int.reduceEq, sto, zC, yZ, yg, zaV, W4, qj, u1, xL, xw, xi, y5, yA, yu, yo, yk, yC, b0, b1, b2, IntKind.bits, b3]
    refine zi (by kernel_rfl) rfl (YZ (a.fdiv (2 ^ b.toNat)) _) ?_
    simp -implicitDefEqProofs only [EE, ze, if_true, Nat.reduceAdd, sto, ldn, zo, zC]
    simp [isO, vB, uB, b0, b1]
  by_cases o21 : op = 21
  . subst o21
    simp -implicitDefEqProofs only [EE, nth, ↓nw, Value.cells, ↓BK, ze, Nat.reduceAdd, Int.reduceEq, sto, zC, yZ, yg, zaD, uv, xL, xw, xi, y5, yA, yu, yo, yk, yC]
    refine zi (by kernel_rfl) rfl (Yr (decide (a = b)) _) ?_
    simp -implicitDefEqProofs only [EE, ze, if_true, Nat.reduceAdd, sto, ldn, zo, zC]; rfl
  by_cases o22 : op = 22
  . subst o22
    simp -implicitDefEqProofs only [EE, nth, ↓nw, Value.cells, ↓BK, ze, Nat.reduceAdd, Int.reduceEq, sto, zC, yZ, yg, za9, u9, uv, xL, xw, xi, y5, yA, yu, yo, yk, yC]
    refine zi (by kernel_rfl) rfl (Yr (!decide (a = b)) _) ?_
    simp -implicitDefEqProofs only [EE, ze, if_true, Nat.reduceAdd, sto, ldn, zo, zC]; rfl
  by_cases o23 : op = 23
  . subst o23
    simp -implicitDefEqProofs only [EE, nth, ↓nw, Value.cells, ↓BK, ze, Nat.reduceAdd, Int.reduceEq, sto, zC, yZ, yg, zaW, q5, u9, uv, xL, xw, xi, y5, yA, yu, yo, yk, yC]
    refine zi (by kernel_rfl) rfl (Yr (decide (a < b)) _) ?_
    simp -implicitDefEqProofs only [EE, ze, if_true, Nat.reduceAdd, sto, ldn, zo, zC]; rfl
  by_cases o24 : op = 24
  . subst o24
    simp -implicitDefEqProofs only [EE, nth, ↓nw, Value.cells, ↓BK, ze, Nat.reduceAdd, Int.reduceEq, sto, zC, yZ, yg, JI, j0, q5, u9, uv, xL, xw, xi, y5, yA, yu, yo, yk, yC]
    refine zi (by kernel_rfl) rfl (Yr (decide (a <= b)) _) ?_
    simp -implicitDefEqProofs only [EE, ze, if_true, Nat.reduceAdd, sto, ldn, zo, zC]; rfl
  by_cases o25 : op = 25
  . subst o25
    simp -implicitDefEqProofs only [EE, nth, ↓nw, Value.cells, ↓BK, ze, Nat.reduceAdd, Int.reduceEq, sto, zC, yZ, yg, Jh, Xd, j0, q5, u9, uv, xL, xw, xi, y5, yA, yu, yo, yk, yC]
    refine zi (by kernel_rfl) rfl (Yr (decide (b < a)) _) ?_
    simp -implicitDefEqProofs only [EE, ze, if_true, Nat.reduceAdd, sto, ldn, zo, zC]; rfl
  by_cases o26 : op = 26
  . subst o26
    simp -implicitDefEqProofs only [EE, nth, ↓nw, Value.cells, ↓BK, ze, Nat.reduceAdd, Int.reduceEq, sto, zC, yZ, yg, J5, WZ, Xd, j0, q5, u9, uv, xL, xw, xi, y5, yA, yu, yo, yk, yC]
    refine zi (by kernel_rfl) rfl (Yr (decide (b <= a)) _) ?_
    simp -implicitDefEqProofs only [EE, ze, if_true, Nat.reduceAdd, sto, ldn, zo, zC]; rfl
  simp -implicitDefEqProofs only [EE, nth, ↓nw, Value.cells, ↓BK, ze, if_true, Nat.reduceAdd, sto, ldn, zo, zC, yZ, yg, WZ, Xd, j0, q5, u9, uv, xL, xw, xi, y5, yA, yu, yo, yk, yC, o11, o12, o13, o14, o15, o16, o17, o18, o19, o20, o21, o22, o23, o24, o25, o26]
  simp [isO, vB, uB, v0, o11, o12, o13, o14, o15, o16, o17, o18, o19, o20, o21, o22, o23, o24, o25, o26]
end Go.Rm
namespace Go.Rm
open Go.Ai Go.Proofs Go.Mem
open Go.Rtl (Ins Pg writesI)
set_option linter.unusedVariables false
set_option linter.unusedSimpArgs false
set_option maxRecDepth 10000
theorem zhJ (a : V) : ((a.k == (1 : Int)) && ((a.n == (0 : Int)) && (a.b == (0 : Int)))) = decide (a = ofV 0) := veq a (ofV 0)
theorem w6 (op : Int) (a b : V) (h : za) : xG Tryd.prog 75 [.int .i64 op, vv a, vv b] h (vB (wy op a b)) := by
  apply qh rfl
  apply zea
  unfold zfm
  simp -implicitDefEqProofs only [EE, ↓nw, Value.cells, ↓BK, if_true, Nat.reduceAdd, ldn, zo, yZ]
  refine zi (by kernel_rfl) rfl (xj a _) ?_
  have g4 : (((h.lock.push (.cells [.int .i64 a.k, .int .i64 a.n, .int .i64 a.b] 84)).push (.cells [.int .i64 b.k, .int .i64 b.n, .int .i64 b.b] 84)).push (.cells [.int .i64 0, .int .i64 0, .int .i64 0] 84)).get h.next = some (.cells [.int .i64 a.k, .int .i64 a.n, .int .i64 a.b] 84) := by
    rw [zu (by show h.next < h.next + 1 + 1; omega), zu (by show h.next < h.next + 1; omega)]; exact zw
  have g5 : (((h.lock.push (.cells [.int .i64 a.k, .int .i64 a.n, .int .i64 a.b] 84)).push (.cells [.int .i64 b.k, .int .i64 b.n, .int .i64 b.b] 84)).push (.cells [.int .i64 0, .int .i64 0, .int .i64 0] 84)).get (h.next + 1) = some (.cells [.int .i64 b.k, .int .i64 b.n, .int .i64 b.b] 84) := by
    rw [zu (by show h.next + 1 < h.next + 1 + 1; omega)]; exact zw
  have g6 : (((h.lock.push (.cells [.int .i64 a.k, .int .i64 a.n, .int .i64 a.b] 84)).push (.cells [.int .i64 b.k, .int .i64 b.n, .int .i64 b.b] 84)).push (.cells [.int .i64 0, .int .i64 0, .int .i64 0] 84)).get (h.next + 1 + 1) = some (.cells [.int .i64 0, .int .i64 0, .int .i64 0] 84) := zw
  have r6 : (((h.lock.push (.cells [.int .i64 a.k, .int .i64 a.n, .int .i64 a.b] 84)).push (.cells [.int .i64 b.k, .int .i64 b.n, .int .i64 b.b] 84)).push (.cells [.int .i64 0, .int .i64 0, .int .i64 0] 84)).ro <= h.next + 1 + 1 := by show h.next <= h.next + 1 + 1; omega
  generalize (((h.lock.push (.cells [.int .i64 a.k, .int .i64 a.n, .int .i64 a.b] 84)).push (.cells [.int .i64 b.k, .int .i64 b.n, .int .i64 b.b] 84)).push (.cells [.int .i64 0, .int .i64 0, .int .i64 0] 84)) = H at g4 g5 g6 r6 ⊢
  have g2 : ∀ v h', v = Value.tuple #[vv (jn (decide (a = b) == decide (op = 21))), .bool true] -> ((x7 a && x7 b) || ((x7 a && decide (b = ofV 0)) || (decide (a = ofV 0) && x7 b))) = true -> isO (vB (wy op a b)) v h' := by
    intro v h' e1 e2
    subst e1
    unfold wy
    rw [if_pos e2]; rfl
  have g1 : ∀ h', ((x7 a && x7 b) || ((x7 a && decide (b = ofV 0)) || (decide (a = ofV 0) && x7 b))) = false -> isO (vB (wy op a b)) (.tuple #[vv v0, .bool false]) h' := by
    intro h' e2
    unfold wy
    rw [if_neg (by rw [e2]; decide)]; rfl
  have yes : ∀ J, ((x7 a && x7 b) || ((x7 a && decide (b = ofV 0)) || (decide (a = ofV 0) && x7 b))) = true -> VG (.pointer (some ⟨h.next, 0, none⟩)) H (.pointer (some ⟨h.next + 1, 0, none⟩)) (.int .i64 op) (.pointer (some ⟨h.next + 1 + 1, 0, none⟩)) (isO (vB (wy op a b))) J := by
    intro J e
    simp -implicitDefEqProofs only [EE, if_true, Nat.reduceAdd, ldn, zo, zob, Z3, VG, g4, g5]
    rw [veq a b]
    refine zi (by kernel_rfl) rfl (Yr _ _) ?_
    simp -implicitDefEqProofs only [EE, ze, if_true, Nat.reduceAdd, sto, ldn, zo, zC, g6, r6]
    exact g2 _ _ rfl e
  have no : ∀ vs, ((x7 a && x7 b) || ((x7 a && decide (b = ofV 0)) || (decide (a = ofV 0) && x7 b))) = false -> Uk (.pointer (some ⟨h.next + 1 + 1, 0, none⟩)) (isO (vB (wy op a b))) vs H := by
    intro vs e
    simp -implicitDefEqProofs only [EE, ze, if_true, Nat.reduceAdd, sto, ldn, zo, zC, yg, Uk, g6, r6]
    exact g1 _ e
  cases pa : x7 a with
  | true =>
    simp -implicitDefEqProofs only [EE, if_true, Nat.reduceAdd, ldn, zo, UA, g5]
    refine zi (by kernel_rfl) rfl (xj b _) ?_
    cases pb : x7 b with
    | true =>
      simp -implicitDefEqProofs only [EE, nth, Y4]
      exact yes _ (by rw [pa, pb]; rfl)
    | false =>
      simp -implicitDefEqProofs only [EE, if_true, Nat.reduceAdd, ldn, zo, W0, Y4, g4]
      refine vi (by kernel_rfl) rfl (xj a _).dc ?_
      rintro _ _ ⟨rfl, rfl⟩
      rw [pa]
      simp -implicitDefEqProofs only [EE, if_true, Nat.reduceAdd, ldn, zo, Vv, g5]
      refine wQ (by kernel_rfl) rfl (YZ 0 _) ?_
      simp -implicitDefEqProofs only [EE, Z3, ofV]
      rw [zhJ b]
      cases eb : decide (b = ofV 0) with
      | true =>
        simp -implicitDefEqProofs only [EE, nth, Y6]
        exact yes _ (by rw [pa, pb, eb]; rfl)
      | false =>
        simp -implicitDefEqProofs only [EE, if_true, Nat.reduceAdd, ldn, zo, Y6, g4]
        refine wQ (by kernel_rfl) rfl (YZ 0 _) ?_
        simp -implicitDefEqProofs only [EE, Z3, Vh, ofV]
        rw [zhJ a]
        cases ea : decide (a = ofV 0) with
        | true =>
          simp -implicitDefEqProofs only [EE, if_true, Nat.reduceAdd, ldn, zo, g5]
          refine vi (by kernel_rfl) rfl (xj b _).dc ?_
          rintro _ _ ⟨rfl, rfl⟩
          rw [pb]
          simp -implicitDefEqProofs only [EE, nth]
          exact no _ (by rw [pa, pb, eb, ea]; rfl)
        | false =>
          simp -implicitDefEqProofs only [EE, nth]
          exact no _ (by rw [pa, pb, eb, ea]; rfl)
  | false =>
    simp -implicitDefEqProofs only [EE, if_true, Nat.reduceAdd, ldn, zo, W0, Y4, UA, g4]
    refine vi (by kernel_rfl) rfl (xj a _).dc ?_
    rintro _ _ ⟨rfl, rfl⟩
    rw [pa]
    simp -implicitDefEqProofs only [EE, if_true, Nat.reduceAdd, ldn, zo, Y6, Vv, g4]
    refine wQ (by kernel_rfl) rfl (YZ 0 _) ?_
    simp -implicitDefEqProofs only [EE, Z3, Vh, ofV]
    rw [zhJ a]
    cases ea : decide (a = ofV 0) with
    | true =>
      simp -implicitDefEqProofs only [EE, if_true, Nat.reduceAdd, ldn, zo, g5]
      refine vi (by kernel_rfl) rfl (xj b _).dc ?_
      rintro _ _ ⟨rfl, rfl⟩
      cases pb : x7 b with
      | true =>
        simp -implicitDefEqProofs only [EE, nth]
        exact yes _ (by rw [pa, pb, ea]; cases decide (b = ofV 0) <;> rfl)
      | false =>
        simp -implicitDefEqProofs only [EE, nth]
        exact no _ (by rw [pa, pb, ea]; rfl)
    | false =>
      simp -implicitDefEqProofs only [EE, nth]
      exact no _ (by rw [pa, ea]; rfl)
theorem zn9 (a : Int) : aun Tryd.prog .xor (.int .i64 a) = some (.int .i64 (notM a)) := rfl
end Go.Rm
namespace Go.Rm
open Go.Ai Go.Proofs Go.Mem
open Go.Rtl (Ins Pg writesI)
set_option linter.unusedVariables false
set_option linter.unusedSimpArgs false
set_option maxRecDepth 10000
theorem zoQ (op : Int) (a : V) (h : za) : xG Tryd.prog 48 [.int .i64 op, vv a] h (vB (unM op a)) := by
  apply qh rfl
  apply zln
  unfold zoC
  simp -implicitDefEqProofs only [EE, ↓nw, Value.cells, if_true, Nat.reduceAdd, ldn, zo, yZ]
  refine zi (by kernel_rfl) rfl (yO a _) ?_
  have g3 : ((h.lock.push (.cells [.int .i64 a.k, .int .i64 a.n, .int .i64 a.b] 84)).push (.cells [.int .i64 0, .int .i64 0, .int .i64 0] 84)).get h.next = some (.cells [.int .i64 a.k, .int .i64 a.n, .int .i64 a.b] 84) := by
    rw [zu (by show h.next < h.next + 1; omega)]; exact zw
  have g4 : ((h.lock.push (.cells [.int .i64 a.k, .int .i64 a.n, .int .i64 a.b] 84)).push (.cells [.int .i64 0, .int .i64 0, .int .i64 0] 84)).get (h.next + 1) = some (.cells [.int .i64 0, .int .i64 0, .int .i64 0] 84) := zw
  have r4 : ((h.lock.push (.cells [.int .i64 a.k, .int .i64 a.n, .int .i64 a.b] 84)).push (.cells [.int .i64 0, .int .i64 0, .int .i64 0] 84)).ro <= h.next + 1 := by show h.next <= h.next + 1; omega
  generalize ((h.lock.push (.cells [.int .i64 a.k, .int .i64 a.n, .int .i64 a.b] 84)).push (.cells [.int .i64 0, .int .i64 0, .int .i64 0] 84)) = H at g3 g4 r4 ⊢
  cases hi : isInt a with
  | false =>
    simp -implicitDefEqProofs only [EE, ze, if_true, Nat.reduceAdd, sto, ldn, zo, zC, yg, zkb, g4, r4]
    simp [isO, vB, unM, hi, v0]
  | true =>
    simp -implicitDefEqProofs only [EE, ↓BK]
    by_cases o1 : op = 1
    . subst o1
      simp -implicitDefEqProofs only [EE, ld1, vK, yI, zjt, Qu, g3]
      refine zi (by kernel_rfl) rfl (YZ (w64 (0 - a.n)) _) ?_
      simp -implicitDefEqProofs only [EE, ze, if_true, Nat.reduceAdd, sto, ldn, zo, zC, g4, r4]
      simp [isO, vB, unM, hi, w64]
    by_cases o2 : op = 2
    . subst o2
      simp -implicitDefEqProofs only [EE, Int.reduceEq, ld1, vK, yI, zjD, zaz, Qu, g3, zn9]
      refine zi (by kernel_rfl) rfl (YZ (notM a.n) _) ?_
      simp -implicitDefEqProofs only [EE, ze, if_true, Nat.reduceAdd, sto, ldn, zo, zC, g4, r4]
      simp [isO, vB, unM, hi]
    by_cases o3 : op = 3
    . subst o3
      simp -implicitDefEqProofs only [EE, Int.reduceEq, ld1, vK, uI, zjj, yI, zjO, zc5, zaz, Qu, g3]
      refine zi (by kernel_rfl) rfl (YZ (w64 (IntKind.wrap .i8 a.n)) _) ?_
      simp -implicitDefEqProofs only [EE, ze, if_true, Nat.reduceAdd, sto, ldn, zo, zC, g4, r4]
      simp [isO, vB, unM, hi, w64]
    by_cases o4 : op = 4
    . subst o4
      simp -implicitDefEqProofs only [EE, Int.reduceEq, ld1, vK, kF, zk8, yI, zjF, zfU, zc5, zaz, Qu, g3]
      refine zi (by kernel_rfl) rfl (YZ (w64 (IntKind.wrap .i32 a.n)) _) ?_
      simp -implicitDefEqProofs only [EE, ze, if_true, Nat.reduceAdd, sto, ldn, zo, zC, g4, r4]
      simp [isO, vB, unM, hi, w64]
    simp -implicitDefEqProofs only [EE, ze, if_true, Nat.reduceAdd, sto, ldn, zo, zC, yg, zfU, zc5, zaz, Qu, zhl, g4, r4, o1, o2, o3, o4]
    simp [isO, vB, unM, hi, v0, o1, o2, o3, o4]
theorem yF (o : Option V) : vB o = .tuple #[.agg #[.int .i64 (o.getD v0).k, .int .i64 (o.getD v0).n, .int .i64 (o.getD v0).b], .bool o.isSome] := rfl
theorem kinds (a : V) : (isInt a = true /\ x7 a = false) \/ (isInt a = false /\ x7 a = true) \/ (isInt a = false /\ x7 a = false) := by
  unfold isInt x7
  by_cases h1 : a.k = 1
  . have h2 : ¬ a.k = 2 := by omega
    cases Uv a <;> simp [h1]
  . by_cases h2 : a.k = 2
    . cases Uv a <;> simp [h2]
    . simp [h1, h2]
theorem zkR (op : Int) (a b : V) (h : za) : xG Tryd.prog 51 [.int .i64 op, vv a, vv b] h (vB (xY op a b)) := by
  apply qh rfl
  apply zio
  unfold zmT
  simp -implicitDefEqProofs only [EE, ↓nw, Value.cells, ↓BK, if_true, Nat.reduceAdd, ldn, zo, yZ, zcH]
  refine zi (by kernel_rfl) rfl (yO a _) ?_
  have g4 : (((h.lock.push (.cells [.int .i64 a.k, .int .i64 a.n, .int .i64 a.b] 84)).push (.cells [.int .i64 b.k, .int .i64 b.n, .int .i64 b.b] 84)).push (.cells [.int .i64 0, .int .i64 0, .int .i64 0] 84)).get h.next = some (.cells [.int .i64 a.k, .int .i64 a.n, .int .i64 a.b] 84) := by
    rw [zu (by show h.next < h.next + 1 + 1; omega), zu (by show h.next < h.next + 1; omega)]; exact zw
  have g5 : (((h.lock.push (.cells [.int .i64 a.k, .int .i64 a.n, .int .i64 a.b] 84)).push (.cells [.int .i64 b.k, .int .i64 b.n, .int .i64 b.b] 84)).push (.cells [.int .i64 0, .int .i64 0, .int .i64 0] 84)).get (h.next + 1) = some (.cells [.int .i64 b.k, .int .i64 b.n, .int .i64 b.b] 84) := by
    rw [zu (by show h.next + 1 < h.next + 1 + 1; omega)]; exact zw
  have g6 : (((h.lock.push (.cells [.int .i64 a.k, .int .i64 a.n, .int .i64 a.b] 84)).push (.cells [.int .i64 b.k, .int .i64 b.n, .int .i64 b.b] 84)).push (.cells [.int .i64 0, .int .i64 0, .int .i64 0] 84)).get (h.next + 1 + 1) = some (.cells [.int .i64 0, .int .i64 0, .int .i64 0] 84) := zw
  have r6 : (((h.lock.push (.cells [.int .i64 a.k, .int .i64 a.n, .int .i64 a.b] 84)).push (.cells [.int .i64 b.k, .int .i64 b.n, .int .i64 b.b] 84)).push (.cells [.int .i64 0, .int .i64 0, .int .i64 0] 84)).ro <= h.next + 1 + 1 := by show h.next <= h.next + 1 + 1; omega
  generalize (((h.lock.push (.cells [.int .i64 a.k, .int .i64 a.n, .int .i64 a.b] 84)).push (.cells [.int .i64 b.k, .int .i64 b.n, .int .i64 b.b] 84)).push (.cells [.int .i64 0, .int .i64 0, .int .i64 0] 84)) = H at g4 g5 g6 r6 ⊢
  have xa : (isInt a = true /\ x7 a = false) \/ (isInt a = false /\ x7 a = true) \/ (isInt a = false /\ x7 a = false) := kinds a
  have xb : (isInt b = true /\ x7 b = false) \/ (isInt b = false /\ x7 b = true) \/ (isInt b = false /\ x7 b = false) := kinds b
  by_cases o11 : op = 11
  . subst o11
    rcases xa with ⟨ia, pa⟩ | ⟨ia, pa⟩ | ⟨ia, pa⟩ <;> rcases xb with ⟨ib, pb⟩ | ⟨ib, pb⟩ | ⟨ib, pb⟩
    . have e : xY 11 a b = uB 11 a.n b.n := by simp [xY, ia, ib]
      rw [e]
      simp -implicitDefEqProofs only [EE, if_true, Nat.reduceAdd, ldn, zo, zK, g5, ia]
      repeat (first | (refine zi (by kernel_rfl) rfl (yO b H) ?_; simp -implicitDefEqProofs only [EE, ld1, vK, yI, Zk, g4, g5, ia, ib]))
      refine zi (by kernel_rfl) rfl (K6 _ a.n b.n H) ?_
      simp only [yF, EE, ze, if_true, Nat.reduceAdd, sto, ldn, zo, zC, X6, g6, r6]; rfl
    . simp -implicitDefEqProofs only [EE, if_true, Nat.reduceAdd, ldn, zo, zK, g5, ia]
      repeat (first | (refine zi (by kernel_rfl) rfl (yO a H) ?_; simp -implicitDefEqProofs only [EE, if_true, Nat.reduceAdd, ldn, zo, zX, g5, ia]) | (refine zi (by kernel_rfl) rfl (yO b H) ?_; simp -implicitDefEqProofs only [EE, if_true, Nat.reduceAdd, ldn, zo, zR, zT, g4, ia, ib]) | (refine zi (by kernel_rfl) rfl (xj a H) ?_; simp -implicitDefEqProofs only [EE, if_true, Nat.reduceAdd, ldn, zo, zW, zY, zS, g4, pa]) | (refine zi (by kernel_rfl) rfl (xj b H) ?_; simp -implicitDefEqProofs only [EE, ld1, vK, yc, yI, xC, zf6, g4, g5, pb]))
      refine zi (by kernel_rfl) rfl (zmL b.b (w64 (a.n + b.n)) H) ?_
      simp -implicitDefEqProofs only [EE, ze, if_true, Nat.reduceAdd, sto, ldn, zo, zC, g6, r6]
      simp [isO, vB, xY, ia, ib, pa, pb]
    . simp -implicitDefEqProofs only [EE, if_true, Nat.reduceAdd, ldn, zo, zK, g5, ia]
      repeat (first | (refine zi (by kernel_rfl) rfl (yO a H) ?_; simp -implicitDefEqProofs only [EE, if_true, Nat.reduceAdd, ldn, zo, zX, g5, ia]) | (refine zi (by kernel_rfl) rfl (yO b H) ?_; simp -implicitDefEqProofs only [EE, if_true, Nat.reduceAdd, ldn, zo, zR, zT, g4, ia, ib]) | (refine zi (by kernel_rfl) rfl (xj a H) ?_; simp -implicitDefEqProofs only [EE, if_true, Nat.reduceAdd, ldn, zo, zW, zY, zS, g4, pa]) | (refine zi (by kernel_rfl) rfl (xj b H) ?_; simp -implicitDefEqProofs only [EE, ze, if_true, Nat.reduceAdd, Int.reduceEq, sto, ldn, zo, zC, yg, yz, yB, yE, yx, yw, ya, yV, g6, r6, pb]))
      simp [isO, vB, xY, ia, ib, pa, pb, v0]
    . simp -implicitDefEqProofs only [EE, if_true, Nat.reduceAdd, ldn, zo, zR, zT, zK, g4, ia]
      repeat (first | (refine zi (by kernel_rfl) rfl (yO b H) ?_; simp -implicitDefEqProofs only [EE, ld1, vK, yc, yI, xC, zcJ, g4, g5, ib]) | (refine zi (by kernel_rfl) rfl (xj a H) ?_; simp -implicitDefEqProofs only [EE, if_true, Nat.reduceAdd, ldn, zo, zS, g5, pa]))
      refine zi (by kernel_rfl) rfl (zmL a.b (w64 (a.n + b.n)) H) ?_
      simp -implicitDefEqProofs only [EE, ze, if_true, Nat.reduceAdd, sto, ldn, zo, zC, g6, r6]
      simp [isO, vB, xY, ia, ib, pa]
    . simp -implicitDefEqProofs only [EE, if_true, Nat.reduceAdd, ldn, zo, zR, zT, zK, g4, ia]
      repeat (first | (refine zi (by kernel_rfl) rfl (yO a H) ?_; simp -implicitDefEqProofs only [EE, ze, if_true, Nat.reduceAdd, Int.reduceEq, sto, ldn, zo, zC, yg, yz, yB, yE, yx, yw, ya, zX, yV, g6, r6, ia]) | (refine zi (by kernel_rfl) rfl (yO b H) ?_; simp -implicitDefEqProofs only [EE, if_true, Nat.reduceAdd, ldn, zo, zW, zY, g4, ib]) | (refine zi (by kernel_rfl) rfl (xj a H) ?_; simp -implicitDefEqProofs only [EE, if_true, Nat.reduceAdd, ldn, zo, zS, g5, pa]))
      simp [isO, vB, xY, ia, ib, pa, pb, v0]
    . simp -implicitDefEqProofs only [EE, if_true, Nat.reduceAdd, ldn, zo, zR, zT, zK, g4, ia]
      repeat (first | (refine zi (by kernel_rfl) rfl (yO a H) ?_; simp -implicitDefEqProofs only [EE, ze, if_true, Nat.reduceAdd, Int.reduceEq, sto, ldn, zo, zC, yg, yz, yB, yE, yx, yw, ya, zX, yV, g6, r6, ia]) | (refine zi (by kernel_rfl) rfl (yO b H) ?_; simp -implicitDefEqProofs only [EE, if_true, Nat.reduceAdd, ldn, zo, zW, zY, g4, ib]) | (refine zi (by kernel_rfl) rfl (xj a H) ?_; simp -implicitDefEqProofs only [EE, if_true, Nat.reduceAdd, ldn, zo, zS, g5, pa]))
      simp [isO, vB, xY, ia, ib, pa, pb, v0]
    . simp -implicitDefEqProofs only [EE, if_true, Nat.reduceAdd, ldn, zo, zR, zT, zK, g4, ia]
      repeat (first | (refine zi (by kernel_rfl) rfl (yO a H) ?_; simp -implicitDefEqProofs only [EE, ze, if_true, Nat.reduceAdd, Int.reduceEq, sto, ldn, zo, zC, yg, yz, yB, yE, yx, yw, ya, zX, yV, g6, r6, ia]) | (refine zi (by kernel_rfl) rfl (xj a H) ?_; simp -implicitDefEqProofs only [EE, if_true, Nat.reduceAdd, ldn, zo, zW, zY, zS, g4, pa]))
      simp [isO, vB, xY, ia, ib, pa, pb, v0]
    . simp -implicitDefEqProofs only [EE, if_true, Nat.reduceAdd, ldn, zo, zR, zT, zK, g4, ia]
      repeat (first | (refine zi (by kernel_rfl) rfl (yO a H) ?_; simp -implicitDefEqProofs only [EE, ze, if_true, Nat.reduceAdd, Int.reduceEq, sto, ldn, zo, zC, yg, yz, yB, yE, yx, yw, ya, zX, yV, g6, r6, ia]) | (refine zi (by kernel_rfl) rfl (xj a H) ?_; simp -implicitDefEqProofs only [EE, if_true, Nat.reduceAdd, ldn, zo, zW, zY, zS, g4, pa]))
      simp [isO, vB, xY, ia, ib, pa, pb, v0]
    . simp -implicitDefEqProofs only [EE, if_true, Nat.reduceAdd, ldn, zo, zR, zT, zK, g4, ia]
      repeat (first | (refine zi (by kernel_rfl) rfl (yO a H) ?_; simp -implicitDefEqProofs only [EE, ze, if_true, Nat.reduceAdd, Int.reduceEq, sto, ldn, zo, zC, yg, yz, yB, yE, yx, yw, ya, zX, yV, g6, r6, ia]) | (refine zi (by kernel_rfl) rfl (xj a H) ?_; simp -implicitDefEqProofs only [EE, if_true, Nat.reduceAdd, ldn, zo, zW, zY, zS, g4, pa]))
      simp [isO, vB, xY, ia, ib, pa, pb, v0]
  by_cases o12 : op = 12
  . subst o12
    rcases xa with ⟨ia, pa⟩ | ⟨ia, pa⟩ | ⟨ia, pa⟩ <;> rcases xb with ⟨ib, pb⟩ | ⟨ib, pb⟩ | ⟨ib, pb⟩
    . have e : xY 12 a b = uB 12 a.n b.n := by simp [xY, ia, ib]
      rw [e]
      simp -implicitDefEqProofs only [EE, if_true, Nat.reduceAdd, ldn, zo, zK, g5, ia]
      repeat (first | (refine zi (by kernel_rfl) rfl (yO b H) ?_; simp -implicitDefEqProofs only [EE, ld1, vK, yI, Zk, g4, g5, ia, ib]))
      refine zi (by kernel_rfl) rfl (K6 _ a.n b.n H) ?_
      simp only [yF, EE, ze, if_true, Nat.reduceAdd, sto, ldn, zo, zC, X6, g6, r6]; rfl
    . simp -implicitDefEqProofs only [EE, if_true, Nat.reduceAdd, ldn, zo, zK, g5, ia]
      repeat (first | (refine zi (by kernel_rfl) rfl (yO b H) ?_; simp -implicitDefEqProofs only [EE, if_true, Nat.reduceAdd, Int.reduceEq, ldn, zo, yw, ya, zX, zW, zY, zS, zR, zT, g4, ia, ib]) | (refine zi (by kernel_rfl) rfl (xj a H) ?_; simp -implicitDefEqProofs only [EE, ze, if_true, Nat.reduceAdd, Int.reduceEq, sto, ldn, zo, zC, yg, yz, yB, yE, yx, yV, g6, r6, pa]))
      simp [isO, vB, xY, ia, ib, pa, pb, v0]
    . simp -implicitDefEqProofs only [EE, if_true, Nat.reduceAdd, ldn, zo, zK, g5, ia]
      repeat (first | (refine zi (by kernel_rfl) rfl (yO b H) ?_; simp -implicitDefEqProofs only [EE, if_true, Nat.reduceAdd, Int.reduceEq, ldn, zo, yw, ya, zX, zW, zY, zS, zR, zT, g4, ia, ib]) | (refine zi (by kernel_rfl) rfl (xj a H) ?_; simp -implicitDefEqProofs only [EE, ze, if_true, Nat.reduceAdd, Int.reduceEq, sto, ldn, zo, zC, yg, yz, yB, yE, yx, yV, g6, r6, pa]))
      simp [isO, vB, xY, ia, ib, pa, pb, v0]
    . simp -implicitDefEqProofs only [EE, if_true, Nat.reduceAdd, Int.reduceEq, ldn, zo, yw, ya, zX, zW, zY, zS, zR, zT, zK, g4, ia]
      repeat (first | (refine zi (by kernel_rfl) rfl (yO b H) ?_; simp -implicitDefEqProofs only [EE, ld1, vK, yc, yI, xC, zfB, g4, g5, ib]) | (refine zi (by kernel_rfl) rfl (xj a H) ?_; simp -implicitDefEqProofs only [EE, if_true, Nat.reduceAdd, ldn, zo, yx, g5, pa]))
      refine zi (by kernel_rfl) rfl (zmL a.b (w64 (a.n - b.n)) H) ?_
      simp -implicitDefEqProofs only [EE, ze, if_true, Nat.reduceAdd, sto, ldn, zo, zC, g6, r6]
      simp [isO, vB, xY, ia, ib, pa, pb]
    . simp -implicitDefEqProofs only [EE, if_true, Nat.reduceAdd, Int.reduceEq, ldn, zo, yw, ya, zX, zW, zY, zS, zR, zT, zK, g4, ia]
      repeat (first | (refine zi (by kernel_rfl) rfl (yO b H) ?_; simp -implicitDefEqProofs only [EE, ze, if_true, Nat.reduceAdd, Int.reduceEq, sto, ldn, zo, zC, yg, yz, yB, yE, yV, g6, r6, ib]) | (refine zi (by kernel_rfl) rfl (xj a H) ?_; simp -implicitDefEqProofs only [EE, if_true, Nat.reduceAdd, ldn, zo, yx, g5, pa]))
      simp [isO, vB, xY, ia, ib, pa, pb, v0]
    . simp -implicitDefEqProofs only [EE, if_true, Nat.reduceAdd, Int.reduceEq, ldn, zo, yw, ya, zX, zW, zY, zS, zR, zT, zK, g4, ia]
      repeat (first | (refine zi (by kernel_rfl) rfl (yO b H) ?_; simp -implicitDefEqProofs only [EE, ze, if_true, Nat.reduceAdd, Int.reduceEq, sto, ldn, zo, zC, yg, yz, yB, yE, yV, g6, r6, ib]) | (refine zi (by kernel_rfl) rfl (xj a H) ?_; simp -implicitDefEqProofs only [EE, if_true, Nat.reduceAdd, ldn, zo, yx, g5, pa]))
      simp [isO, vB, xY, ia, ib, pa, pb, v0]
    . simp -implicitDefEqProofs only [EE, if_true, Nat.reduceAdd, Int.reduceEq, ldn, zo, yw, ya, zX, zW, zY, zS, zR, zT, zK, g4, ia]
      repeat (first | (refine zi (by kernel_rfl) rfl (xj a H) ?_; simp -implicitDefEqProofs only [EE, ze, if_true, Nat.reduceAdd, Int.reduceEq, sto, ldn, zo, zC, yg, yz, yB, yE, yx, yV, g6, r6, pa]))
      simp [isO, vB, xY, ia, ib, pa, pb, v0]
    . simp -implicitDefEqProofs only [EE, if_true, Nat.reduceAdd, Int.reduceEq, ldn, zo, yw, ya, zX, zW, zY, zS, zR, zT, zK, g4, ia]
      repeat (first | (refine zi (by kernel_rfl) rfl (xj a H) ?_; simp -implicitDefEqProofs only [EE, ze, if_true, Nat.reduceAdd, Int.reduceEq, sto, ldn, zo, zC, yg, yz, yB, yE, yx, yV, g6, r6, pa]))
      simp [isO, vB, xY, ia, ib, pa, pb, v0]
    . simp -implicitDefEqProofs only [EE, if_true, Nat.reduceAdd, Int.reduceEq, ldn, zo, yw, ya, zX, zW, zY, zS, zR, zT, zK, g4, ia]
      repeat (first | (refine zi (by kernel_rfl) rfl (xj a H) ?_; simp -implicitDefEqProofs only [EE, ze, if_true, Nat.reduceAdd, Int.reduceEq, sto, ldn, zo, zC, yg, yz, yB, yE, yx, yV, g6, r6, pa]))
      simp [isO, vB, xY, ia, ib, pa, pb, v0]
  by_cases o21 : op = 21
  . subst o21
    rcases xa with ⟨ia, pa⟩ | ⟨ia, pa⟩ | ⟨ia, pa⟩ <;> rcases xb with ⟨ib, pb⟩ | ⟨ib, pb⟩ | ⟨ib, pb⟩
    . have e : xY 21 a b = uB 21 a.n b.n := by simp [xY, ia, ib]
      rw [e]
      simp -implicitDefEqProofs only [EE, if_true, Nat.reduceAdd, ldn, zo, zK, g5, ia]
      repeat (first | (refine zi (by kernel_rfl) rfl (yO b H) ?_; simp -implicitDefEqProofs only [EE, ld1, vK, yI, Zk, g4, g5, ia, ib]))
      refine zi (by kernel_rfl) rfl (K6 _ a.n b.n H) ?_
      simp only [yF, EE, ze, if_true, Nat.reduceAdd, sto, ldn, zo, zC, X6, g6, r6]; rfl
    . have e : xY 21 a b = wy 21 a b := by simp [xY, ia, ib, pa, pb]
      rw [e]
      simp -implicitDefEqProofs only [EE, if_true, Nat.reduceAdd, ldn, zo, zK, g5, ia]
      repeat (first | (refine zi (by kernel_rfl) rfl (yO b H) ?_; simp -implicitDefEqProofs only [EE, if_true, Nat.reduceAdd, Int.reduceEq, ldn, zo, yz, yB, yE, yx, yw, ya, zX, zW, zY, zS, zR, zT, g4, g5, ia, ib]))
      refine zi (by kernel_rfl) rfl (w6 _ a b H) ?_
      simp only [yF, EE, ze, if_true, Nat.reduceAdd, sto, ldn, zo, zC, wJ, g6, r6]; rfl
    . have e : xY 21 a b = wy 21 a b := by simp [xY, ia, ib, pa, pb]
      rw [e]
      simp -implicitDefEqProofs only [EE, if_true, Nat.reduceAdd, ldn, zo, zK, g5, ia]
      repeat (first | (refine zi (by kernel_rfl) rfl (yO b H) ?_; simp -implicitDefEqProofs only [EE, if_true, Nat.reduceAdd, Int.reduceEq, ldn, zo, yz, yB, yE, yx, yw, ya, zX, zW, zY, zS, zR, zT, g4, g5, ia, ib]))
      refine zi (by kernel_rfl) rfl (w6 _ a b H) ?_
      simp only [yF, EE, ze, if_true, Nat.reduceAdd, sto, ldn, zo, zC, wJ, g6, r6]; rfl
    . have e : xY 21 a b = wy 21 a b := by simp [xY, ia, ib, pa, pb]
      rw [e]
      simp -implicitDefEqProofs only [EE, if_true, Nat.reduceAdd, Int.reduceEq, ldn, zo, yz, yB, yE, yx, yw, ya, zX, zW, zY, zS, zR, zT, zK, g4, g5, ia]
      skip
      refine zi (by kernel_rfl) rfl (w6 _ a b H) ?_
      simp only [yF, EE, ze, if_true, Nat.reduceAdd, sto, ldn, zo, zC, wJ, g6, r6]; rfl
    . have e : xY 21 a b = wy 21 a b := by simp [xY, ia, ib, pa, pb]
      rw [e]
      simp -implicitDefEqProofs only [EE, if_true, Nat.reduceAdd, Int.reduceEq, ldn, zo, yz, yB, yE, yx, yw, ya, zX, zW, zY, zS, zR, zT, zK, g4, g5, ia]
      skip
      refine zi (by kernel_rfl) rfl (w6 _ a b H) ?_
      simp only [yF, EE, ze, if_true, Nat.reduceAdd, sto, ldn, zo, zC, wJ, g6, r6]; rfl
    . have e : xY 21 a b = wy 21 a b := by simp [xY, ia, ib, pa, pb]
      rw [e]
      simp -implicitDefEqProofs only [EE, if_true, Nat.reduceAdd, Int.reduceEq, ldn, zo, yz, yB, yE, yx, yw, ya, zX, zW, zY, zS, zR, zT, zK, g4, g5, ia]
      skip
      refine zi (by kernel_rfl) rfl (w6 _ a b H) ?_
      simp only [yF, EE, ze, if_true, Nat.reduceAdd, sto, ldn, zo, zC, wJ, g6, r6]; rfl
    . have e : xY 21 a b = wy 21 a b := by simp [xY, ia, ib, pa, pb]
      rw [e]
      simp -implicitDefEqProofs only [EE, if_true, Nat.reduceAdd, Int.reduceEq, ldn, zo, yz, yB, yE, yx, yw, ya, zX, zW, zY, zS, zR, zT, zK, g4, g5, ia]
      skip
      refine zi (by kernel_rfl) rfl (w6 _ a b H) ?_
      simp only [yF, EE, ze, if_true, Nat.reduceAdd, sto, ldn, zo, zC, wJ, g6, r6]; rfl
    . have e : xY 21 a b = wy 21 a b := by simp [xY, ia, ib, pa, pb]
      rw [e]
      simp -implicitDefEqProofs only [EE, if_true, Nat.reduceAdd, Int.reduceEq, ldn, zo, yz, yB, yE, yx, yw, ya, zX, zW, zY, zS, zR, zT, zK, g4, g5, ia]
      skip
      refine zi (by kernel_rfl) rfl (w6 _ a b H) ?_
      simp only [yF, EE, ze, if_true, Nat.reduceAdd, sto, ldn, zo, zC, wJ, g6, r6]; rfl
    . have e : xY 21 a b = wy 21 a b := by simp [xY, ia, ib, pa, pb]
      rw [e]
      simp -implicitDefEqProofs only [EE, if_true, Nat.reduceAdd, Int.reduceEq, ldn, zo, yz, yB, yE, yx, yw, ya, zX, zW, zY, zS, zR, zT, zK, g4, g5, ia]
      skip
      refine zi (by kernel_rfl) rfl (w6 _ a b H) ?_
      simp only [yF, EE, ze, if_true, Nat.reduceAdd, sto, ldn, zo, zC, wJ, g6, r6]; rfl
  by_cases o22 : op = 22
  . subst o22
    rcases xa with ⟨ia, pa⟩ | ⟨ia, pa⟩ | ⟨ia, pa⟩ <;> rcases xb with ⟨ib, pb⟩ | ⟨ib, pb⟩ | ⟨ib, pb⟩
    . have e : xY 22 a b = uB 22 a.n b.n := by simp [xY, ia, ib]
      rw [e]
      simp -implicitDefEqProofs only [EE, if_true, Nat.reduceAdd, ldn, zo, zK, g5, ia]
      repeat (first | (refine zi (by kernel_rfl) rfl (yO b H) ?_; simp -implicitDefEqProofs only [EE, ld1, vK, yI, Zk, g4, g5, ia, ib]))
      refine zi (by kernel_rfl) rfl (K6 _ a.n b.n H) ?_
      simp only [yF, EE, ze, if_true, Nat.reduceAdd, sto, ldn, zo, zC, X6, g6, r6]; rfl
    . have e : xY 22 a b = wy 22 a b := by simp [xY, ia, ib, pa, pb]
      rw [e]
      simp -implicitDefEqProofs only [EE, if_true, Nat.reduceAdd, ldn, zo, zK, g5, ia]
      repeat (first | (refine zi (by kernel_rfl) rfl (yO b H) ?_; simp -implicitDefEqProofs only [EE, if_true, Nat.reduceAdd, Int.reduceEq, ldn, zo, yz, yB, yE, yx, yw, ya, zX, zW, zY, zS, zR, zT, g4, g5, ia, ib]))
      refine zi (by kernel_rfl) rfl (w6 _ a b H) ?_
      simp only [yF, EE, ze, if_true, Nat.reduceAdd, sto, ldn, zo, zC, wJ, g6, r6]; rfl
    . have e : xY 22 a b = wy 22 a b := by simp [xY, ia, ib, pa, pb]
      rw [e]
      simp -implicitDefEqProofs only [EE, if_true, Nat.reduceAdd, ldn, zo, zK, g5, ia]
      repeat (first | (refine zi (by kernel_rfl) rfl (yO b H) ?_; simp -implicitDefEqProofs only [EE, if_true, Nat.reduceAdd, Int.reduceEq, ldn, zo, yz, yB, yE, yx, yw, ya, zX, zW, zY, zS, zR, zT, g4, g5, ia, ib]))
      refine zi (by kernel_rfl) rfl (w6 _ a b H) ?_
      simp only [yF, EE, ze, if_true, Nat.reduceAdd, sto, ldn, zo, zC, wJ, g6, r6]; rfl
    . have e : xY 22 a b = wy 22 a b := by simp [xY, ia, ib, pa, pb]
      rw [e]
      simp -implicitDefEqProofs only [EE, if_true, Nat.reduceAdd, Int.reduceEq, ldn, zo, yz, yB, yE, yx, yw, ya, zX, zW, zY, zS, zR, zT, zK, g4, g5, ia]
      skip
      refine zi (by kernel_rfl) rfl (w6 _ a b H) ?_
      simp only [yF, EE, ze, if_true, Nat.reduceAdd, sto, ldn, zo, zC, wJ, g6, r6]; rfl
    . have e : xY 22 a b = wy 22 a b := by simp [xY, ia, ib, pa, pb]
      rw [e]
      simp -implicitDefEqProofs only [EE, if_true, Nat.reduceAdd, Int.reduceEq, ldn, zo, yz, yB, yE, yx, yw, ya, zX, zW, zY, zS, zR, zT, zK, g4, g5, ia]
      skip
      refine zi (by kernel_rfl) rfl (w6 _ a b H) ?_
      simp only [yF, EE, ze, if_true, Nat.reduceAdd, sto, ldn, zo, zC, wJ, g6, r6]; rfl
    . have e : xY 22 a b = wy 22 a b := by simp [xY, ia, ib, pa, pb]
      rw [e]
      simp -implicitDefEqProofs only [EE, if_true, Nat.reduceAdd, Int.reduceEq, ldn, zo, yz, yB, yE, yx, yw, ya, zX, zW, zY, zS, zR, zT, zK, g4, g5, ia]
      skip
      refine zi (by kernel_rfl) rfl (w6 _ a b H) ?_
      simp only [yF, EE, ze, if_true, Nat.reduceAdd, sto, ldn, zo, zC, wJ, g6, r6]; rfl
    . have e : xY 22 a b = wy 22 a b := by simp [xY, ia, ib, pa, pb]
      rw [e]
      simp -implicitDefEqProofs only [EE, if_true, Nat.reduceAdd, Int.reduceEq, ldn, zo, yz, yB, yE, yx, yw, ya, zX, zW, zY, zS, zR, zT, zK, g4, g5, ia]
      skip
      refine zi (by kernel_rfl) rfl (w6 _ a b H) ?_
      simp only [yF, EE, ze, if_true, Nat.reduceAdd, sto, ldn, zo, zC, wJ, g6, r6]; rfl
    . have e : xY 22 a b = wy 22 a b := by simp [xY, ia, ib, pa, pb]
      rw [e]
      simp -implicitDefEqProofs only [EE, if_true, Nat.reduceAdd, Int.reduceEq, ldn, zo, yz, yB, yE, yx, yw, ya, zX, zW, zY, zS, zR, zT, zK, g4, g5, ia]
      skip
      refine zi (by kernel_rfl) rfl (w6 _ a b H) ?_
      simp only [yF, EE, ze, if_true, Nat.reduceAdd, sto, ldn, zo, zC, wJ, g6, r6]; rfl
    . have e : xY 22 a b = wy 22 a b := by simp [xY, ia, ib, pa, pb]
      rw [e]
      simp -implicitDefEqProofs only [EE, if_true, Nat.reduceAdd, Int.reduceEq, ldn, zo, yz, yB, yE, yx, yw, ya, zX, zW, zY, zS, zR, zT, zK, g4, g5, ia]
      skip
      refine zi (by kernel_rfl) rfl (w6 _ a b H) ?_
      simp only [yF, EE, ze, if_true, Nat.reduceAdd, sto, ldn, zo, zC, wJ, g6, r6]; rfl
  . skip
    rcases xa with ⟨ia, pa⟩ | ⟨ia, pa⟩ | ⟨ia, pa⟩ <;> rcases xb with ⟨ib, pb⟩ | ⟨ib, pb⟩ | ⟨ib, pb⟩
    . have e : xY op a b = uB op a.n b.n := by simp [xY, ia, ib]
      rw [e]
      simp -implicitDefEqProofs only [EE, if_true, Nat.reduceAdd, ldn, zo, zK, g5, ia]
      repeat (first | (refine zi (by kernel_rfl) rfl (yO b H) ?_; simp -implicitDefEqProofs only [EE, ld1, vK, yI, Zk, g4, g5, ia, ib]))
      refine zi (by kernel_rfl) rfl (K6 _ a.n b.n H) ?_
      simp only [yF, EE, ze, if_true, Nat.reduceAdd, sto, ldn, zo, zC, X6, g6, r6]; rfl
    . simp -implicitDefEqProofs only [EE, if_true, Nat.reduceAdd, ldn, zo, zK, g5, ia]
      repeat (first | (refine zi (by kernel_rfl) rfl (yO b H) ?_; simp -implicitDefEqProofs only [EE, ze, if_true, Nat.reduceAdd, sto, ldn, zo, zC, yg, yz, yB, yE, yx, yw, ya, zX, zW, zY, zS, zR, zT, yV, g6, r6, ia, ib, o11, o12, o21, o22]))
      simp [isO, vB, xY, ia, ib, pa, pb, v0, o11, o12, o21, o22]
    . simp -implicitDefEqProofs only [EE, if_true, Nat.reduceAdd, ldn, zo, zK, g5, ia]
      repeat (first | (refine zi (by kernel_rfl) rfl (yO b H) ?_; simp -implicitDefEqProofs only [EE, ze, if_true, Nat.reduceAdd, sto, ldn, zo, zC, yg, yz, yB, yE, yx, yw, ya, zX, zW, zY, zS, zR, zT, yV, g6, r6, ia, ib, o11, o12, o21, o22]))
      simp [isO, vB, xY, ia, ib, pa, pb, v0, o11, o12, o21, o22]
    . simp -implicitDefEqProofs only [EE, ze, if_true, Nat.reduceAdd, sto, ldn, zo, zC, yg, yz, yB, yE, yx, yw, ya, zX, zW, zY, zS, zR, zT, zK, yV, g6, r6, ia, o11, o12, o21, o22]
      skip
      simp [isO, vB, xY, ia, ib, pa, pb, v0, o11, o12, o21, o22]
    . simp -implicitDefEqProofs only [EE, ze, if_true, Nat.reduceAdd, sto, ldn, zo, zC, yg, yz, yB, yE, yx, yw, ya, zX, zW, zY, zS, zR, zT, zK, yV, g6, r6, ia, o11, o12, o21, o22]
      skip
      simp [isO, vB, xY, ia, ib, pa, pb, v0, o11, o12, o21, o22]
    . simp -implicitDefEqProofs only [EE, ze, if_true, Nat.reduceAdd, sto, ldn, zo, zC, yg, yz, yB, yE, yx, yw, ya, zX, zW, zY, zS, zR, zT, zK, yV, g6, r6, ia, o11, o12, o21, o22]
      skip
      simp [isO, vB, xY, ia, ib, pa, pb, v0, o11, o12, o21, o22]
    . simp -implicitDefEqProofs only [EE, ze, if_true, Nat.reduceAdd, sto, ldn, zo, zC, yg, yz, yB, yE, yx, yw, ya, zX, zW, zY, zS, zR, zT, zK, yV, g6, r6, ia, o11, o12, o21, o22]
      skip
      simp [isO, vB, xY, ia, ib, pa, pb, v0, o11, o12, o21, o22]
    . simp -implicitDefEqProofs only [EE, ze, if_true, Nat.reduceAdd, sto, ldn, zo, zC, yg, yz, yB, yE, yx, yw, ya, zX, zW, zY, zS, zR, zT, zK, yV, g6, r6, ia, o11, o12, o21, o22]
      skip
      simp [isO, vB, xY, ia, ib, pa, pb, v0, o11, o12, o21, o22]
    . simp -implicitDefEqProofs only [EE, ze, if_true, Nat.reduceAdd, sto, ldn, zo, zC, yg, yz, yB, yE, yx, yw, ya, zX, zW, zY, zS, zR, zT, zK, yV, g6, r6, ia, o11, o12, o21, o22]
      skip
      simp [isO, vB, xY, ia, ib, pa, pb, v0, o11, o12, o21, o22]
end Go.Rm
namespace Go.Rtl
open Go.Ai Go.Proofs
set_option linter.unusedVariables false
set_option linter.unusedSimpArgs false
set_option maxRecDepth 10000
section
variable {h : za} {b1 b2 : Nat} {B : Bool}
end
end Go.Rtl
namespace Go.Rtl
open Go.Ai Go.Proofs
set_option linter.unusedVariables false
set_option linter.unusedSimpArgs false
set_option maxRecDepth 10000
section
variable {h : za} {b1 b2 : Nat} {B : Bool}
end
section
variable {h : za} {b1 b2 : Nat} {B : Bool}
end
end Go.Rtl
namespace Go.Rtl
open Go.Ai Go.Proofs
set_option linter.unusedVariables false
set_option linter.unusedSimpArgs false
set_option maxRecDepth 10000
structure Sub (h h' : za) : Prop where
  next : h.next <= h'.next
  get : ∀ b o, b < h.next -> h.get b = some o -> h'.get b = some o
theorem Sub.refl (h : za) : Sub h h := ⟨Nat.le_refl _, fun _ _ _ e => e⟩
theorem Sub.trans {a b c : za} (x : Sub a b) (y : Sub b c) : Sub a c := ⟨Nat.le_trans x.next y.next, fun i o hi e => y.get i o (Nat.lt_of_lt_of_le hi x.next) (x.get i o hi e)⟩
theorem Old.sub {h h' : za} (e : Old h h') : Sub h h' := ⟨e.next, fun b o hb g => by rw [e.get b hb]; exact g⟩
section
variable {h h' : za}
theorem SliceI.sub {sv : Value} {zs : List Int} (S : SliceI h sv zs) (e : Sub h h') : SliceI h' sv zs := by
  rcases S with a | ⟨b, off, cp, rfl, hc⟩
  . exact .inl a
  . refine .inr ⟨b, off, cp, rfl, fun hz => ?_⟩
    obtain ⟨c, t, hb, hg, hat⟩ := hc hz
    exact ⟨c, t, Nat.lt_of_lt_of_le hb e.next, e.get b _ hb hg, hat⟩
theorem SliceR.sub {sv : Value} {n : Nat} {rows : List (List Value)} (S : SliceR h sv n rows) (e : Sub h h') : SliceR h' sv n rows := by
  rcases S with a | ⟨b, off, cp, rfl, hc⟩
  . exact .inl a
  . refine .inr ⟨b, off, cp, rfl, fun hz => ?_⟩
    obtain ⟨c, t, hb, hg, hat⟩ := hc hz
    exact ⟨c, t, Nat.lt_of_lt_of_le hb e.next, e.get b _ hb hg, hat⟩
theorem InsOk.sub {x : Ins} (S : InsOk h x) (e : Sub h h') : InsOk h' x := ⟨S.args.sub e, S.few⟩
theorem FnOk.sub {f : Fn} (S : FnOk h f) (e : Sub h h') : FnOk h' f := ⟨S.params.sub e, S.znv, S.code.sub e, S.zl8, fun x hx => (S.ins x hx).sub e⟩
theorem PgOk.sub {p : Pg} (S : PgOk h p) (e : Sub h h') : PgOk h' p := ⟨S.globals.sub e, S.znz, S.funcs.sub e, S.znr, fun f hf => (S.fns f hf).sub e⟩
theorem SliceR.znt {sv : Value} {n : Nat} {rows : List (List Value)} (S : SliceR h sv n rows) : ZP sv = some rows.length := by
  rcases S with ⟨rfl, rfl⟩ | ⟨b, off, cp, rfl, hc⟩ <;> rfl
theorem zld {c : List Value} {off : Nat} {l : List Value} (h : ∀ (i : Nat) v, l[i]? = some v -> c[off + i]? = some v) : (l = [] \/ off + l.length <= c.length) /\ (c.drop off).take l.length = l := by
  have hle : l = [] \/ off + l.length <= c.length := by
    cases hl : l.length with
    | zero => exact .inl (List.length_eq_zero_iff.1 hl)
    | succ n =>
      have := h n l[n] (List.getElem?_eq_getElem (by omega))
      rcases Nat.lt_or_ge (off + n) c.length with q | q
      . exact .inr (by omega)
      . rw [List.getElem?_eq_none q] at this; cases this
  refine ⟨hle, List.ext_getElem? fun i => ?_⟩
  rw [List.getElem?_take, List.getElem?_drop]
  by_cases hi : i < l.length
  . rw [if_pos hi, List.getElem?_eq_getElem hi]; exact h i _ (List.getElem?_eq_getElem hi)
  . rw [if_neg hi, List.getElem?_eq_none (by omega)]
theorem flat_at {n : Nat} : ∀ {rows : List (List Value)}, (∀ r, r ∈ rows -> r.length = n) -> ∀ {i : Nat} {r : List Value} {k : Nat}, rows[i]? = some r -> k < n -> rows.flatten[i * n + k]? = r[k]?
  | [], _, i, r, k, hr, _ => by cases hr
  | r0 :: rows, hn, 0, r, k, hr, hk => by
    simp only [List.getElem?_cons_zero, Option.some.injEq] at hr
    subst hr
    rw [List.flatten_cons, List.getElem?_append_left (by rw [hn _ (by simp)]; omega)]
    simp
  | r0 :: rows, hn, i + 1, r, k, hr, hk => by
    have h0 := hn r0 (by simp)
    rw [List.flatten_cons, List.getElem?_append_right (by rw [h0, Nat.add_mul]; omega), h0, show (i + 1) * n + k - n = i * n + k by rw [Nat.add_mul]; omega]
    exact flat_at (fun r hr => hn r (by simp [hr])) (by simpa using hr) hk
theorem flat_len {n : Nat} : ∀ {rows : List (List Value)}, (∀ r, r ∈ rows -> r.length = n) -> rows.flatten.length = rows.length * n
  | [], _ => by simp
  | r0 :: rows, hn => by
    rw [List.flatten_cons, List.length_append, flat_len (fun r hr => hn r (by simp [hr])), hn r0 (by simp), List.length_cons, Nat.add_mul]; omega
theorem flat_row {n : Nat} {rows : List (List Value)} (hn : ∀ r, r ∈ rows -> r.length = n) {i : Nat} {r : List Value} (hr : rows[i]? = some r) : i * n + n <= rows.flatten.length /\ (rows.flatten.drop (i * n)).take n = r := by
  have hi : i < rows.length := by
    rcases Nat.lt_or_ge i rows.length with a | a
    . exact a
    . rw [List.getElem?_eq_none a] at hr; cases hr
  have hl : r.length = n := hn r (List.mem_of_getElem? hr)
  constructor
  . rw [flat_len hn]
    have := Nat.mul_le_mul_right n (Nat.succ_le_of_lt hi)
    rw [Nat.succ_mul] at this
    exact this
  . refine List.ext_getElem? fun k => ?_
    rw [List.getElem?_take, List.getElem?_drop]
    by_cases hk : k < n
    . rw [if_pos hk]; exact flat_at hn hr hk
    . rw [if_neg hk, List.getElem?_eq_none (by omega)]
theorem SliceR.first {sv : Value} {n : Nat} {rows : List (List Value)} (S : SliceR h sv n rows) (h0 : 0 < n) (hn : ∀ r, r ∈ rows -> r.length = n) : xh h rows.length n sv = some rows.flatten := by
  rcases S with ⟨rfl, rfl⟩ | ⟨b, off, cp, rfl, hc⟩
  . rfl
  . cases rows with
    | nil => unfold xh; simp only [List.length_nil, Nat.zero_mul]; rfl
    | cons r0 rows =>
      obtain ⟨c, t, hb, hg, hat⟩ := hc (by simp)
      obtain ⟨h1, h2⟩ := zld (c := c) (off := off) (l := (r0 :: rows).flatten) (fun j v hv => by
        have hj : j < (r0 :: rows).length * n := by
          rcases Nat.lt_or_ge j ((r0 :: rows).flatten.length) with a | a
          . rw [flat_len hn] at a; exact a
          . rw [List.getElem?_eq_none a] at hv; cases hv
        have hi : j / n < (r0 :: rows).length := (Nat.div_lt_iff_lt_mul h0).2 hj
        have hk : j % n < n := Nat.mod_lt _ h0
        have hr : (r0 :: rows)[j / n]? = some (r0 :: rows)[j / n] := List.getElem?_eq_getElem hi
        have e : j = j / n * n + j % n := by rw [Nat.mul_comm]; exact (Nat.div_add_mod j n).symm
        rw [e, flat_at hn hr hk] at hv
        obtain ⟨_, h4⟩ := hat _ _ hr
        rw [<- h4, List.getElem?_take, if_pos hk, List.getElem?_drop] at hv
        rw [e, <- Nat.add_assoc]; exact hv)
      have hl := flat_len hn
      rw [hl] at h1 h2
      have hne : (r0 :: rows).length * n ≠ 0 := by rw [List.length_cons]; exact Nat.mul_ne_zero (by omega) (by omega)
      have h3 : off + (r0 :: rows).length * n <= c.length := by
        rcases h1 with e | e
        . rw [e] at hl; exact absurd hl.symm hne
        . exact e
      unfold xh
      simp only [hg]
      rw [show Nat.beq ((r0 :: rows).length * n) 0 = false by rw [<- Bool.not_eq_true, Nat.beq_eq]; exact hne, cond_false, Nat.ble_eq_true_of_le h3, cond_true, h2]
end
end Go.Rtl
namespace Go.Rtl
open Go.Ai Go.Proofs
set_option linter.unusedVariables false
set_option linter.unusedSimpArgs false
set_option maxRecDepth 10000
def X9 (lo h : za) (t : TypeId) (l : Value) (rows : List (List Value)) : Prop := (l = .slice none 0 0 /\ rows = []) \/ ∃ b c, l = .slice (some ⟨b, 0, none⟩) rows.length c /\ c ≠ 0 /\ lo.next <= b /\ b < h.next /\ h.ro <= b /\ h.get b = some (.cells rows.flatten t)
def blk : Value -> List Nat
  | .slice (some a) _ _ => [a.block]
  | _ => []
section
variable {lo h : za} {l : Value} {rows : List (List Value)} {t : TypeId}
end
theorem zkU {h : za} {l : List Nat} {b : Nat} : (h.UU l).get b = if b ∈ l then none else h.get b := uc h l b
structure zoK (l : List Nat) (H h : za) : Prop where
  next : H.next <= h.next
  ro : h.ro = H.ro
  get : ∀ b, b < H.next -> b ∉ l -> h.get b = H.get b
theorem zoK.sub {l : List Nat} {H h : za} (k : zoK l H h) : Sub (H.UU l) (h.UU l) := ⟨k.next, fun b o hb g => by
  rw [zkU] at g ⊢
  split at g
  . cases g
  . rename_i q
    rw [if_neg q, k.get b hb q]; exact g⟩
theorem zc1.sub {lo h K : za} {v : Value} {zs : List Int} (S : zc1 lo h v zs) (hn : h.next <= K.next) (hk : ∀ b, lo.next <= b -> b < h.next -> K.get b = h.get b) : SliceI K v zs := by
  rcases S with a | ⟨b, c, rfl, hc, h1, h2, h3, h4⟩
  . exact .inl a
  . refine .inr ⟨b, 0, c, rfl, fun _ => ⟨_, 3, Nat.lt_of_lt_of_le h2 hn, by rw [hk b h1 h2]; exact h4, fun i z hz => ?_⟩⟩
    simp [ints, hz]
theorem X9.lo {lo lo' h : za} {t : TypeId} {v : Value} {rows : List (List Value)} (S : X9 lo h t v rows) (hl : lo'.next <= lo.next) : X9 lo' h t v rows := by
  rcases S with a | ⟨b, c, h0, h1, h2, h3⟩
  . exact .inl a
  . exact .inr ⟨b, c, h0, h1, by omega, h3⟩
theorem X9.zU {lo h h' : za} {t : TypeId} {v : Value} {rows : List (List Value)} (S : X9 lo h t v rows) (hn : h.next <= h'.next) (hr : h'.ro = h.ro) (hg : ∀ b, b ∈ blk v -> h'.get b = h.get b) : X9 lo h' t v rows := by
  rcases S with a | ⟨b, c, rfl, h1, h2, h3, h4, h5⟩
  . exact .inl a
  . exact .inr ⟨b, c, rfl, h1, h2, by omega, by omega, by rw [hg b (by simp [blk])]; exact h5⟩
end Go.Rtl
namespace Go.Rtl
open Go.Ai Go.Proofs
set_option linter.unusedVariables false
set_option linter.unusedSimpArgs false
set_option maxRecDepth 10000
end Go.Rtl
namespace Go.Rm
open Go.Ai Go.Proofs Go.Mem
open Go.Rtl (Ins Pg writesI PgOk FnOk InsOk SliceI SliceR Old flat_len flat_row flat_at)
set_option linter.unusedVariables false
set_option linter.unusedSimpArgs false
set_option maxRecDepth 10000
def slc (ty : TypeId) (n : Nat) (sv : Value) (rows : List (List Value)) : HP := fun m =>
  (sv = .slice none 0 0 /\ rows = [] /\ ∀ x, m x = none) \/ ∃ b c cs, sv = .slice (some ⟨b, 0, none⟩) rows.length c /\ c ≠ 0 /\ rows.length * n <= cs.length /\ cs.take (rows.length * n) = rows.flatten /\ pt b (.cells cs ty) m
section
variable {lo : Low} {h : za} {L : List HP} {ty : TypeId} {n : Nat} {sv : Value} {rows : List (List Value)}
theorem w8 (s : Sat lo h (slc ty n sv rows :: L)) : (sv = .slice none 0 0 /\ rows = [] /\ Sat lo h L) \/ ∃ b c cs, sv = .slice (some ⟨b, 0, none⟩) rows.length c /\ c ≠ 0 /\ rows.length * n <= cs.length /\ cs.take (rows.length * n) = rows.flatten /\ Sat lo h (pt b (.cells cs ty) :: L) := by
  obtain ⟨a, ha, d, w, s⟩ := s
  rcases ha with ⟨e1, e2, e3⟩ | ⟨b, c, cs, e1, e2, e3, e4, e5⟩
  . exact .inl ⟨e1, e2, by rw [Low.Qx e3] at s; exact s⟩
  . exact .inr ⟨b, c, cs, e1, e2, e3, e4, a, e5, d, w, s⟩
theorem qR (ty : TypeId) (n : Nat) (s : Sat lo h L) : Sat lo h (slc ty n (.slice none 0 0) [] :: L) := ⟨fun _ => none, .inl ⟨rfl, rfl, fun _ => rfl⟩, fun _ _ e => (by cases e), fun _ _ e => (by cases e), by rw [Low.Qx fun _ => rfl]; exact s⟩
theorem zf3 {b c : Nat} {cs : List Value} (hc : c ≠ 0) (hl : rows.length * n <= cs.length) (ht : cs.take (rows.length * n) = rows.flatten) (s : Sat lo h (pt b (.cells cs ty) :: L)) : Sat lo h (slc ty n (.slice (some ⟨b, 0, none⟩) rows.length c) rows :: L) := by
  obtain ⟨a, ha, d, w, s⟩ := s
  exact ⟨a, .inr ⟨b, c, cs, rfl, hc, hl, ht, ha⟩, d, w, s⟩
theorem YV {b c : Nat} {cs : List Value} (hc : c ≠ 0) (hn : ∀ r, r ∈ rows -> r.length = n) (he : cs = rows.flatten) (s : Sat lo h (pt b (.cells cs ty) :: L)) : Sat lo h (slc ty n (.slice (some ⟨b, 0, none⟩) rows.length c) rows :: L) :=
  zf3 hc (by rw [he, flat_len hn]; exact Nat.le_refl _) (by rw [he, List.take_of_length_le (by rw [flat_len hn]; exact Nat.le_refl _)]) s
theorem VJ (s : Sat lo h (slc ty n sv rows :: L)) : ∃ a c, sv = .slice a rows.length c := by
  rcases w8 s with ⟨rfl, rfl, _⟩ | ⟨b, c, cs, rfl, _⟩ <;> exact ⟨_, _, rfl⟩
theorem slc_nob (s : Sat lo h (slc ty n sv rows :: L)) : zV sv = false := by obtain ⟨_, _, rfl⟩ := VJ s; rfl
theorem slc_cok (s : Sat lo h (slc ty n sv rows :: L)) : cellOk sv = true := by obtain ⟨_, _, rfl⟩ := VJ s; rfl
theorem slc_read (s : Sat lo h (slc ty n sv rows :: L)) (hn : ∀ r, r ∈ rows -> r.length = n) : SliceR h sv n rows := by
  rcases w8 s with ⟨e1, e2, _⟩ | ⟨b, c, cs, rfl, hc, hl, hf, s⟩
  . exact .inl ⟨e1, e2⟩
  . refine .inr ⟨b, 0, c, rfl, fun _ => ⟨cs, ty, s.lt, s.get, fun i r hr => ?_⟩⟩
    have hi : i < rows.length := by
      rcases Nat.lt_or_ge i rows.length with a | a
      . exact a
      . rw [List.getElem?_eq_none a] at hr; cases hr
    obtain ⟨f1, f2⟩ := flat_row hn hr
    have hm := Nat.mul_le_mul_right n (Nat.succ_le_of_lt hi)
    rw [Nat.succ_mul] at hm
    refine ⟨by omega, ?_⟩
    rw [<- f2, <- hf, Nat.zero_add, List.drop_take, List.take_take]
    congr 1
    omega
theorem Yj (s : Sat lo h (slc ty n sv rows :: L)) (hn : ∀ r, r ∈ rows -> r.length = n) (row : List Value) (hr : row.length = n) (h0n : 0 < n) (bz : Nat) (hb : (rows.length + 1) * bz <= 2 ^ 47) :
    ∃ b' c' h', KU h ty n bz 1 row sv = some (.slice (some ⟨b', 0, none⟩) (rows.length + 1) c', h') /\ Sat lo h' (slc ty n (.slice (some ⟨b', 0, none⟩) (rows.length + 1) c') (rows ++ [row]) :: L) := by
  have hn2 : ∀ r, r ∈ rows ++ [row] -> r.length = n := fun r q => by
    rcases List.mem_append.1 q with q | q
    . exact hn r q
    . simp only [List.mem_singleton] at q; subst q; exact hr
  have hlen : (rows ++ [row]).length = rows.length + 1 := by simp
  rcases w8 s with ⟨rfl, rfl, s'⟩ | ⟨b, c, cs, rfl, hc, hl, hf, s⟩
  . refine ⟨h.next, 1, h.push (.cells row ty), ?_, YV (cs := row) (rows := [] ++ [row]) (c := 1) (by decide) hn2 (by simp) (s'.push (.cells row ty))⟩
    simp only [KU]
    rw [if_neg (by decide), if_pos (by simp at hb; omega)]; rfl
  . have hroom : roomFor c (rows.length + 1) bz = true := by
      unfold roomFor
      cases Nat.beq c 2 <;> simp only [cond_true, cond_false, Nat.ble_eq] <;> omega
    refine ⟨h.next, wk c (rows.length + 1), (h.set b none).push (.cells (((cs.drop 0).take (rows.length * n)) ++ row) ty), ?_, ?_⟩
    . simp only [KU, s.get]
      rw [if_neg (by decide), if_pos ⟨hc, trivial, s.wr, by omega, hroom, by simp⟩]
    . have q := YV (rows := rows ++ [row]) (c := wk c (rows.length + 1)) (zdS _ _) hn2 (by rw [List.drop_zero, hf, List.flatten_append]; simp) ((s.forget none).push (.cells (((cs.drop 0).take (rows.length * n)) ++ row) ty))
      rw [hlen] at q
      exact q
theorem zjb {cs : List Value} {i : Nat} {row : List Value} (hi : i < rows.length) (hn : ∀ r, r ∈ rows -> r.length = n) (hr : row.length = n) (hl : rows.length * n <= cs.length) (ht : cs.take (rows.length * n) = rows.flatten) :
    (ze cs (i * n) row).take (rows.length * n) = (rows.set i row).flatten := by
  have hn2 : ∀ r, r ∈ rows.set i row -> r.length = n := fun r q => by
    rcases List.mem_or_eq_of_mem_set q with q | rfl
    . exact hn r q
    . exact hr
  have hm : i * n + n <= cs.length := by
    have := Nat.mul_le_mul_right n (Nat.succ_le_of_lt hi)
    rw [Nat.succ_mul] at this; omega
  apply List.ext_getElem?
  intro j
  by_cases hj : j < rows.length * n
  . rw [List.getElem?_take_of_lt hj, V5 _ _ _ _ (by rw [hr]; exact hm), hr]
    have e0 := congrArg (fun l => l[j]?) ht
    simp only [List.getElem?_take_of_lt hj] at e0
    have h0 : 0 < n := by rcases Nat.eq_zero_or_pos n with q | q; · subst q; simp at hj
                          . exact q
    have hq : j / n < rows.length := Nat.div_lt_of_lt_mul (by rw [Nat.mul_comm]; exact hj)
    have hj3 : j / n * n + j % n = j := by rw [Nat.mul_comm]; exact Nat.div_add_mod j n
    have hmn : j % n < n := Nat.mod_lt _ h0
    have get : ∀ (m : List (List Value)), (∀ r, r ∈ m -> r.length = n) -> ∀ x, m[j / n]? = some x -> m.flatten[j]? = x[j % n]? := fun m hm x hx => by
      have := flat_at hm hx hmn
      rwa [hj3] at this
    rw [e0, get _ hn _ (List.getElem?_eq_getElem hq)]
    by_cases e : i = j / n
    . rw [get _ hn2 row (by rw [e, List.getElem?_set_self hq]), if_pos (by rw [e]; omega), e]
      congr 1; omega
    . rw [get _ hn2 _ (by rw [List.getElem?_set_ne e, List.getElem?_eq_getElem hq]), if_neg]
      rintro ⟨a, b⟩
      apply e
      exact (Nat.div_eq_of_lt_le a (by rw [Nat.succ_mul]; exact b)).symm
  . rw [List.getElem?_eq_none (by simp; omega), List.getElem?_eq_none (by rw [flat_len hn2]; simp; omega)]
theorem zft (s : Sat lo h (slc ty n sv rows :: L)) (hn : ∀ r, r ∈ rows -> r.length = n) {i : Nat} (hi : i < rows.length) :
    ∃ b c cs, sv = .slice (some ⟨b, 0, none⟩) rows.length c /\ h.get b = some (.cells cs ty) /\ h.ro <= b /\ i * n + n <= cs.length /\ ∀ row, row.length = n -> Sat lo (h.set b (some (.cells (ze cs (i * n) row) ty))) (slc ty n sv (rows.set i row) :: L) := by
  rcases w8 s with ⟨rfl, rfl, _⟩ | ⟨b, c, cs, rfl, hc, hl, hf, s⟩
  . cases hi
  . refine ⟨b, c, cs, rfl, s.get, s.wr, ?_, fun row hr => ?_⟩
    . have := Nat.mul_le_mul_right n (Nat.succ_le_of_lt hi)
      rw [Nat.succ_mul] at this; omega
    . have q := zf3 (n := n) (rows := rows.set i row) (c := c) hc (by rw [List.length_set, qX]; exact hl) (by rw [List.length_set]; exact zjb hi hn hr hl hf) (s.set (.cells (ze cs (i * n) row) ty))
      rwa [List.length_set] at q
theorem zkj {b i : Nat} {cs row : List Value} {K : za -> Prop} (gb : h.get b = some (.cells cs ty)) (wb : h.ro <= b) (lb : i * n + n <= cs.length) (s3 : ∀ row, row.length = n -> Sat lo (h.set b (some (.cells (ze cs (i * n) row) ty))) (slc ty n sv (rows.set i row) :: L))
    (hr : row.length = n) (hc : row.all cellOk = true) (k : ∀ h', Sat lo h' (slc ty n sv (rows.set i row) :: L) -> K h') : opt (sto h b (i * n) row) K := by
  rw [zjU gb, if_pos ⟨by omega, wb, hc⟩]
  exact k _ (s3 row hr)
theorem row_of {α : Type} {f : α -> List Value} {n : Nat} (hf : ∀ a, (f a).length = n) (l : List α) : ∀ r, r ∈ l.map f -> r.length = n := by
  intro r hr
  simp only [List.mem_map] at hr
  obtain ⟨y, _, rfl⟩ := hr
  exact hf y
end
def evRow (e : Int × Int) : List Value := [.int .i64 e.1, .int .i64 e.2]
def lkRow (e : Int × Int × Int) : List Value := [.int .i64 e.1, .int .i64 e.2.1, .int .i64 e.2.2]
def xF (b : Nat) : Value := .pointer (some ⟨b, 0, none⟩)
def x9 (z : Int) : List Value := [.int .i64 z]
def xP (b : Nat) : List Value := [xF b]
def yG (p : Pg) (mb wb : Nat) (S : St) (ev lk gl cl kv : Value) : wB := .cells [p.gv, p.fv, .int .i64 p.main, xF mb, xF wb, .int .i64 S.kind, .int .i64 S.exit, ev, lk, .int .i64 S.steps, gl, cl, kv] 79
section
variable {lo : Low} {h : za} {b mb wb : Nat} {p : Pg} {S : St} {ev lk gl cl kv : Value}
theorem zdc (s : Sat lo h [pt b (yG p mb wb S ev lk gl cl kv), slc 39 3 lk (S.lk.map lkRow)]) (hb : (S.lk.length + 1) * 24 <= 2 ^ 47) (k_ a c : Int) :
    DC Tryd.prog 50 [xF b, .int .i64 k_, .int .i64 a, .int .i64 c] h (fun _ h' => ∃ lk', Sat lo h' [pt b (yG p mb wb (xl S k_ a c) ev lk' gl cl kv), slc 39 3 lk' ((xl S k_ a c).lk.map lkRow)]) := by
  apply zfH
  unfold zjG xF
  have gm := s.get
  unfold yG xF at gm
  have n0 := slc_nob (s.p 1)
  have s1 := s.push (.cells [.int .i64 k_, .int .i64 a, .int .i64 c] 39)
  obtain ⟨b', c', h2, a1, s2⟩ := Yj (s1.p 2) (row_of (f := lkRow) (fun _ => rfl) _) [.int .i64 k_, .int .i64 a, .int .i64 c] rfl (by decide) 24 (by rw [List.length_map]; exact hb)
  rw [List.length_map] at a1 s2
  have ha : ∀ r, zg Tryd.prog .append [30, 30] r [lk, .slice (some ⟨h.next, 0, none⟩) 1 3] (h.push (.cells [.int .i64 k_, .int .i64 a, .int .i64 c] 39)) = some (.slice (some ⟨b', 0, none⟩) (S.lk.length + 1) c', h2) := fun r => by
    rw [zoq r _ _ 1 [.int .i64 k_, .int .i64 a, .int .i64 c] _ rfl (by simp only [xh, zw]; rfl) rfl rfl]
    exact a1
  have s3 := s2.p 2
  have g2 := s3.get
  have w2 := s3.wr
  unfold yG xF at g2
  simp -implicitDefEqProofs only [EE, ze, if_true, Nat.reduceAdd, Nat.reduceLeDiff, sto, ld1, za0, zof, zbP, zfk, Zc, qu, gm, n0, ha, g2, w2]
  refine ⟨rfl, .slice (some ⟨b', 0, none⟩) (S.lk.length + 1) c', ?_⟩
  have e1 : ((xl S k_ a c).lk.map lkRow) = S.lk.map lkRow ++ [[.int .i64 k_, .int .i64 a, .int .i64 c]] := by simp [xl, lkRow]
  rw [e1]
  exact ((s3.set _).p 2).drop
theorem zhm (s : Sat lo h [pt b (yG p mb wb S ev lk gl cl kv), slc 54 2 ev (S.ev.map evRow)]) (hb : (S.ev.length + 1) * 16 <= 2 ^ 47) (k_ a : Int) :
    DC Tryd.prog 59 [xF b, .int .i64 k_, .int .i64 a] h (fun _ h' => ∃ ev', Sat lo h' [pt b (yG p mb wb (ui S k_ a) ev' lk gl cl kv), slc 54 2 ev' ((ui S k_ a).ev.map evRow)]) := by
  apply zee
  unfold zhG xF
  have gm := s.get
  unfold yG xF at gm
  have n0 := slc_nob (s.p 1)
  have s1 := s.push (.cells [.int .i64 k_, .int .i64 a] 54)
  obtain ⟨b', c', h2, a1, s2⟩ := Yj (s1.p 2) (row_of (f := evRow) (fun _ => rfl) _) [.int .i64 k_, .int .i64 a] rfl (by decide) 16 (by rw [List.length_map]; exact hb)
  rw [List.length_map] at a1 s2
  have ha : ∀ r, zg Tryd.prog .append [29, 29] r [ev, .slice (some ⟨h.next, 0, none⟩) 1 3] (h.push (.cells [.int .i64 k_, .int .i64 a] 54)) = some (.slice (some ⟨b', 0, none⟩) (S.ev.length + 1) c', h2) := fun r => by
    rw [zoa r _ _ 1 [.int .i64 k_, .int .i64 a] _ rfl (by simp only [xh, zw]; rfl) rfl rfl]
    exact a1
  have s3 := s2.p 2
  have g2 := s3.get
  have w2 := s3.wr
  unfold yG xF at g2
  simp -implicitDefEqProofs only [EE, ze, if_true, Nat.reduceAdd, Nat.reduceLeDiff, sto, ld1, zib, zon, zfY, zfe, Kj, qu, gm, n0, ha, g2, w2]
  refine ⟨rfl, .slice (some ⟨b', 0, none⟩) (S.ev.length + 1) c', ?_⟩
  have e1 : ((ui S k_ a).ev.map evRow) = S.ev.map evRow ++ [[.int .i64 k_, .int .i64 a]] := by simp [ui, evRow]
  rw [e1]
  exact ((s3.set _).p 2).drop
end
end Go.Rm
namespace Go.Rm
open Go.Ai Go.Proofs Go.Mem
open Go.Rtl (Ins Pg writesI PgOk FnOk InsOk SliceI SliceR Old)
set_option linter.unusedVariables false
set_option linter.unusedSimpArgs false
set_option maxRecDepth 10000
theorem vL (l : List V) : ∀ r, r ∈ l.map V.y1 -> r.length = 3 := row_of (f := V.y1) (fun _ => rfl) l
theorem zoi {h : za} {sv : Value} {l : List V} (S : SliceR h sv 3 (l.map V.y1)) (r : TypeId) (h' : za) : zg Tryd.prog .len [82] r [sv] h' = some (.int .i64 l.length, h') := by
  rcases S with ⟨rfl, e⟩ | ⟨b, off, cp, rfl, _⟩
  . have : l = [] := by simpa using e
    subst this
    simp only [zgs, List.length_nil]
  . simp only [zgs, List.length_map]
theorem zcZ {l : List V} {r : Int} (h : r < 0 \/ (l.length : Int) <= r) : yY l r = v0 := by
  unfold yY
  by_cases h0 : r < 0
  . rw [if_pos h0]
  . rw [if_neg h0, List.getD_eq_getElem?_getD, List.getElem?_eq_none (by omega)]; rfl
theorem zmm {h : za} {fb : Nat} {fp rv bl pt : Value} {l : List V} (hg : h.get fb = some (.cells [fp, rv, bl, pt] 113)) (hlt : fb < h.next) (S : SliceR h rv 3 (l.map V.y1)) (r : Int) : xG Tryd.prog 47 [xF fb, .int .i64 r] h (vv (yY l r)) := by
  apply qh rfl
  apply ziu
  unfold zl3 xF
  have rn := S.nob
  have rl := zoi S 3
  have g0 : ∀ o, (h.lock.push o).get fb = some (.cells [fp, rv, bl, pt] 113) := fun o => by rw [zu (by show fb < h.next; exact hlt)]; exact hg
  by_cases h0 : r < 0
  . have e := zcZ (l := l) (.inl h0)
    simp -implicitDefEqProofs only [EE, ↓nw, Value.cells, ze, if_true, Nat.reduceAdd, sto, ldn, zo, zC, yZ, yg, KI, Kz, Q8, h0]
    rw [e]; rfl
  by_cases h1 : (l.length : Int) <= r
  . have e := zcZ (l := l) (.inr h1)
    have h1' : r ≥ (l.length : Int) := h1
    simp -implicitDefEqProofs only [EE, ↓nw, Value.cells, ze, if_true, Nat.reduceAdd, sto, ldn, ld1, zeL, zo, zC, yZ, yg, Zs, KI, Kz, Q8, h0, g0, rn, rl, h1]
    rw [e]; rfl
  . obtain ⟨v, hv⟩ : ∃ v, l[r.toNat]? = some v := ⟨_, List.getElem?_eq_getElem (by omega)⟩
    obtain ⟨b, o, c, t, ⟨off, cp, rfl, rfl⟩, hi, hb, hgt, hle, htk, _⟩ := S.spot (i := r.toNat) (r := v.y1) (by rw [List.getElem?_map, hv]; rfl) rfl
    have hr : r < (l.length : Int) := by omega
    have hr0 : 0 <= r := by omega
    have g1 : ∀ o, (h.lock.push o).get b = some (.cells c t) := fun o => by rw [zu (by show b < h.next; exact hb)]; exact hgt
    have e : yY l r = v := by
      unfold yY
      rw [if_neg h0, List.getD_eq_getElem?_getD, hv]; rfl
    have htk' : (c.drop (off + r.toNat * 3)).take 3 = [.int .i64 v.k, .int .i64 v.n, .int .i64 v.b] := htk
    simp -implicitDefEqProofs only [EE, ↓nw, Value.cells, ze, if_true, Nat.reduceAdd, sto, ldn, ld1, zeL, zo, zC, yZ, Zs, ziR, zgs, zgX, KI, Kz, Q8, h0, g0, h1, hr, hr0, g1, hle, htk']
    rw [e]; rfl
theorem zf4 {h : za} {fb : Nat} {fp rv bl pt : Value} {c : Fr} (hg : h.get fb = some (.cells [fp, rv, bl, pt] 113)) (hlt : fb < h.next) (S : SliceR h rv 3 (c.zD.map V.y1)) (i : Ins) (hn : zV i.av = false) : xG Tryd.prog 49 [xF fb, i.val] h (vv (yb c i)) := by
  apply qh rfl
  apply zaj
  unfold J1 yb xF
  by_cases h1 : i.b = -1
  . simp -implicitDefEqProofs only [EE, ↓nw, Value.cells, Int.reduceNeg, ld1, vK, yc, yZ, jx, uy, VT, h1]
    refine zi (by kernel_rfl) rfl (YZ i.k _) ?_
    simp -implicitDefEqProofs only [EE, ze, if_true, Nat.reduceAdd, Int.reduceNeg, sto, ldn, zo, zC, Nat.le_add_right]
    rw [if_pos h1]; rfl
  . simp -implicitDefEqProofs only [EE, ↓nw, Value.cells, Int.reduceNeg, ld1, yc, yZ, jx, UD, h1]
    have e2 : ∀ a b, Old h.lock ((h.lock.push a).push b) := fun a b => (Old.push _ _).trans (Old.push _ _)
    have S2 : SliceR h.lock rv 3 (c.zD.map V.y1) := S.lock
    refine zi (by kernel_rfl) rfl (zmm (l := c.zD) (rv := rv) (fp := fp) (bl := bl) (pt := pt) ?_ ?_ (S2.old (e2 _ _)) i.b) ?_
    . rw [(e2 _ _).get fb hlt]; exact hg
    . exact Nat.lt_of_lt_of_le hlt (e2 _ _).next
    simp -implicitDefEqProofs only [EE, ze, if_true, Nat.reduceAdd, Int.reduceNeg, sto, ldn, zo, zC, Nat.le_add_right]
    rw [if_neg h1]; rfl
def Z4 (fp rv : Value) (blk at_ : Int) : wB := .cells [fp, rv, .int .i64 blk, .int .i64 at_] 113
theorem zid {l : List V} {r k : Nat} (v : V) (hk : k = r + 1 - l.length) : qY l r v = (l ++ List.replicate k v0).set r v := by
  unfold qY
  rw [if_neg (by omega), hk]; rfl
theorem zk0 {lo : Low} {h : za} {fb : Nat} {fp rv : Value} {bl at_ : Int} {l : List V} (s : Sat lo h [pt fb (Z4 fp rv bl at_), slc 84 3 rv (l.map V.y1)]) (r : Int) (v : V) (hr : r < 100000) (hl : l.length <= 100000) :
    DC Tryd.prog 46 [xF fb, .int .i64 r, v.val] h (fun _ h' => ∃ rv', Sat lo h' [pt fb (Z4 fp rv' bl at_), slc 84 3 rv' ((qY l r v).map V.y1)]) := by
  apply ziA
  unfold zlZ xF V.val
  have s1 := s.push (.cells [.int .i64 v.k, .int .i64 v.n, .int .i64 v.b] 84)
  by_cases h0 : r < 0
  . simp -implicitDefEqProofs only [EE, ↓nw, Value.cells, h0]
    refine ⟨rfl, rv, ?_⟩
    unfold qY
    rw [if_pos h0]
    exact s1.drop
  simp -implicitDefEqProofs only [EE, ↓nw, Value.cells, ↓BK, h0]
  obtain ⟨r, rfl⟩ : ∃ k : Nat, r = k := ⟨r.toNat, by omega⟩
  refine kj (I := fun m vs h' => ∃ k rv', m = r + 1 - (l.length + k) /\ (k = 0 \/ l.length + k <= r + 1) /\ vs = [] /\ Sat lo h' [pt h.next (.cells [.int .i64 v.k, .int .i64 v.n, .int .i64 v.b] 84), pt fb (Z4 fp rv' bl at_), slc 84 3 rv' ((l ++ List.replicate k v0).map V.y1)]) (n := r + 1 - l.length) ⟨0, rv, rfl, .inl rfl, rfl, by rw [List.replicate_zero, List.append_nil]; exact s1⟩ ?_
  rintro m vs h' ⟨k, rv', rfl, hk, rfl, s2⟩
  have g1 := (s2.p 1).get
  have w1 := (s2.p 1).wr
  have SR := slc_read (s2.p 2) (vL _)
  have rn := SR.nob
  have rl := zoi SR 3
  unfold Z4 at g1
  unfold zgQ
  by_cases hc : (r : Int) ≥ ((l ++ List.replicate k v0).length : Int)
  . have s3 := s2.push (.cells v0.y1 84)
    have hlen : (l ++ List.replicate k v0).length = l.length + k := by simp
    obtain ⟨b', c', h2, a1, s4⟩ := Yj (s3.p 3) (vL _) v0.y1 rfl (by decide) 24 (by simp only [List.length_map, hlen] at *; omega)
    rw [List.length_map] at a1 s4
    have ha : ∀ r, zg Tryd.prog .append [82, 82] r [rv', .slice (some ⟨h'.next, 0, none⟩) 1 3] (h'.push (.cells [.int .i64 0, .int .i64 0, .int .i64 0] 84)) = some (.slice (some ⟨b', 0, none⟩) ((l ++ List.replicate k v0).length + 1) c', h2) := fun r =>
      (zkq r _ _ 1 v0.y1 _ rfl (by simp only [xh, zw]; rfl) rfl rfl).trans a1
    have s5 := (s4.p 3)
    have g5 := s5.get
    have w5 := s5.wr
    unfold Z4 at g5
    simp -implicitDefEqProofs only [EE, ↓BK, ze, if_true, Nat.reduceAdd, Nat.reduceLeDiff, sto, ld1, zeL, znE, yg, Up, Zs, zhS, g1, rn, rl, hc, ha, g5, w5]
    refine ⟨r + 1 - (l.length + (k + 1)), by omega, k + 1, .slice (some ⟨b', 0, none⟩) ((l ++ List.replicate k v0).length + 1) c', rfl, .inr (by omega), ?_⟩
    have e : (l ++ List.replicate (k + 1) v0).map V.y1 = (l ++ List.replicate k v0).map V.y1 ++ [v0.y1] := by rw [List.replicate_succ', <- List.append_assoc, List.map_append]; rfl
    rw [e]
    exact ((((s5.set _).p 2).drop).p 2)
  . have g0 := s2.get
    have hlen : (l ++ List.replicate k v0).length = l.length + k := by simp
    obtain ⟨b, c, cs, rfl, gb, wb, lb, s3⟩ := zft (s2.p 2) (vL _) (i := r) (by rw [List.length_map]; omega)
    have hr2 : (r : Int) < ((l ++ List.replicate k v0).length : Int) := by omega
    have hr3 : (0 : Int) <= r := by omega
    rw [List.length_map] at *
    simp -implicitDefEqProofs only [EE, ze, if_true, Nat.reduceAdd, sto, ldn, ld1, zeL, zo, zC, Zs, ziR, zgT, g0, g1, rn, rl, hc, hr2, hr3, gb, wb, lb, Int.toNat_natCast]
    refine ⟨rfl, .slice (some ⟨b, 0, none⟩) (l ++ List.replicate k v0).length c, ?_⟩
    rw [zid v (k := k) (by omega)]
    have := s3 v.y1 rfl
    rw [<- List.map_set] at this
    have q := (this.p 1).drop
    exact q.p 1
end Go.Rm
namespace Go.Rm
open Go.Ai Go.Proofs Go.Mem
open Go.Rtl (Ins Pg writesI PgOk FnOk InsOk SliceI SliceR Old)
set_option linter.unusedVariables false
set_option linter.unusedSimpArgs false
set_option maxRecDepth 10000
section
variable {lo : Low} {h : za} {L : List HP} {b mb wb fb : Nat} {p : Pg} {S : St} {ev lk gl cl kv fp rv : Value} {c : Fr}
theorem KN {bl at_ : Int} {l : List V} (s : Sat lo h (pt fb (Z4 fp rv bl at_) :: slc 84 3 rv (l.map V.y1) :: L)) (r : Int) : xG Tryd.prog 47 [xF fb, .int .i64 r] h (vv (yY l r)) :=
  zmm s.get s.lt (slc_read (s.p 1) (vL _)) r
theorem JA (s : Sat lo h (pt fb (Z4 fp rv c.blk c.pt) :: slc 84 3 rv (c.zD.map V.y1) :: L)) (i : Ins) (hn : zV i.av = false) : xG Tryd.prog 49 [xF fb, i.val] h (vv (yb c i)) :=
  zf4 s.get s.lt (slc_read (s.p 1) (vL _)) i hn
def zi1 (S : St) (o : Option V) : St := match o with
  | some q => xl S 2 q.b q.n
  | none => S
def zlo (o : Option V) : Value := .tuple #[vv (o.getD v0), .bool o.isSome]
theorem zat (s : Sat lo h [pt b (yG p mb wb S ev lk gl cl kv), slc 39 3 lk (S.lk.map lkRow), pt fb (Z4 fp rv c.blk c.pt), slc 84 3 rv (c.zD.map V.y1)]) (hL : (S.lk.length + 1) * 24 <= 2 ^ 47) (i : Ins) (hn : zV i.av = false) (hc : cellOk i.av = true) :
    DC Tryd.prog 52 [xF b, xF fb, i.val] h (fun v h' => v = zlo (ym c i) /\ ∃ lk', Sat lo h' [pt b (yG p mb wb (zi1 S (ym c i)) ev lk' gl cl kv), slc 39 3 lk' ((zi1 S (ym c i)).lk.map lkRow), pt fb (Z4 fp rv c.blk c.pt), slc 84 3 rv (c.zD.map V.y1)]) := by
  apply zar
  unfold zaC xF
  simp -implicitDefEqProofs only [EE, Value.cells, yZ]
  refine ZO s fun b1 h1 s1 => ?_
  simp -implicitDefEqProofs only [EE, ld1, yc, vj]
  refine ZO s1 fun b2 h2 s2 => ?_
  have g1 := (s2.p 1).get
  simp -implicitDefEqProofs only [EE, g1]
  refine wQ (by kernel_rfl) rfl (KN (s2.f [4, 5]) i.a) ?_
  simp -implicitDefEqProofs only [EE, ld1, vK, uy, W7, g1]
  refine wQ (by kernel_rfl) rfl (YZ i.k _) ?_
  refine wQ (by kernel_rfl) rfl (zkR 11 _ _ _) ?_
  unfold vB
  cases hb : xY 11 (yY c.zD i.a) (ofV i.k) with
  | none =>
    simp -implicitDefEqProofs only [EE, Value.cells, yZ, Yk, Option.getD_none, Option.isSome_none, vv, v0]
    refine ZO s2 fun b3 h3 s3 => ?_
    simp -implicitDefEqProofs only [EE, Nat.reduceAdd, zC]
    refine y9 s3 (by simp) rfl fun h4 s4 => ?_
    simp -implicitDefEqProofs only [EE, Nat.reduceAdd, zC, yg, Ys, Yl]
    refine y9 (s4.p 1) (by simp) rfl fun h5 s5 => ?_
    have g5 := s5.get
    simp -implicitDefEqProofs only [EE, ze, if_true, Nat.reduceAdd, ldn, zo, g5]
    have ea : ym c i = none := by simp [ym, hb]
    rw [ea]
    exact ⟨rfl, lk, s5.k [3, 4, 5, 6]⟩
  | some q =>
    simp -implicitDefEqProofs only [EE, Value.cells, yZ, Yk, Option.getD_some, Option.isSome_some, vv]
    refine ZO s2 fun b3 h3 s3 => ?_
    simp -implicitDefEqProofs only [EE, Nat.reduceAdd, zC]
    refine y9 s3 (by simp) rfl fun h4 s4 => ?_
    have g4 := s4.get
    simp -implicitDefEqProofs only [EE, ze, Nat.reduceAdd, ld1, yc, yJ, Yl, g4]
    by_cases hk : q.k = 2
    . have ea : ym c i = some q := by simp [ym, hb, hk]
      rw [ea]
      simp -implicitDefEqProofs only [EE, ze, Nat.reduceAdd, ld1, vK, yc, yI, xC, VC, g4, hk]
      obtain ⟨lo1, l1, s5, fr⟩ := (s4.f [3, 4]).call (L2 := [pt b (yG p mb wb S ev lk gl cl kv), slc 39 3 lk (S.lk.map lkRow)])
      refine zJ (by kernel_rfl) rfl (zdc s5 hL 2 q.b q.n) ?_
      rintro v h5 ⟨lk', s6⟩
      have s7 := fr _ _ s6
      have g7 := (s7.p 2).get
      simp -implicitDefEqProofs only [EE, ze, if_true, Nat.reduceAdd, ldn, zo, zC, Uo, g7]
      refine y9 (s7.p 3) (by simp) rfl fun h8 s8 => ?_
      have g8 := s8.get
      simp -implicitDefEqProofs only [EE, ze, if_true, Nat.reduceAdd, ldn, zo, g8]
      exact ⟨rfl, lk', s8.k [1, 2, 5, 6]⟩
    . have ea : ym c i = none := by simp [ym, hb, hk]
      rw [ea]
      simp -implicitDefEqProofs only [EE, Nat.reduceAdd, zC, yg, Ys, hk]
      refine y9 (s4.p 1) (by simp) rfl fun h5 s5 => ?_
      have g5 := s5.get
      simp -implicitDefEqProofs only [EE, ze, if_true, Nat.reduceAdd, ldn, zo, g5]
      exact ⟨rfl, lk, s5.k [3, 4, 5, 6]⟩
def brS (S : St) (o : Option V) : St := match o with
  | some w => xl S 1 w.n 0
  | none => S
def brP (c : Fr) (i : Ins) (o : Option V) : Int := match o with
  | some w => if w.n = 0 then i.t else i.s
  | none => c.pt
theorem zmt (s : Sat lo h [pt b (yG p mb wb S ev lk gl cl kv), slc 39 3 lk (S.lk.map lkRow), pt fb (Z4 fp rv c.blk c.pt), slc 84 3 rv (c.zD.map V.y1)]) (hL : (S.lk.length + 1) * 24 <= 2 ^ 47) (i : Ins) (hn : zV i.av = false) (hc : cellOk i.av = true) (o : Option V) (ho : o = xY i.sub (yY c.zD i.a) (yb c i)) :
    DC Tryd.prog 56 [xF b, xF fb, i.val] h (fun v h' => v = .bool o.isSome /\ ∃ lk', Sat lo h' [pt b (yG p mb wb (brS S o) ev lk' gl cl kv), slc 39 3 lk' ((brS S o).lk.map lkRow), pt fb (Z4 fp rv c.blk (brP c i o)), slc 84 3 rv (c.zD.map V.y1)]) := by
  apply zgn
  unfold zjw xF
  simp -implicitDefEqProofs only [EE, Value.cells]
  refine ZO s fun b1 h1 s1 => ?_
  have g1 := s1.get
  simp -implicitDefEqProofs only [EE, ld1, yc, yN, vj, g1]
  refine wQ (by kernel_rfl) rfl (KN (s1.f [3, 4]) i.a) ?_
  simp -implicitDefEqProofs only [EE, if_true, Nat.reduceAdd, ldn, Xs, g1]
  refine wQ (by kernel_rfl) rfl (JA (s1.f [3, 4]) i hn) ?_
  simp -implicitDefEqProofs only []
  refine wQ (by kernel_rfl) rfl (zkR i.sub _ _ _) ?_
  rw [<- ho]
  unfold vB
  cases o with
  | none =>
    simp -implicitDefEqProofs only [EE, Value.cells, yZ, Kd, Option.getD_none, Option.isSome_none, vv, v0]
    refine ZO s1 fun b3 h3 s3 => ?_
    simp -implicitDefEqProofs only [EE, Nat.reduceAdd, zC]
    refine y9 s3 (by simp) rfl fun h4 s4 => ?_
    simp -implicitDefEqProofs only [EE]
    exact ⟨rfl, lk, s4.k [2, 3, 4, 5]⟩
  | some q =>
    simp -implicitDefEqProofs only [EE, Value.cells, yZ, Kd, Option.getD_some, Option.isSome_some, vv]
    refine ZO s1 fun b3 h3 s3 => ?_
    simp -implicitDefEqProofs only [EE, Nat.reduceAdd, zC]
    refine y9 s3 (by simp) rfl fun h4 s4 => ?_
    have g4 := s4.get
    simp -implicitDefEqProofs only [EE, ze, Nat.reduceAdd, ld1, vK, yI, zc3, g4]
    obtain ⟨lo1, l1, s5, fr⟩ := (s4.f [2, 3]).call (L2 := [pt b (yG p mb wb S ev lk gl cl kv), slc 39 3 lk (S.lk.map lkRow)])
    refine zJ (by kernel_rfl) rfl (zdc s5 hL 1 q.n 0) ?_
    rintro v h5 ⟨lk', s6⟩
    have s7 := fr _ _ s6
    have g7 := (s7.p 3).get
    simp -implicitDefEqProofs only [EE, ld1, yc, zeP, Zm, W1, zdj, g7]
    refine y9 (s7.p 4) (by simp) rfl fun h8 s8 => ?_
    have g8 := (s8.p 3).get
    simp -implicitDefEqProofs only [EE, ze, Nat.reduceAdd, ld1, vK, yI, g8]
    by_cases hz : q.n = 0
    . rw [show brP c i (some q) = i.t by simp [brP, hz]]
      have g9 := (s8.p 4).get
      simp -implicitDefEqProofs only [EE, ld1, yc, zeP, Zm, zcf, zdD, g9, hz]
      refine y9 s8 (by simp [ze]) rfl fun h9 s9 => ?_
      simp -implicitDefEqProofs only [EE]
      exact ⟨rfl, lk', s9.k [1, 2, 0, 5]⟩
    . rw [show brP c i (some q) = i.s by simp [brP, hz]]
      simp -implicitDefEqProofs only [EE, hz]
      exact ⟨rfl, lk', s8.k [1, 2, 0, 5]⟩
end
end Go.Rm
namespace Go.Rm
open Go.Ai Go.Proofs Go.Mem
open Go.Rtl (Ins Pg writesI PgOk FnOk InsOk SliceI SliceR Old)
set_option linter.unusedVariables false
set_option linter.unusedSimpArgs false
set_option maxRecDepth 10000
section
variable {g h : za} {F G : Nat -> Prop}
theorem zks {q : Nat} {gs : List (Option Nat)} {B : MB} (x : jI g q gs B F) (e : ∀ b o, F b -> g.get b = some o -> h.get b = some o /\ G b) : jI h q gs B G :=
  ⟨x.hl, (e q _ x.fq x.hq).2, (e q _ x.fq x.hq).1, fun j p hj => by
    obtain ⟨a, cs, c1, c2, c3⟩ := x.hg j p hj
    exact ⟨(e p _ a c1).2, cs, (e p _ a c1).1, c2, c3⟩, x.hn, x.hd, x.ht⟩
theorem zl9 {p : Nat} {B : MB} (x : zhX g p B F) (e : ∀ b o, F b -> g.get b = some o -> h.get b = some o /\ G b) : zhX h p B G := by
  obtain ⟨pg, a, b, c⟩ := x
  refine ⟨pg, (e p _ b a).1, (e p _ b a).2, ?_⟩
  cases c with
  | empty a b => exact .empty a b
  | full q c gs a x => exact .full q c gs a (zks x e)
def znU (m : Nat) (M : MM) (h : za) (F : Nat -> Prop) : Prop := zie h m M F
theorem Yn (m : Nat) (M : MM) : Mv (znU m M) := by
  rintro g h F G ⟨bs, ps, fs, x⟩ e ok
  refine ⟨bs, ps, fun i b => fs i b /\ ∃ o, g.get b = some o, (e m _ x.fm x.hm).1, (e m _ x.fm x.hm).2, x.len, ?_, fun i q => x.nm i q.1, fun i p B hp hB => ?_, fun i j b p q => x.dis i j b p.1 q.1, fun i b q => ?_, ok⟩
  . rcases x.hb with a | ⟨bb, c, a1, a2, a3, a4, a5⟩
    . exact .inl a
    . exact .inr ⟨bb, c, a1, a2, (e bb _ a3 a4).2, (e bb _ a3 a4).1, fun i q => a5 i q.1⟩
  . exact zl9 (x.blk i p B hp hB) fun b o hb hg => ⟨(e b o (x.sub i b hb) hg).1, hb, o, hg⟩
  . obtain ⟨q1, o, q2⟩ := q
    exact (e b o (x.sub i b q1) q2).2
end
def jt (m : Nat) (M : MM) : HP := own (znU m M)
section
variable {lo : Low} {h : za} {L : List HP} {m : Nat} {M : MM}
theorem VH {F : Nat -> Prop} {M' : MM} {h1 : za} (c : ∀ h1 F' X', Mv X' -> h.next <= h1.next -> h1.ro = h.ro -> (∀ b, ¬ F b -> b < h.next -> h1.get b = h.get b) -> X' h1 F' -> (∀ b, F' b -> F b \/ h.next <= b) -> (∀ b, F' b -> h1.ro <= b /\ b < h1.next) -> Sat lo h1 (own X' :: L)) (x : zjP h m M' F h1) : Sat lo h1 (jt m M' :: L) := by
  obtain ⟨F', mh, eff, sub⟩ := x
  obtain ⟨bs, ps, fs, mo⟩ := mh
  exact c h1 F' (znU m M') (Yn m M') eff.next eff.ro (fun b hb hlt => eff.get b hb hlt) ⟨bs, ps, fs, mo⟩ sub mo.ok
theorem zgd (s : Sat lo h (jt m M :: L)) (n : Int) : DC Tryd.prog 30 [xF m, .int .i64 n] h (fun v h1 => v = .tuple #[.int .i64 (yK M n).2.1, .int .i64 (yK M n).2.2] /\ Sat lo h1 (jt m (yK M n).1 :: L)) := by
  obtain ⟨F, ⟨bs, ps, fs, x⟩, _, c⟩ := Sat.Y9 (Yn m M) s
  exact (zjg x n).mono fun v h1 ⟨e, mu⟩ => ⟨e, VH c mu⟩
theorem zjJ (s : Sat lo h (jt m M :: L)) (hL : M.length <= 100000) {n : Int} (hn : n < 9223372036854775808) : DC Tryd.prog 78 [xF m, .int .i64 n] h (fun v h1 => v = .bool (qz M n).isSome /\ Sat lo h1 (jt m ((qz M n).getD M) :: L)) := by
  obtain ⟨F, ⟨bs, ps, fs, x⟩, _, c⟩ := Sat.Y9 (Yn m M) s
  refine (zk9 x hL hn).mono fun v h1 r => ?_
  unfold zh4 at r
  cases e : qz M n with
  | none => rw [e] at r; obtain ⟨r1, rfl⟩ := r; exact ⟨r1, s⟩
  | some M' => rw [e] at r; exact ⟨r.1, VH c r.2⟩
theorem zlU (s : Sat lo h (jt m M :: L)) (hs : small M) {n : Int} (hn : n < 9223372036854775808) : DC Tryd.prog 31 [xF m, .int .i64 n] h (fun v h1 => v = .bool (XL M n).isSome /\ Sat lo h1 (jt m ((XL M n).getD M) :: L)) := by
  obtain ⟨F, ⟨bs, ps, fs, x⟩, _, c⟩ := Sat.Y9 (Yn m M) s
  refine (zll x hs hn).mono fun v h1 r => ?_
  unfold zjc at r
  cases e : XL M n with
  | none => rw [e] at r; obtain ⟨r1, rfl⟩ := r; exact ⟨r1, s⟩
  | some M' => rw [e] at r; exact ⟨r.1, VH c r.2⟩
theorem zne (s : Sat lo h (jt m M :: L)) (hs : small M) {c : Int} {p : V} (hc : ZR c) (hp : p.ok) : DC Tryd.prog 53 [xF m, .int .i64 c, vv p] h (fun v h1 => v = vB (jr M c p) /\ Sat lo h1 (jt m M :: L)) := by
  obtain ⟨F, ⟨bs, ps, fs, x⟩, _, _⟩ := Sat.Y9 (Yn m M) s
  refine (zkW x hs hc hp).mono fun v h1 ⟨e, r⟩ => ⟨?_, s.zoV e.next e.ro fun b hb => e.get b (fun q => q) hb⟩
  unfold zdV at r
  cases e : jr M c p with
  | none => rw [e] at r; exact r
  | some a => rw [e] at r; exact r
theorem zkA (s : Sat lo h (jt m M :: L)) (hs : small M) {c : Int} {p v : V} (hc : ZR c) (hp : p.ok) : DC Tryd.prog 54 [xF m, .int .i64 c, vv p, vv v] h (fun r h1 => r = .bool (uC M c p v).isSome /\ Sat lo h1 (jt m ((uC M c p v).getD M) :: L)) := by
  obtain ⟨F, ⟨bs, ps, fs, x⟩, _, cl⟩ := Sat.Y9 (Yn m M) s
  refine (zji x hs hc hp).mono fun r h1 q => ?_
  unfold Ub at q
  cases e : uC M c p v with
  | none => rw [e] at q; exact ⟨q.1, VH cl q.2⟩
  | some M' => rw [e] at q; exact ⟨q.1, VH cl q.2⟩
theorem zlW (s : Sat lo h L) : DC Tryd.prog 28 [] h (fun v h1 => ∃ m, v = xF m /\ Sat lo h1 (jt m [] :: L)) := by
  refine (zm0 h).mono fun v h1 ⟨e, x, eff⟩ => ⟨h.next, e, ?_⟩
  obtain ⟨bs, ps, fs, mo⟩ := x
  exact s.zku (Yn h.next []) eff.next eff.ro (fun b hb => eff.get b (fun q => q) hb) ⟨bs, ps, fs, mo⟩ fun b hb => ⟨by rw [hb]; exact Nat.le_refl _, (mo.ok b hb).2⟩
end
end Go.Rm
namespace Go.Rm
open Go.Ai Go.Proofs Go.Mem
open Go.Rtl (Ins Pg writesI PgOk FnOk InsOk SliceI SliceR Old inc)
set_option linter.unusedVariables false
set_option linter.unusedSimpArgs false
set_option maxRecDepth 10000
def Rd (lo : Low) (X : za -> Prop) : Prop := ∀ h, zfa lo h -> X h
theorem Rd.mono {lo lo' : Low} {X : za -> Prop} (x : Rd lo X) (l : lo.Le lo') : Rd lo' X := fun h b => x h (b.mono l)
theorem Rd.at {lo : Low} {X : za -> Prop} {h : za} {L : List HP} (x : Rd lo X) (s : Sat lo h L) : X h := x h s.base
theorem Rd.of {lo : Low} {X : za -> Prop} {h0 : za} (hl : lo.Has h0) (x : X h0) (m : ∀ h, Old h0 h -> X h) : Rd lo X := fun h b => m h (by obtain ⟨a, c, d⟩ := hl.old b; exact ⟨a, c, d⟩)
section
variable {lo : Low} {h : za} {L : List HP} {ty : TypeId} {n : Nat} {sv : Value} {rows : List (List Value)}
theorem zjv (s : Sat lo h (slc ty n sv rows :: L)) (hn : ∀ r, r ∈ rows -> r.length = n) : ∃ lo1, lo.Le lo1 /\ Rd lo1 (SliceR · sv n rows) /\ Sat lo1 h L /\ ∀ h' L', Sat lo1 h' L' -> Sat lo h' (slc ty n sv rows :: L') := by
  obtain ⟨a, ha, d, w, s⟩ := s
  refine ⟨lo.un a, Low.KM d, fun h1 b1 => ?_, s, fun h' L' s' => ⟨a, ha, d, w, s'⟩⟩
  have : Sat lo h1 [slc ty n sv rows] := ⟨a, ha, d, w, b1⟩
  exact slc_read this hn
end
def frA (p : Pg) (fb : Nat) (c : Fr) : HP := ex fun fp => ex fun rv => zht [fact (zG Tryd.prog 23 p.fv (.int .i64 (c.f : Nat)) = some fp), pt fb (Z4 fp rv c.blk c.pt), slc 84 3 rv (c.zD.map V.y1)]
section
variable {lo : Low} {h : za} {L : List HP} {p : Pg} {fb : Nat} {c : Fr}
theorem xO (s : Sat lo h (frA p fb c :: L)) : ∃ fp rv, zG Tryd.prog 23 p.fv (.int .i64 (c.f : Nat)) = some fp /\ Sat lo h (pt fb (Z4 fp rv c.blk c.pt) :: slc 84 3 rv (c.zD.map V.y1) :: L) := by
  obtain ⟨fp, s⟩ := s.zov
  obtain ⟨rv, s⟩ := s.zov
  obtain ⟨e, s⟩ := Sat.zdI.1 s.open
  exact ⟨fp, rv, e, s⟩
theorem q9 {fp rv : Value} (e : zG Tryd.prog 23 p.fv (.int .i64 (c.f : Nat)) = some fp) (s : Sat lo h (pt fb (Z4 fp rv c.blk c.pt) :: slc 84 3 rv (c.zD.map V.y1) :: L)) : Sat lo h (frA p fb c :: L) :=
  Sat.zou fp (Sat.zou rv (Sat.close (Sat.zdI.2 ⟨e, s⟩)))
end
theorem zda (l : List V) (r : Int) (v : V) : (qY l r v).length <= max l.length (r.toNat + 1) := by
  unfold qY
  split
  . omega
  . simp; omega
theorem Uy : ∀ (ps : List Int) (al l : List V) (r : Int) (a : V), ps.length <= al.length -> al[ps.length]? = some a -> w7 (ps ++ [r]) al l = qY (w7 ps al l) r a
  | [], a' :: al, l, r, a, _, h => by simp at h; subst h; rfl
  | [], [], l, r, a, _, h => by cases h
  | p :: ps, a' :: al, l, r, a, hl, h => by
    simp only [List.cons_append, w7]
    exact Uy ps al _ r a (by simpa using hl) (by simpa using h)
  | p :: ps, [], l, r, a, hl, h => by simp at hl
theorem Zp : ∀ (ps : List Int) (al l : List V) {m : Nat}, l.length <= m -> (∀ r, r ∈ ps -> r.toNat < m) -> (w7 ps al l).length <= m
  | [], al, l, m, h, _ => by cases al <;> exact h
  | p :: ps, a :: al, l, m, h, hp => by
    simp only [w7]
    refine Zp ps al _ ?_ fun r hr => hp r (by simp [hr])
    have := zda l p a
    have := hp p (by simp)
    omega
  | p :: ps, [], l, m, h, _ => h
section
variable {lo : Low} {h : za} {b mb wb : Nat} {p : Pg} {S : St} {ev lk gl cl kv av : Value} {fbs : List Nat} {f : Go.Rtl.Fn} {args : List V} {n : Nat}
theorem zo6 {h : za} {sv : Value} {l : List Nat} (S : SliceR h sv 1 (l.map xP)) (r : TypeId) (h' : za) : zg Tryd.prog .len [77] r [sv] h' = some (.int .i64 l.length, h') := by
  rcases S with ⟨rfl, e⟩ | ⟨b, off, cp, rfl, _⟩
  . have : l = [] := by simpa using e
    subst this
    simp only [Xt, List.length_nil]
  . simp only [Xt, List.length_map]
theorem QV (l : List Nat) : ∀ r, r ∈ l.map xP -> r.length = 1 := row_of (f := xP) (fun _ => rfl) l
theorem zfT (hp : Rd lo (PgOk · p)) (ha : Rd lo (SliceR · av 3 (args.map V.y1))) (s : Sat lo h [pt b (yG p mb wb S ev lk gl cl kv), slc 111 1 cl (fbs.map xP), jt mb S.mem])
    (hf : p.funcs[n]? = some f) (hl : args.length = f.params.length) (hfb : fbs.length = S.calls.length) (hr : ∀ r, r ∈ f.params -> r < 100000) (hpl : f.params.length <= 100000) :
    DC Tryd.prog 33 [xF b, .int .i64 (n : Nat), av] h (fun v h' => v = .bool (xt p S n args).2 /\
      if (xt p S n args).2 = true then ∃ fb cl', Sat lo h' [pt b (yG p mb wb (xt p S n args).1 ev lk gl cl' kv), slc 111 1 cl' ((fbs ++ [fb]).map xP), jt mb (xt p S n args).1.mem, frA p fb ⟨n, w7 f.params args [], (yK S.mem f.frame).2.1, f.entry⟩]
      else Sat lo h' [pt b (yG p mb wb (xt p S n args).1 ev lk gl cl kv), slc 111 1 cl (fbs.map xP), jt mb (xt p S n args).1.mem]) := by
  apply zd4
  unfold zgY xF
  have gm := s.get
  unfold yG xF at gm
  have hP := hp.at s
  obtain ⟨bf, o, cf, tf, hix, hbf, hgf, hof, htf, hkf⟩ := SliceR.zh1 hP.funcs (i := n) (r := f.row) (by rw [List.getElem?_map, hf]; rfl) rfl
  have fvn := hP.funcs.nob
  have SC := slc_read (s.p 1) (QV fbs)
  have cn := SC.nob
  have cll := zo6 SC 3
  have en : (n : Int).toNat = n := Int.toNat_natCast n
  by_cases hc : ((fbs.length : Nat) : Int) ≥ 20000
  . have e : xt p S n args = (S, false) := by unfold xt; rw [if_pos (by omega)]
    simp -implicitDefEqProofs only [EE, ld1, qN, US, xV, zhe, qU, gm, hix, cn, cll, hc]
    rw [e]
    exact ⟨rfl, by simpa using s⟩
  simp -implicitDefEqProofs only [EE, ld1, qN, yc, zb1, US, xV, qS, zhe, Z9, qU, zag, gm, hix, cn, cll, hc]
  have k3 := hkf 3 (by decide)
  simp -implicitDefEqProofs only [EE, hgf, k3]
  obtain ⟨lo1, l1, s1, fr⟩ := (s.f [2]).call (L2 := [jt mb S.mem])
  refine vi (by kernel_rfl) rfl (zgd s1 f.frame) ?_
  rintro v h2 ⟨rfl, s2⟩
  have s3 := fr _ _ s2
  obtain ⟨M', rB, rE, hA⟩ : ∃ M' rB rE, yK S.mem f.frame = (M', rB, rE) := ⟨_, _, _, rfl⟩
  have en : xt p S n args = if rE = 0 then ({ S with mem := M', calls := S.calls ++ [⟨n, w7 f.params args [], rB, f.entry⟩] }, true) else ({ S with mem := M' }, false) := by
    unfold xt
    rw [if_neg (by omega)]
    simp only [Int.toNat_natCast, hf, hA]
  rw [hA] at s3 ⊢
  have gm3 := (s3.p 1).get
  unfold yG xF at gm3
  by_cases hE : rE = 0
  . rw [if_pos hE] at en
    rw [en]
    have hP2 := hp.at s3
    have hf2 := hP2.fns f (List.mem_of_getElem? hf)
    obtain ⟨bf2, o2, cf2, tf2, hix2, hbf2, hgf2, hof2, htf2, hkf2⟩ := SliceR.zh1 hP2.funcs (i := n) (r := f.row) (by rw [List.getElem?_map, hf]; rfl) rfl
    rw [hix] at hix2
    obtain ⟨e1, e2⟩ : bf = bf2 /\ o = o2 := by simpa using hix2
    subst bf2 o2
    have k4 := hkf2 4 (by decide)
    simp -implicitDefEqProofs only [EE, Value.cells, ld1, qa, yc, zaQ, X1, zby, JX, Vj, hE, hgf2, k4]
    refine ZO s3 fun b1 h3 s4 => ?_
    have hP4 := hp.at s4
    have hf4 := hP4.fns f (List.mem_of_getElem? hf)
    obtain ⟨bf4, o4, cf4, tf4, hix4, hbf4, hgf4, hof4, htf4, hkf4⟩ := SliceR.zh1 hP4.funcs (i := n) (r := f.row) (by rw [List.getElem?_map, hf]; rfl) rfl
    rw [hix] at hix4
    obtain ⟨e1, e2⟩ : bf = bf4 /\ o = o4 := by simpa using hix4
    subst bf4 o4
    have k14 := hkf4 1 (by decide)
    have pn := hf4.params.nob
    have pl := hf4.params.len
    simp -implicitDefEqProofs only [EE, ↓BK, hgf4, k14, pn, pl]
    refine kj (fun m vs h' => ∃ (i : Nat) (rv : Value), i <= f.params.length /\ m = f.params.length - i /\ vs = [.int .i64 (i : Nat)] /\ Sat lo h' [pt b1 (Z4 (.pointer (some ⟨bf, o, none⟩)) rv rB f.entry), slc 84 3 rv ((w7 (f.params.take i) args []).map V.y1), jt mb M', pt b (yG p mb wb S ev lk gl cl kv), slc 111 1 cl (fbs.map xP)])
      f.params.length ⟨0, .slice none 0 0, Nat.zero_le _, rfl, rfl, ?_⟩ ?_
    . have q := qR 84 3 s4
      rw [List.take_zero, show w7 [] args [] = [] by cases args <;> rfl]
      exact (q.f [1, 0, 2, 3, 4])
    rintro m vs h' ⟨i, rv, hi, rfl, rfl, s5⟩
    unfold K0
    by_cases hc2 : (i : Int) < (f.params.length : Int)
    . obtain ⟨r, hr1⟩ : ∃ r, f.params[i]? = some r := ⟨_, List.getElem?_eq_getElem (by omega)⟩
      obtain ⟨a, ha1⟩ : ∃ a, args[i]? = some a := ⟨_, List.getElem?_eq_getElem (by omega)⟩
      obtain ⟨b5, o5, c5, t5, ix5, lt5, g5, k5⟩ := ((hp.at s5).fns f (List.mem_of_getElem? hf)).params.at hr1
      obtain ⟨b6, o6, c6, t6, ⟨off6, cp6, hav, rfl⟩, hi6, hb6, hg6, hl6, ht6, _⟩ := (ha.at s5).spot (i := i) (r := a.y1) (by rw [List.getElem?_map, ha1]; rfl) rfl
      subst hav
      have hi7 : (i : Int) < (args.length : Int) := by omega
      have hi8 : (0 : Int) <= i := by omega
      have ht6' : (c6.drop (off6 + i * 3)).take 3 = [.int .i64 a.k, .int .i64 a.n, .int .i64 a.b] := ht6
      simp -implicitDefEqProofs only [EE, nth, ↓BK, if_true, ldn, ld1, yc, zo, ziR, zbi, JP, hc2, ix5, g5, k5, hi7, hi8, hg6, hl6, ht6', Int.toNat_natCast]
      obtain ⟨lo2, l2, s6, fr2⟩ := (s5.f [0, 1]).call (L2 := [pt b1 (Z4 (.pointer (some ⟨bf, o, none⟩)) rv rB f.entry), slc 84 3 rv ((w7 (f.params.take i) args []).map V.y1)])
      refine zJ (by kernel_rfl) rfl (zk0 s6 r a (hr r (List.mem_of_getElem? hr1)) ?_) ?_
      . exact Zp _ _ _ (by simp) fun r hr' => by have := hr r (List.mem_of_mem_take hr'); omega
      rintro v h6 ⟨rv', s7⟩
      have s8 := fr2 _ _ s7
      simp -implicitDefEqProofs only [EE, nth, inc (show i < 4611686018427387904 by omega)]
      refine ⟨f.params.length - (i + 1), by omega, i + 1, rv', by omega, rfl, rfl, ?_⟩
      rw [List.take_add_one, hr1]
      have hlen : (f.params.take i).length = i := by simp; omega
      have hg := Uy (f.params.take i) args [] r a (by rw [hlen]; omega) (by rw [hlen]; exact ha1)
      rw [show (some r).toList = [r] from rfl, hg]
      exact s8
    . have hi9 : i = f.params.length := by omega
      subst hi9
      rw [List.take_length] at s5
      have g5 := (s5.p 3).get
      unfold yG xF at g5
      have SC5 := slc_nob (s5.p 4)
      have s6 := s5.push (.cells [xF b1] 111)
      obtain ⟨b', c', h7, a1, s7⟩ := Yj (s6.p 5) (QV fbs) [xF b1] rfl (by decide) 8 (by rw [List.length_map]; omega)
      rw [List.length_map] at a1 s7
      have hap : ∀ r, zg Tryd.prog .append [77, 77] r [cl, .slice (some ⟨h'.next, 0, none⟩) 1 3] (h'.push (.cells [xF b1] 111)) = some (.slice (some ⟨b', 0, none⟩) (fbs.length + 1) c', h7) := fun r =>
        (znY r _ _ 1 [xF b1] _ rfl (by simp only [xh, zw]; rfl) rfl rfl).trans a1
      unfold xF at hap
      simp -implicitDefEqProofs only [EE, nth, ld1, US, zkl, zgO, qU, JQ, hc2, g5, SC5, hap]
      refine y9 (s7.p 5) (by simp) rfl fun h8 s8 => ?_
      simp -implicitDefEqProofs only [EE, if_true]
      refine ⟨b1, .slice (some ⟨b', 0, none⟩) (fbs.length + 1) c', ?_⟩
      have e1 : (fbs ++ [b1]).map xP = fbs.map xP ++ [[xF b1]] := by simp [xP]
      rw [e1]
      have s9 := s8.k [3, 4, 0, 1, 5]
      have s10 := q9 (p := p) (fb := b1) (c := ⟨n, w7 f.params args [], rB, f.entry⟩) hix s9
      exact s10.f [1, 2, 3, 0]
  . rw [if_neg hE] at en
    rw [en]
    simp -implicitDefEqProofs only [EE, Vj, hE]
    exact s3.f [1, 2, 0]
end
end Go.Rm
