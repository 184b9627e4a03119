/-
  RTL: the document's word on whether two instructions, two functions, two programs are the same.
-/
import Derived.Test.YtikgepmgdhkngaaGreatDoorRgDd
namespace Go.Rtl
open Go.Ai Go.Proofs
set_option linter.unusedVariables false
set_option linter.unusedSimpArgs false
set_option maxRecDepth 10000
/-- What is asked of two elements at the same place. -/
def pairB {α β : Type} (xs : List α) (ys : List β) (R : α → β → Bool) (k : Nat) : Bool := match xs[k]?, ys[k]? with
  | some x, some y => R x y
  | _, _ => true
def sameL {α β : Type} (R : α → β → Bool) (xs : List α) (ys : List β) : Bool := (List.range xs.length).all (pairB xs ys R)
theorem pairB_of {α β : Type} {xs : List α} {ys : List β} {R : α → β → Bool} {k : Nat} {x : α} {y : β} (hx : xs[k]? = some x) (hy : ys[k]? = some y) : pairB xs ys R k = R x y := by
  simp only [pairB, hx, hy]
theorem sameL_no {α β : Type} {xs : List α} {ys : List β} {R : α → β → Bool} {k : Nat} {x : α} {y : β} (hx : xs[k]? = some x) (hy : ys[k]? = some y) (hr : R x y = false) : sameL R xs ys = false := by
  refine range_not (k := k) ?_ (by rw [pairB_of hx hy, hr])
  rcases Nat.lt_or_ge k xs.length with q | q
  · exact q
  · rw [List.getElem?_eq_none q] at hx; cases hx
def eqI (a b : Int) : Bool := decide (a = b)
def sameInsB (x y : Ins) : Bool := decide (x.op = y.op) && (decide (x.sub = y.sub) && (decide (x.a = y.a) && (decide (x.b = y.b) && (decide (x.d = y.d) && (decide (x.k = y.k) && (decide (x.s = y.s) && (decide (x.t = y.t) && (decide ((x.args.length : Int) = y.args.length) && sameL eqI x.args y.args))))))))
section
variable {h : AHeap} {b1 b2 : Nat} {B : Bool}
/-- The arguments' loop. -/
theorem si3 {x y : Ins} {v0 : Value} (X : InsOk h x) (Y : InsOk h y) (hg1 : h.get b1 = some (xcells x)) (hg2 : h.get b2 = some (xcells y)) (hl : (x.args.length : Int) = y.args.length) (hB : B = sameL eqI x.args y.args) :
    LP (X_SameInstr_3 (.pointer (some ⟨b1, 0, none⟩)) (fun _ h96 => isB B (.bool true) h96) (.pointer (some ⟨b2, 0, none⟩)) (isB B)) [v0, (.int .i64 0)] h := by
  refine LP_upQ (fun g => g = h) x.args.length (pairB x.args y.args eqI) rfl ?_
  intro i h2 J hi hh hq hJ
  subst hh
  have xn := X.args.nob
  have yn := Y.args.nob
  have xl := X.args.len22 3
  rcases Nat.lt_or_ge i x.args.length with hlt | hge
  · obtain ⟨z, hz, _⟩ := get_some hlt
    obtain ⟨w, hw, _⟩ := get_some (l := y.args) (k := i) (by omega)
    obtain ⟨b, o, c, t, ha, hbb, hgt, hco⟩ := X.args.at hz
    obtain ⟨b', o', c', t', ha', hbb', hgt', hco'⟩ := Y.args.at hw
    have hlt' : (i : Int) < (x.args.length : Int) := by omega
    have hinc : IntKind.wrap .i64 ((i : Int) + 1) = ((i + 1 : Nat) : Int) := inc (by have := X.few; omega)
    by_cases e : z = w
    · simp -implicitDefEqProofs only [EE, cond_true, cond_false, nth, ↓nw, Value.cells, ↓BK, setMany, if_true, if_false, Nat.reduceAdd, Nat.reduceLeDiff, Nat.reduceMul, Nat.reduceMod, Nat.reduceDiv, Nat.reduceSub, Nat.reduceEqDiff, Int.reduceEq, Int.reduceLT, Int.reduceLE, Int.reduceAdd, Int.reduceSub, Int.reduceMul, Int.reduceNeg, Int.reduceToNat, ne_eq, sto, ldn, ld1, beq_self_eq_true, al_2, al_22, al_3, fa_43_0, fa_43_1, fa_43_2, fa_43_3, fa_43_4, fa_43_5, fa_43_6, fa_43_7, fa_43_8, ix_22, len_22, X_SameInstr_1, X_SameInstr_2, X_SameInstr_3, hg1, hg2, xn, yn, xl, hlt', ha, hgt, hco, ha', hgt', hco', e, hinc]
      exact hJ _ hlt (by rw [pairB_of hz hw]; simp [eqI, e]) rfl
    · simp -implicitDefEqProofs only [EE, cond_true, cond_false, nth, ↓nw, Value.cells, ↓BK, setMany, if_true, if_false, Nat.reduceAdd, Nat.reduceLeDiff, Nat.reduceMul, Nat.reduceMod, Nat.reduceDiv, Nat.reduceSub, Nat.reduceEqDiff, Int.reduceEq, Int.reduceLT, Int.reduceLE, Int.reduceAdd, Int.reduceSub, Int.reduceMul, Int.reduceNeg, Int.reduceToNat, ne_eq, sto, ldn, ld1, beq_self_eq_true, al_2, al_22, al_3, fa_43_0, fa_43_1, fa_43_2, fa_43_3, fa_43_4, fa_43_5, fa_43_6, fa_43_7, fa_43_8, ix_22, len_22, X_SameInstr_1, X_SameInstr_2, X_SameInstr_3, hg1, hg2, xn, yn, xl, hlt', ha, hgt, hco, ha', hgt', hco', e]
      rw [hB, sameL_no hz hw (by simp [eqI, e])]; rfl
  · have hlt' : ¬ (i : Int) < (x.args.length : Int) := by omega
    simp -implicitDefEqProofs only [EE, cond_true, cond_false, nth, ↓nw, Value.cells, ↓BK, setMany, if_true, if_false, Nat.reduceAdd, Nat.reduceLeDiff, Nat.reduceMul, Nat.reduceMod, Nat.reduceDiv, Nat.reduceSub, Nat.reduceEqDiff, Int.reduceEq, Int.reduceLT, Int.reduceLE, Int.reduceAdd, Int.reduceSub, Int.reduceMul, Int.reduceNeg, Int.reduceToNat, ne_eq, sto, ldn, ld1, beq_self_eq_true, al_2, al_22, al_3, fa_43_0, fa_43_1, fa_43_2, fa_43_3, fa_43_4, fa_43_5, fa_43_6, fa_43_7, fa_43_8, ix_22, len_22, X_SameInstr_3, hg1, xn, xl, hlt']
    have : sameL eqI x.args y.args = true := range_all fun k hk => hq k (by omega)
    rw [hB, this]; rfl
end
theorem sameIns_q (x y : Ins) (h : AHeap) (X : InsOk h x) (Y : InsOk h y) : Quiet Tryz.prog 33 [x.val, y.val] h (.bool (sameInsB x y)) := by
  apply quiet_b
  replace X := X.lock
  replace Y := Y.lock
  generalize h.lock = L at X Y
  apply X_SameInstr_ok
  unfold X_SameInstr
  have xn := X.args.nob
  have yn := Y.args.nob
  simp -implicitDefEqProofs only [EE, cond_true, cond_false, nth, ↓nw, Value.cells, ↓BK, setMany, if_true, if_false, Nat.reduceAdd, Nat.reduceLeDiff, Nat.reduceMul, Nat.reduceMod, Nat.reduceDiv, Nat.reduceSub, Nat.reduceEqDiff, Int.reduceEq, Int.reduceLT, Int.reduceLE, Int.reduceAdd, Int.reduceSub, Int.reduceMul, Int.reduceNeg, Int.reduceToNat, ne_eq, sto, ldn, ld1, beq_self_eq_true, al_2, al_22, al_3, fa_43_0, fa_43_1, fa_43_2, fa_43_3, fa_43_4, fa_43_5, fa_43_6, fa_43_7, fa_43_8, ix_22, len_22, xn, yn]
  have e : Old L ((L.push (xcells x)).push (xcells y)) := (Old.push _ _).trans (Old.push _ _)
  have g1 : ((L.push (xcells x)).push (xcells y)).get L.next = some (xcells x) := by
    rw [get_push_lt (Nat.lt_succ_self _)]; exact get_push_self
  have g2 : ((L.push (xcells x)).push (xcells y)).get (L.next + 1) = some (xcells y) := get_push_self
  generalize (L.push (xcells x)).push (xcells y) = H at e g1 g2
  have X2 := X.old e
  have Y2 := Y.old e
  have xl := X2.args.len22 3
  have yl := Y2.args.len22 3
  unfold sameInsB
  by_cases c1 : x.op = y.op
  case neg => simp -implicitDefEqProofs only [EE, cond_true, cond_false, nth, ↓nw, Value.cells, ↓BK, setMany, if_true, if_false, Nat.reduceAdd, Nat.reduceLeDiff, Nat.reduceMul, Nat.reduceMod, Nat.reduceDiv, Nat.reduceSub, Nat.reduceEqDiff, Int.reduceEq, Int.reduceLT, Int.reduceLE, Int.reduceAdd, Int.reduceSub, Int.reduceMul, Int.reduceNeg, Int.reduceToNat, ne_eq, sto, ldn, ld1, beq_self_eq_true, al_2, al_22, al_3, fa_43_0, fa_43_1, fa_43_2, fa_43_3, fa_43_4, fa_43_5, fa_43_6, fa_43_7, fa_43_8, ix_22, len_22, X_SameInstr_4, X_SameInstr_5, X_SameInstr_6, X_SameInstr_7, X_SameInstr_8, X_SameInstr_9, X_SameInstr_10, X_SameInstr_11, X_SameInstr_12, X_SameInstr_13, X_SameInstr_14, X_SameInstr_15, X_SameInstr_16, X_SameInstr_17, X_SameInstr_18, X_SameInstr_19, X_SameInstr_20, X_SameInstr_21, X_SameInstr_22, X_SameInstr_23, X_SameInstr_24, g1, g2, c1]; simp [isB]
  by_cases c2 : x.sub = y.sub
  case neg => simp -implicitDefEqProofs only [EE, cond_true, cond_false, nth, ↓nw, Value.cells, ↓BK, setMany, if_true, if_false, Nat.reduceAdd, Nat.reduceLeDiff, Nat.reduceMul, Nat.reduceMod, Nat.reduceDiv, Nat.reduceSub, Nat.reduceEqDiff, Int.reduceEq, Int.reduceLT, Int.reduceLE, Int.reduceAdd, Int.reduceSub, Int.reduceMul, Int.reduceNeg, Int.reduceToNat, ne_eq, sto, ldn, ld1, beq_self_eq_true, al_2, al_22, al_3, fa_43_0, fa_43_1, fa_43_2, fa_43_3, fa_43_4, fa_43_5, fa_43_6, fa_43_7, fa_43_8, ix_22, len_22, X_SameInstr_4, X_SameInstr_5, X_SameInstr_6, X_SameInstr_7, X_SameInstr_8, X_SameInstr_9, X_SameInstr_10, X_SameInstr_11, X_SameInstr_12, X_SameInstr_13, X_SameInstr_14, X_SameInstr_15, X_SameInstr_16, X_SameInstr_17, X_SameInstr_18, X_SameInstr_19, X_SameInstr_20, X_SameInstr_21, X_SameInstr_22, X_SameInstr_23, X_SameInstr_24, g1, g2, c1, c2]; simp [isB]
  by_cases c3 : x.a = y.a
  case neg => simp -implicitDefEqProofs only [EE, cond_true, cond_false, nth, ↓nw, Value.cells, ↓BK, setMany, if_true, if_false, Nat.reduceAdd, Nat.reduceLeDiff, Nat.reduceMul, Nat.reduceMod, Nat.reduceDiv, Nat.reduceSub, Nat.reduceEqDiff, Int.reduceEq, Int.reduceLT, Int.reduceLE, Int.reduceAdd, Int.reduceSub, Int.reduceMul, Int.reduceNeg, Int.reduceToNat, ne_eq, sto, ldn, ld1, beq_self_eq_true, al_2, al_22, al_3, fa_43_0, fa_43_1, fa_43_2, fa_43_3, fa_43_4, fa_43_5, fa_43_6, fa_43_7, fa_43_8, ix_22, len_22, X_SameInstr_4, X_SameInstr_5, X_SameInstr_6, X_SameInstr_7, X_SameInstr_8, X_SameInstr_9, X_SameInstr_10, X_SameInstr_11, X_SameInstr_12, X_SameInstr_13, X_SameInstr_14, X_SameInstr_15, X_SameInstr_16, X_SameInstr_17, X_SameInstr_18, X_SameInstr_19, X_SameInstr_20, X_SameInstr_21, X_SameInstr_22, X_SameInstr_23, X_SameInstr_24, g1, g2, c1, c2, c3]; simp [isB]
  by_cases c4 : x.b = y.b
  case neg => simp -implicitDefEqProofs only [EE, cond_true, cond_false, nth, ↓nw, Value.cells, ↓BK, setMany, if_true, if_false, Nat.reduceAdd, Nat.reduceLeDiff, Nat.reduceMul, Nat.reduceMod, Nat.reduceDiv, Nat.reduceSub, Nat.reduceEqDiff, Int.reduceEq, Int.reduceLT, Int.reduceLE, Int.reduceAdd, Int.reduceSub, Int.reduceMul, Int.reduceNeg, Int.reduceToNat, ne_eq, sto, ldn, ld1, beq_self_eq_true, al_2, al_22, al_3, fa_43_0, fa_43_1, fa_43_2, fa_43_3, fa_43_4, fa_43_5, fa_43_6, fa_43_7, fa_43_8, ix_22, len_22, X_SameInstr_4, X_SameInstr_5, X_SameInstr_6, X_SameInstr_7, X_SameInstr_8, X_SameInstr_9, X_SameInstr_10, X_SameInstr_11, X_SameInstr_12, X_SameInstr_13, X_SameInstr_14, X_SameInstr_15, X_SameInstr_16, X_SameInstr_17, X_SameInstr_18, X_SameInstr_19, X_SameInstr_20, X_SameInstr_21, X_SameInstr_22, X_SameInstr_23, X_SameInstr_24, g1, g2, c1, c2, c3, c4]; simp [isB]
  by_cases c5 : x.d = y.d
  case neg => simp -implicitDefEqProofs only [EE, cond_true, cond_false, nth, ↓nw, Value.cells, ↓BK, setMany, if_true, if_false, Nat.reduceAdd, Nat.reduceLeDiff, Nat.reduceMul, Nat.reduceMod, Nat.reduceDiv, Nat.reduceSub, Nat.reduceEqDiff, Int.reduceEq, Int.reduceLT, Int.reduceLE, Int.reduceAdd, Int.reduceSub, Int.reduceMul, Int.reduceNeg, Int.reduceToNat, ne_eq, sto, ldn, ld1, beq_self_eq_true, al_2, al_22, al_3, fa_43_0, fa_43_1, fa_43_2, fa_43_3, fa_43_4, fa_43_5, fa_43_6, fa_43_7, fa_43_8, ix_22, len_22, X_SameInstr_4, X_SameInstr_5, X_SameInstr_6, X_SameInstr_7, X_SameInstr_8, X_SameInstr_9, X_SameInstr_10, X_SameInstr_11, X_SameInstr_12, X_SameInstr_13, X_SameInstr_14, X_SameInstr_15, X_SameInstr_16, X_SameInstr_17, X_SameInstr_18, X_SameInstr_19, X_SameInstr_20, X_SameInstr_21, X_SameInstr_22, X_SameInstr_23, X_SameInstr_24, g1, g2, c1, c2, c3, c4, c5]; simp [isB]
  by_cases c6 : x.k = y.k
  case neg => simp -implicitDefEqProofs only [EE, cond_true, cond_false, nth, ↓nw, Value.cells, ↓BK, setMany, if_true, if_false, Nat.reduceAdd, Nat.reduceLeDiff, Nat.reduceMul, Nat.reduceMod, Nat.reduceDiv, Nat.reduceSub, Nat.reduceEqDiff, Int.reduceEq, Int.reduceLT, Int.reduceLE, Int.reduceAdd, Int.reduceSub, Int.reduceMul, Int.reduceNeg, Int.reduceToNat, ne_eq, sto, ldn, ld1, beq_self_eq_true, al_2, al_22, al_3, fa_43_0, fa_43_1, fa_43_2, fa_43_3, fa_43_4, fa_43_5, fa_43_6, fa_43_7, fa_43_8, ix_22, len_22, X_SameInstr_4, X_SameInstr_5, X_SameInstr_6, X_SameInstr_7, X_SameInstr_8, X_SameInstr_9, X_SameInstr_10, X_SameInstr_11, X_SameInstr_12, X_SameInstr_13, X_SameInstr_14, X_SameInstr_15, X_SameInstr_16, X_SameInstr_17, X_SameInstr_18, X_SameInstr_19, X_SameInstr_20, X_SameInstr_21, X_SameInstr_22, X_SameInstr_23, X_SameInstr_24, g1, g2, c1, c2, c3, c4, c5, c6]; simp [isB]
  by_cases c7 : x.s = y.s
  case neg => simp -implicitDefEqProofs only [EE, cond_true, cond_false, nth, ↓nw, Value.cells, ↓BK, setMany, if_true, if_false, Nat.reduceAdd, Nat.reduceLeDiff, Nat.reduceMul, Nat.reduceMod, Nat.reduceDiv, Nat.reduceSub, Nat.reduceEqDiff, Int.reduceEq, Int.reduceLT, Int.reduceLE, Int.reduceAdd, Int.reduceSub, Int.reduceMul, Int.reduceNeg, Int.reduceToNat, ne_eq, sto, ldn, ld1, beq_self_eq_true, al_2, al_22, al_3, fa_43_0, fa_43_1, fa_43_2, fa_43_3, fa_43_4, fa_43_5, fa_43_6, fa_43_7, fa_43_8, ix_22, len_22, X_SameInstr_4, X_SameInstr_5, X_SameInstr_6, X_SameInstr_7, X_SameInstr_8, X_SameInstr_9, X_SameInstr_10, X_SameInstr_11, X_SameInstr_12, X_SameInstr_13, X_SameInstr_14, X_SameInstr_15, X_SameInstr_16, X_SameInstr_17, X_SameInstr_18, X_SameInstr_19, X_SameInstr_20, X_SameInstr_21, X_SameInstr_22, X_SameInstr_23, X_SameInstr_24, g1, g2, c1, c2, c3, c4, c5, c6, c7]; simp [isB]
  by_cases c8 : x.t = y.t
  case neg => simp -implicitDefEqProofs only [EE, cond_true, cond_false, nth, ↓nw, Value.cells, ↓BK, setMany, if_true, if_false, Nat.reduceAdd, Nat.reduceLeDiff, Nat.reduceMul, Nat.reduceMod, Nat.reduceDiv, Nat.reduceSub, Nat.reduceEqDiff, Int.reduceEq, Int.reduceLT, Int.reduceLE, Int.reduceAdd, Int.reduceSub, Int.reduceMul, Int.reduceNeg, Int.reduceToNat, ne_eq, sto, ldn, ld1, beq_self_eq_true, al_2, al_22, al_3, fa_43_0, fa_43_1, fa_43_2, fa_43_3, fa_43_4, fa_43_5, fa_43_6, fa_43_7, fa_43_8, ix_22, len_22, X_SameInstr_4, X_SameInstr_5, X_SameInstr_6, X_SameInstr_7, X_SameInstr_8, X_SameInstr_9, X_SameInstr_10, X_SameInstr_11, X_SameInstr_12, X_SameInstr_13, X_SameInstr_14, X_SameInstr_15, X_SameInstr_16, X_SameInstr_17, X_SameInstr_18, X_SameInstr_19, X_SameInstr_20, X_SameInstr_21, X_SameInstr_22, X_SameInstr_23, X_SameInstr_24, g1, g2, c1, c2, c3, c4, c5, c6, c7, c8]; simp [isB]
  by_cases c9 : (x.args.length : Int) = y.args.length
  case neg => simp -implicitDefEqProofs only [EE, cond_true, cond_false, nth, ↓nw, Value.cells, ↓BK, setMany, if_true, if_false, Nat.reduceAdd, Nat.reduceLeDiff, Nat.reduceMul, Nat.reduceMod, Nat.reduceDiv, Nat.reduceSub, Nat.reduceEqDiff, Int.reduceEq, Int.reduceLT, Int.reduceLE, Int.reduceAdd, Int.reduceSub, Int.reduceMul, Int.reduceNeg, Int.reduceToNat, ne_eq, sto, ldn, ld1, beq_self_eq_true, al_2, al_22, al_3, fa_43_0, fa_43_1, fa_43_2, fa_43_3, fa_43_4, fa_43_5, fa_43_6, fa_43_7, fa_43_8, ix_22, len_22, X_SameInstr_4, X_SameInstr_5, X_SameInstr_6, X_SameInstr_7, X_SameInstr_8, X_SameInstr_9, X_SameInstr_10, X_SameInstr_11, X_SameInstr_12, X_SameInstr_13, X_SameInstr_14, X_SameInstr_15, X_SameInstr_16, X_SameInstr_17, X_SameInstr_18, X_SameInstr_19, X_SameInstr_20, X_SameInstr_21, X_SameInstr_22, X_SameInstr_23, X_SameInstr_24, g1, g2, xn, yn, xl, yl, c1, c2, c3, c4, c5, c6, c7, c8, c9]; simp [isB]
  simp -implicitDefEqProofs only [EE, cond_true, cond_false, nth, ↓nw, Value.cells, ↓BK, setMany, if_true, if_false, Nat.reduceAdd, Nat.reduceLeDiff, Nat.reduceMul, Nat.reduceMod, Nat.reduceDiv, Nat.reduceSub, Nat.reduceEqDiff, Int.reduceEq, Int.reduceLT, Int.reduceLE, Int.reduceAdd, Int.reduceSub, Int.reduceMul, Int.reduceNeg, Int.reduceToNat, ne_eq, sto, ldn, ld1, beq_self_eq_true, al_2, al_22, al_3, fa_43_0, fa_43_1, fa_43_2, fa_43_3, fa_43_4, fa_43_5, fa_43_6, fa_43_7, fa_43_8, ix_22, len_22, X_SameInstr_4, X_SameInstr_5, X_SameInstr_6, X_SameInstr_7, X_SameInstr_8, X_SameInstr_9, X_SameInstr_10, X_SameInstr_11, X_SameInstr_12, X_SameInstr_13, X_SameInstr_14, X_SameInstr_15, X_SameInstr_16, X_SameInstr_17, X_SameInstr_18, X_SameInstr_19, X_SameInstr_20, X_SameInstr_21, X_SameInstr_22, X_SameInstr_23, X_SameInstr_24, g1, g2, xn, yn, xl, yl, c1, c2, c3, c4, c5, c6, c7, c8, c9]
  refine si3 X2 Y2 g1 g2 c9 ?_
  simp
end Go.Rtl
namespace Go.Rtl
open Go.Ai Go.Proofs
set_option linter.unusedVariables false
set_option linter.unusedSimpArgs false
set_option maxRecDepth 10000
def sameFnB (f g : Fn) : Bool := (f.nm.toList == g.nm.toList) && (decide (f.regs = g.regs) && (decide (f.frame = g.frame) && (decide (f.entry = g.entry) && (decide ((f.params.length : Int) = g.params.length) && (decide ((f.code.length : Int) = g.code.length) && (sameL eqI f.params g.params && sameL sameInsB f.code g.code))))))
def samePgB (p q : Pg) : Bool := decide (p.main = q.main) && (decide ((p.funcs.length : Int) = q.funcs.length) && (decide ((p.globals.length : Int) = q.globals.length) && (sameL eqI p.globals q.globals && sameL sameFnB p.funcs q.funcs)))
section
variable {h : AHeap} {b1 b2 : Nat} {B : Bool}
/-- The code's loop. -/
theorem sf7 {f g : Fn} {v0 : Value} (F : FnOk h f) (G : FnOk h g) (hb1 : b1 < h.next) (hb2 : b2 < h.next) (hg1 : h.get b1 = some (fcells f)) (hg2 : h.get b2 = some (fcells g)) (hl : (f.code.length : Int) = g.code.length) (hB : B = sameL sameInsB f.code g.code) :
    LP (X_Same_7 (.pointer (some ⟨b1, 0, none⟩)) (fun _ h88 => isB B (.bool true) h88) (.pointer (some ⟨b2, 0, none⟩)) (isB B)) [v0, (.int .i64 0)] h := by
  refine LP_upQ (fun g => g = h) f.code.length (pairB f.code g.code sameInsB) rfl ?_
  intro i h2 J hi hh hq hJ
  subst hh
  have fn := F.code.nob
  have gn := G.code.nob
  have fl := F.code.len46 3
  rw [List.length_map] at fl
  rcases Nat.lt_or_ge i f.code.length with hlt | hge
  · obtain ⟨x, hx, hxm⟩ := get_some hlt
    obtain ⟨y, hy, hym⟩ := get_some (l := g.code) (k := i) (by omega)
    obtain ⟨b, o, c, t, ha, hbb, hgt, hle, htk, _⟩ := F.code.at46 (i := i) (r := x.row) (by rw [List.getElem?_map, hx]; rfl) rfl
    obtain ⟨b', o', c', t', ha', hbb', hgt', hle', htk', _⟩ := G.code.at46 (i := i) (r := y.row) (by rw [List.getElem?_map, hy]; rfl) rfl
    have X := F.ins x hxm
    have Y := G.ins y hym
    have hlt' : (i : Int) < (f.code.length : Int) := by omega
    have hinc : IntKind.wrap .i64 ((i : Int) + 1) = ((i + 1 : Nat) : Int) := inc (by have := F.cfew; omega)
    simp -implicitDefEqProofs only [EE, cond_true, cond_false, nth, ↓nw, Value.cells, ↓BK, setMany, if_true, if_false, Nat.reduceAdd, Nat.reduceLeDiff, Nat.reduceMul, Nat.reduceMod, Nat.reduceDiv, Nat.reduceSub, Nat.reduceEqDiff, Int.reduceEq, Int.reduceLT, Int.reduceLE, Int.reduceAdd, Int.reduceSub, Int.reduceMul, Int.reduceNeg, Int.reduceToNat, ne_eq, sto, ldn, ld1, beq_self_eq_true, al_22, al_3, al_43, al_46, al_9, fa_48_0, fa_48_1, fa_48_2, fa_48_3, fa_48_4, fa_48_5, ix_22, ix_46, len_22, len_46, neq_9, X_Same_5, X_Same_6, X_Same_7, hg1, hg2, fn, gn, fl, hlt', ha, hgt, hle, htk, ha', hgt', hle', htk']
    refine callD_of (by kernel_rfl) (by simp -implicitDefEqProofs only [EE, cond_true, cond_false, nth, ↓nw, Value.cells, ↓BK, setMany, if_true, if_false, Nat.reduceAdd, Nat.reduceLeDiff, Nat.reduceMul, Nat.reduceMod, Nat.reduceDiv, Nat.reduceSub, Nat.reduceEqDiff, Int.reduceEq, Int.reduceLT, Int.reduceLE, Int.reduceAdd, Int.reduceSub, Int.reduceMul, Int.reduceNeg, Int.reduceToNat, ne_eq, sto, ldn, ld1, beq_self_eq_true, X.args.nob, Y.args.nob]) (sameIns_q x y h2 X Y).dc ?_
    rintro v h3 ⟨rfl, rfl⟩
    cases hI : sameInsB x y with
    | true =>
      simp -implicitDefEqProofs only [EE, cond_true, cond_false, nth, ↓nw, Value.cells, ↓BK, setMany, if_true, if_false, Nat.reduceAdd, Nat.reduceLeDiff, Nat.reduceMul, Nat.reduceMod, Nat.reduceDiv, Nat.reduceSub, Nat.reduceEqDiff, Int.reduceEq, Int.reduceLT, Int.reduceLE, Int.reduceAdd, Int.reduceSub, Int.reduceMul, Int.reduceNeg, Int.reduceToNat, ne_eq, sto, ldn, ld1, beq_self_eq_true, al_22, al_3, al_43, al_46, al_9, fa_48_0, fa_48_1, fa_48_2, fa_48_3, fa_48_4, fa_48_5, ix_22, ix_46, len_22, len_46, neq_9, X_Same_4, X_Same_6, hinc]
      exact hJ _ hlt (by rw [pairB_of hx hy]; exact hI) rfl
    | false =>
      simp -implicitDefEqProofs only [EE, cond_true, cond_false, nth, ↓nw, Value.cells, ↓BK, setMany, if_true, if_false, Nat.reduceAdd, Nat.reduceLeDiff, Nat.reduceMul, Nat.reduceMod, Nat.reduceDiv, Nat.reduceSub, Nat.reduceEqDiff, Int.reduceEq, Int.reduceLT, Int.reduceLE, Int.reduceAdd, Int.reduceSub, Int.reduceMul, Int.reduceNeg, Int.reduceToNat, ne_eq, sto, ldn, ld1, beq_self_eq_true, al_22, al_3, al_43, al_46, al_9, fa_48_0, fa_48_1, fa_48_2, fa_48_3, fa_48_4, fa_48_5, ix_22, ix_46, len_22, len_46, neq_9, X_Same_4, X_Same_6]
      rw [hB, sameL_no hx hy hI]; rfl
  · have hlt' : ¬ (i : Int) < (f.code.length : Int) := by omega
    simp -implicitDefEqProofs only [EE, cond_true, cond_false, nth, ↓nw, Value.cells, ↓BK, setMany, if_true, if_false, Nat.reduceAdd, Nat.reduceLeDiff, Nat.reduceMul, Nat.reduceMod, Nat.reduceDiv, Nat.reduceSub, Nat.reduceEqDiff, Int.reduceEq, Int.reduceLT, Int.reduceLE, Int.reduceAdd, Int.reduceSub, Int.reduceMul, Int.reduceNeg, Int.reduceToNat, ne_eq, sto, ldn, ld1, beq_self_eq_true, al_22, al_3, al_43, al_46, al_9, fa_48_0, fa_48_1, fa_48_2, fa_48_3, fa_48_4, fa_48_5, ix_22, ix_46, len_22, len_46, neq_9, X_Same_7, hg1, fn, fl, hlt']
    have : sameL sameInsB f.code g.code = true := range_all fun k hk => hq k (by omega)
    rw [hB, this]; rfl
/-- The parameters' loop. -/
theorem sf3 {f g : Fn} {v0 : Value} (F : FnOk h f) (G : FnOk h g) (hb1 : b1 < h.next) (hb2 : b2 < h.next) (hg1 : h.get b1 = some (fcells f)) (hg2 : h.get b2 = some (fcells g)) (hl : (f.params.length : Int) = g.params.length) (hlc : (f.code.length : Int) = g.code.length) (hB : B = (sameL eqI f.params g.params && sameL sameInsB f.code g.code)) :
    X_Same_8 (.pointer (some ⟨b1, 0, none⟩)) (.pointer (some ⟨b2, 0, none⟩)) (isB B) [v0] h := by
  simp -implicitDefEqProofs only [EE, cond_true, cond_false, nth, ↓nw, Value.cells, ↓BK, setMany, if_true, if_false, Nat.reduceAdd, Nat.reduceLeDiff, Nat.reduceMul, Nat.reduceMod, Nat.reduceDiv, Nat.reduceSub, Nat.reduceEqDiff, Int.reduceEq, Int.reduceLT, Int.reduceLE, Int.reduceAdd, Int.reduceSub, Int.reduceMul, Int.reduceNeg, Int.reduceToNat, ne_eq, sto, ldn, ld1, beq_self_eq_true, al_22, al_3, al_43, al_46, al_9, fa_48_0, fa_48_1, fa_48_2, fa_48_3, fa_48_4, fa_48_5, ix_22, ix_46, len_22, len_46, neq_9, X_Same_8]
  refine LP_upQ (fun g => g = h) f.params.length (pairB f.params g.params eqI) rfl ?_
  intro i h2 J hi hh hq hJ
  subst hh
  have fn := F.params.nob
  have gn := G.params.nob
  have fl := F.params.len22 3
  rcases Nat.lt_or_ge i f.params.length with hlt | hge
  · obtain ⟨z, hz, _⟩ := get_some hlt
    obtain ⟨w, hw, _⟩ := get_some (l := g.params) (k := i) (by omega)
    obtain ⟨b, o, c, t, ha, hbb, hgt, hco⟩ := F.params.at hz
    obtain ⟨b', o', c', t', ha', hbb', hgt', hco'⟩ := G.params.at hw
    have hlt' : (i : Int) < (f.params.length : Int) := by omega
    have hinc : IntKind.wrap .i64 ((i : Int) + 1) = ((i + 1 : Nat) : Int) := inc (by have := F.pfew; omega)
    by_cases e : z = w
    · simp -implicitDefEqProofs only [EE, cond_true, cond_false, nth, ↓nw, Value.cells, ↓BK, setMany, if_true, if_false, Nat.reduceAdd, Nat.reduceLeDiff, Nat.reduceMul, Nat.reduceMod, Nat.reduceDiv, Nat.reduceSub, Nat.reduceEqDiff, Int.reduceEq, Int.reduceLT, Int.reduceLE, Int.reduceAdd, Int.reduceSub, Int.reduceMul, Int.reduceNeg, Int.reduceToNat, ne_eq, sto, ldn, ld1, beq_self_eq_true, al_22, al_3, al_43, al_46, al_9, fa_48_0, fa_48_1, fa_48_2, fa_48_3, fa_48_4, fa_48_5, ix_22, ix_46, len_22, len_46, neq_9, X_Same_1, X_Same_2, X_Same_3, hg1, hg2, fn, gn, fl, hlt', ha, hgt, hco, ha', hgt', hco', e, hinc]
      exact hJ _ hlt (by rw [pairB_of hz hw]; simp [eqI, e]) rfl
    · simp -implicitDefEqProofs only [EE, cond_true, cond_false, nth, ↓nw, Value.cells, ↓BK, setMany, if_true, if_false, Nat.reduceAdd, Nat.reduceLeDiff, Nat.reduceMul, Nat.reduceMod, Nat.reduceDiv, Nat.reduceSub, Nat.reduceEqDiff, Int.reduceEq, Int.reduceLT, Int.reduceLE, Int.reduceAdd, Int.reduceSub, Int.reduceMul, Int.reduceNeg, Int.reduceToNat, ne_eq, sto, ldn, ld1, beq_self_eq_true, al_22, al_3, al_43, al_46, al_9, fa_48_0, fa_48_1, fa_48_2, fa_48_3, fa_48_4, fa_48_5, ix_22, ix_46, len_22, len_46, neq_9, X_Same_1, X_Same_2, X_Same_3, hg1, hg2, fn, gn, fl, hlt', ha, hgt, hco, ha', hgt', hco', e]
      rw [hB, sameL_no hz hw (by simp [eqI, e])]; rfl
  · have hlt' : ¬ (i : Int) < (f.params.length : Int) := by omega
    simp -implicitDefEqProofs only [EE, cond_true, cond_false, nth, ↓nw, Value.cells, ↓BK, setMany, if_true, if_false, Nat.reduceAdd, Nat.reduceLeDiff, Nat.reduceMul, Nat.reduceMod, Nat.reduceDiv, Nat.reduceSub, Nat.reduceEqDiff, Int.reduceEq, Int.reduceLT, Int.reduceLE, Int.reduceAdd, Int.reduceSub, Int.reduceMul, Int.reduceNeg, Int.reduceToNat, ne_eq, sto, ldn, ld1, beq_self_eq_true, al_22, al_3, al_43, al_46, al_9, fa_48_0, fa_48_1, fa_48_2, fa_48_3, fa_48_4, fa_48_5, ix_22, ix_46, len_22, len_46, neq_9, X_Same_3, hg1, fn, fl, hlt']
    have : sameL eqI f.params g.params = true := range_all fun k hk => hq k (by omega)
    exact sf7 F G hb1 hb2 hg1 hg2 hlc (by rw [hB, this, Bool.true_and])
end
theorem sameFn_q (f g : Fn) (h : AHeap) (F : FnOk h f) (G : FnOk h g) : Quiet Tryz.prog 18 [f.val, g.val] h (.bool (sameFnB f g)) := by
  apply quiet_b
  replace F := F.lock
  replace G := G.lock
  generalize h.lock = L at F G
  apply X_Same_ok
  unfold X_Same
  have fp := F.params.nob
  have fc := F.code.nob
  have gp := G.params.nob
  have gc := G.code.nob
  have e : Old L ((L.push (fcells f)).push (fcells g)) := (Old.push _ _).trans (Old.push _ _)
  have g1 : ((L.push (fcells f)).push (fcells g)).get L.next = some (fcells f) := by
    rw [get_push_lt (Nat.lt_succ_self _)]; exact get_push_self
  have g2 : ((L.push (fcells f)).push (fcells g)).get (L.next + 1) = some (fcells g) := get_push_self
  have n1 : L.next < ((L.push (fcells f)).push (fcells g)).next := by show L.next < L.next + 1 + 1; omega
  have n2 : L.next + 1 < ((L.push (fcells f)).push (fcells g)).next := by show L.next + 1 < L.next + 1 + 1; omega
  have F2 := F.old e
  have G2 := G.old e
  have fpl := F2.params.len22 3
  have gpl := G2.params.len22 3
  have fcl := F2.code.len46 3
  have gcl := G2.code.len46 3
  rw [List.length_map] at fcl gcl
  unfold sameFnB
  cases c1 : f.nm.toList == g.nm.toList with
  | false => simp -implicitDefEqProofs only [EE, cond_true, cond_false, nth, ↓nw, Value.cells, ↓BK, setMany, if_true, if_false, Nat.reduceAdd, Nat.reduceLeDiff, Nat.reduceMul, Nat.reduceMod, Nat.reduceDiv, Nat.reduceSub, Nat.reduceEqDiff, Int.reduceEq, Int.reduceLT, Int.reduceLE, Int.reduceAdd, Int.reduceSub, Int.reduceMul, Int.reduceNeg, Int.reduceToNat, ne_eq, sto, ldn, ld1, beq_self_eq_true, al_22, al_3, al_43, al_46, al_9, fa_48_0, fa_48_1, fa_48_2, fa_48_3, fa_48_4, fa_48_5, ix_22, ix_46, len_22, len_46, neq_9, X_Same_9, X_Same_10, X_Same_11, X_Same_12, X_Same_13, X_Same_14, X_Same_15, X_Same_16, X_Same_17, X_Same_18, X_Same_19, X_Same_20, X_Same_21, X_Same_22, fp, fc, gp, gc, c1]; simp [isB]
  | true =>
  simp -implicitDefEqProofs only [EE, cond_true, cond_false, nth, ↓nw, Value.cells, ↓BK, setMany, if_true, if_false, Nat.reduceAdd, Nat.reduceLeDiff, Nat.reduceMul, Nat.reduceMod, Nat.reduceDiv, Nat.reduceSub, Nat.reduceEqDiff, Int.reduceEq, Int.reduceLT, Int.reduceLE, Int.reduceAdd, Int.reduceSub, Int.reduceMul, Int.reduceNeg, Int.reduceToNat, ne_eq, sto, ldn, ld1, beq_self_eq_true, al_22, al_3, al_43, al_46, al_9, fa_48_0, fa_48_1, fa_48_2, fa_48_3, fa_48_4, fa_48_5, ix_22, ix_46, len_22, len_46, neq_9, fp, fc, gp, gc, c1]
  generalize (L.push (fcells f)).push (fcells g) = H at e g1 g2 F2 G2 n1 n2 ⊢
  by_cases c2 : f.regs = g.regs
  case neg => simp -implicitDefEqProofs only [EE, cond_true, cond_false, nth, ↓nw, Value.cells, ↓BK, setMany, if_true, if_false, Nat.reduceAdd, Nat.reduceLeDiff, Nat.reduceMul, Nat.reduceMod, Nat.reduceDiv, Nat.reduceSub, Nat.reduceEqDiff, Int.reduceEq, Int.reduceLT, Int.reduceLE, Int.reduceAdd, Int.reduceSub, Int.reduceMul, Int.reduceNeg, Int.reduceToNat, ne_eq, sto, ldn, ld1, beq_self_eq_true, al_22, al_3, al_43, al_46, al_9, fa_48_0, fa_48_1, fa_48_2, fa_48_3, fa_48_4, fa_48_5, ix_22, ix_46, len_22, len_46, neq_9, X_Same_9, X_Same_10, X_Same_11, X_Same_12, X_Same_13, X_Same_14, X_Same_15, X_Same_16, X_Same_17, X_Same_18, X_Same_19, X_Same_20, X_Same_21, X_Same_22, g1, g2, c2]; simp [isB]
  by_cases c3 : f.frame = g.frame
  case neg => simp -implicitDefEqProofs only [EE, cond_true, cond_false, nth, ↓nw, Value.cells, ↓BK, setMany, if_true, if_false, Nat.reduceAdd, Nat.reduceLeDiff, Nat.reduceMul, Nat.reduceMod, Nat.reduceDiv, Nat.reduceSub, Nat.reduceEqDiff, Int.reduceEq, Int.reduceLT, Int.reduceLE, Int.reduceAdd, Int.reduceSub, Int.reduceMul, Int.reduceNeg, Int.reduceToNat, ne_eq, sto, ldn, ld1, beq_self_eq_true, al_22, al_3, al_43, al_46, al_9, fa_48_0, fa_48_1, fa_48_2, fa_48_3, fa_48_4, fa_48_5, ix_22, ix_46, len_22, len_46, neq_9, X_Same_9, X_Same_10, X_Same_11, X_Same_12, X_Same_13, X_Same_14, X_Same_15, X_Same_16, X_Same_17, X_Same_18, X_Same_19, X_Same_20, X_Same_21, X_Same_22, g1, g2, c2, c3]; simp [isB]
  by_cases c4 : f.entry = g.entry
  case neg => simp -implicitDefEqProofs only [EE, cond_true, cond_false, nth, ↓nw, Value.cells, ↓BK, setMany, if_true, if_false, Nat.reduceAdd, Nat.reduceLeDiff, Nat.reduceMul, Nat.reduceMod, Nat.reduceDiv, Nat.reduceSub, Nat.reduceEqDiff, Int.reduceEq, Int.reduceLT, Int.reduceLE, Int.reduceAdd, Int.reduceSub, Int.reduceMul, Int.reduceNeg, Int.reduceToNat, ne_eq, sto, ldn, ld1, beq_self_eq_true, al_22, al_3, al_43, al_46, al_9, fa_48_0, fa_48_1, fa_48_2, fa_48_3, fa_48_4, fa_48_5, ix_22, ix_46, len_22, len_46, neq_9, X_Same_9, X_Same_10, X_Same_11, X_Same_12, X_Same_13, X_Same_14, X_Same_15, X_Same_16, X_Same_17, X_Same_18, X_Same_19, X_Same_20, X_Same_21, X_Same_22, g1, g2, c2, c3, c4]; simp [isB]
  by_cases c5 : (f.params.length : Int) = g.params.length
  case neg => simp -implicitDefEqProofs only [EE, cond_true, cond_false, nth, ↓nw, Value.cells, ↓BK, setMany, if_true, if_false, Nat.reduceAdd, Nat.reduceLeDiff, Nat.reduceMul, Nat.reduceMod, Nat.reduceDiv, Nat.reduceSub, Nat.reduceEqDiff, Int.reduceEq, Int.reduceLT, Int.reduceLE, Int.reduceAdd, Int.reduceSub, Int.reduceMul, Int.reduceNeg, Int.reduceToNat, ne_eq, sto, ldn, ld1, beq_self_eq_true, al_22, al_3, al_43, al_46, al_9, fa_48_0, fa_48_1, fa_48_2, fa_48_3, fa_48_4, fa_48_5, ix_22, ix_46, len_22, len_46, neq_9, X_Same_9, X_Same_10, X_Same_11, X_Same_12, X_Same_13, X_Same_14, X_Same_15, X_Same_16, X_Same_17, X_Same_18, X_Same_19, X_Same_20, X_Same_21, X_Same_22, g1, g2, fp, gp, fpl, gpl, c2, c3, c4, c5]; simp [isB]
  by_cases c6 : (f.code.length : Int) = g.code.length
  case neg => simp -implicitDefEqProofs only [EE, cond_true, cond_false, nth, ↓nw, Value.cells, ↓BK, setMany, if_true, if_false, Nat.reduceAdd, Nat.reduceLeDiff, Nat.reduceMul, Nat.reduceMod, Nat.reduceDiv, Nat.reduceSub, Nat.reduceEqDiff, Int.reduceEq, Int.reduceLT, Int.reduceLE, Int.reduceAdd, Int.reduceSub, Int.reduceMul, Int.reduceNeg, Int.reduceToNat, ne_eq, sto, ldn, ld1, beq_self_eq_true, al_22, al_3, al_43, al_46, al_9, fa_48_0, fa_48_1, fa_48_2, fa_48_3, fa_48_4, fa_48_5, ix_22, ix_46, len_22, len_46, neq_9, X_Same_9, X_Same_10, X_Same_11, X_Same_12, X_Same_13, X_Same_14, X_Same_15, X_Same_16, X_Same_17, X_Same_18, X_Same_19, X_Same_20, X_Same_21, X_Same_22, g1, g2, fp, gp, fpl, gpl, fc, gc, fcl, gcl, c2, c3, c4, c5, c6]; simp [isB]
  simp -implicitDefEqProofs only [EE, cond_true, cond_false, nth, ↓nw, Value.cells, ↓BK, setMany, if_true, if_false, Nat.reduceAdd, Nat.reduceLeDiff, Nat.reduceMul, Nat.reduceMod, Nat.reduceDiv, Nat.reduceSub, Nat.reduceEqDiff, Int.reduceEq, Int.reduceLT, Int.reduceLE, Int.reduceAdd, Int.reduceSub, Int.reduceMul, Int.reduceNeg, Int.reduceToNat, ne_eq, sto, ldn, ld1, beq_self_eq_true, al_22, al_3, al_43, al_46, al_9, fa_48_0, fa_48_1, fa_48_2, fa_48_3, fa_48_4, fa_48_5, ix_22, ix_46, len_22, len_46, neq_9, X_Same_9, X_Same_10, X_Same_11, X_Same_12, X_Same_13, X_Same_14, X_Same_15, X_Same_16, X_Same_17, X_Same_18, X_Same_19, X_Same_20, X_Same_21, X_Same_22, g1, g2, fp, gp, fpl, gpl, fc, gc, fcl, gcl, c2, c3, c4, c5, c6]
  refine sf3 F2 G2 n1 n2 g1 g2 c5 c6 ?_
  simp
section
variable {h : AHeap} {b1 b2 : Nat} {B : Bool}
theorem sp7 {p q : Pg} {v0 : Value} (P : PgOk h p) (Q : PgOk h q) (hb1 : b1 < h.next) (hb2 : b2 < h.next) (hg1 : h.get b1 = some (pcells p)) (hg2 : h.get b2 = some (pcells q)) (hl : (p.funcs.length : Int) = q.funcs.length) (hB : B = sameL sameFnB p.funcs q.funcs) :
    LP (X_SameProg_7 (.pointer (some ⟨b1, 0, none⟩)) (fun _ h58 => isB B (.bool true) h58) (.pointer (some ⟨b2, 0, none⟩)) (isB B)) [v0, (.int .i64 0)] h := by
  refine LP_upQ (fun g => g = h) p.funcs.length (pairB p.funcs q.funcs sameFnB) rfl ?_
  intro i h2 J hi hh hq hJ
  subst hh
  have fn := P.funcs.nob
  have gn := Q.funcs.nob
  have fl := P.funcs.len23 3
  rw [List.length_map] at fl
  rcases Nat.lt_or_ge i p.funcs.length with hlt | hge
  · obtain ⟨x, hx, hxm⟩ := get_some hlt
    obtain ⟨y, hy, hym⟩ := get_some (l := q.funcs) (k := i) (by omega)
    obtain ⟨b, o, c, t, ha, hbb, hgt, hle, htk, _⟩ := P.funcs.at23 (i := i) (r := x.row) (by rw [List.getElem?_map, hx]; rfl) rfl
    obtain ⟨b', o', c', t', ha', hbb', hgt', hle', htk', _⟩ := Q.funcs.at23 (i := i) (r := y.row) (by rw [List.getElem?_map, hy]; rfl) rfl
    have X := P.fns x hxm
    have Y := Q.fns y hym
    have hlt' : (i : Int) < (p.funcs.length : Int) := by omega
    have hinc : IntKind.wrap .i64 ((i : Int) + 1) = ((i + 1 : Nat) : Int) := inc (by have := P.ffew; omega)
    simp -implicitDefEqProofs only [EE, cond_true, cond_false, nth, ↓nw, Value.cells, ↓BK, setMany, if_true, if_false, Nat.reduceAdd, Nat.reduceLeDiff, Nat.reduceMul, Nat.reduceMod, Nat.reduceDiv, Nat.reduceSub, Nat.reduceEqDiff, Int.reduceEq, Int.reduceLT, Int.reduceLE, Int.reduceAdd, Int.reduceSub, Int.reduceMul, Int.reduceNeg, Int.reduceToNat, ne_eq, sto, ldn, ld1, beq_self_eq_true, al_22, al_23, al_3, al_48, fa_25_0, fa_25_1, fa_25_2, ix_22, ix_23, len_22, len_23, X_SameProg_5, X_SameProg_6, X_SameProg_7, hg1, hg2, fn, gn, fl, hlt', ha, hgt, hle, htk, ha', hgt', hle', htk']
    refine callD_of (by kernel_rfl) (by simp -implicitDefEqProofs only [EE, cond_true, cond_false, nth, ↓nw, Value.cells, ↓BK, setMany, if_true, if_false, Nat.reduceAdd, Nat.reduceLeDiff, Nat.reduceMul, Nat.reduceMod, Nat.reduceDiv, Nat.reduceSub, Nat.reduceEqDiff, Int.reduceEq, Int.reduceLT, Int.reduceLE, Int.reduceAdd, Int.reduceSub, Int.reduceMul, Int.reduceNeg, Int.reduceToNat, ne_eq, sto, ldn, ld1, beq_self_eq_true, X.params.nob, X.code.nob, Y.params.nob, Y.code.nob]) (sameFn_q x y h2 X Y).dc ?_
    rintro v h3 ⟨rfl, rfl⟩
    cases hI : sameFnB x y with
    | true =>
      simp -implicitDefEqProofs only [EE, cond_true, cond_false, nth, ↓nw, Value.cells, ↓BK, setMany, if_true, if_false, Nat.reduceAdd, Nat.reduceLeDiff, Nat.reduceMul, Nat.reduceMod, Nat.reduceDiv, Nat.reduceSub, Nat.reduceEqDiff, Int.reduceEq, Int.reduceLT, Int.reduceLE, Int.reduceAdd, Int.reduceSub, Int.reduceMul, Int.reduceNeg, Int.reduceToNat, ne_eq, sto, ldn, ld1, beq_self_eq_true, al_22, al_23, al_3, al_48, fa_25_0, fa_25_1, fa_25_2, ix_22, ix_23, len_22, len_23, X_SameProg_4, X_SameProg_6, hinc]
      exact hJ _ hlt (by rw [pairB_of hx hy]; exact hI) rfl
    | false =>
      simp -implicitDefEqProofs only [EE, cond_true, cond_false, nth, ↓nw, Value.cells, ↓BK, setMany, if_true, if_false, Nat.reduceAdd, Nat.reduceLeDiff, Nat.reduceMul, Nat.reduceMod, Nat.reduceDiv, Nat.reduceSub, Nat.reduceEqDiff, Int.reduceEq, Int.reduceLT, Int.reduceLE, Int.reduceAdd, Int.reduceSub, Int.reduceMul, Int.reduceNeg, Int.reduceToNat, ne_eq, sto, ldn, ld1, beq_self_eq_true, al_22, al_23, al_3, al_48, fa_25_0, fa_25_1, fa_25_2, ix_22, ix_23, len_22, len_23, X_SameProg_4, X_SameProg_6]
      rw [hB, sameL_no hx hy hI]; rfl
  · have hlt' : ¬ (i : Int) < (p.funcs.length : Int) := by omega
    simp -implicitDefEqProofs only [EE, cond_true, cond_false, nth, ↓nw, Value.cells, ↓BK, setMany, if_true, if_false, Nat.reduceAdd, Nat.reduceLeDiff, Nat.reduceMul, Nat.reduceMod, Nat.reduceDiv, Nat.reduceSub, Nat.reduceEqDiff, Int.reduceEq, Int.reduceLT, Int.reduceLE, Int.reduceAdd, Int.reduceSub, Int.reduceMul, Int.reduceNeg, Int.reduceToNat, ne_eq, sto, ldn, ld1, beq_self_eq_true, al_22, al_23, al_3, al_48, fa_25_0, fa_25_1, fa_25_2, ix_22, ix_23, len_22, len_23, X_SameProg_7, hg1, fn, fl, hlt']
    have : sameL sameFnB p.funcs q.funcs = true := range_all fun k hk => hq k (by omega)
    rw [hB, this]; rfl
theorem sp3 {p q : Pg} {v0 : Value} (P : PgOk h p) (Q : PgOk h q) (hb1 : b1 < h.next) (hb2 : b2 < h.next) (hg1 : h.get b1 = some (pcells p)) (hg2 : h.get b2 = some (pcells q)) (hl : (p.globals.length : Int) = q.globals.length) (hlc : (p.funcs.length : Int) = q.funcs.length) (hB : B = (sameL eqI p.globals q.globals && sameL sameFnB p.funcs q.funcs)) :
    X_SameProg_8 (.pointer (some ⟨b1, 0, none⟩)) (.pointer (some ⟨b2, 0, none⟩)) (isB B) [v0] h := by
  simp -implicitDefEqProofs only [EE, cond_true, cond_false, nth, ↓nw, Value.cells, ↓BK, setMany, if_true, if_false, Nat.reduceAdd, Nat.reduceLeDiff, Nat.reduceMul, Nat.reduceMod, Nat.reduceDiv, Nat.reduceSub, Nat.reduceEqDiff, Int.reduceEq, Int.reduceLT, Int.reduceLE, Int.reduceAdd, Int.reduceSub, Int.reduceMul, Int.reduceNeg, Int.reduceToNat, ne_eq, sto, ldn, ld1, beq_self_eq_true, al_22, al_23, al_3, al_48, fa_25_0, fa_25_1, fa_25_2, ix_22, ix_23, len_22, len_23, X_SameProg_8]
  refine LP_upQ (fun g => g = h) p.globals.length (pairB p.globals q.globals eqI) rfl ?_
  intro i h2 J hi hh hq hJ
  subst hh
  have fn := P.globals.nob
  have gn := Q.globals.nob
  have fl := P.globals.len22 3
  rcases Nat.lt_or_ge i p.globals.length with hlt | hge
  · obtain ⟨z, hz, _⟩ := get_some hlt
    obtain ⟨w, hw, _⟩ := get_some (l := q.globals) (k := i) (by omega)
    obtain ⟨b, o, c, t, ha, hbb, hgt, hco⟩ := P.globals.at hz
    obtain ⟨b', o', c', t', ha', hbb', hgt', hco'⟩ := Q.globals.at hw
    have hlt' : (i : Int) < (p.globals.length : Int) := by omega
    have hinc : IntKind.wrap .i64 ((i : Int) + 1) = ((i + 1 : Nat) : Int) := inc (by have := P.gfew; omega)
    by_cases e : z = w
    · simp -implicitDefEqProofs only [EE, cond_true, cond_false, nth, ↓nw, Value.cells, ↓BK, setMany, if_true, if_false, Nat.reduceAdd, Nat.reduceLeDiff, Nat.reduceMul, Nat.reduceMod, Nat.reduceDiv, Nat.reduceSub, Nat.reduceEqDiff, Int.reduceEq, Int.reduceLT, Int.reduceLE, Int.reduceAdd, Int.reduceSub, Int.reduceMul, Int.reduceNeg, Int.reduceToNat, ne_eq, sto, ldn, ld1, beq_self_eq_true, al_22, al_23, al_3, al_48, fa_25_0, fa_25_1, fa_25_2, ix_22, ix_23, len_22, len_23, X_SameProg_1, X_SameProg_2, X_SameProg_3, hg1, hg2, fn, gn, fl, hlt', ha, hgt, hco, ha', hgt', hco', e, hinc]
      exact hJ _ hlt (by rw [pairB_of hz hw]; simp [eqI, e]) rfl
    · simp -implicitDefEqProofs only [EE, cond_true, cond_false, nth, ↓nw, Value.cells, ↓BK, setMany, if_true, if_false, Nat.reduceAdd, Nat.reduceLeDiff, Nat.reduceMul, Nat.reduceMod, Nat.reduceDiv, Nat.reduceSub, Nat.reduceEqDiff, Int.reduceEq, Int.reduceLT, Int.reduceLE, Int.reduceAdd, Int.reduceSub, Int.reduceMul, Int.reduceNeg, Int.reduceToNat, ne_eq, sto, ldn, ld1, beq_self_eq_true, al_22, al_23, al_3, al_48, fa_25_0, fa_25_1, fa_25_2, ix_22, ix_23, len_22, len_23, X_SameProg_1, X_SameProg_2, X_SameProg_3, hg1, hg2, fn, gn, fl, hlt', ha, hgt, hco, ha', hgt', hco', e]
      rw [hB, sameL_no hz hw (by simp [eqI, e])]; rfl
  · have hlt' : ¬ (i : Int) < (p.globals.length : Int) := by omega
    simp -implicitDefEqProofs only [EE, cond_true, cond_false, nth, ↓nw, Value.cells, ↓BK, setMany, if_true, if_false, Nat.reduceAdd, Nat.reduceLeDiff, Nat.reduceMul, Nat.reduceMod, Nat.reduceDiv, Nat.reduceSub, Nat.reduceEqDiff, Int.reduceEq, Int.reduceLT, Int.reduceLE, Int.reduceAdd, Int.reduceSub, Int.reduceMul, Int.reduceNeg, Int.reduceToNat, ne_eq, sto, ldn, ld1, beq_self_eq_true, al_22, al_23, al_3, al_48, fa_25_0, fa_25_1, fa_25_2, ix_22, ix_23, len_22, len_23, X_SameProg_3, hg1, fn, fl, hlt']
    have : sameL eqI p.globals q.globals = true := range_all fun k hk => hq k (by omega)
    exact sp7 P Q hb1 hb2 hg1 hg2 hlc (by rw [hB, this, Bool.true_and])
end
theorem samePg_q (p q : Pg) (h : AHeap) (P : PgOk h p) (Q : PgOk h q) : Quiet Tryz.prog 8 [p.val, q.val] h (.bool (samePgB p q)) := by
  apply quiet_b
  replace P := P.lock
  replace Q := Q.lock
  generalize h.lock = L at P Q
  apply X_SameProg_ok
  unfold X_SameProg
  have pg := P.globals.nob
  have pf := P.funcs.nob
  have qg := Q.globals.nob
  have qf := Q.funcs.nob
  simp -implicitDefEqProofs only [EE, cond_true, cond_false, nth, ↓nw, Value.cells, ↓BK, setMany, if_true, if_false, Nat.reduceAdd, Nat.reduceLeDiff, Nat.reduceMul, Nat.reduceMod, Nat.reduceDiv, Nat.reduceSub, Nat.reduceEqDiff, Int.reduceEq, Int.reduceLT, Int.reduceLE, Int.reduceAdd, Int.reduceSub, Int.reduceMul, Int.reduceNeg, Int.reduceToNat, ne_eq, sto, ldn, ld1, beq_self_eq_true, al_22, al_23, al_3, al_48, fa_25_0, fa_25_1, fa_25_2, ix_22, ix_23, len_22, len_23, pg, pf, qg, qf]
  have e : Old L ((L.push (pcells p)).push (pcells q)) := (Old.push _ _).trans (Old.push _ _)
  have g1 : ((L.push (pcells p)).push (pcells q)).get L.next = some (pcells p) := by
    rw [get_push_lt (Nat.lt_succ_self _)]; exact get_push_self
  have g2 : ((L.push (pcells p)).push (pcells q)).get (L.next + 1) = some (pcells q) := get_push_self
  have n1 : L.next < ((L.push (pcells p)).push (pcells q)).next := by show L.next < L.next + 1 + 1; omega
  have n2 : L.next + 1 < ((L.push (pcells p)).push (pcells q)).next := by show L.next + 1 < L.next + 1 + 1; omega
  generalize (L.push (pcells p)).push (pcells q) = H at e g1 g2 n1 n2 ⊢
  have P2 := P.old e
  have Q2 := Q.old e
  have pgl := P2.globals.len22 3
  have qgl := Q2.globals.len22 3
  have pfl := P2.funcs.len23 3
  have qfl := Q2.funcs.len23 3
  rw [List.length_map] at pfl qfl
  unfold samePgB
  by_cases c1 : p.main = q.main
  case neg => simp -implicitDefEqProofs only [EE, cond_true, cond_false, nth, ↓nw, Value.cells, ↓BK, setMany, if_true, if_false, Nat.reduceAdd, Nat.reduceLeDiff, Nat.reduceMul, Nat.reduceMod, Nat.reduceDiv, Nat.reduceSub, Nat.reduceEqDiff, Int.reduceEq, Int.reduceLT, Int.reduceLE, Int.reduceAdd, Int.reduceSub, Int.reduceMul, Int.reduceNeg, Int.reduceToNat, ne_eq, sto, ldn, ld1, beq_self_eq_true, al_22, al_23, al_3, al_48, fa_25_0, fa_25_1, fa_25_2, ix_22, ix_23, len_22, len_23, X_SameProg_9, X_SameProg_10, X_SameProg_11, X_SameProg_12, X_SameProg_13, X_SameProg_14, X_SameProg_15, g1, g2, c1]; simp [isB]
  by_cases c2 : (p.funcs.length : Int) = q.funcs.length
  case neg => simp -implicitDefEqProofs only [EE, cond_true, cond_false, nth, ↓nw, Value.cells, ↓BK, setMany, if_true, if_false, Nat.reduceAdd, Nat.reduceLeDiff, Nat.reduceMul, Nat.reduceMod, Nat.reduceDiv, Nat.reduceSub, Nat.reduceEqDiff, Int.reduceEq, Int.reduceLT, Int.reduceLE, Int.reduceAdd, Int.reduceSub, Int.reduceMul, Int.reduceNeg, Int.reduceToNat, ne_eq, sto, ldn, ld1, beq_self_eq_true, al_22, al_23, al_3, al_48, fa_25_0, fa_25_1, fa_25_2, ix_22, ix_23, len_22, len_23, X_SameProg_9, X_SameProg_10, X_SameProg_11, X_SameProg_12, X_SameProg_13, X_SameProg_14, X_SameProg_15, g1, g2, pf, qf, pfl, qfl, c1, c2]; simp [isB]
  by_cases c3 : (p.globals.length : Int) = q.globals.length
  case neg => simp -implicitDefEqProofs only [EE, cond_true, cond_false, nth, ↓nw, Value.cells, ↓BK, setMany, if_true, if_false, Nat.reduceAdd, Nat.reduceLeDiff, Nat.reduceMul, Nat.reduceMod, Nat.reduceDiv, Nat.reduceSub, Nat.reduceEqDiff, Int.reduceEq, Int.reduceLT, Int.reduceLE, Int.reduceAdd, Int.reduceSub, Int.reduceMul, Int.reduceNeg, Int.reduceToNat, ne_eq, sto, ldn, ld1, beq_self_eq_true, al_22, al_23, al_3, al_48, fa_25_0, fa_25_1, fa_25_2, ix_22, ix_23, len_22, len_23, X_SameProg_9, X_SameProg_10, X_SameProg_11, X_SameProg_12, X_SameProg_13, X_SameProg_14, X_SameProg_15, g1, g2, pf, qf, pfl, qfl, pg, qg, pgl, qgl, c1, c2, c3]; simp [isB]
  simp -implicitDefEqProofs only [EE, cond_true, cond_false, nth, ↓nw, Value.cells, ↓BK, setMany, if_true, if_false, Nat.reduceAdd, Nat.reduceLeDiff, Nat.reduceMul, Nat.reduceMod, Nat.reduceDiv, Nat.reduceSub, Nat.reduceEqDiff, Int.reduceEq, Int.reduceLT, Int.reduceLE, Int.reduceAdd, Int.reduceSub, Int.reduceMul, Int.reduceNeg, Int.reduceToNat, ne_eq, sto, ldn, ld1, beq_self_eq_true, al_22, al_23, al_3, al_48, fa_25_0, fa_25_1, fa_25_2, ix_22, ix_23, len_22, len_23, X_SameProg_9, X_SameProg_10, X_SameProg_11, X_SameProg_12, X_SameProg_13, X_SameProg_14, X_SameProg_15, g1, g2, pf, qf, pfl, qfl, pg, qg, pgl, qgl, c1, c2, c3]
  refine sp3 P2 Q2 n1 n2 g1 g2 c3 c2 ?_
  simp
end Go.Rtl
namespace Go.Rtl
open Go.Ai Go.Proofs
set_option linter.unusedVariables false
set_option linter.unusedSimpArgs false
set_option maxRecDepth 10000
/-- A memory holds what another holds. -/
structure Sub (h h' : AHeap) : Prop where
  next : h.next ≤ h'.next
  get : ∀ b o, b < h.next → h.get b = some o → h'.get b = some o
theorem Sub.refl (h : AHeap) : Sub h h := ⟨Nat.le_refl _, fun _ _ _ e => e⟩
theorem Sub.trans {a b c : AHeap} (x : Sub a b) (y : Sub b c) : Sub a c := ⟨Nat.le_trans x.next y.next, fun i o hi e => y.get i o (Nat.lt_of_lt_of_le hi x.next) (x.get i o hi e)⟩
theorem Old.sub {h h' : AHeap} (e : Old h h') : Sub h h' := ⟨e.next, fun b o hb g => by rw [e.get b hb]; exact g⟩
section
variable {h h' : AHeap}
theorem SliceI.sub {sv : Value} {zs : List Int} (S : SliceI h sv zs) (e : Sub h h') : SliceI h' sv zs := by
  rcases S with a | ⟨b, off, cp, rfl, hc⟩
  · exact .inl a
  · refine .inr ⟨b, off, cp, rfl, fun hz => ?_⟩
    obtain ⟨c, t, hb, hg, hat⟩ := hc hz
    exact ⟨c, t, Nat.lt_of_lt_of_le hb e.next, e.get b _ hb hg, hat⟩
theorem SliceR.sub {sv : Value} {n : Nat} {rows : List (List Value)} (S : SliceR h sv n rows) (e : Sub h h') : SliceR h' sv n rows := by
  rcases S with a | ⟨b, off, cp, rfl, hc⟩
  · exact .inl a
  · refine .inr ⟨b, off, cp, rfl, fun hz => ?_⟩
    obtain ⟨c, t, hb, hg, hat⟩ := hc hz
    exact ⟨c, t, Nat.lt_of_lt_of_le hb e.next, e.get b _ hb hg, hat⟩
theorem InsOk.sub {x : Ins} (S : InsOk h x) (e : Sub h h') : InsOk h' x := ⟨S.args.sub e, S.few⟩
theorem FnOk.sub {f : Fn} (S : FnOk h f) (e : Sub h h') : FnOk h' f := ⟨S.params.sub e, S.pfew, S.code.sub e, S.cfew, fun x hx => (S.ins x hx).sub e⟩
theorem PgOk.sub {p : Pg} (S : PgOk h p) (e : Sub h h') : PgOk h' p := ⟨S.globals.sub e, S.gfew, S.funcs.sub e, S.ffew, fun f hf => (S.fns f hf).sub e⟩
/-! ### What an append takes -/
theorem SliceR.alen {sv : Value} {n : Nat} {rows : List (List Value)} (S : SliceR h sv n rows) : alenv sv = some rows.length := by
  rcases S with ⟨rfl, rfl⟩ | ⟨b, off, cp, rfl, hc⟩ <;> rfl
theorem take_eq {c : List Value} {off : Nat} {l : List Value} (h : ∀ (i : Nat) v, l[i]? = some v → c[off + i]? = some v) : (l = [] ∨ off + l.length ≤ c.length) ∧ (c.drop off).take l.length = l := by
  have hle : l = [] ∨ off + l.length ≤ c.length := by
    cases hl : l.length with
    | zero => exact .inl (List.length_eq_zero_iff.1 hl)
    | succ n =>
      have := h n l[n] (List.getElem?_eq_getElem (by omega))
      rcases Nat.lt_or_ge (off + n) c.length with q | q
      · exact .inr (by omega)
      · rw [List.getElem?_eq_none q] at this; cases this
  refine ⟨hle, List.ext_getElem? fun i => ?_⟩
  rw [List.getElem?_take, List.getElem?_drop]
  by_cases hi : i < l.length
  · rw [if_pos hi, List.getElem?_eq_getElem hi]; exact h i _ (List.getElem?_eq_getElem hi)
  · rw [if_neg hi, List.getElem?_eq_none (by omega)]
theorem flat_at {n : Nat} : ∀ {rows : List (List Value)}, (∀ r, r ∈ rows → r.length = n) → ∀ {i : Nat} {r : List Value} {k : Nat}, rows[i]? = some r → k < n → rows.flatten[i * n + k]? = r[k]?
  | [], _, i, r, k, hr, _ => by cases hr
  | r0 :: rows, hn, 0, r, k, hr, hk => by
    simp only [List.getElem?_cons_zero, Option.some.injEq] at hr
    subst hr
    rw [List.flatten_cons, List.getElem?_append_left (by rw [hn _ (by simp)]; omega)]
    simp
  | r0 :: rows, hn, i + 1, r, k, hr, hk => by
    have h0 := hn r0 (by simp)
    rw [List.flatten_cons, List.getElem?_append_right (by rw [h0, Nat.add_mul]; omega), h0, show (i + 1) * n + k - n = i * n + k by rw [Nat.add_mul]; omega]
    exact flat_at (fun r hr => hn r (by simp [hr])) (by simpa using hr) hk
theorem flat_len {n : Nat} : ∀ {rows : List (List Value)}, (∀ r, r ∈ rows → r.length = n) → rows.flatten.length = rows.length * n
  | [], _ => by simp
  | r0 :: rows, hn => by
    rw [List.flatten_cons, List.length_append, flat_len (fun r hr => hn r (by simp [hr])), hn r0 (by simp), List.length_cons, Nat.add_mul]; omega
theorem flat_row {n : Nat} {rows : List (List Value)} (hn : ∀ r, r ∈ rows → r.length = n) {i : Nat} {r : List Value} (hr : rows[i]? = some r) : i * n + n ≤ rows.flatten.length ∧ (rows.flatten.drop (i * n)).take n = r := by
  have hi : i < rows.length := by
    rcases Nat.lt_or_ge i rows.length with a | a
    · exact a
    · rw [List.getElem?_eq_none a] at hr; cases hr
  have hl : r.length = n := hn r (List.mem_of_getElem? hr)
  constructor
  · rw [flat_len hn]
    have := Nat.mul_le_mul_right n (Nat.succ_le_of_lt hi)
    rw [Nat.succ_mul] at this
    exact this
  · refine List.ext_getElem? fun k => ?_
    rw [List.getElem?_take, List.getElem?_drop]
    by_cases hk : k < n
    · rw [if_pos hk]; exact flat_at hn hr hk
    · rw [if_neg hk, List.getElem?_eq_none (by omega)]
/-- Rows, one behind the other, are the rows of a slice. -/
theorem sliceR_flat {b n cp : Nat} {t : TypeId} {rows : List (List Value)} (hn : ∀ r, r ∈ rows → r.length = n) (hb : b < h.next) (hg : h.get b = some (.cells rows.flatten t)) : SliceR h (.slice (some ⟨b, 0, none⟩) rows.length cp) n rows :=
  .inr ⟨b, 0, cp, rfl, fun _ => ⟨_, t, hb, hg, fun i r hr => by rw [Nat.zero_add]; exact flat_row hn hr⟩⟩
theorem SliceR.first {sv : Value} {n : Nat} {rows : List (List Value)} (S : SliceR h sv n rows) (h0 : 0 < n) (hn : ∀ r, r ∈ rows → r.length = n) : firstc h rows.length n sv = some rows.flatten := by
  rcases S with ⟨rfl, rfl⟩ | ⟨b, off, cp, rfl, hc⟩
  · rfl
  · cases rows with
    | nil => unfold firstc; simp only [List.length_nil, Nat.zero_mul]; rfl
    | cons r0 rows =>
      obtain ⟨c, t, hb, hg, hat⟩ := hc (by simp)
      obtain ⟨h1, h2⟩ := take_eq (c := c) (off := off) (l := (r0 :: rows).flatten) (fun j v hv => by
        have hj : j < (r0 :: rows).length * n := by
          rcases Nat.lt_or_ge j ((r0 :: rows).flatten.length) with a | a
          · rw [flat_len hn] at a; exact a
          · rw [List.getElem?_eq_none a] at hv; cases hv
        have hi : j / n < (r0 :: rows).length := (Nat.div_lt_iff_lt_mul h0).2 hj
        have hk : j % n < n := Nat.mod_lt _ h0
        have hr : (r0 :: rows)[j / n]? = some (r0 :: rows)[j / n] := List.getElem?_eq_getElem hi
        have e : j = j / n * n + j % n := by rw [Nat.mul_comm]; exact (Nat.div_add_mod j n).symm
        rw [e, flat_at hn hr hk] at hv
        obtain ⟨_, h4⟩ := hat _ _ hr
        rw [← h4, List.getElem?_take, if_pos hk, List.getElem?_drop] at hv
        rw [e, ← Nat.add_assoc]; exact hv)
      have hl := flat_len hn
      rw [hl] at h1 h2
      have hne : (r0 :: rows).length * n ≠ 0 := by rw [List.length_cons]; exact Nat.mul_ne_zero (by omega) (by omega)
      have h3 : off + (r0 :: rows).length * n ≤ c.length := by
        rcases h1 with e | e
        · rw [e] at hl; exact absurd hl.symm hne
        · exact e
      unfold firstc
      simp only [hg]
      rw [show Nat.beq ((r0 :: rows).length * n) 0 = false by rw [← Bool.not_eq_true, Nat.beq_eq]; exact hne, cond_false, Nat.ble_eq_true_of_le h3, cond_true, h2]
end
end Go.Rtl
namespace Go.Rtl
open Go.Ai Go.Proofs
set_option linter.unusedVariables false
set_option linter.unusedSimpArgs false
set_option maxRecDepth 10000
abbrev Ins.core (x : Ins) : Ins := { x with av := .bool false }
abbrev Fn.core (f : Fn) : Fn := { f with pv := .bool false, cv := .bool false, code := f.code.map Ins.core }
abbrev Pg.core (p : Pg) : Pg := { p with gv := .bool false, fv := .bool false, funcs := p.funcs.map Fn.core }
/-- Rows of one's own, laid behind lo. -/
def SliceRW (lo h : AHeap) (t : TypeId) (l : Value) (rows : List (List Value)) : Prop := (l = .slice none 0 0 ∧ rows = []) ∨ ∃ b c, l = .slice (some ⟨b, 0, none⟩) rows.length c ∧ c ≠ 0 ∧ lo.next ≤ b ∧ b < h.next ∧ h.ro ≤ b ∧ h.get b = some (.cells rows.flatten t)
/-- A slice's block. -/
def blk : Value → List Nat
  | .slice (some a) _ _ => [a.block]
  | _ => []
section
variable {lo h : AHeap} {l : Value} {rows : List (List Value)} {t : TypeId}
theorem SliceRW.read {n : Nat} (S : SliceRW lo h t l rows) (hn : ∀ r, r ∈ rows → r.length = n) : SliceR h l n rows := by
  rcases S with a | ⟨b, c, rfl, hc, h1, h2, h3, h4⟩
  · exact .inl a
  · exact sliceR_flat hn h2 h4
theorem app2_rows {n bz : Nat} (S : SliceRW lo h t l rows) (hro : h.ro ≤ h.next) (hlo : lo.next ≤ h.next) (h0n : 0 < n) (hn : ∀ r, r ∈ rows → r.length = n) {ys : List (List Value)} (hb : (rows.length + ys.length) * bz ≤ 2 ^ 47) :
    ∃ l' h', app2 h t n bz ys.length ys.flatten l = some (l', h') ∧ SliceRW lo h' t l' (rows ++ ys) ∧ h'.ro = h.ro ∧ h'.ro ≤ h'.next ∧ h.next ≤ h'.next ∧ (WF' h → WF' h') ∧ (∀ b, b < h.next → b ∉ blk l → h'.get b = h.get b) ∧ (∀ b, b ∈ blk l' → b ∈ blk l ∨ h.next ≤ b) := by
  rcases S with ⟨rfl, rfl⟩ | ⟨b, c, rfl, hc, hb1, hb2, hb3, hg⟩
  · by_cases h0 : ys.length = 0
    · have : ys = [] := List.length_eq_zero_iff.1 h0
      subst this
      exact ⟨_, _, by simp only [app2, List.length_nil, if_true], .inl ⟨rfl, rfl⟩, rfl, hro, Nat.le_refl _, id, fun _ _ _ => rfl, fun b hb => .inl hb⟩
    · refine ⟨.slice (some ⟨h.next, 0, none⟩) ys.length 1, h.push (.cells ys.flatten t), ?_, .inr ⟨h.next, 1, by simp, by decide, hlo, Nat.lt_succ_self _, hro, by rw [get_push_self]; rfl⟩, rfl, Nat.le_succ_of_le hro, Nat.le_succ _, fun w => wf_push w _, fun b hb _ => get_push_lt hb, fun b hb => by simp only [blk, List.mem_singleton] at hb; exact .inr (by omega)⟩
      simp only [app2, h0, if_false]
      have : ys.length * bz ≤ 2 ^ 48 := by simp only [List.length_nil, Nat.zero_add] at hb; omega
      rw [if_pos this]
  · by_cases h0 : ys.length = 0
    · have : ys = [] := List.length_eq_zero_iff.1 h0
      subst this
      exact ⟨.slice (some ⟨b, 0, none⟩) rows.length c, h, by simp only [app2, List.length_nil, if_true], .inr ⟨b, c, by simp, hc, hb1, hb2, hb3, by simpa using hg⟩, rfl, hro, Nat.le_refl _, id, fun _ _ _ => rfl, fun b hb => .inl hb⟩
    · have hroom : roomFor c (rows.length + ys.length) bz = true := by
        unfold roomFor
        cases Nat.beq c 2 <;> simp only [cond_true, cond_false, Nat.ble_eq] <;> omega
      have hl := flat_len hn
      refine ⟨.slice (some ⟨h.next, 0, none⟩) (rows.length + ys.length) (capafter c (rows.length + ys.length)), (h.set b none).push (.cells (rows ++ ys).flatten t), ?_, .inr ⟨h.next, capafter c (rows.length + ys.length), by simp, cap_ne _ _, by omega, Nat.lt_succ_self _, hro, get_push_self⟩, rfl, Nat.le_succ_of_le hro, Nat.le_succ _, fun w => wf_push (wf_set w hb2 _) _, fun b' hb' hne => ?_, fun b hb => by simp only [blk, List.mem_singleton] at hb; exact .inr (by omega)⟩
      · simp only [app2, h0, if_false, hg]
        rw [if_pos ⟨hc, trivial, hb3, by rw [hl]; omega, hroom, by simp⟩]
        congr 3
        rw [List.drop_zero, List.take_of_length_le (by rw [hl]; omega), List.flatten_append]
      · simp only [blk, List.mem_singleton] at hne
        rw [get_push_lt (by show b' < h.next; exact hb'), get_set_ne hne]
end
/-- An instruction's value put into its row. -/
theorem put_av : ∀ (ys : List Ins) (n : Nat) (y : Ins) (v : Value), ys[n]? = some y → (ys.map Ins.row).flatten.set (n * 9 + 6) v = ((ys.set n { y with av := v }).map Ins.row).flatten
  | [], n, y, v, h => by cases h
  | y0 :: ys, 0, y, v, h => by
    simp only [List.getElem?_cons_zero, Option.some.injEq] at h
    subst h
    simp [Ins.row]
  | y0 :: ys, n + 1, y, v, h => by
    have := put_av ys n y v (by simpa using h)
    rw [List.map_cons, List.flatten_cons, List.set_append_right _ _ (by simp; omega), List.set_cons_succ, List.map_cons, List.flatten_cons]
    rw [← this]
    congr 2
    simp; omega
theorem get_hid {h : AHeap} {l : List Nat} {b : Nat} : (h.hide l).get b = if b ∈ l then none else h.get b := get_hide h l b
/-- All but some blocks are as they were. -/
structure Keep (l : List Nat) (H h : AHeap) : Prop where
  next : H.next ≤ h.next
  ro : h.ro = H.ro
  get : ∀ b, b < H.next → b ∉ l → h.get b = H.get b
theorem Keep.sub {l : List Nat} {H h : AHeap} (k : Keep l H h) : Sub (H.hide l) (h.hide l) := ⟨k.next, fun b o hb g => by
  rw [get_hid] at g ⊢
  split at g
  · cases g
  · rename_i q
    rw [if_neg q, k.get b hb q]; exact g⟩
theorem ro_graftR (h h2 : AHeap) : (graft h h2).ro = h.ro := rfl
theorem next_graftR (h h2 : AHeap) : (graft h h2).next = h2.next := rfl
/-- An append onto a slice of the region's own. -/
theorem appV_own {h : AHeap} {x : Value} {zs : List Int} {e : Nat} (S : SliceI (h.push (.cells [] 3)) x zs) (few : zs.length ≤ 17592186043904) (hro : h.ro ≤ h.next) (he : h.next < e) {K : Value → AHeap → Prop} (k : ∀ v h6, SliceW h h6 v zs → Old h h6 → h6.ro ≤ h6.next → K v h6) :
    appV Tryz.prog [22, 22] 22 [.slice (some ⟨h.next, 0, none⟩) 0 2, x] (some (h.next, e)) (h.push (.cells [] 3)) (h.push (.cells [] 3)) K := by
  refine ⟨⟨Nat.le_refl _, he, by rw [get_push_self]; simp⟩, ?_⟩
  have W : SliceW h (h.push (.cells [] 3)) (.slice (some ⟨h.next, 0, none⟩) 0 2) [] := .inr ⟨h.next, 2, rfl, by decide, Nat.le_refl _, Nat.lt_succ_self _, hro, get_push_self⟩
  obtain ⟨l', h', a1, a2, a3, a4, a5, a6, a7⟩ := app_more W (Old.push _ _) (Nat.le_succ_of_le hro) S.first.1 rfl S.first.2 (by simpa using (by omega : zs.length ≤ 17592186044416))
  rw [a1, nb_cons rfl, nb_cons S.nob, nb_nil]
  show K l' _
  have hr : (graft (setS (h.push (.cells [] 3)) (.slice (some ⟨h.next, 0, none⟩) 0 2) h') h').ro = h.ro := by rw [ro_graftR, ro_setS]; rfl
  have a5' : h.next + 1 ≤ h'.next := a5
  have gg : ∀ b, (graft (setS (h.push (.cells [] 3)) (.slice (some ⟨h.next, 0, none⟩) 0 2) h') h').get b = if h.next ≤ b ∧ b < h'.next then h'.get b else h.get b := by
    intro b
    rw [get_graft, next_setS]
    show (if h.next + 1 ≤ b ∧ b < h'.next then h'.get b else ((h.push (.cells [] 3)).set h.next (h'.get h.next)).get b) = _
    by_cases hb : h.next + 1 ≤ b ∧ b < h'.next
    · rw [if_pos hb, if_pos ⟨by omega, hb.2⟩]
    · rw [if_neg hb]
      by_cases hb2 : b = h.next
      · subst hb2; rw [get_set_self, if_pos ⟨Nat.le_refl _, by omega⟩]
      · rw [get_set_ne hb2, if_neg (by omega), AHeap.get_push, if_neg hb2]
  refine k _ _ ?_ ⟨by rw [next_graftR]; omega, hr, fun b hb => by rw [gg, if_neg (by omega)]⟩ ?_
  · rw [List.nil_append] at a2
    rcases a2 with q | ⟨b, c, q1, q2, q3, q4, q5, q6⟩
    · exact .inl q
    · refine .inr ⟨b, c, q1, q2, q3, q4, ?_, ?_⟩
      · rw [hr]; omega
      · rw [gg, if_pos ⟨q3, q4⟩]; exact q6
  · rw [hr, next_graftR]; omega
theorem SliceW.sub {lo h K : AHeap} {v : Value} {zs : List Int} (S : SliceW lo h v zs) (hn : h.next ≤ K.next) (hk : ∀ b, lo.next ≤ b → b < h.next → K.get b = h.get b) : SliceI K v zs := by
  rcases S with a | ⟨b, c, rfl, hc, h1, h2, h3, h4⟩
  · exact .inl a
  · refine .inr ⟨b, 0, c, rfl, fun _ => ⟨_, 3, Nat.lt_of_lt_of_le h2 hn, by rw [hk b h1 h2]; exact h4, fun i z hz => ?_⟩⟩
    simp [ints, hz]
theorem SliceW.shape {lo h : AHeap} {v : Value} {zs : List Int} (S : SliceW lo h v zs) : ∃ a n c, v = .slice a n c := by
  rcases S with ⟨rfl, _⟩ | ⟨_, _, rfl, _⟩ <;> exact ⟨_, _, _, rfl⟩
theorem SliceW.cok {lo h : AHeap} {v : Value} {zs : List Int} (S : SliceW lo h v zs) : cellOk v = true := by
  rcases S with ⟨rfl, _⟩ | ⟨_, _, rfl, _⟩ <;> rfl
theorem row_len (ys : List Ins) : ∀ r, r ∈ ys.map Ins.row → r.length = 9 := by
  intro r hr
  simp only [List.mem_map] at hr
  obtain ⟨y, _, rfl⟩ := hr
  rfl
/-- The copy of each node's arguments. -/
theorem cp_in {lo H : AHeap} {bf : Nat} {cv a0 a1 a2 a3 a4 : Value} {xs : List Ins} {ex : List Nat} (hbf : H.get bf = some (.cells [a0, a1, a2, a3, a4, cv] 48)) (hbl : bf < H.next) (S : SliceRW lo H 43 cv (xs.map Ins.row)) (hne : bf ∉ blk cv) (hro : H.ro ≤ H.next)
    (hex : ∀ b, b ∈ ex → b < H.next) (X : ∀ x, x ∈ xs → InsOk (H.hide (blk cv ++ ex)) x) (few : xs.length ≤ 17592186043904) {j : List Value → AHeap → Prop}
    (K : ∀ (h : AHeap) (ys : List Ins), ys.map Ins.core = xs.map Ins.core → SliceRW lo h 43 cv (ys.map Ins.row) → Keep (blk cv) H h → h.ro ≤ h.next → (∀ y, y ∈ ys → InsOk (h.hide (blk cv ++ ex)) y) → j [] h) : LP (X_Copy_4 (.pointer (some ⟨bf, 0, none⟩)) j) [.int .i64 0] H := by
  rcases S with ⟨rfl, hS⟩ | ⟨cb, cc, rfl, hc, hb1, hb2, hb3, hg⟩
  · have hx : xs = [] := by simpa using hS
    subst hx
    refine LP_of (fun m vs h => vs = [.int .i64 0] ∧ h = H) 0 ⟨rfl, rfl⟩ ?_
    rintro m vs h ⟨rfl, rfl⟩
    simp -implicitDefEqProofs only [EE, cond_true, cond_false, nth, ↓nw, Value.cells, ↓BK, setMany, if_true, if_false, Nat.reduceAdd, Nat.reduceLeDiff, Nat.reduceMul, Nat.reduceMod, Nat.reduceDiv, Nat.reduceSub, Nat.reduceEqDiff, Int.reduceEq, Int.reduceLT, Int.reduceLE, Int.reduceAdd, Int.reduceSub, Int.reduceMul, Int.reduceNeg, Int.reduceToNat, ne_eq, sto, ldn, ld1, beq_self_eq_true, al_22, al_23, al_25, al_3, al_46, al_48, ap_22, ap_23, ap_46, as_22, as_23, as_25, as_46, as_48, az_25, az_48, bd_25_0_2, bs_22_0_, bs_23_1_0, bs_46_0_, co_3, co_43, co_48, fa_25_0, fa_25_1, fa_25_2, fa_43_6, fa_48_1, fa_48_5, ix_23, ix_46, len_23, len_46, X_Copy_4, hbf]
    exact K _ [] rfl (.inl ⟨rfl, rfl⟩) ⟨Nat.le_refl _, rfl, fun _ _ _ => rfl⟩ hro (fun y hy => by cases hy)
  · rw [List.length_map] at *
    simp only [blk, List.mem_singleton] at hne
    refine LP_of (fun m vs h => ∃ i ys, i ≤ xs.length ∧ m = xs.length - i ∧ vs = [.int .i64 (i : Nat)] ∧ ys.map Ins.core = xs.map Ins.core ∧ Keep [cb] H h ∧ h.ro ≤ h.next ∧ h.get cb = some (.cells (ys.map Ins.row).flatten 43) ∧ ∀ y, y ∈ ys → InsOk (h.hide (cb :: ex)) y) xs.length
      ⟨0, xs, Nat.zero_le _, rfl, rfl, rfl, ⟨Nat.le_refl _, rfl, fun _ _ _ => rfl⟩, hro, hg, X⟩ ?_
    rintro m vs h ⟨i, ys, hi, rfl, rfl, hcore, hk, hro2, hgc, hY⟩
    have hlen : ys.length = xs.length := by simpa using congrArg List.length hcore
    have gbf : h.get bf = some (.cells [a0, a1, a2, a3, a4, .slice (some ⟨cb, 0, none⟩) xs.length cc] 48) := by rw [hk.get bf hbl (by simpa using hne)]; exact hbf
    have kn := hk.next
    rcases Nat.lt_or_ge i xs.length with hlt | hge
    · obtain ⟨y, hy, hym⟩ := get_some (l := ys) (k := i) (by omega)
      have hlt' : (i : Int) < (xs.length : Int) := by omega
      have h0' : 0 ≤ (i : Int) ∧ (i : Int) < (xs.length : Int) := by omega
      have hinc : IntKind.wrap .i64 ((i : Int) + 1) = ((i + 1 : Nat) : Int) := inc (by omega)
      have gc1 : ∀ t, (cut (h.push (.cells [] 3)) h.next t).get bf = some (.cells [a0, a1, a2, a3, a4, .slice (some ⟨cb, 0, none⟩) xs.length cc] 48) := fun t => by rw [get_cut_lt (by omega), get_push_lt (by omega)]; exact gbf
      have gc2 : ∀ t, (cut (h.push (.cells [] 3)) h.next t).get cb = some (.cells (ys.map Ins.row).flatten 43) := fun t => by rw [get_cut_lt (by omega), get_push_lt (by omega)]; exact hgc
      have hco : (ys.map Ins.row).flatten[i * 9 + 6]? = some y.av := by
        rw [flat_at (n := 9) (row_len ys) (r := y.row) (by rw [List.getElem?_map, hy]; rfl) (by decide)]; rfl
      have Y := hY y hym
      simp -implicitDefEqProofs only [EE, cond_true, cond_false, nth, ↓nw, Value.cells, ↓BK, setMany, if_true, if_false, Nat.reduceAdd, Nat.reduceLeDiff, Nat.reduceMul, Nat.reduceMod, Nat.reduceDiv, Nat.reduceSub, Nat.reduceEqDiff, Int.reduceEq, Int.reduceLT, Int.reduceLE, Int.reduceAdd, Int.reduceSub, Int.reduceMul, Int.reduceNeg, Int.reduceToNat, ne_eq, sto, ldn, ld1, beq_self_eq_true, al_22, al_23, al_25, al_3, al_46, al_48, ap_22, ap_23, ap_46, as_22, as_23, as_25, as_46, as_48, az_25, az_48, bd_25_0_2, bs_22_0_, bs_23_1_0, bs_46_0_, co_3, co_43, co_48, fa_25_0, fa_25_1, fa_25_2, fa_43_6, fa_48_1, fa_48_5, ix_23, ix_46, len_23, len_46, X_Copy_2, X_Copy_3, X_Copy_4, gbf, hlt', h0', gc1, gc2, hco, Int.toNat_natCast]
      refine appV_own (h := h) (Y.args.sub ⟨Nat.le_succ _, fun b o hb g => ?_⟩) Y.few hro2 (Nat.lt_succ_self _) ?_
      · have hb : b < h.next := hb
        rw [get_hid] at g
        rw [get_push_lt hb]
        split at g
        · cases g
        · exact g
      intro v h6 W e6 r6
      have n6 := e6.next
      have g6 : h6.get cb = some (.cells (ys.map Ins.row).flatten 43) := by rw [e6.get cb (by omega)]; exact hgc
      have hl6 : i * 9 + 6 + 1 ≤ (ys.map Ins.row).flatten.length := by
        rw [flat_len (row_len ys), List.length_map]; omega
      have hr6 : h6.ro ≤ cb := by rw [e6.ro, hk.ro]; exact hb3
      obtain ⟨va, vl, vc, rfl⟩ := W.shape
      simp -implicitDefEqProofs only [EE, cond_true, cond_false, nth, ↓nw, Value.cells, ↓BK, setMany, if_true, if_false, Nat.reduceAdd, Nat.reduceLeDiff, Nat.reduceMul, Nat.reduceMod, Nat.reduceDiv, Nat.reduceSub, Nat.reduceEqDiff, Int.reduceEq, Int.reduceLT, Int.reduceLE, Int.reduceAdd, Int.reduceSub, Int.reduceMul, Int.reduceNeg, Int.reduceToNat, ne_eq, sto, ldn, ld1, beq_self_eq_true, al_22, al_23, al_25, al_3, al_46, al_48, ap_22, ap_23, ap_46, as_22, as_23, as_25, as_46, as_48, az_25, az_48, bd_25_0_2, bs_22_0_, bs_23_1_0, bs_46_0_, co_3, co_43, co_48, fa_25_0, fa_25_1, fa_25_2, fa_43_6, fa_48_1, fa_48_5, ix_23, ix_46, len_23, len_46, X_Copy_1, h0', Int.toNat_natCast, g6, hl6, hr6]
      refine ⟨xs.length - (i + 1), by omega, i + 1, ys.set i { y with av := .slice va vl vc }, hlt, rfl, by rw [hinc], ?_, ?_, r6, ?_, ?_⟩
      · rw [← hcore]
        refine List.ext_getElem? fun k => ?_
        rw [List.getElem?_map, List.getElem?_map, List.getElem?_set]
        by_cases q : i = k
        · subst q; rw [hy, if_pos rfl, if_pos (by omega)]; rfl
        · rw [if_neg q]
      · refine ⟨by show H.next ≤ h6.next; omega, by show h6.ro = H.ro; rw [e6.ro, hk.ro], fun b hb q => ?_⟩
        rw [get_set_ne (by simpa using q), e6.get b (by omega), hk.get b hb q]
      · rw [put_av ys i y _ hy]
      · intro z hz
        rcases List.mem_or_eq_of_mem_set hz with q | rfl
        · refine (hY z q).sub ⟨by show h.next ≤ h6.next; exact n6, fun b o hb g => ?_⟩
          have hb : b < h.next := hb
          rw [get_hid] at g ⊢
          split at g
          · cases g
          · rename_i q2
            rw [if_neg q2, get_set_ne (by intro e; subst e; simp at q2), e6.get b hb]; exact g
        · refine ⟨W.sub (Nat.le_refl _) fun b k1 k2 => ?_, Y.few⟩
          rw [get_hid, if_neg, get_set_ne (by omega)]
          intro q
          rcases List.mem_cons.1 q with q | q
          · omega
          · have := hex b q; omega
    · have hlt' : ¬ (i : Int) < (xs.length : Int) := by omega
      simp -implicitDefEqProofs only [EE, cond_true, cond_false, nth, ↓nw, Value.cells, ↓BK, setMany, if_true, if_false, Nat.reduceAdd, Nat.reduceLeDiff, Nat.reduceMul, Nat.reduceMod, Nat.reduceDiv, Nat.reduceSub, Nat.reduceEqDiff, Int.reduceEq, Int.reduceLT, Int.reduceLE, Int.reduceAdd, Int.reduceSub, Int.reduceMul, Int.reduceNeg, Int.reduceToNat, ne_eq, sto, ldn, ld1, beq_self_eq_true, al_22, al_23, al_25, al_3, al_46, al_48, ap_22, ap_23, ap_46, as_22, as_23, as_25, as_46, as_48, az_25, az_48, bd_25_0_2, bs_22_0_, bs_23_1_0, bs_46_0_, co_3, co_43, co_48, fa_25_0, fa_25_1, fa_25_2, fa_43_6, fa_48_1, fa_48_5, ix_23, ix_46, len_23, len_46, X_Copy_4, gbf, hlt']
      exact K _ ys hcore (.inr ⟨cb, cc, by rw [List.length_map, hlen], hc, hb1, by omega, by rw [hk.ro]; exact hb3, hgc⟩) hk hro2 hY
theorem SliceRW.shape {lo h : AHeap} {t : TypeId} {v : Value} {rows : List (List Value)} (S : SliceRW lo h t v rows) : ∃ a n c, v = .slice a n c := by
  rcases S with ⟨rfl, _⟩ | ⟨_, _, rfl, _⟩ <;> exact ⟨_, _, _, rfl⟩
theorem frow_len (ys : List Fn) : ∀ r, r ∈ ys.map Fn.row → r.length = 6 := by
  intro r hr
  simp only [List.mem_map] at hr
  obtain ⟨y, _, rfl⟩ := hr
  rfl
theorem sub_hid {h X : AHeap} {L L' : List Nat} (hn : h.next ≤ X.next) (hg : ∀ b, b < h.next → b ∉ L → X.get b = h.get b) (hL : ∀ b, b ∈ L' → b ∈ L ∨ h.next ≤ b) : Sub (h.hide L) (X.hide L') := ⟨hn, fun b o hb g => by
  have hb : b < h.next := hb
  rw [get_hid] at g ⊢
  split at g
  · cases g
  · rename_i q
    rw [if_neg (fun e => by rcases hL b e with a | a; exact q a; omega), hg b hb q]; exact g⟩
theorem hid_nil (h : AHeap) : Sub (h.hide []) h := ⟨Nat.le_refl _, fun b o hb g => by rw [get_hid] at g; simpa using g⟩
theorem sub_of {h X : AHeap} {L : List Nat} (hn : h.next ≤ X.next) (hg : ∀ b, b < h.next → b ∉ L → X.get b = h.get b) : Sub (h.hide L) X := (sub_hid hn hg (L' := []) (fun b hb => by cases hb)).trans (hid_nil X)
theorem SliceRW.blk_ge {lo h : AHeap} {t : TypeId} {v : Value} {rows : List (List Value)} (S : SliceRW lo h t v rows) : ∀ b, b ∈ blk v → lo.next ≤ b ∧ b < h.next := by
  rcases S with ⟨rfl, _⟩ | ⟨_, _, rfl, _, h1, h2, _⟩
  · intro b hb; cases hb
  · intro b hb; simp only [blk, List.mem_singleton] at hb; subst hb; exact ⟨h1, h2⟩
theorem SliceRW.lo {lo lo' h : AHeap} {t : TypeId} {v : Value} {rows : List (List Value)} (S : SliceRW lo h t v rows) (hl : lo'.next ≤ lo.next) : SliceRW lo' h t v rows := by
  rcases S with a | ⟨b, c, h0, h1, h2, h3⟩
  · exact .inl a
  · exact .inr ⟨b, c, h0, h1, by omega, h3⟩
theorem SliceRW.keep {lo h h' : AHeap} {t : TypeId} {v : Value} {rows : List (List Value)} (S : SliceRW lo h t v rows) (hn : h.next ≤ h'.next) (hr : h'.ro = h.ro) (hg : ∀ b, b ∈ blk v → h'.get b = h.get b) : SliceRW lo h' t v rows := by
  rcases S with a | ⟨b, c, rfl, h1, h2, h3, h4, h5⟩
  · exact .inl a
  · exact .inr ⟨b, c, rfl, h1, h2, by omega, by omega, by rw [hg b (by simp [blk])]; exact h5⟩
/-- An append onto a new slice. -/
theorem appI_own {h : AHeap} {x : Value} {zs : List Int} (S : SliceI (h.push (.cells [] 3)) x zs) (few : zs.length ≤ 17592186043904) (hro : h.ro ≤ h.next) :
    ∃ v h', abuiltin Tryz.prog .append [22, 22] 22 [.slice (some ⟨h.next, 0, none⟩) 0 2, x] (h.push (.cells [] 3)) = some (v, h') ∧ SliceW h h' v zs ∧ Old h h' ∧ h'.ro ≤ h'.next ∧ h.next < h'.next := by
  have W : SliceW h (h.push (.cells [] 3)) (.slice (some ⟨h.next, 0, none⟩) 0 2) [] := .inr ⟨h.next, 2, rfl, by decide, Nat.le_refl _, Nat.lt_succ_self _, hro, get_push_self⟩
  obtain ⟨l', h', a1, a2, a3, a4, a5, a6, a7⟩ := app_more W (Old.push _ _) (Nat.le_succ_of_le hro) S.first.1 rfl S.first.2 (by simpa using (by omega : zs.length ≤ 17592186044416))
  exact ⟨l', h', a1, by rw [List.nil_append] at a2; exact a2, a3, a4, a5⟩
theorem irow_cok {h : AHeap} {ys : List Ins} (Y : ∀ y, y ∈ ys → InsOk h y) : (ys.map Ins.row).flatten.all cellOk = true := by
  rw [List.all_eq_true]
  intro v hv
  simp only [List.mem_flatten, List.mem_map] at hv
  obtain ⟨_, ⟨y, hy, rfl⟩, hv⟩ := hv
  simp only [List.mem_cons, List.not_mem_nil, or_false] at hv
  rcases hv with rfl | rfl | rfl | rfl | rfl | rfl | rfl | rfl | rfl
  all_goals first | rfl | exact (Y y hy).args.cok
theorem appR_own {h : AHeap} {x : Value} {ys : List Ins} (S : SliceR (h.push (.cells [] 43)) x 9 (ys.map Ins.row)) (Y : ∀ y, y ∈ ys → InsOk (h.push (.cells [] 43)) y) (few : ys.length * 88 ≤ 140737488351232) (hro : h.ro ≤ h.next) :
    ∃ v h', abuiltin Tryz.prog .append [46, 46] 46 [.slice (some ⟨h.next, 0, none⟩) 0 2, x] (h.push (.cells [] 43)) = some (v, h') ∧ SliceRW h h' 43 v (ys.map Ins.row) ∧ Old h h' ∧ h'.ro ≤ h'.next ∧ h.next < h'.next := by
  have W : SliceRW h (h.push (.cells [] 43)) 43 (.slice (some ⟨h.next, 0, none⟩) 0 2) [] := .inr ⟨h.next, 2, rfl, by decide, Nat.le_refl _, Nat.lt_succ_self _, hro, get_push_self⟩
  obtain ⟨l', h', a1, a2, a3, a4, a5, a6, a7, a8⟩ := app2_rows (n := 9) (bz := 88) W (Nat.le_succ_of_le hro) (Nat.le_succ _) (by decide) (fun r hr => by cases hr) (ys := ys.map Ins.row) (by simp; omega)
  have al := S.alen
  have fi := S.first (by decide) (row_len ys)
  rw [List.length_map] at al fi a1
  refine ⟨l', h', ?_, by rw [List.nil_append] at a2; exact a2, ⟨by have : h.next + 1 ≤ h'.next := a5; omega, a3, fun b hb => ?_⟩, a4, a5⟩
  · rw [ap_46 46 _ _ ys.length (ys.map Ins.row).flatten _ al fi (irow_cok Y) (by rw [flat_len (row_len ys), List.length_map])]
    exact a1
  · rw [a7 b (by show b < h.next + 1; omega) (by simp only [blk, List.mem_singleton]; omega), get_push_lt hb]
/-- A function's copy. -/
theorem cp_fn {lo h : AHeap} {b1 b2 b3 i : Nat} {qg fv : Value} {m : Int} {p : Pg} {f : Fn} {qs : List Fn} (hf : p.funcs[i]? = some f) (P : PgOk (h.hide (b3 :: b2 :: blk fv)) p) (g1 : h.get b1 = some (pcells p)) (g3 : h.get b3 = some (.cells [qg, fv, .int .i64 m] 25))
    (S : SliceRW lo h 48 fv (qs.map Fn.row)) (Q : ∀ q, q ∈ qs → FnOk (h.hide (b3 :: b2 :: blk fv)) q) (r3 : h.ro ≤ b3) (hro : h.ro ≤ h.next) (l1 : b1 < h.next) (l2 : b2 < h.next) (l3 : b3 < h.next) (n1 : b1 ∉ blk fv) (n3 : b3 ∉ blk fv) (n13 : b1 ≠ b3) (hlen : (qs.length + 1) * 88 ≤ 2 ^ 47) (hlo : lo.next ≤ h.next)
    {j : List Value → AHeap → Prop}
    (K : ∀ (h' : AHeap) (fv' : Value) (q : Fn), q.core = f.core → SliceRW lo h' 48 fv' ((qs ++ [q]).map Fn.row) → h'.get b3 = some (.cells [qg, fv', .int .i64 m] 25) → (∀ q', q' ∈ qs ++ [q] → FnOk (h'.hide (b3 :: b2 :: blk fv')) q') → Keep (b3 :: blk fv) h h' → (∀ b, b ∈ blk fv' → b ∈ blk fv ∨ h.next ≤ b) → h'.ro ≤ h'.next → j [] h') :
    X_Copy_6 (.pointer (some ⟨b1, 0, none⟩)) h [.int .i64 (i : Nat)] (.pointer (some ⟨b3, 0, none⟩)) j := by
  have fl := P.funcs.len23 3
  obtain ⟨bb, oo, cc, tt, ha, hbb, hgt, hle, htk, _⟩ := P.funcs.at23 (i := i) (r := f.row) (by rw [List.getElem?_map, hf]; rfl) rfl
  have F := P.fns f (List.mem_of_getElem? hf)
  rw [get_hid] at hgt
  split at hgt
  · cases hgt
  rename_i hbx
  have pn := F.params.nob
  have cn := F.code.nob
  have pc := F.params.cok
  have cc' := F.code.cok
  simp -implicitDefEqProofs only [EE, cond_true, cond_false, nth, ↓nw, Value.cells, ↓BK, setMany, if_true, if_false, Nat.reduceAdd, Nat.reduceLeDiff, Nat.reduceMul, Nat.reduceMod, Nat.reduceDiv, Nat.reduceSub, Nat.reduceEqDiff, Int.reduceEq, Int.reduceLT, Int.reduceLE, Int.reduceAdd, Int.reduceSub, Int.reduceMul, Int.reduceNeg, Int.reduceToNat, ne_eq, sto, ldn, ld1, beq_self_eq_true, al_22, al_23, al_25, al_3, al_46, al_48, ap_22, ap_23, ap_46, as_22, as_23, as_25, as_46, as_48, az_25, az_48, bd_25_0_2, bs_22_0_, bs_23_1_0, bs_46_0_, co_3, co_43, co_48, fa_25_0, fa_25_1, fa_25_2, fa_43_6, fa_48_1, fa_48_5, ix_23, ix_46, len_23, len_46, X_Copy_6, g1, fl, ha, hgt, hle, htk, pn, cn, pc, cc', hro, lt_add1]
  have eA : Old h ((h.push (.cells [.string ⟨#[]⟩, .slice none 0 0, .int .i64 0, .int .i64 0, .int .i64 0, .slice none 0 0] 48)).set h.next (some (.cells [.string f.nm, f.pv, .int .i64 f.regs, .int .i64 f.frame, .int .i64 f.entry, f.cv] 48))) := (Old.push _ _).set (Nat.le_refl _) _
  have gA : ((h.push (.cells [.string ⟨#[]⟩, .slice none 0 0, .int .i64 0, .int .i64 0, .int .i64 0, .slice none 0 0] 48)).set h.next (some (.cells [.string f.nm, f.pv, .int .i64 f.regs, .int .i64 f.frame, .int .i64 f.entry, f.cv] 48))).get h.next = some (.cells [.string f.nm, f.pv, .int .i64 f.regs, .int .i64 f.frame, .int .i64 f.entry, f.cv] 48) := get_set_self
  have nA : ((h.push (.cells [.string ⟨#[]⟩, .slice none 0 0, .int .i64 0, .int .i64 0, .int .i64 0, .slice none 0 0] 48)).set h.next (some (.cells [.string f.nm, f.pv, .int .i64 f.regs, .int .i64 f.frame, .int .i64 f.entry, f.cv] 48))).next = h.next + 1 := rfl
  generalize ((h.push (.cells [.string ⟨#[]⟩, .slice none 0 0, .int .i64 0, .int .i64 0, .int .i64 0, .slice none 0 0] 48)).set h.next (some (.cells [.string f.nm, f.pv, .int .i64 f.regs, .int .i64 f.frame, .int .i64 f.entry, f.cv] 48))) = hA at eA gA nA ⊢
  rw [← nA]
  have rA : hA.ro ≤ hA.next := by rw [eA.ro]; omega
  obtain ⟨v1, h2, a1, W1, e2, r2, l2⟩ := appI_own (h := hA) (F.params.sub (sub_of (by show h.next ≤ hA.next + 1; omega) fun b hb _ => by rw [get_push_lt (by omega)]; exact eA.get b hb)) F.pfew rA
  have g2 : h2.get h.next = some (.cells [.string f.nm, f.pv, .int .i64 f.regs, .int .i64 f.frame, .int .i64 f.entry, f.cv] 48) := by rw [e2.get _ (by omega)]; exact gA
  have ro2 : h2.ro ≤ h.next := by rw [e2.ro, eA.ro]; exact hro
  obtain ⟨va, vl, vc, rfl⟩ := W1.shape
  have l2' : h.next < h2.next := by omega
  simp -implicitDefEqProofs only [EE, cond_true, cond_false, nth, ↓nw, Value.cells, ↓BK, setMany, if_true, if_false, Nat.reduceAdd, Nat.reduceLeDiff, Nat.reduceMul, Nat.reduceMod, Nat.reduceDiv, Nat.reduceSub, Nat.reduceEqDiff, Int.reduceEq, Int.reduceLT, Int.reduceLE, Int.reduceAdd, Int.reduceSub, Int.reduceMul, Int.reduceNeg, Int.reduceToNat, ne_eq, sto, ldn, ld1, beq_self_eq_true, al_22, al_23, al_25, al_3, al_46, al_48, ap_22, ap_23, ap_46, as_22, as_23, as_25, as_46, as_48, az_25, az_48, bd_25_0_2, bs_22_0_, bs_23_1_0, bs_46_0_, co_3, co_43, co_48, fa_25_0, fa_25_1, fa_25_2, fa_43_6, fa_48_1, fa_48_5, ix_23, ix_46, len_23, len_46, X_Copy_1, X_Copy_2, X_Copy_3, X_Copy_4, X_Copy_5, X_Copy_6, X_Copy_7, X_Copy_8, X_Copy_9, a1, g2, ro2, l2', cn]
  have eB : Old h (h2.set h.next (some (.cells [.string f.nm, .slice va vl vc, .int .i64 f.regs, .int .i64 f.frame, .int .i64 f.entry, f.cv] 48))) := (eA.trans e2).set (Nat.le_refl _) _
  have gB : (h2.set h.next (some (.cells [.string f.nm, .slice va vl vc, .int .i64 f.regs, .int .i64 f.frame, .int .i64 f.entry, f.cv] 48))).get h.next = some (.cells [.string f.nm, .slice va vl vc, .int .i64 f.regs, .int .i64 f.frame, .int .i64 f.entry, f.cv] 48) := get_set_self
  have nB : h2.next = (h2.set h.next (some (.cells [.string f.nm, .slice va vl vc, .int .i64 f.regs, .int .i64 f.frame, .int .i64 f.entry, f.cv] 48))).next := rfl
  have WB : SliceI ((h2.set h.next (some (.cells [.string f.nm, .slice va vl vc, .int .i64 f.regs, .int .i64 f.frame, .int .i64 f.entry, f.cv] 48))).hide (h.next :: b3 :: b2 :: blk fv)) (.slice va vl vc) f.params := by
    refine W1.sub (Nat.le_refl _) fun b k1 k2 => ?_
    rw [get_hid, if_neg, get_set_ne (by omega)]
    intro q
    rcases List.mem_cons.1 q with q | q
    · omega
    rcases List.mem_cons.1 q with q | q
    · omega
    rcases List.mem_cons.1 q with q | q
    · omega
    · have := (S.blk_ge b q).2; omega
  have rB : (h2.set h.next (some (.cells [.string f.nm, .slice va vl vc, .int .i64 f.regs, .int .i64 f.frame, .int .i64 f.entry, f.cv] 48))).ro ≤ (h2.set h.next (some (.cells [.string f.nm, .slice va vl vc, .int .i64 f.regs, .int .i64 f.frame, .int .i64 f.entry, f.cv] 48))).next := r2
  rw [nB]
  rw [nB] at l2'
  generalize (h2.set h.next (some (.cells [.string f.nm, .slice va vl vc, .int .i64 f.regs, .int .i64 f.frame, .int .i64 f.entry, f.cv] 48))) = hB at eB gB WB rB l2' ⊢
  have sB : Sub (h.hide (b3 :: b2 :: blk fv)) (hB.push (.cells [] 43)) := sub_of (by show h.next ≤ hB.next + 1; omega) fun b hb _ => by rw [get_push_lt (by omega)]; exact eB.get b hb
  obtain ⟨v3, h4, a3, W3, e4, r4, l4⟩ := appR_own (h := hB) (ys := f.code) (F.code.sub sB) (fun y hy => (F.ins y hy).sub sB) F.cfew rB
  have g4 : h4.get h.next = some (.cells [.string f.nm, .slice va vl vc, .int .i64 f.regs, .int .i64 f.frame, .int .i64 f.entry, f.cv] 48) := by rw [e4.get _ l2']; exact gB
  have ro4 : h4.ro ≤ h.next := by rw [e4.ro, eB.ro]; exact hro
  have bk3 := W3.blk_ge
  obtain ⟨wa, wl, wc, rfl⟩ := W3.shape
  simp -implicitDefEqProofs only [EE, cond_true, cond_false, nth, ↓nw, Value.cells, ↓BK, setMany, if_true, if_false, Nat.reduceAdd, Nat.reduceLeDiff, Nat.reduceMul, Nat.reduceMod, Nat.reduceDiv, Nat.reduceSub, Nat.reduceEqDiff, Int.reduceEq, Int.reduceLT, Int.reduceLE, Int.reduceAdd, Int.reduceSub, Int.reduceMul, Int.reduceNeg, Int.reduceToNat, ne_eq, sto, ldn, ld1, beq_self_eq_true, al_22, al_23, al_25, al_3, al_46, al_48, ap_22, ap_23, ap_46, as_22, as_23, as_25, as_46, as_48, az_25, az_48, bd_25_0_2, bs_22_0_, bs_23_1_0, bs_46_0_, co_3, co_43, co_48, fa_25_0, fa_25_1, fa_25_2, fa_43_6, fa_48_1, fa_48_5, ix_23, ix_46, len_23, len_46, X_Copy_1, X_Copy_2, X_Copy_3, X_Copy_4, X_Copy_5, X_Copy_6, X_Copy_7, X_Copy_8, X_Copy_9, a3, g4, ro4]
  have nC : hB.next < h4.next := l4
  have eC : Old h (h4.set h.next (some (.cells [.string f.nm, .slice va vl vc, .int .i64 f.regs, .int .i64 f.frame, .int .i64 f.entry, .slice wa wl wc] 48))) := (eB.trans e4).set (Nat.le_refl _) _
  have gC : (h4.set h.next (some (.cells [.string f.nm, .slice va vl vc, .int .i64 f.regs, .int .i64 f.frame, .int .i64 f.entry, .slice wa wl wc] 48))).get h.next = some (.cells [.string f.nm, .slice va vl vc, .int .i64 f.regs, .int .i64 f.frame, .int .i64 f.entry, .slice wa wl wc] 48) := get_set_self
  have lC : h.next < (h4.set h.next (some (.cells [.string f.nm, .slice va vl vc, .int .i64 f.regs, .int .i64 f.frame, .int .i64 f.entry, .slice wa wl wc] 48))).next := by show h.next < h4.next; omega
  have SC : SliceRW hB (h4.set h.next (some (.cells [.string f.nm, .slice va vl vc, .int .i64 f.regs, .int .i64 f.frame, .int .i64 f.entry, .slice wa wl wc] 48))) 43 (.slice wa wl wc) (f.code.map Ins.row) :=
    W3.keep (Nat.le_refl _) rfl fun b hb => by rw [get_set_ne]; have := (bk3 b hb).1; omega
  have WC : SliceI ((h4.set h.next (some (.cells [.string f.nm, .slice va vl vc, .int .i64 f.regs, .int .i64 f.frame, .int .i64 f.entry, .slice wa wl wc] 48))).hide (blk (.slice wa wl wc) ++ (h.next :: b3 :: b2 :: blk fv))) (.slice va vl vc) f.params := by
    refine WB.sub (sub_hid (by show hB.next ≤ h4.next; omega) (fun b hb q => ?_) fun b hb => ?_)
    · rw [get_set_ne (by intro e; exact q (by simp [e])), e4.get b hb]
    · rcases List.mem_append.1 hb with q | q
      · exact .inr (bk3 b q).1
      · exact .inl q
  have rC : (h4.set h.next (some (.cells [.string f.nm, .slice va vl vc, .int .i64 f.regs, .int .i64 f.frame, .int .i64 f.entry, .slice wa wl wc] 48))).ro ≤ (h4.set h.next (some (.cells [.string f.nm, .slice va vl vc, .int .i64 f.regs, .int .i64 f.frame, .int .i64 f.entry, .slice wa wl wc] 48))).next := r4
  generalize (h4.set h.next (some (.cells [.string f.nm, .slice va vl vc, .int .i64 f.regs, .int .i64 f.frame, .int .i64 f.entry, .slice wa wl wc] 48))) = hC at eC gC lC SC WC rC ⊢
  have bkf := S.blk_ge
  have hexC : ∀ b, b ∈ (blk (.slice wa wl wc) ++ (h.next :: b3 :: b2 :: blk fv)) → b ∈ (b3 :: b2 :: blk fv) ∨ h.next ≤ b := by
    intro b hb
    rcases List.mem_append.1 hb with q | q
    · have := (bk3 b q).1; have := eB.next; exact .inr (by omega)
    · rcases List.mem_cons.1 q with q | q
      · exact .inr (by omega)
      · exact .inl q
  have sC : Sub (h.hide (b3 :: b2 :: blk fv)) (hC.hide (blk (.slice wa wl wc) ++ (h.next :: b3 :: b2 :: blk fv))) := sub_hid eC.next (fun b hb _ => eC.get b hb) hexC
  refine cp_in (lo := hB) (ex := h.next :: b3 :: b2 :: blk fv) (xs := f.code) gC lC SC (fun q => by have := (bk3 _ q).1; omega) rC ?_ (fun x hx => (F.ins x hx).sub sC) (by have := F.cfew; omega) ?_
  · intro b hb
    have := eC.next
    rcases List.mem_cons.1 hb with q | q
    · omega
    rcases List.mem_cons.1 q with q | q
    · omega
    rcases List.mem_cons.1 q with q | q
    · omega
    · have := (bkf b q).2; omega
  intro h5 ys hcore S5 k5 r5 Y5
  have nC5 := eC.next
  have k5n := k5.next
  have bk3h : ∀ b, b < h.next ∨ b = h.next → b ∉ blk (.slice wa wl wc) := fun b hb q => by have := (bk3 b q).1; have := eB.next; omega
  have g5 : h5.get h.next = some (.cells [.string f.nm, .slice va vl vc, .int .i64 f.regs, .int .i64 f.frame, .int .i64 f.entry, .slice wa wl wc] 48) := by rw [k5.get _ lC (bk3h _ (.inr rfl))]; exact gC
  have g53 : h5.get b3 = some (.cells [qg, fv, .int .i64 m] 25) := by rw [k5.get _ (by omega) (bk3h _ (.inl l3)), eC.get _ l3]; exact g3
  obtain ⟨fa, fl', fc, rfl⟩ := S.shape
  simp -implicitDefEqProofs only [EE, cond_true, cond_false, nth, ↓nw, Value.cells, ↓BK, setMany, if_true, if_false, Nat.reduceAdd, Nat.reduceLeDiff, Nat.reduceMul, Nat.reduceMod, Nat.reduceDiv, Nat.reduceSub, Nat.reduceEqDiff, Int.reduceEq, Int.reduceLT, Int.reduceLE, Int.reduceAdd, Int.reduceSub, Int.reduceMul, Int.reduceNeg, Int.reduceToNat, ne_eq, sto, ldn, ld1, beq_self_eq_true, al_22, al_23, al_25, al_3, al_46, al_48, ap_22, ap_23, ap_46, as_22, as_23, as_25, as_46, as_48, az_25, az_48, bd_25_0_2, bs_22_0_, bs_23_1_0, bs_46_0_, co_3, co_43, co_48, fa_25_0, fa_25_1, fa_25_2, fa_43_6, fa_48_1, fa_48_5, ix_23, ix_46, len_23, len_46, X_Copy_1, X_Copy_2, X_Copy_3, X_Copy_4, X_Copy_5, X_Copy_6, X_Copy_7, X_Copy_8, X_Copy_9, g5, g53]
  have oldf : ∀ b, b < h.next → h5.get b = h.get b := fun b hb => by rw [k5.get _ (by omega) (bk3h _ (.inl hb)), eC.get _ hb]
  have SE : SliceRW lo (h5.push (.cells [.string f.nm, .slice va vl vc, .int .i64 f.regs, .int .i64 f.frame, .int .i64 f.entry, .slice wa wl wc] 48)) 48 (.slice fa fl' fc) (qs.map Fn.row) :=
    S.keep (by show h.next ≤ h5.next + 1; omega) (by show h5.ro = h.ro; rw [k5.ro, eC.ro]) fun b hb => by
      have := (bkf b hb).2
      rw [get_push_lt (by omega)]; exact oldf b this
  obtain ⟨l', h6, a6, W6, ro6, r6, n6, _, keep6, bk6⟩ := app2_rows (n := 6) (bz := 88) SE (by show h5.ro ≤ h5.next + 1; omega) (by show lo.next ≤ h5.next + 1; omega) (by decide) (frow_len qs) (ys := [[.string f.nm, .slice va vl vc, .int .i64 f.regs, .int .i64 f.frame, .int .i64 f.entry, .slice wa wl wc]]) (by simpa using hlen)
  have n6' : h5.next + 1 ≤ h6.next := n6
  have ha6 : abuiltin Tryz.prog .append [23, 23] 23 [.slice fa fl' fc, .slice (some ⟨h5.next, 0, none⟩) 1 3] (h5.push (.cells [.string f.nm, .slice va vl vc, .int .i64 f.regs, .int .i64 f.frame, .int .i64 f.entry, .slice wa wl wc] 48)) = some (l', h6) := by
    rw [ap_23 23 _ _ 1 [.string f.nm, .slice va vl vc, .int .i64 f.regs, .int .i64 f.frame, .int .i64 f.entry, .slice wa wl wc] _ rfl (by simp only [firstc, get_push_self]; rfl) rfl rfl]
    exact a6
  have g63 : h6.get b3 = some (.cells [qg, .slice fa fl' fc, .int .i64 m] 25) := by rw [keep6 b3 (by show b3 < h5.next + 1; omega) n3, get_push_lt (by omega)]; exact g53
  have ro63 : h6.ro ≤ b3 := by rw [ro6]; show h5.ro ≤ b3; rw [k5.ro, eC.ro]; exact r3
  have bk6' : ∀ b, b ∈ blk l' → b ∈ blk (.slice fa fl' fc) ∨ h5.next + 1 ≤ b := bk6
  obtain ⟨la, ll, lc', rfl⟩ := W6.shape
  simp -implicitDefEqProofs only [EE, cond_true, cond_false, nth, ↓nw, Value.cells, ↓BK, setMany, if_true, if_false, Nat.reduceAdd, Nat.reduceLeDiff, Nat.reduceMul, Nat.reduceMod, Nat.reduceDiv, Nat.reduceSub, Nat.reduceEqDiff, Int.reduceEq, Int.reduceLT, Int.reduceLE, Int.reduceAdd, Int.reduceSub, Int.reduceMul, Int.reduceNeg, Int.reduceToNat, ne_eq, sto, ldn, ld1, beq_self_eq_true, al_22, al_23, al_25, al_3, al_46, al_48, ap_22, ap_23, ap_46, as_22, as_23, as_25, as_46, as_48, az_25, az_48, bd_25_0_2, bs_22_0_, bs_23_1_0, bs_46_0_, co_3, co_43, co_48, fa_25_0, fa_25_1, fa_25_2, fa_43_6, fa_48_1, fa_48_5, ix_23, ix_46, len_23, len_46, X_Copy_1, X_Copy_2, X_Copy_3, X_Copy_4, X_Copy_5, X_Copy_6, X_Copy_7, X_Copy_8, X_Copy_9, ha6, g63, ro63]
  have keepA : ∀ b, b < h5.next → b ∉ (b3 :: blk (.slice fa fl' fc)) → (h6.set b3 (some (.cells [qg, .slice la ll lc', .int .i64 m] 25))).get b = h5.get b := fun b hb q => by
    rw [get_set_ne (fun e => q (by simp [e])), keep6 b (by show b < h5.next + 1; omega) (fun e => q (by simp [e])), get_push_lt hb]
  refine K _ (.slice la ll lc') ⟨f.nm, .slice va vl vc, f.params, f.regs, f.frame, f.entry, .slice wa wl wc, ys⟩ ?_ ?_ get_set_self ?_ ⟨by show h.next ≤ h6.next; omega, by show h6.ro = h.ro; rw [ro6]; show h5.ro = h.ro; rw [k5.ro, eC.ro], fun b hb q => ?_⟩ (fun b hb => ?_) r6
  · show Fn.mk _ _ _ _ _ _ _ (ys.map Ins.core) = _
    rw [hcore]
  · rw [List.map_append]
    refine SliceRW.keep (h := h6) W6 (Nat.le_refl _) rfl fun b hb => ?_
    rw [get_set_ne]
    rintro rfl
    rcases bk6' _ hb with q | q
    · exact n3 q
    · omega
  · have hL : ∀ b, b ∈ (b3 :: b2 :: blk (.slice la ll lc')) → b ∈ (b3 :: b2 :: blk (.slice fa fl' fc)) ∨ h5.next ≤ b := by
      intro b hb
      rcases List.mem_cons.1 hb with q | q
      · exact .inl (by simp [q])
      rcases List.mem_cons.1 q with q | q
      · exact .inl (by simp [q])
      · rcases bk6' b q with r | r
        · exact .inl (by simp [r])
        · exact .inr (by omega)
    have sF : Sub (h5.hide (b3 :: b2 :: blk (.slice fa fl' fc))) ((h6.set b3 (some (.cells [qg, .slice la ll lc', .int .i64 m] 25))).hide (b3 :: b2 :: blk (.slice la ll lc'))) := sub_hid (by show h5.next ≤ h6.next; omega) (fun b hb q => keepA b hb fun e => q (by rcases List.mem_cons.1 e with r | r <;> simp [r])) hL
    intro q' hq'
    rcases List.mem_append.1 hq' with q | q
    · refine (Q q' q).sub ((sub_hid (by omega) (fun b hb _ => oldf b hb) fun b hb => .inl hb).trans sF)
    · simp only [List.mem_singleton] at q
      subst q
      have s1 : Sub (hC.hide (blk (.slice wa wl wc) ++ (h.next :: b3 :: b2 :: blk (.slice fa fl' fc)))) (h5.hide (b3 :: b2 :: blk (.slice fa fl' fc))) := ⟨k5.next, fun b o hb g => by
        have hb : b < hC.next := hb
        rw [get_hid] at g ⊢
        split at g
        · cases g
        · rename_i q2
          simp only [List.mem_append, List.mem_cons, not_or] at q2
          rw [if_neg (by simp only [List.mem_cons, not_or]; exact q2.2.2), k5.get b hb q2.1]; exact g⟩
      have s2 : Sub (h5.hide (blk (.slice wa wl wc) ++ (h.next :: b3 :: b2 :: blk (.slice fa fl' fc)))) (h5.hide (b3 :: b2 :: blk (.slice fa fl' fc))) := ⟨Nat.le_refl _, fun b o hb g => by
        rw [get_hid] at g ⊢
        split at g
        · cases g
        · rename_i q2
          simp only [List.mem_append, List.mem_cons, not_or] at q2
          rw [if_neg (by simp only [List.mem_cons, not_or]; exact q2.2.2)]; exact g⟩
      have S5' : SliceR (h5.hide (b3 :: b2 :: blk (.slice fa fl' fc))) (.slice wa wl wc) 9 (ys.map Ins.row) := by
        rcases S5 with ⟨q1, q2⟩ | ⟨b, c, q1, q2, q3, q4, q5, q6⟩
        · exact .inl ⟨q1, q2⟩
        · rw [q1]
          refine sliceR_flat (t := 43) (row_len ys) q4 ?_
          rw [get_hid, if_neg]
          · exact q6
          · intro e
            have := eB.next
            rcases List.mem_cons.1 e with r | r
            · omega
            rcases List.mem_cons.1 r with r | r
            · omega
            · have := (bkf b r).2; omega
      have hl : ys.length = f.code.length := by simpa using congrArg List.length hcore
      exact FnOk.sub (h := h5.hide (b3 :: b2 :: blk (.slice fa fl' fc))) ⟨WC.sub s1, F.pfew, S5', by show ys.length * 88 ≤ _; rw [hl]; exact F.cfew, fun y hy => (Y5 y hy).sub s2⟩ sF
  · rw [keepA b (by omega) q, oldf b hb]
  · rcases bk6' b hb with q | q
    · exact .inl q
    · exact .inr (by omega)
end Go.Rtl
