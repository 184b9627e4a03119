/-
  RTL: the document's word on an instruction.
-/
import Derived.Test.YtikgepmgdhkngaaGreatDoorRgDa
namespace Go.Rtl
open Go.Ai Go.Proofs
set_option linter.unusedVariables false
set_option linter.unusedSimpArgs false
set_option maxRecDepth 10000
def opOk (f : Fn) (x : Ins) : Bool :=
  if x.op = 1 ∨ x.op = 2 ∨ x.op = 3 ∨ x.op = 12 ∨ x.op = 13 ∨ x.op = 14 ∨ x.op = 8 ∨ x.op = 10 then true
  else if x.op = 4 then decide (1 ≤ x.sub) && decide (x.sub ≤ 4)
  else if x.op = 5 then operB x.sub
  else if x.op = 11 then flipB x.sub
  else if x.op = 6 ∨ x.op = 7 then chunkB x.sub
  else if x.op = 9 then decide (0 ≤ x.k) && decide (x.k ≤ f.frame)
  else false
/-- Where a function and an instruction lie. -/
structure Bx (h : AHeap) (b1 b2 : Nat) (f : Fn) (x : Ins) : Prop where
  l1 : b1 < h.next
  l2 : b2 < h.next
  g1 : h.get b1 = some (.cells [.string f.nm, f.pv, .int .i64 f.regs, .int .i64 f.frame, .int .i64 f.entry, f.cv] 48)
  g2 : h.get b2 = some (.cells [.int .i64 x.op, .int .i64 x.sub, .int .i64 x.a, .int .i64 x.b, .int .i64 x.d, .int .i64 x.k, x.av, .int .i64 x.s, .int .i64 x.t] 43)
theorem Bx.old {h h' : AHeap} {b1 b2 : Nat} {f : Fn} {x : Ins} (B : Bx h b1 b2 f x) (e : Old h h') : Bx h' b1 b2 f x :=
  ⟨Nat.lt_of_lt_of_le B.l1 e.next, Nat.lt_of_lt_of_le B.l2 e.next, by rw [e.get _ B.l1]; exact B.g1, by rw [e.get _ B.l2]; exact B.g2⟩
section
variable {h : AHeap} {b1 b2 : Nat} {f : Fn} {x : Ins} {vs : List Value} {B : Bool}
theorem d41 (W : Bx h b1 b2 f x) (hB : B = opOk f x) : X_dInstr_41 (.pointer (some ⟨b2, 0, none⟩)) (isB B) (.pointer (some ⟨b1, 0, none⟩)) vs h := by
  have g1 := W.g1
  have g2 := W.g2
  clear W
  obtain ⟨op, sub, a, b, d, k, av, args, s, t⟩ := x
  unfold opOk at hB
  simp only at hB g2
  by_cases p : op = 1 ∨ op = 2 ∨ op = 3 ∨ op = 12 ∨ op = 13 ∨ op = 14 ∨ op = 8 ∨ op = 10
  · rw [if_pos p] at hB
    rcases p with rfl | rfl | rfl | rfl | rfl | rfl | rfl | rfl
    all_goals
      simp -implicitDefEqProofs only [EE, cond_true, cond_false, nth, ↓nw, Value.cells, ↓BK, setMany, if_true, if_false, Nat.reduceAdd, Nat.reduceLeDiff, Nat.reduceMul, Nat.reduceMod, Nat.reduceDiv, Nat.reduceSub, Nat.reduceEqDiff, Int.reduceEq, Int.reduceLT, Int.reduceLE, Int.reduceAdd, Int.reduceSub, Int.reduceMul, Int.reduceNeg, Int.reduceToNat, ne_eq, sto, ldn, ld1, beq_self_eq_true, al_2, al_3, al_43, al_46, fa_43_0, fa_43_1, fa_43_2, fa_43_3, fa_43_4, fa_43_5, fa_48_2, fa_48_3, fa_48_5, ix_22, len_22, len_46, X_dInstr_16, X_dInstr_17, X_dInstr_18, X_dInstr_19, X_dInstr_20, X_dInstr_21, X_dInstr_22, X_dInstr_23, X_dInstr_24, X_dInstr_25, X_dInstr_26, X_dInstr_27, X_dInstr_28, X_dInstr_29, X_dInstr_30, X_dInstr_31, X_dInstr_32, X_dInstr_33, X_dInstr_34, X_dInstr_35, X_dInstr_36, X_dInstr_37, X_dInstr_38, X_dInstr_39, X_dInstr_40, X_dInstr_41, g2]
      rw [hB]; rfl
  rw [if_neg p] at hB
  have p1 : ¬ op = 1 := fun q => p (.inl q)
  have p2 : ¬ op = 2 := fun q => p (.inr (.inl q))
  have p3 : ¬ op = 3 := fun q => p (.inr (.inr (.inl q)))
  have p12 : ¬ op = 12 := fun q => p (.inr (.inr (.inr (.inl q))))
  have p13 : ¬ op = 13 := fun q => p (.inr (.inr (.inr (.inr (.inl q)))))
  have p14 : ¬ op = 14 := fun q => p (.inr (.inr (.inr (.inr (.inr (.inl q))))))
  have p8 : ¬ op = 8 := fun q => p (.inr (.inr (.inr (.inr (.inr (.inr (.inl q)))))))
  have p10 : ¬ op = 10 := fun q => p (.inr (.inr (.inr (.inr (.inr (.inr (.inr q)))))))
  clear p
  by_cases h4 : op = 4
  · subst h4
    rw [if_pos rfl] at hB
    by_cases c : 1 ≤ sub
    · simp -implicitDefEqProofs only [EE, cond_true, cond_false, nth, ↓nw, Value.cells, ↓BK, setMany, if_true, if_false, Nat.reduceAdd, Nat.reduceLeDiff, Nat.reduceMul, Nat.reduceMod, Nat.reduceDiv, Nat.reduceSub, Nat.reduceEqDiff, Int.reduceEq, Int.reduceLT, Int.reduceLE, Int.reduceAdd, Int.reduceSub, Int.reduceMul, Int.reduceNeg, Int.reduceToNat, ne_eq, sto, ldn, ld1, beq_self_eq_true, al_2, al_3, al_43, al_46, fa_43_0, fa_43_1, fa_43_2, fa_43_3, fa_43_4, fa_43_5, fa_48_2, fa_48_3, fa_48_5, ix_22, len_22, len_46, X_dInstr_16, X_dInstr_17, X_dInstr_18, X_dInstr_19, X_dInstr_20, X_dInstr_21, X_dInstr_22, X_dInstr_23, X_dInstr_24, X_dInstr_25, X_dInstr_26, X_dInstr_27, X_dInstr_28, X_dInstr_29, X_dInstr_30, X_dInstr_31, X_dInstr_32, X_dInstr_33, X_dInstr_34, X_dInstr_35, X_dInstr_36, X_dInstr_37, X_dInstr_38, X_dInstr_39, X_dInstr_40, X_dInstr_41, g2, c]
      simp [isB, hB, c]
    · simp -implicitDefEqProofs only [EE, cond_true, cond_false, nth, ↓nw, Value.cells, ↓BK, setMany, if_true, if_false, Nat.reduceAdd, Nat.reduceLeDiff, Nat.reduceMul, Nat.reduceMod, Nat.reduceDiv, Nat.reduceSub, Nat.reduceEqDiff, Int.reduceEq, Int.reduceLT, Int.reduceLE, Int.reduceAdd, Int.reduceSub, Int.reduceMul, Int.reduceNeg, Int.reduceToNat, ne_eq, sto, ldn, ld1, beq_self_eq_true, al_2, al_3, al_43, al_46, fa_43_0, fa_43_1, fa_43_2, fa_43_3, fa_43_4, fa_43_5, fa_48_2, fa_48_3, fa_48_5, ix_22, len_22, len_46, X_dInstr_16, X_dInstr_17, X_dInstr_18, X_dInstr_19, X_dInstr_20, X_dInstr_21, X_dInstr_22, X_dInstr_23, X_dInstr_24, X_dInstr_25, X_dInstr_26, X_dInstr_27, X_dInstr_28, X_dInstr_29, X_dInstr_30, X_dInstr_31, X_dInstr_32, X_dInstr_33, X_dInstr_34, X_dInstr_35, X_dInstr_36, X_dInstr_37, X_dInstr_38, X_dInstr_39, X_dInstr_40, X_dInstr_41, g2, c]
      simp [isB, hB, c]
  rw [if_neg h4] at hB
  by_cases h5 : op = 5
  · subst h5
    rw [if_pos rfl] at hB
    unfold operB at hB
    by_cases c : 11 ≤ sub
    · simp -implicitDefEqProofs only [EE, cond_true, cond_false, nth, ↓nw, Value.cells, ↓BK, setMany, if_true, if_false, Nat.reduceAdd, Nat.reduceLeDiff, Nat.reduceMul, Nat.reduceMod, Nat.reduceDiv, Nat.reduceSub, Nat.reduceEqDiff, Int.reduceEq, Int.reduceLT, Int.reduceLE, Int.reduceAdd, Int.reduceSub, Int.reduceMul, Int.reduceNeg, Int.reduceToNat, ne_eq, sto, ldn, ld1, beq_self_eq_true, al_2, al_3, al_43, al_46, fa_43_0, fa_43_1, fa_43_2, fa_43_3, fa_43_4, fa_43_5, fa_48_2, fa_48_3, fa_48_5, ix_22, len_22, len_46, X_dInstr_16, X_dInstr_17, X_dInstr_18, X_dInstr_19, X_dInstr_20, X_dInstr_21, X_dInstr_22, X_dInstr_23, X_dInstr_24, X_dInstr_25, X_dInstr_26, X_dInstr_27, X_dInstr_28, X_dInstr_29, X_dInstr_30, X_dInstr_31, X_dInstr_32, X_dInstr_33, X_dInstr_34, X_dInstr_35, X_dInstr_36, X_dInstr_37, X_dInstr_38, X_dInstr_39, X_dInstr_40, X_dInstr_41, g2, c]
      simp [isB, hB, c]
    · simp -implicitDefEqProofs only [EE, cond_true, cond_false, nth, ↓nw, Value.cells, ↓BK, setMany, if_true, if_false, Nat.reduceAdd, Nat.reduceLeDiff, Nat.reduceMul, Nat.reduceMod, Nat.reduceDiv, Nat.reduceSub, Nat.reduceEqDiff, Int.reduceEq, Int.reduceLT, Int.reduceLE, Int.reduceAdd, Int.reduceSub, Int.reduceMul, Int.reduceNeg, Int.reduceToNat, ne_eq, sto, ldn, ld1, beq_self_eq_true, al_2, al_3, al_43, al_46, fa_43_0, fa_43_1, fa_43_2, fa_43_3, fa_43_4, fa_43_5, fa_48_2, fa_48_3, fa_48_5, ix_22, len_22, len_46, X_dInstr_16, X_dInstr_17, X_dInstr_18, X_dInstr_19, X_dInstr_20, X_dInstr_21, X_dInstr_22, X_dInstr_23, X_dInstr_24, X_dInstr_25, X_dInstr_26, X_dInstr_27, X_dInstr_28, X_dInstr_29, X_dInstr_30, X_dInstr_31, X_dInstr_32, X_dInstr_33, X_dInstr_34, X_dInstr_35, X_dInstr_36, X_dInstr_37, X_dInstr_38, X_dInstr_39, X_dInstr_40, X_dInstr_41, g2, c]
      simp [isB, hB, c]
  rw [if_neg h5] at hB
  by_cases h11 : op = 11
  · subst h11
    rw [if_pos rfl] at hB
    unfold flipB at hB
    by_cases c : 21 ≤ sub
    · simp -implicitDefEqProofs only [EE, cond_true, cond_false, nth, ↓nw, Value.cells, ↓BK, setMany, if_true, if_false, Nat.reduceAdd, Nat.reduceLeDiff, Nat.reduceMul, Nat.reduceMod, Nat.reduceDiv, Nat.reduceSub, Nat.reduceEqDiff, Int.reduceEq, Int.reduceLT, Int.reduceLE, Int.reduceAdd, Int.reduceSub, Int.reduceMul, Int.reduceNeg, Int.reduceToNat, ne_eq, sto, ldn, ld1, beq_self_eq_true, al_2, al_3, al_43, al_46, fa_43_0, fa_43_1, fa_43_2, fa_43_3, fa_43_4, fa_43_5, fa_48_2, fa_48_3, fa_48_5, ix_22, len_22, len_46, X_dInstr_16, X_dInstr_17, X_dInstr_18, X_dInstr_19, X_dInstr_20, X_dInstr_21, X_dInstr_22, X_dInstr_23, X_dInstr_24, X_dInstr_25, X_dInstr_26, X_dInstr_27, X_dInstr_28, X_dInstr_29, X_dInstr_30, X_dInstr_31, X_dInstr_32, X_dInstr_33, X_dInstr_34, X_dInstr_35, X_dInstr_36, X_dInstr_37, X_dInstr_38, X_dInstr_39, X_dInstr_40, X_dInstr_41, g2, c]
      simp [isB, hB, c]
    · simp -implicitDefEqProofs only [EE, cond_true, cond_false, nth, ↓nw, Value.cells, ↓BK, setMany, if_true, if_false, Nat.reduceAdd, Nat.reduceLeDiff, Nat.reduceMul, Nat.reduceMod, Nat.reduceDiv, Nat.reduceSub, Nat.reduceEqDiff, Int.reduceEq, Int.reduceLT, Int.reduceLE, Int.reduceAdd, Int.reduceSub, Int.reduceMul, Int.reduceNeg, Int.reduceToNat, ne_eq, sto, ldn, ld1, beq_self_eq_true, al_2, al_3, al_43, al_46, fa_43_0, fa_43_1, fa_43_2, fa_43_3, fa_43_4, fa_43_5, fa_48_2, fa_48_3, fa_48_5, ix_22, len_22, len_46, X_dInstr_16, X_dInstr_17, X_dInstr_18, X_dInstr_19, X_dInstr_20, X_dInstr_21, X_dInstr_22, X_dInstr_23, X_dInstr_24, X_dInstr_25, X_dInstr_26, X_dInstr_27, X_dInstr_28, X_dInstr_29, X_dInstr_30, X_dInstr_31, X_dInstr_32, X_dInstr_33, X_dInstr_34, X_dInstr_35, X_dInstr_36, X_dInstr_37, X_dInstr_38, X_dInstr_39, X_dInstr_40, X_dInstr_41, g2, c]
      simp [isB, hB, c]
  rw [if_neg h11] at hB
  by_cases h67 : op = 6 ∨ op = 7
  · rw [if_pos h67] at hB
    unfold chunkB at hB
    by_cases c1 : sub = 1
    · rcases h67 with rfl | rfl
      all_goals
        simp -implicitDefEqProofs only [EE, cond_true, cond_false, nth, ↓nw, Value.cells, ↓BK, setMany, if_true, if_false, Nat.reduceAdd, Nat.reduceLeDiff, Nat.reduceMul, Nat.reduceMod, Nat.reduceDiv, Nat.reduceSub, Nat.reduceEqDiff, Int.reduceEq, Int.reduceLT, Int.reduceLE, Int.reduceAdd, Int.reduceSub, Int.reduceMul, Int.reduceNeg, Int.reduceToNat, ne_eq, sto, ldn, ld1, beq_self_eq_true, al_2, al_3, al_43, al_46, fa_43_0, fa_43_1, fa_43_2, fa_43_3, fa_43_4, fa_43_5, fa_48_2, fa_48_3, fa_48_5, ix_22, len_22, len_46, X_dInstr_16, X_dInstr_17, X_dInstr_18, X_dInstr_19, X_dInstr_20, X_dInstr_21, X_dInstr_22, X_dInstr_23, X_dInstr_24, X_dInstr_25, X_dInstr_26, X_dInstr_27, X_dInstr_28, X_dInstr_29, X_dInstr_30, X_dInstr_31, X_dInstr_32, X_dInstr_33, X_dInstr_34, X_dInstr_35, X_dInstr_36, X_dInstr_37, X_dInstr_38, X_dInstr_39, X_dInstr_40, X_dInstr_41, g2, c1]
        simp [isB, hB, c1]
    by_cases c4 : sub = 4
    · rcases h67 with rfl | rfl
      all_goals
        simp -implicitDefEqProofs only [EE, cond_true, cond_false, nth, ↓nw, Value.cells, ↓BK, setMany, if_true, if_false, Nat.reduceAdd, Nat.reduceLeDiff, Nat.reduceMul, Nat.reduceMod, Nat.reduceDiv, Nat.reduceSub, Nat.reduceEqDiff, Int.reduceEq, Int.reduceLT, Int.reduceLE, Int.reduceAdd, Int.reduceSub, Int.reduceMul, Int.reduceNeg, Int.reduceToNat, ne_eq, sto, ldn, ld1, beq_self_eq_true, al_2, al_3, al_43, al_46, fa_43_0, fa_43_1, fa_43_2, fa_43_3, fa_43_4, fa_43_5, fa_48_2, fa_48_3, fa_48_5, ix_22, len_22, len_46, X_dInstr_16, X_dInstr_17, X_dInstr_18, X_dInstr_19, X_dInstr_20, X_dInstr_21, X_dInstr_22, X_dInstr_23, X_dInstr_24, X_dInstr_25, X_dInstr_26, X_dInstr_27, X_dInstr_28, X_dInstr_29, X_dInstr_30, X_dInstr_31, X_dInstr_32, X_dInstr_33, X_dInstr_34, X_dInstr_35, X_dInstr_36, X_dInstr_37, X_dInstr_38, X_dInstr_39, X_dInstr_40, X_dInstr_41, g2, c4]
        simp [isB, hB, c4]
    rcases h67 with rfl | rfl
    all_goals
      simp -implicitDefEqProofs only [EE, cond_true, cond_false, nth, ↓nw, Value.cells, ↓BK, setMany, if_true, if_false, Nat.reduceAdd, Nat.reduceLeDiff, Nat.reduceMul, Nat.reduceMod, Nat.reduceDiv, Nat.reduceSub, Nat.reduceEqDiff, Int.reduceEq, Int.reduceLT, Int.reduceLE, Int.reduceAdd, Int.reduceSub, Int.reduceMul, Int.reduceNeg, Int.reduceToNat, ne_eq, sto, ldn, ld1, beq_self_eq_true, al_2, al_3, al_43, al_46, fa_43_0, fa_43_1, fa_43_2, fa_43_3, fa_43_4, fa_43_5, fa_48_2, fa_48_3, fa_48_5, ix_22, len_22, len_46, X_dInstr_16, X_dInstr_17, X_dInstr_18, X_dInstr_19, X_dInstr_20, X_dInstr_21, X_dInstr_22, X_dInstr_23, X_dInstr_24, X_dInstr_25, X_dInstr_26, X_dInstr_27, X_dInstr_28, X_dInstr_29, X_dInstr_30, X_dInstr_31, X_dInstr_32, X_dInstr_33, X_dInstr_34, X_dInstr_35, X_dInstr_36, X_dInstr_37, X_dInstr_38, X_dInstr_39, X_dInstr_40, X_dInstr_41, g2, c1, c4]
      simp [isB, hB, c1, c4]
  rw [if_neg h67] at hB
  have p6 : ¬ op = 6 := fun q => h67 (.inl q)
  have p7 : ¬ op = 7 := fun q => h67 (.inr q)
  by_cases h9 : op = 9
  · subst h9
    rw [if_pos rfl] at hB
    by_cases c : 0 ≤ k
    · simp -implicitDefEqProofs only [EE, cond_true, cond_false, nth, ↓nw, Value.cells, ↓BK, setMany, if_true, if_false, Nat.reduceAdd, Nat.reduceLeDiff, Nat.reduceMul, Nat.reduceMod, Nat.reduceDiv, Nat.reduceSub, Nat.reduceEqDiff, Int.reduceEq, Int.reduceLT, Int.reduceLE, Int.reduceAdd, Int.reduceSub, Int.reduceMul, Int.reduceNeg, Int.reduceToNat, ne_eq, sto, ldn, ld1, beq_self_eq_true, al_2, al_3, al_43, al_46, fa_43_0, fa_43_1, fa_43_2, fa_43_3, fa_43_4, fa_43_5, fa_48_2, fa_48_3, fa_48_5, ix_22, len_22, len_46, X_dInstr_16, X_dInstr_17, X_dInstr_18, X_dInstr_19, X_dInstr_20, X_dInstr_21, X_dInstr_22, X_dInstr_23, X_dInstr_24, X_dInstr_25, X_dInstr_26, X_dInstr_27, X_dInstr_28, X_dInstr_29, X_dInstr_30, X_dInstr_31, X_dInstr_32, X_dInstr_33, X_dInstr_34, X_dInstr_35, X_dInstr_36, X_dInstr_37, X_dInstr_38, X_dInstr_39, X_dInstr_40, X_dInstr_41, g1, g2, c]
      simp [isB, hB, c]
    · simp -implicitDefEqProofs only [EE, cond_true, cond_false, nth, ↓nw, Value.cells, ↓BK, setMany, if_true, if_false, Nat.reduceAdd, Nat.reduceLeDiff, Nat.reduceMul, Nat.reduceMod, Nat.reduceDiv, Nat.reduceSub, Nat.reduceEqDiff, Int.reduceEq, Int.reduceLT, Int.reduceLE, Int.reduceAdd, Int.reduceSub, Int.reduceMul, Int.reduceNeg, Int.reduceToNat, ne_eq, sto, ldn, ld1, beq_self_eq_true, al_2, al_3, al_43, al_46, fa_43_0, fa_43_1, fa_43_2, fa_43_3, fa_43_4, fa_43_5, fa_48_2, fa_48_3, fa_48_5, ix_22, len_22, len_46, X_dInstr_16, X_dInstr_17, X_dInstr_18, X_dInstr_19, X_dInstr_20, X_dInstr_21, X_dInstr_22, X_dInstr_23, X_dInstr_24, X_dInstr_25, X_dInstr_26, X_dInstr_27, X_dInstr_28, X_dInstr_29, X_dInstr_30, X_dInstr_31, X_dInstr_32, X_dInstr_33, X_dInstr_34, X_dInstr_35, X_dInstr_36, X_dInstr_37, X_dInstr_38, X_dInstr_39, X_dInstr_40, X_dInstr_41, g1, g2, c]
      simp [isB, hB, c]
  rw [if_neg h9] at hB
  simp -implicitDefEqProofs only [EE, cond_true, cond_false, nth, ↓nw, Value.cells, ↓BK, setMany, if_true, if_false, Nat.reduceAdd, Nat.reduceLeDiff, Nat.reduceMul, Nat.reduceMod, Nat.reduceDiv, Nat.reduceSub, Nat.reduceEqDiff, Int.reduceEq, Int.reduceLT, Int.reduceLE, Int.reduceAdd, Int.reduceSub, Int.reduceMul, Int.reduceNeg, Int.reduceToNat, ne_eq, sto, ldn, ld1, beq_self_eq_true, al_2, al_3, al_43, al_46, fa_43_0, fa_43_1, fa_43_2, fa_43_3, fa_43_4, fa_43_5, fa_48_2, fa_48_3, fa_48_5, ix_22, len_22, len_46, X_dInstr_16, X_dInstr_17, X_dInstr_18, X_dInstr_19, X_dInstr_20, X_dInstr_21, X_dInstr_22, X_dInstr_23, X_dInstr_24, X_dInstr_25, X_dInstr_26, X_dInstr_27, X_dInstr_28, X_dInstr_29, X_dInstr_30, X_dInstr_31, X_dInstr_32, X_dInstr_33, X_dInstr_34, X_dInstr_35, X_dInstr_36, X_dInstr_37, X_dInstr_38, X_dInstr_39, X_dInstr_40, X_dInstr_41, g2, p1, p2, p3, p12, p13, p14, p8, p10, h4, h5, h11, p6, p7, h9]
  rw [hB]; rfl
end
end Go.Rtl
namespace Go.Rtl
open Go.Ai Go.Proofs
set_option linter.unusedVariables false
set_option linter.unusedSimpArgs false
set_option maxRecDepth 10000
theorem within_no {n m : Int} (h : n < 0 ∨ m ≤ n) : withinB n m = false := by
  unfold withinB
  by_cases a : 0 ≤ n
  · have : ¬ n < m := by omega
    simp [this]
  · simp [a]
theorem within_yes {n m : Int} (h : ¬ n < 0) (h2 : ¬ m ≤ n) : withinB n m = true := by
  have a : 0 ≤ n := by omega
  have b : n < m := by omega
  simp [withinB, a, b]
theorem succs_few (x : Ins) : (succsI x).length ≤ 2 := by
  unfold succsI
  split
  · exact Nat.zero_le _
  · split
    · exact Nat.le_refl _
    · exact Nat.le_succ _
section
variable {h : AHeap} {b1 b2 : Nat} {f : Fn} {x : Ins} {vs : List Value} {B : Bool}
theorem d42 (W : Bx h b1 b2 f x) (hn : isBot x.av = false) (hc : SliceR h f.cv 9 (f.code.map Ins.row)) (hB : B = ((succsI x).all (fun s => withinB s f.code.length) && opOk f x)) :
    X_dInstr_42 (.pointer (some ⟨b2, 0, none⟩)) (.pointer (some ⟨b1, 0, none⟩)) (isB B) vs h := by
  have g2 := W.g2
  simp -implicitDefEqProofs only [EE, cond_true, cond_false, nth, ↓nw, Value.cells, ↓BK, setMany, if_true, if_false, Nat.reduceAdd, Nat.reduceLeDiff, Nat.reduceMul, Nat.reduceMod, Nat.reduceDiv, Nat.reduceSub, Nat.reduceEqDiff, Int.reduceEq, Int.reduceLT, Int.reduceLE, Int.reduceAdd, Int.reduceSub, Int.reduceMul, Int.reduceNeg, Int.reduceToNat, ne_eq, sto, ldn, ld1, beq_self_eq_true, al_2, al_3, al_43, al_46, fa_43_0, fa_43_1, fa_43_2, fa_43_3, fa_43_4, fa_43_5, fa_48_2, fa_48_3, fa_48_5, ix_22, len_22, len_46, X_dInstr_42, g2]
  refine callV_of (by kernel_rfl) (by simp -implicitDefEqProofs only [EE, cond_true, cond_false, nth, ↓nw, Value.cells, ↓BK, setMany, if_true, if_false, Nat.reduceAdd, Nat.reduceLeDiff, Nat.reduceMul, Nat.reduceMod, Nat.reduceDiv, Nat.reduceSub, Nat.reduceEqDiff, Int.reduceEq, Int.reduceLT, Int.reduceLE, Int.reduceAdd, Int.reduceSub, Int.reduceMul, Int.reduceNeg, Int.reduceToNat, ne_eq, sto, ldn, ld1, beq_self_eq_true, hn]) (dSuccs_ok x hn h) ?_
  rintro v h1 ⟨S, e⟩
  simp -implicitDefEqProofs only [EE, cond_true, cond_false, nth, ↓nw, Value.cells, ↓BK, setMany, if_true, if_false, Nat.reduceAdd, Nat.reduceLeDiff, Nat.reduceMul, Nat.reduceMod, Nat.reduceDiv, Nat.reduceSub, Nat.reduceEqDiff, Int.reduceEq, Int.reduceLT, Int.reduceLE, Int.reduceAdd, Int.reduceSub, Int.reduceMul, Int.reduceNeg, Int.reduceToNat, ne_eq, sto, ldn, ld1, beq_self_eq_true]
  have hcode : (f.code.map Ins.row).length = f.code.length := List.length_map _
  refine LP_up2 (lo := h1) (succsI x).length (atB (succsI x) fun s => withinB s f.code.length) (.refl h1) ?_
  intro i h2 J hi e2 hg hJ
  have W2 := W.old (e.trans e2)
  have S2 := S.old e2
  have c2 := hc.old (e.trans e2)
  have nl := S2.nob
  have hl := S2.len22 3 h2
  rcases Nat.lt_or_ge i (succsI x).length with hlt | hge
  · obtain ⟨z, hz, _⟩ := get_some hlt
    obtain ⟨b, o, c, t, ha, hb, hgt, hco⟩ := S2.at hz
    have hlt' : (i : Int) < ((succsI x).length : Int) := by omega
    have g1' := W2.g1
    have cn := c2.nob
    have cl := c2.len46 3 h2
    rw [hcode] at cl
    have hinc : IntKind.wrap .i64 ((i : Int) + 1) = ((i + 1 : Nat) : Int) := inc (by have := succs_few x; omega)
    by_cases z0 : z < 0
    · simp -implicitDefEqProofs only [EE, cond_true, cond_false, nth, ↓nw, Value.cells, ↓BK, setMany, if_true, if_false, Nat.reduceAdd, Nat.reduceLeDiff, Nat.reduceMul, Nat.reduceMod, Nat.reduceDiv, Nat.reduceSub, Nat.reduceEqDiff, Int.reduceEq, Int.reduceLT, Int.reduceLE, Int.reduceAdd, Int.reduceSub, Int.reduceMul, Int.reduceNeg, Int.reduceToNat, ne_eq, sto, ldn, ld1, beq_self_eq_true, al_2, al_3, al_43, al_46, fa_43_0, fa_43_1, fa_43_2, fa_43_3, fa_43_4, fa_43_5, fa_48_2, fa_48_3, fa_48_5, ix_22, len_22, len_46, X_dInstr_8, X_dInstr_9, X_dInstr_10, X_dInstr_11, X_dInstr_12, X_dInstr_13, X_dInstr_14, X_dInstr_15, hl, hlt', nl, ha, hgt, hco, z0]
      rw [hB, not_all (B := fun s => withinB s f.code.length) hz (within_no (.inl z0))]; rfl
    by_cases z1 : (f.code.length : Int) ≤ z
    · simp -implicitDefEqProofs only [EE, cond_true, cond_false, nth, ↓nw, Value.cells, ↓BK, setMany, if_true, if_false, Nat.reduceAdd, Nat.reduceLeDiff, Nat.reduceMul, Nat.reduceMod, Nat.reduceDiv, Nat.reduceSub, Nat.reduceEqDiff, Int.reduceEq, Int.reduceLT, Int.reduceLE, Int.reduceAdd, Int.reduceSub, Int.reduceMul, Int.reduceNeg, Int.reduceToNat, ne_eq, sto, ldn, ld1, beq_self_eq_true, al_2, al_3, al_43, al_46, fa_43_0, fa_43_1, fa_43_2, fa_43_3, fa_43_4, fa_43_5, fa_48_2, fa_48_3, fa_48_5, ix_22, len_22, len_46, X_dInstr_8, X_dInstr_9, X_dInstr_10, X_dInstr_11, X_dInstr_12, X_dInstr_13, X_dInstr_14, X_dInstr_15, hl, hlt', nl, ha, hgt, hco, z0, g1', cn, cl, z1]
      rw [hB, not_all (B := fun s => withinB s f.code.length) hz (within_no (.inr z1))]; rfl
    · simp -implicitDefEqProofs only [EE, cond_true, cond_false, nth, ↓nw, Value.cells, ↓BK, setMany, if_true, if_false, Nat.reduceAdd, Nat.reduceLeDiff, Nat.reduceMul, Nat.reduceMod, Nat.reduceDiv, Nat.reduceSub, Nat.reduceEqDiff, Int.reduceEq, Int.reduceLT, Int.reduceLE, Int.reduceAdd, Int.reduceSub, Int.reduceMul, Int.reduceNeg, Int.reduceToNat, ne_eq, sto, ldn, ld1, beq_self_eq_true, al_2, al_3, al_43, al_46, fa_43_0, fa_43_1, fa_43_2, fa_43_3, fa_43_4, fa_43_5, fa_48_2, fa_48_3, fa_48_5, ix_22, len_22, len_46, X_dInstr_8, X_dInstr_9, X_dInstr_10, X_dInstr_11, X_dInstr_12, X_dInstr_13, X_dInstr_14, X_dInstr_15, hl, hlt', nl, ha, hgt, hco, z0, g1', cn, cl, z1, hinc]
      exact hJ _ hlt (by rw [atB_of hz]; exact within_yes z0 z1) e2
  · have hlt' : ¬ (i : Int) < ((succsI x).length : Int) := by omega
    simp -implicitDefEqProofs only [EE, cond_true, cond_false, nth, ↓nw, Value.cells, ↓BK, setMany, if_true, if_false, Nat.reduceAdd, Nat.reduceLeDiff, Nat.reduceMul, Nat.reduceMod, Nat.reduceDiv, Nat.reduceSub, Nat.reduceEqDiff, Int.reduceEq, Int.reduceLT, Int.reduceLE, Int.reduceAdd, Int.reduceSub, Int.reduceMul, Int.reduceNeg, Int.reduceToNat, ne_eq, sto, ldn, ld1, beq_self_eq_true, al_2, al_3, al_43, al_46, fa_43_0, fa_43_1, fa_43_2, fa_43_3, fa_43_4, fa_43_5, fa_48_2, fa_48_3, fa_48_5, ix_22, len_22, len_46, X_dInstr_15, hl, hlt', nl]
    refine d41 W2 ?_
    rw [hB, all_of_at fun k hk => hg k (by omega), Bool.true_and]
theorem d43 (W : Bx h b1 b2 f x) (hn : isBot x.av = false) (hc : SliceR h f.cv 9 (f.code.map Ins.row)) (hB : B = (!(decide (f.regs ≤ writesI x)) && (!decide (writesI x < -1) && ((succsI x).all (fun s => withinB s f.code.length) && opOk f x)))) :
    callQ Tryz.prog 51 [x.val] h (X_dInstr_44 (.pointer (some ⟨b1, 0, none⟩)) h (.pointer (some ⟨b2, 0, none⟩)) (isB B) vs) := by
  refine callQ_q (by kernel_rfl) (by simp -implicitDefEqProofs only [EE, cond_true, cond_false, nth, ↓nw, Value.cells, ↓BK, setMany, if_true, if_false, Nat.reduceAdd, Nat.reduceLeDiff, Nat.reduceMul, Nat.reduceMod, Nat.reduceDiv, Nat.reduceSub, Nat.reduceEqDiff, Int.reduceEq, Int.reduceLT, Int.reduceLE, Int.reduceAdd, Int.reduceSub, Int.reduceMul, Int.reduceNeg, Int.reduceToNat, ne_eq, sto, ldn, ld1, beq_self_eq_true, hn]) (writes_q x hn h) ?_
  have g1 := W.g1
  have g2 := W.g2
  by_cases c1 : f.regs ≤ writesI x
  · simp -implicitDefEqProofs only [EE, cond_true, cond_false, nth, ↓nw, Value.cells, ↓BK, setMany, if_true, if_false, Nat.reduceAdd, Nat.reduceLeDiff, Nat.reduceMul, Nat.reduceMod, Nat.reduceDiv, Nat.reduceSub, Nat.reduceEqDiff, Int.reduceEq, Int.reduceLT, Int.reduceLE, Int.reduceAdd, Int.reduceSub, Int.reduceMul, Int.reduceNeg, Int.reduceToNat, ne_eq, sto, ldn, ld1, beq_self_eq_true, al_2, al_3, al_43, al_46, fa_43_0, fa_43_1, fa_43_2, fa_43_3, fa_43_4, fa_43_5, fa_48_2, fa_48_3, fa_48_5, ix_22, len_22, len_46, X_dInstr_43, X_dInstr_44, g1, g2, c1]
    rw [hB]; simp [isB, c1]
  · simp -implicitDefEqProofs only [EE, cond_true, cond_false, nth, ↓nw, Value.cells, ↓BK, setMany, if_true, if_false, Nat.reduceAdd, Nat.reduceLeDiff, Nat.reduceMul, Nat.reduceMod, Nat.reduceDiv, Nat.reduceSub, Nat.reduceEqDiff, Int.reduceEq, Int.reduceLT, Int.reduceLE, Int.reduceAdd, Int.reduceSub, Int.reduceMul, Int.reduceNeg, Int.reduceToNat, ne_eq, sto, ldn, ld1, beq_self_eq_true, al_2, al_3, al_43, al_46, fa_43_0, fa_43_1, fa_43_2, fa_43_3, fa_43_4, fa_43_5, fa_48_2, fa_48_3, fa_48_5, ix_22, len_22, len_46, X_dInstr_44, g1, g2, c1]
    refine callQ_q (by kernel_rfl) (by simp -implicitDefEqProofs only [EE, cond_true, cond_false, nth, ↓nw, Value.cells, ↓BK, setMany, if_true, if_false, Nat.reduceAdd, Nat.reduceLeDiff, Nat.reduceMul, Nat.reduceMod, Nat.reduceDiv, Nat.reduceSub, Nat.reduceEqDiff, Int.reduceEq, Int.reduceLT, Int.reduceLE, Int.reduceAdd, Int.reduceSub, Int.reduceMul, Int.reduceNeg, Int.reduceToNat, ne_eq, sto, ldn, ld1, beq_self_eq_true, hn]) (writes_q x hn h) ?_
    by_cases c2 : writesI x < -1
    · simp -implicitDefEqProofs only [EE, cond_true, cond_false, nth, ↓nw, Value.cells, ↓BK, setMany, if_true, if_false, Nat.reduceAdd, Nat.reduceLeDiff, Nat.reduceMul, Nat.reduceMod, Nat.reduceDiv, Nat.reduceSub, Nat.reduceEqDiff, Int.reduceEq, Int.reduceLT, Int.reduceLE, Int.reduceAdd, Int.reduceSub, Int.reduceMul, Int.reduceNeg, Int.reduceToNat, ne_eq, sto, ldn, ld1, beq_self_eq_true, al_2, al_3, al_43, al_46, fa_43_0, fa_43_1, fa_43_2, fa_43_3, fa_43_4, fa_43_5, fa_48_2, fa_48_3, fa_48_5, ix_22, len_22, len_46, X_dInstr_43, c1, c2]
      rw [hB]; simp [isB, c2]
    · simp -implicitDefEqProofs only [EE, cond_true, cond_false, nth, ↓nw, Value.cells, ↓BK, setMany, if_true, if_false, Nat.reduceAdd, Nat.reduceLeDiff, Nat.reduceMul, Nat.reduceMod, Nat.reduceDiv, Nat.reduceSub, Nat.reduceEqDiff, Int.reduceEq, Int.reduceLT, Int.reduceLE, Int.reduceAdd, Int.reduceSub, Int.reduceMul, Int.reduceNeg, Int.reduceToNat, ne_eq, sto, ldn, ld1, beq_self_eq_true, al_2, al_3, al_43, al_46, fa_43_0, fa_43_1, fa_43_2, fa_43_3, fa_43_4, fa_43_5, fa_48_2, fa_48_3, fa_48_5, ix_22, len_22, len_46, X_dInstr_43, c1, c2]
      refine d42 W hn hc ?_
      rw [hB]; simp [c1, c2]
theorem d45 (W : Bx h b1 b2 f x) (I : InsOk h x) (hc : SliceR h f.cv 9 (f.code.map Ins.row)) {v : Value} (S : SliceI h v (usesI x)) (hB : B = ((usesI x).all (fun u => withinB u f.regs) && (!(decide (f.regs ≤ writesI x)) && (!decide (writesI x < -1) && ((succsI x).all (fun s => withinB s f.code.length) && opOk f x))))) :
    X_dInstr_45 (.pointer (some ⟨b1, 0, none⟩)) (isB B) vs (.pointer (some ⟨b2, 0, none⟩)) v h := by
  have hn := I.args.nob
  simp -implicitDefEqProofs only [EE, cond_true, cond_false, nth, ↓nw, Value.cells, ↓BK, setMany, if_true, if_false, Nat.reduceAdd, Nat.reduceLeDiff, Nat.reduceMul, Nat.reduceMod, Nat.reduceDiv, Nat.reduceSub, Nat.reduceEqDiff, Int.reduceEq, Int.reduceLT, Int.reduceLE, Int.reduceAdd, Int.reduceSub, Int.reduceMul, Int.reduceNeg, Int.reduceToNat, ne_eq, sto, ldn, ld1, beq_self_eq_true, al_2, al_3, al_43, al_46, fa_43_0, fa_43_1, fa_43_2, fa_43_3, fa_43_4, fa_43_5, fa_48_2, fa_48_3, fa_48_5, ix_22, len_22, len_46, X_dInstr_45]
  have few : (usesI x).length ≤ 17592186043906 := by
    have := I.few
    unfold usesI lA lB lC
    simp only [List.length_append]
    split <;> split <;> split <;> simp <;> omega
  refine LP_up2 (lo := h) (usesI x).length (atB (usesI x) fun s => withinB s f.regs) (.refl h) ?_
  intro i h2 J hi e2 hg hJ
  have W2 := W.old e2
  have S2 := S.old e2
  have nl := S2.nob
  have hl := S2.len22 3 h2
  rcases Nat.lt_or_ge i (usesI x).length with hlt | hge
  · obtain ⟨z, hz, _⟩ := get_some hlt
    obtain ⟨b, o, c, t, ha, hb, hgt, hco⟩ := S2.at hz
    have hlt' : (i : Int) < ((usesI x).length : Int) := by omega
    have g1' := W2.g1
    have hinc : IntKind.wrap .i64 ((i : Int) + 1) = ((i + 1 : Nat) : Int) := inc (by omega)
    by_cases z0 : z < 0
    · simp -implicitDefEqProofs only [EE, cond_true, cond_false, nth, ↓nw, Value.cells, ↓BK, setMany, if_true, if_false, Nat.reduceAdd, Nat.reduceLeDiff, Nat.reduceMul, Nat.reduceMod, Nat.reduceDiv, Nat.reduceSub, Nat.reduceEqDiff, Int.reduceEq, Int.reduceLT, Int.reduceLE, Int.reduceAdd, Int.reduceSub, Int.reduceMul, Int.reduceNeg, Int.reduceToNat, ne_eq, sto, ldn, ld1, beq_self_eq_true, al_2, al_3, al_43, al_46, fa_43_0, fa_43_1, fa_43_2, fa_43_3, fa_43_4, fa_43_5, fa_48_2, fa_48_3, fa_48_5, ix_22, len_22, len_46, X_dInstr_1, X_dInstr_2, X_dInstr_3, X_dInstr_4, X_dInstr_5, X_dInstr_6, X_dInstr_7, hl, hlt', nl, ha, hgt, hco, z0]
      rw [hB, not_all (B := fun s => withinB s f.regs) hz (within_no (.inl z0))]; rfl
    by_cases z1 : f.regs ≤ z
    · simp -implicitDefEqProofs only [EE, cond_true, cond_false, nth, ↓nw, Value.cells, ↓BK, setMany, if_true, if_false, Nat.reduceAdd, Nat.reduceLeDiff, Nat.reduceMul, Nat.reduceMod, Nat.reduceDiv, Nat.reduceSub, Nat.reduceEqDiff, Int.reduceEq, Int.reduceLT, Int.reduceLE, Int.reduceAdd, Int.reduceSub, Int.reduceMul, Int.reduceNeg, Int.reduceToNat, ne_eq, sto, ldn, ld1, beq_self_eq_true, al_2, al_3, al_43, al_46, fa_43_0, fa_43_1, fa_43_2, fa_43_3, fa_43_4, fa_43_5, fa_48_2, fa_48_3, fa_48_5, ix_22, len_22, len_46, X_dInstr_1, X_dInstr_2, X_dInstr_3, X_dInstr_4, X_dInstr_5, X_dInstr_6, X_dInstr_7, hl, hlt', nl, ha, hgt, hco, z0, g1', z1]
      rw [hB, not_all (B := fun s => withinB s f.regs) hz (within_no (.inr z1))]; rfl
    · simp -implicitDefEqProofs only [EE, cond_true, cond_false, nth, ↓nw, Value.cells, ↓BK, setMany, if_true, if_false, Nat.reduceAdd, Nat.reduceLeDiff, Nat.reduceMul, Nat.reduceMod, Nat.reduceDiv, Nat.reduceSub, Nat.reduceEqDiff, Int.reduceEq, Int.reduceLT, Int.reduceLE, Int.reduceAdd, Int.reduceSub, Int.reduceMul, Int.reduceNeg, Int.reduceToNat, ne_eq, sto, ldn, ld1, beq_self_eq_true, al_2, al_3, al_43, al_46, fa_43_0, fa_43_1, fa_43_2, fa_43_3, fa_43_4, fa_43_5, fa_48_2, fa_48_3, fa_48_5, ix_22, len_22, len_46, X_dInstr_1, X_dInstr_2, X_dInstr_3, X_dInstr_4, X_dInstr_5, X_dInstr_6, X_dInstr_7, hl, hlt', nl, ha, hgt, hco, z0, g1', z1, hinc]
      exact hJ _ hlt (by rw [atB_of hz]; exact within_yes z0 z1) e2
  · have hlt' : ¬ (i : Int) < ((usesI x).length : Int) := by omega
    have g2' := W2.g2
    simp -implicitDefEqProofs only [EE, cond_true, cond_false, nth, ↓nw, Value.cells, ↓BK, setMany, if_true, if_false, Nat.reduceAdd, Nat.reduceLeDiff, Nat.reduceMul, Nat.reduceMod, Nat.reduceDiv, Nat.reduceSub, Nat.reduceEqDiff, Int.reduceEq, Int.reduceLT, Int.reduceLE, Int.reduceAdd, Int.reduceSub, Int.reduceMul, Int.reduceNeg, Int.reduceToNat, ne_eq, sto, ldn, ld1, beq_self_eq_true, al_2, al_3, al_43, al_46, fa_43_0, fa_43_1, fa_43_2, fa_43_3, fa_43_4, fa_43_5, fa_48_2, fa_48_3, fa_48_5, ix_22, len_22, len_46, X_dInstr_7, hl, hlt', nl, g2']
    refine d43 W2 hn (hc.old e2) ?_
    rw [hB, all_of_at fun k hk => hg k (by omega), Bool.true_and]
end
end Go.Rtl
namespace Go.Rtl
open Go.Ai Go.Proofs
set_option linter.unusedVariables false
set_option linter.unusedSimpArgs false
set_option maxRecDepth 10000
def restB (f : Fn) (x : Ins) : Bool := (usesI x).all (fun u => withinB u f.regs) && (!(decide (f.regs ≤ writesI x)) && (!decide (writesI x < -1) && ((succsI x).all (fun s => withinB s f.code.length) && opOk f x)))
def bad1 (x : Ins) : Bool := needA x.op && decide (x.a = -1)
def bad2 (x : Ins) : Bool := needB x.op && decide (x.b = -1)
def bad3 (x : Ins) : Bool := needD x.op && decide (writesI x = -1)
def bad4 (x : Ins) : Bool := decide (x.op = 10) && decide (x.d < -1)
def dInsB (f : Fn) (x : Ins) : Bool := !bad1 x && (!bad2 x && (!bad3 x && (!bad4 x && restB f x)))
section
variable {h : AHeap} {b1 b2 : Nat} {f : Fn} {x : Ins} {vs : List Value} {B : Bool}
theorem e46 (W : Bx h b1 b2 f x) (I : InsOk h x) (hc : SliceR h f.cv 9 (f.code.map Ins.row)) (c : Bool) (hB : B = (!c && restB f x)) :
    X_dInstr_46 (.bool false) (isB B) (.pointer (some ⟨b2, 0, none⟩)) (.pointer (some ⟨b1, 0, none⟩)) (.bool c) h := by
  have g2 := W.g2
  cases c with
  | true =>
    simp -implicitDefEqProofs only [EE, cond_true, cond_false, nth, ↓nw, Value.cells, ↓BK, setMany, if_true, if_false, Nat.reduceAdd, Nat.reduceLeDiff, Nat.reduceMul, Nat.reduceMod, Nat.reduceDiv, Nat.reduceSub, Nat.reduceEqDiff, Int.reduceEq, Int.reduceLT, Int.reduceLE, Int.reduceAdd, Int.reduceSub, Int.reduceMul, Int.reduceNeg, Int.reduceToNat, ne_eq, sto, ldn, ld1, beq_self_eq_true, al_2, al_3, al_43, al_46, fa_43_0, fa_43_1, fa_43_2, fa_43_3, fa_43_4, fa_43_5, fa_48_2, fa_48_3, fa_48_5, ix_22, len_22, len_46, X_dInstr_46]
    rw [hB]; rfl
  | false =>
    simp -implicitDefEqProofs only [EE, cond_true, cond_false, nth, ↓nw, Value.cells, ↓BK, setMany, if_true, if_false, Nat.reduceAdd, Nat.reduceLeDiff, Nat.reduceMul, Nat.reduceMod, Nat.reduceDiv, Nat.reduceSub, Nat.reduceEqDiff, Int.reduceEq, Int.reduceLT, Int.reduceLE, Int.reduceAdd, Int.reduceSub, Int.reduceMul, Int.reduceNeg, Int.reduceToNat, ne_eq, sto, ldn, ld1, beq_self_eq_true, al_2, al_3, al_43, al_46, fa_43_0, fa_43_1, fa_43_2, fa_43_3, fa_43_4, fa_43_5, fa_48_2, fa_48_3, fa_48_5, ix_22, len_22, len_46, X_dInstr_46, g2]
    refine callV_of (by kernel_rfl) (by simp -implicitDefEqProofs only [EE, cond_true, cond_false, nth, ↓nw, Value.cells, ↓BK, setMany, if_true, if_false, Nat.reduceAdd, Nat.reduceLeDiff, Nat.reduceMul, Nat.reduceMod, Nat.reduceDiv, Nat.reduceSub, Nat.reduceEqDiff, Int.reduceEq, Int.reduceLT, Int.reduceLE, Int.reduceAdd, Int.reduceSub, Int.reduceMul, Int.reduceNeg, Int.reduceToNat, ne_eq, sto, ldn, ld1, beq_self_eq_true, I.args.nob]) (dUses_ok x h I.args I.few) ?_
    intro v h1 hF
    obtain ⟨S, e⟩ := hF.read
    refine d45 (W.old e) (I.old e) (hc.old e) S ?_
    rw [hB]; rfl
theorem e50 (W : Bx h b1 b2 f x) (I : InsOk h x) (hc : SliceR h f.cv 9 (f.code.map Ins.row)) (c : Bool) (hB : B = (!c && (!bad4 x && restB f x))) :
    X_dInstr_50 (.bool false) (.pointer (some ⟨b2, 0, none⟩)) (isB B) (.pointer (some ⟨b1, 0, none⟩)) (.bool c) h := by
  have g2 := W.g2
  cases c with
  | true =>
    simp -implicitDefEqProofs only [EE, cond_true, cond_false, nth, ↓nw, Value.cells, ↓BK, setMany, if_true, if_false, Nat.reduceAdd, Nat.reduceLeDiff, Nat.reduceMul, Nat.reduceMod, Nat.reduceDiv, Nat.reduceSub, Nat.reduceEqDiff, Int.reduceEq, Int.reduceLT, Int.reduceLE, Int.reduceAdd, Int.reduceSub, Int.reduceMul, Int.reduceNeg, Int.reduceToNat, ne_eq, sto, ldn, ld1, beq_self_eq_true, al_2, al_3, al_43, al_46, fa_43_0, fa_43_1, fa_43_2, fa_43_3, fa_43_4, fa_43_5, fa_48_2, fa_48_3, fa_48_5, ix_22, len_22, len_46, X_dInstr_46, X_dInstr_47, X_dInstr_48, X_dInstr_49, X_dInstr_50]
    rw [hB]; rfl
  | false =>
    by_cases h10 : x.op = 10
    · simp -implicitDefEqProofs only [EE, cond_true, cond_false, nth, ↓nw, Value.cells, ↓BK, setMany, if_true, if_false, Nat.reduceAdd, Nat.reduceLeDiff, Nat.reduceMul, Nat.reduceMod, Nat.reduceDiv, Nat.reduceSub, Nat.reduceEqDiff, Int.reduceEq, Int.reduceLT, Int.reduceLE, Int.reduceAdd, Int.reduceSub, Int.reduceMul, Int.reduceNeg, Int.reduceToNat, ne_eq, sto, ldn, ld1, beq_self_eq_true, al_2, al_3, al_43, al_46, fa_43_0, fa_43_1, fa_43_2, fa_43_3, fa_43_4, fa_43_5, fa_48_2, fa_48_3, fa_48_5, ix_22, len_22, len_46, X_dInstr_47, X_dInstr_48, X_dInstr_49, X_dInstr_50, g2, h10]
      refine e46 W I hc (decide (x.d < -1)) ?_
      rw [hB]; simp [bad4, h10]
    · simp -implicitDefEqProofs only [EE, cond_true, cond_false, nth, ↓nw, Value.cells, ↓BK, setMany, if_true, if_false, Nat.reduceAdd, Nat.reduceLeDiff, Nat.reduceMul, Nat.reduceMod, Nat.reduceDiv, Nat.reduceSub, Nat.reduceEqDiff, Int.reduceEq, Int.reduceLT, Int.reduceLE, Int.reduceAdd, Int.reduceSub, Int.reduceMul, Int.reduceNeg, Int.reduceToNat, ne_eq, sto, ldn, ld1, beq_self_eq_true, al_2, al_3, al_43, al_46, fa_43_0, fa_43_1, fa_43_2, fa_43_3, fa_43_4, fa_43_5, fa_48_2, fa_48_3, fa_48_5, ix_22, len_22, len_46, X_dInstr_47, X_dInstr_48, X_dInstr_49, X_dInstr_50, g2, h10]
      refine e46 W I hc false ?_
      rw [hB]; simp [bad4, h10]
theorem e53 (W : Bx h b1 b2 f x) (I : InsOk h x) (hc : SliceR h f.cv 9 (f.code.map Ins.row)) (c : Bool) (hB : B = (!c && (!bad3 x && (!bad4 x && restB f x)))) :
    X_dInstr_53 (.bool false) (.bool (needD x.op)) (.pointer (some ⟨b2, 0, none⟩)) (isB B) (.pointer (some ⟨b1, 0, none⟩)) (.bool c) h := by
  have g2 := W.g2
  have hn := I.args.nob
  cases c with
  | true =>
    simp -implicitDefEqProofs only [EE, cond_true, cond_false, nth, ↓nw, Value.cells, ↓BK, setMany, if_true, if_false, Nat.reduceAdd, Nat.reduceLeDiff, Nat.reduceMul, Nat.reduceMod, Nat.reduceDiv, Nat.reduceSub, Nat.reduceEqDiff, Int.reduceEq, Int.reduceLT, Int.reduceLE, Int.reduceAdd, Int.reduceSub, Int.reduceMul, Int.reduceNeg, Int.reduceToNat, ne_eq, sto, ldn, ld1, beq_self_eq_true, al_2, al_3, al_43, al_46, fa_43_0, fa_43_1, fa_43_2, fa_43_3, fa_43_4, fa_43_5, fa_48_2, fa_48_3, fa_48_5, ix_22, len_22, len_46, X_dInstr_46, X_dInstr_47, X_dInstr_48, X_dInstr_49, X_dInstr_50, X_dInstr_51, X_dInstr_52, X_dInstr_53]
    rw [hB]; rfl
  | false =>
    cases hD : needD x.op with
    | true =>
      simp -implicitDefEqProofs only [EE, cond_true, cond_false, nth, ↓nw, Value.cells, ↓BK, setMany, if_true, if_false, Nat.reduceAdd, Nat.reduceLeDiff, Nat.reduceMul, Nat.reduceMod, Nat.reduceDiv, Nat.reduceSub, Nat.reduceEqDiff, Int.reduceEq, Int.reduceLT, Int.reduceLE, Int.reduceAdd, Int.reduceSub, Int.reduceMul, Int.reduceNeg, Int.reduceToNat, ne_eq, sto, ldn, ld1, beq_self_eq_true, al_2, al_3, al_43, al_46, fa_43_0, fa_43_1, fa_43_2, fa_43_3, fa_43_4, fa_43_5, fa_48_2, fa_48_3, fa_48_5, ix_22, len_22, len_46, X_dInstr_51, X_dInstr_52, X_dInstr_53, g2, hD]
      refine callV_q (by kernel_rfl) (by simp -implicitDefEqProofs only [EE, cond_true, cond_false, nth, ↓nw, Value.cells, ↓BK, setMany, if_true, if_false, Nat.reduceAdd, Nat.reduceLeDiff, Nat.reduceMul, Nat.reduceMod, Nat.reduceDiv, Nat.reduceSub, Nat.reduceEqDiff, Int.reduceEq, Int.reduceLT, Int.reduceLE, Int.reduceAdd, Int.reduceSub, Int.reduceMul, Int.reduceNeg, Int.reduceToNat, ne_eq, sto, ldn, ld1, beq_self_eq_true, hn]) (writes_q x hn h) ?_
      simp -implicitDefEqProofs only [EE, cond_true, cond_false, nth, ↓nw, Value.cells, ↓BK, setMany, if_true, if_false, Nat.reduceAdd, Nat.reduceLeDiff, Nat.reduceMul, Nat.reduceMod, Nat.reduceDiv, Nat.reduceSub, Nat.reduceEqDiff, Int.reduceEq, Int.reduceLT, Int.reduceLE, Int.reduceAdd, Int.reduceSub, Int.reduceMul, Int.reduceNeg, Int.reduceToNat, ne_eq, sto, ldn, ld1, beq_self_eq_true, al_2, al_3, al_43, al_46, fa_43_0, fa_43_1, fa_43_2, fa_43_3, fa_43_4, fa_43_5, fa_48_2, fa_48_3, fa_48_5, ix_22, len_22, len_46, X_dInstr_51, X_dInstr_52, X_dInstr_53, g2]
      refine e50 W I hc (decide (writesI x = -1)) ?_
      rw [hB]; simp [bad3, hD]
    | false =>
      simp -implicitDefEqProofs only [EE, cond_true, cond_false, nth, ↓nw, Value.cells, ↓BK, setMany, if_true, if_false, Nat.reduceAdd, Nat.reduceLeDiff, Nat.reduceMul, Nat.reduceMod, Nat.reduceDiv, Nat.reduceSub, Nat.reduceEqDiff, Int.reduceEq, Int.reduceLT, Int.reduceLE, Int.reduceAdd, Int.reduceSub, Int.reduceMul, Int.reduceNeg, Int.reduceToNat, ne_eq, sto, ldn, ld1, beq_self_eq_true, al_2, al_3, al_43, al_46, fa_43_0, fa_43_1, fa_43_2, fa_43_3, fa_43_4, fa_43_5, fa_48_2, fa_48_3, fa_48_5, ix_22, len_22, len_46, X_dInstr_51, X_dInstr_52, X_dInstr_53, g2, hD]
      refine e50 W I hc false ?_
      rw [hB]; simp [bad3, hD]
theorem e56 (W : Bx h b1 b2 f x) (I : InsOk h x) (hc : SliceR h f.cv 9 (f.code.map Ins.row)) (c : Bool) {t15 t22 : Value} (hp : pk t15 t22 (.bool false) = some (.bool c)) (hB : B = (!c && (!bad2 x && (!bad3 x && (!bad4 x && restB f x))))) :
    X_dInstr_56 t15 (.bool (needB x.op)) (.pointer (some ⟨b2, 0, none⟩)) (.bool (needD x.op)) (isB B) (.pointer (some ⟨b1, 0, none⟩)) t22 h := by
  have g2 := W.g2
  cases c with
  | true =>
    simp -implicitDefEqProofs only [EE, cond_true, cond_false, nth, ↓nw, Value.cells, ↓BK, setMany, if_true, if_false, Nat.reduceAdd, Nat.reduceLeDiff, Nat.reduceMul, Nat.reduceMod, Nat.reduceDiv, Nat.reduceSub, Nat.reduceEqDiff, Int.reduceEq, Int.reduceLT, Int.reduceLE, Int.reduceAdd, Int.reduceSub, Int.reduceMul, Int.reduceNeg, Int.reduceToNat, ne_eq, sto, ldn, ld1, beq_self_eq_true, al_2, al_3, al_43, al_46, fa_43_0, fa_43_1, fa_43_2, fa_43_3, fa_43_4, fa_43_5, fa_48_2, fa_48_3, fa_48_5, ix_22, len_22, len_46, X_dInstr_46, X_dInstr_47, X_dInstr_48, X_dInstr_49, X_dInstr_50, X_dInstr_51, X_dInstr_52, X_dInstr_53, X_dInstr_54, X_dInstr_55, X_dInstr_56, hp]
    rw [hB]; rfl
  | false =>
    cases hD : needB x.op with
    | true =>
      simp -implicitDefEqProofs only [EE, cond_true, cond_false, nth, ↓nw, Value.cells, ↓BK, setMany, if_true, if_false, Nat.reduceAdd, Nat.reduceLeDiff, Nat.reduceMul, Nat.reduceMod, Nat.reduceDiv, Nat.reduceSub, Nat.reduceEqDiff, Int.reduceEq, Int.reduceLT, Int.reduceLE, Int.reduceAdd, Int.reduceSub, Int.reduceMul, Int.reduceNeg, Int.reduceToNat, ne_eq, sto, ldn, ld1, beq_self_eq_true, al_2, al_3, al_43, al_46, fa_43_0, fa_43_1, fa_43_2, fa_43_3, fa_43_4, fa_43_5, fa_48_2, fa_48_3, fa_48_5, ix_22, len_22, len_46, X_dInstr_54, X_dInstr_55, X_dInstr_56, g2, hD, hp]
      refine e53 W I hc (decide (x.b = -1)) ?_
      rw [hB]; simp [bad2, hD]
    | false =>
      simp -implicitDefEqProofs only [EE, cond_true, cond_false, nth, ↓nw, Value.cells, ↓BK, setMany, if_true, if_false, Nat.reduceAdd, Nat.reduceLeDiff, Nat.reduceMul, Nat.reduceMod, Nat.reduceDiv, Nat.reduceSub, Nat.reduceEqDiff, Int.reduceEq, Int.reduceLT, Int.reduceLE, Int.reduceAdd, Int.reduceSub, Int.reduceMul, Int.reduceNeg, Int.reduceToNat, ne_eq, sto, ldn, ld1, beq_self_eq_true, al_2, al_3, al_43, al_46, fa_43_0, fa_43_1, fa_43_2, fa_43_3, fa_43_4, fa_43_5, fa_48_2, fa_48_3, fa_48_5, ix_22, len_22, len_46, X_dInstr_54, X_dInstr_55, X_dInstr_56, g2, hD, hp]
      refine e53 W I hc false ?_
      rw [hB]; simp [bad2, hD]
end
theorem ax30 (a b c : Bool) : axt (.tuple #[.bool a, .bool b, .bool c]) 0 = some (.bool a) := by rw [axt_of rfl]; rfl
theorem ax31 (a b c : Bool) : axt (.tuple #[.bool a, .bool b, .bool c]) 1 = some (.bool b) := by rw [axt_of rfl]; rfl
theorem ax32 (a b c : Bool) : axt (.tuple #[.bool a, .bool b, .bool c]) 2 = some (.bool c) := by rw [axt_of rfl]; rfl
theorem dInstr_q (f : Fn) (x : Ins) (h : AHeap) (hpv : cellOk f.pv = true ∧ isBot f.pv = false) (I : InsOk h x) (hc : SliceR h f.cv 9 (f.code.map Ins.row)) : Quiet Tryz.prog 32 [f.val, x.val] h (.bool (dInsB f x)) := by
  apply quiet_b
  replace I := I.lock
  replace hc := hc.lock
  generalize hL : h.lock = L at I hc
  clear hL h
  apply X_dInstr_ok
  unfold X_dInstr
  have hn := I.args.nob
  have hcn := hc.nob
  obtain ⟨hpc, hpn⟩ := hpv
  simp -implicitDefEqProofs only [EE, cond_true, cond_false, nth, ↓nw, Value.cells, ↓BK, setMany, if_true, if_false, Nat.reduceAdd, Nat.reduceLeDiff, Nat.reduceMul, Nat.reduceMod, Nat.reduceDiv, Nat.reduceSub, Nat.reduceEqDiff, Int.reduceEq, Int.reduceLT, Int.reduceLE, Int.reduceAdd, Int.reduceSub, Int.reduceMul, Int.reduceNeg, Int.reduceToNat, ne_eq, sto, ldn, ld1, beq_self_eq_true, al_2, al_3, al_43, al_46, fa_43_0, fa_43_1, fa_43_2, fa_43_3, fa_43_4, fa_43_5, fa_48_2, fa_48_3, fa_48_5, ix_22, len_22, len_46, hn, hcn, hpn]
  have o1 := Old.push L (.cells f.row 48)
  have o2 := Old.push (L.push (.cells f.row 48)) (.cells x.row 43)
  refine callV_of (by kernel_rfl) (by simp -implicitDefEqProofs only [EE, cond_true, cond_false, nth, ↓nw, Value.cells, ↓BK, setMany, if_true, if_false, Nat.reduceAdd, Nat.reduceLeDiff, Nat.reduceMul, Nat.reduceMod, Nat.reduceDiv, Nat.reduceSub, Nat.reduceEqDiff, Int.reduceEq, Int.reduceLT, Int.reduceLE, Int.reduceAdd, Int.reduceSub, Int.reduceMul, Int.reduceNeg, Int.reduceToNat, ne_eq, sto, ldn, ld1, beq_self_eq_true, hn]) (needs_ok x hn _) ?_
  rintro v h1 ⟨rfl, e⟩
  have W : Bx h1 L.next (L.next + 1) f x := by
    refine Bx.old (h := (L.push (.cells f.row 48)).push (.cells x.row 43)) ⟨?_, ?_, ?_, ?_⟩ e
    · show L.next < L.next + 1 + 1; omega
    · show L.next + 1 < L.next + 1 + 1; omega
    · rw [get_push_lt (by show L.next < L.next + 1; omega), get_push_self]
    · exact get_push_eq rfl
  have oe := (o1.trans o2).trans e
  replace I := I.old oe
  replace hc := hc.old oe
  have g2 := W.g2
  cases hA : needA x.op with
  | true =>
    simp -implicitDefEqProofs only [EE, cond_true, cond_false, nth, ↓nw, Value.cells, ↓BK, setMany, if_true, if_false, Nat.reduceAdd, Nat.reduceLeDiff, Nat.reduceMul, Nat.reduceMod, Nat.reduceDiv, Nat.reduceSub, Nat.reduceEqDiff, Int.reduceEq, Int.reduceLT, Int.reduceLE, Int.reduceAdd, Int.reduceSub, Int.reduceMul, Int.reduceNeg, Int.reduceToNat, ne_eq, sto, ldn, ld1, beq_self_eq_true, al_2, al_3, al_43, al_46, fa_43_0, fa_43_1, fa_43_2, fa_43_3, fa_43_4, fa_43_5, fa_48_2, fa_48_3, fa_48_5, ix_22, len_22, len_46, X_dInstr_57, X_dInstr_58, g2, ax30, ax31, ax32, hA]
    refine e56 W I hc (decide (x.a = -1)) (pk_true rfl) ?_
    simp [dInsB, bad1, hA]
  | false =>
    simp -implicitDefEqProofs only [EE, cond_true, cond_false, nth, ↓nw, Value.cells, ↓BK, setMany, if_true, if_false, Nat.reduceAdd, Nat.reduceLeDiff, Nat.reduceMul, Nat.reduceMod, Nat.reduceDiv, Nat.reduceSub, Nat.reduceEqDiff, Int.reduceEq, Int.reduceLT, Int.reduceLE, Int.reduceAdd, Int.reduceSub, Int.reduceMul, Int.reduceNeg, Int.reduceToNat, ne_eq, sto, ldn, ld1, beq_self_eq_true, al_2, al_3, al_43, al_46, fa_43_0, fa_43_1, fa_43_2, fa_43_3, fa_43_4, fa_43_5, fa_48_2, fa_48_3, fa_48_5, ix_22, len_22, len_46, X_dInstr_57, X_dInstr_58, g2, ax30, ax31, ax32, hA]
    refine e56 W I hc false (pk_false rfl) ?_
    simp [dInsB, bad1, hA]
end Go.Rtl
namespace Go.Rtl
open Go.Ai Go.Proofs
set_option linter.unusedVariables false
set_option linter.unusedSimpArgs false
set_option maxRecDepth 10000
theorem range_all {n : Nat} {G : Nat → Bool} (h : ∀ k, k < n → G k = true) : (List.range n).all G = true := by
  rw [List.all_eq_true]
  intro k hk
  exact h k (List.mem_range.1 hk)
theorem range_not {n k : Nat} {G : Nat → Bool} (hk : k < n) (h : G k = false) : (List.range n).all G = false := by
  rw [List.all_eq_false]
  exact ⟨k, List.mem_range.2 hk, by simp [h]⟩
theorem getD_of {l : List Int} {i : Nat} {z : Int} (h : l[i]? = some z) : l.getD i 0 = z := by
  rw [List.getD_eq_getElem?_getD, h]; rfl
def parAt (l : List Int) (regs : Int) (i : Nat) : Bool := withinB (l.getD i 0) regs && (List.range i).all fun k => !decide (l.getD k 0 = l.getD i 0)
def parB (l : List Int) (regs : Int) : Bool := (List.range l.length).all (parAt l regs)
def sizesB (f : Fn) : Bool := !decide (f.regs < 0) && (!decide (5000 < f.regs) && (!decide ((5000 : Int) < f.code.length) && (!decide (f.entry < 0) && (!decide ((f.code.length : Int) ≤ f.entry) && (!decide (f.frame < 0) && !decide (65536 < f.frame))))))
def dRightB (f : Fn) : Bool := sizesB f && (parB f.params f.regs && f.code.all (dInsB f))
theorem Old.got {h h' : AHeap} (e : Old h h') {b : Nat} {o : AObj} (hb : b < h.next) (hg : h.get b = some o) : h'.get b = some o := by rw [e.get b hb]; exact hg
section
variable {L h : AHeap} {b1 : Nat} {f : Fn} {vs : List Value} {B : Bool}
/-- The code's loop. -/
theorem dr14 (F : FnOk h f) (hb : b1 < h.next) (hg : h.get b1 = some (.cells [.string f.nm, f.pv, .int .i64 f.regs, .int .i64 f.frame, .int .i64 f.entry, f.cv] 48)) (hB : B = f.code.all (dInsB f)) :
    LP (X_dRight_14 (.pointer (some ⟨b1, 0, none⟩)) (fun _ h101 => isB B (.bool true) h101) (isB B)) [(nth vs 0), (.int .i64 0)] h := by
  refine LP_up2 (lo := h) f.code.length (atB f.code (dInsB f)) (.refl h) ?_
  intro i h2 J hi e2 hq hJ
  have g2 := e2.got hb hg
  have F2 := F.old e2
  have cn := F2.code.nob
  have pn := F2.params.nob
  have cl := F2.code.len46 3 h2
  rw [List.length_map] at cl
  rcases Nat.lt_or_ge i f.code.length with hlt | hge
  · obtain ⟨x, hx, hm⟩ := get_some hlt
    obtain ⟨b, o, c, t, ha, hbb, hgt, hle, htk, _⟩ := F2.code.at46 (i := i) (r := x.row) (by rw [List.getElem?_map, hx]; rfl) rfl
    have hlt' : (i : Int) < (f.code.length : Int) := by omega
    have hinc : IntKind.wrap .i64 ((i : Int) + 1) = ((i + 1 : Nat) : Int) := inc (by have := F.cfew; omega)
    simp -implicitDefEqProofs only [EE, cond_true, cond_false, nth, ↓nw, Value.cells, ↓BK, setMany, if_true, if_false, Nat.reduceAdd, Nat.reduceLeDiff, Nat.reduceMul, Nat.reduceMod, Nat.reduceDiv, Nat.reduceSub, Nat.reduceEqDiff, Int.reduceEq, Int.reduceLT, Int.reduceLE, Int.reduceAdd, Int.reduceSub, Int.reduceMul, Int.reduceNeg, Int.reduceToNat, ne_eq, sto, ldn, ld1, beq_self_eq_true, al_22, al_3, al_43, al_46, al_48, fa_48_1, fa_48_2, fa_48_3, fa_48_4, fa_48_5, ix_22, ix_46, len_22, len_46, X_dRight_11, X_dRight_12, X_dRight_13, X_dRight_14, g2, cn, pn, cl, hlt', ha, hgt, hle, htk]
    refine callD_of (by kernel_rfl) (by simp -implicitDefEqProofs only [EE, cond_true, cond_false, nth, ↓nw, Value.cells, ↓BK, setMany, if_true, if_false, Nat.reduceAdd, Nat.reduceLeDiff, Nat.reduceMul, Nat.reduceMod, Nat.reduceDiv, Nat.reduceSub, Nat.reduceEqDiff, Int.reduceEq, Int.reduceLT, Int.reduceLE, Int.reduceAdd, Int.reduceSub, Int.reduceMul, Int.reduceNeg, Int.reduceToNat, ne_eq, sto, ldn, ld1, beq_self_eq_true, cn, pn, (F2.ins x hm).args.nob]) (dInstr_q f x h2 ⟨F2.params.cok, pn⟩ (F2.ins x hm) F2.code).dc ?_
    rintro v h3 ⟨rfl, rfl⟩
    cases hI : dInsB f x with
    | true =>
      simp -implicitDefEqProofs only [EE, cond_true, cond_false, nth, ↓nw, Value.cells, ↓BK, setMany, if_true, if_false, Nat.reduceAdd, Nat.reduceLeDiff, Nat.reduceMul, Nat.reduceMod, Nat.reduceDiv, Nat.reduceSub, Nat.reduceEqDiff, Int.reduceEq, Int.reduceLT, Int.reduceLE, Int.reduceAdd, Int.reduceSub, Int.reduceMul, Int.reduceNeg, Int.reduceToNat, ne_eq, sto, ldn, ld1, beq_self_eq_true, al_22, al_3, al_43, al_46, al_48, fa_48_1, fa_48_2, fa_48_3, fa_48_4, fa_48_5, ix_22, ix_46, len_22, len_46, X_dRight_11, X_dRight_12, X_dRight_13, X_dRight_14, hinc]
      exact hJ _ hlt (by rw [atB_of hx]; exact hI) e2
    | false =>
      simp -implicitDefEqProofs only [EE, cond_true, cond_false, nth, ↓nw, Value.cells, ↓BK, setMany, if_true, if_false, Nat.reduceAdd, Nat.reduceLeDiff, Nat.reduceMul, Nat.reduceMod, Nat.reduceDiv, Nat.reduceSub, Nat.reduceEqDiff, Int.reduceEq, Int.reduceLT, Int.reduceLE, Int.reduceAdd, Int.reduceSub, Int.reduceMul, Int.reduceNeg, Int.reduceToNat, ne_eq, sto, ldn, ld1, beq_self_eq_true, al_22, al_3, al_43, al_46, al_48, fa_48_1, fa_48_2, fa_48_3, fa_48_4, fa_48_5, ix_22, ix_46, len_22, len_46, X_dRight_11, X_dRight_12, X_dRight_13, X_dRight_14]
      rw [hB, not_all hx hI]; rfl
  · have hlt' : ¬ (i : Int) < (f.code.length : Int) := by omega
    simp -implicitDefEqProofs only [EE, cond_true, cond_false, nth, ↓nw, Value.cells, ↓BK, setMany, if_true, if_false, Nat.reduceAdd, Nat.reduceLeDiff, Nat.reduceMul, Nat.reduceMod, Nat.reduceDiv, Nat.reduceSub, Nat.reduceEqDiff, Int.reduceEq, Int.reduceLT, Int.reduceLE, Int.reduceAdd, Int.reduceSub, Int.reduceMul, Int.reduceNeg, Int.reduceToNat, ne_eq, sto, ldn, ld1, beq_self_eq_true, al_22, al_3, al_43, al_46, al_48, fa_48_1, fa_48_2, fa_48_3, fa_48_4, fa_48_5, ix_22, ix_46, len_22, len_46, X_dRight_14, g2, cn, cl, hlt']
    have : f.code.all (dInsB f) = true := all_of_at fun k hk => hq k (by omega)
    rw [hB, this]; rfl
/-- The parameters' loop. -/
theorem dr10 (F : FnOk h f) (hb : b1 < h.next) (hg : h.get b1 = some (.cells [.string f.nm, f.pv, .int .i64 f.regs, .int .i64 f.frame, .int .i64 f.entry, f.cv] 48)) (hB : B = (parB f.params f.regs && f.code.all (dInsB f))) :
    X_dRight_15 (.pointer (some ⟨b1, 0, none⟩)) (isB B) vs h := by
  simp -implicitDefEqProofs only [EE, cond_true, cond_false, nth, ↓nw, Value.cells, ↓BK, setMany, if_true, if_false, Nat.reduceAdd, Nat.reduceLeDiff, Nat.reduceMul, Nat.reduceMod, Nat.reduceDiv, Nat.reduceSub, Nat.reduceEqDiff, Int.reduceEq, Int.reduceLT, Int.reduceLE, Int.reduceAdd, Int.reduceSub, Int.reduceMul, Int.reduceNeg, Int.reduceToNat, ne_eq, sto, ldn, ld1, beq_self_eq_true, al_22, al_3, al_43, al_46, al_48, fa_48_1, fa_48_2, fa_48_3, fa_48_4, fa_48_5, ix_22, ix_46, len_22, len_46, X_dRight_15]
  refine LP_up2 (lo := h) f.params.length (parAt f.params f.regs) (.refl h) ?_
  intro i h2 J hi e2 hq hJ
  have g2 := e2.got hb hg
  have F2 := F.old e2
  have pn := F2.params.nob
  have pl := F2.params.len22 3 h2
  rcases Nat.lt_or_ge i f.params.length with hlt | hge
  · obtain ⟨z, hz, hm⟩ := get_some hlt
    obtain ⟨b, o, c, t, ha, hbb, hgt, hco⟩ := F2.params.at hz
    have hlt' : (i : Int) < (f.params.length : Int) := by omega
    have hinc : IntKind.wrap .i64 ((i : Int) + 1) = ((i + 1 : Nat) : Int) := inc (by have := F.pfew; omega)
    have hgd := getD_of hz
    by_cases z0 : z < 0
    · simp -implicitDefEqProofs only [EE, cond_true, cond_false, nth, ↓nw, Value.cells, ↓BK, setMany, if_true, if_false, Nat.reduceAdd, Nat.reduceLeDiff, Nat.reduceMul, Nat.reduceMod, Nat.reduceDiv, Nat.reduceSub, Nat.reduceEqDiff, Int.reduceEq, Int.reduceLT, Int.reduceLE, Int.reduceAdd, Int.reduceSub, Int.reduceMul, Int.reduceNeg, Int.reduceToNat, ne_eq, sto, ldn, ld1, beq_self_eq_true, al_22, al_3, al_43, al_46, al_48, fa_48_1, fa_48_2, fa_48_3, fa_48_4, fa_48_5, ix_22, ix_46, len_22, len_46, X_dRight_4, X_dRight_5, X_dRight_6, X_dRight_7, X_dRight_8, X_dRight_9, X_dRight_10, g2, pn, pl, hlt', ha, hgt, hco, z0]
      have : parB f.params f.regs = false := range_not hlt (by unfold parAt; rw [hgd, within_no (.inl z0)]; rfl)
      rw [hB, this]; rfl
    by_cases z1 : f.regs ≤ z
    · simp -implicitDefEqProofs only [EE, cond_true, cond_false, nth, ↓nw, Value.cells, ↓BK, setMany, if_true, if_false, Nat.reduceAdd, Nat.reduceLeDiff, Nat.reduceMul, Nat.reduceMod, Nat.reduceDiv, Nat.reduceSub, Nat.reduceEqDiff, Int.reduceEq, Int.reduceLT, Int.reduceLE, Int.reduceAdd, Int.reduceSub, Int.reduceMul, Int.reduceNeg, Int.reduceToNat, ne_eq, sto, ldn, ld1, beq_self_eq_true, al_22, al_3, al_43, al_46, al_48, fa_48_1, fa_48_2, fa_48_3, fa_48_4, fa_48_5, ix_22, ix_46, len_22, len_46, X_dRight_4, X_dRight_5, X_dRight_6, X_dRight_7, X_dRight_8, X_dRight_9, X_dRight_10, g2, pn, pl, hlt', ha, hgt, hco, z0, z1]
      have : parB f.params f.regs = false := range_not hlt (by unfold parAt; rw [hgd, within_no (.inr z1)]; rfl)
      rw [hB, this]; rfl
    simp -implicitDefEqProofs only [EE, cond_true, cond_false, nth, ↓nw, Value.cells, ↓BK, setMany, if_true, if_false, Nat.reduceAdd, Nat.reduceLeDiff, Nat.reduceMul, Nat.reduceMod, Nat.reduceDiv, Nat.reduceSub, Nat.reduceEqDiff, Int.reduceEq, Int.reduceLT, Int.reduceLE, Int.reduceAdd, Int.reduceSub, Int.reduceMul, Int.reduceNeg, Int.reduceToNat, ne_eq, sto, ldn, ld1, beq_self_eq_true, al_22, al_3, al_43, al_46, al_48, fa_48_1, fa_48_2, fa_48_3, fa_48_4, fa_48_5, ix_22, ix_46, len_22, len_46, X_dRight_4, X_dRight_5, X_dRight_6, X_dRight_7, X_dRight_8, X_dRight_9, X_dRight_10, g2, pn, pl, hlt', ha, hgt, hco, z0, z1]
    refine LP_up2 (lo := h2) i (fun k => !decide (f.params.getD k 0 = f.params.getD i 0)) (.refl h2) ?_
    intro k h3 J2 hk e3 hq3 hJ3
    have g3 := (e2.trans e3).got hb hg
    have F3 := F2.old e3
    rcases Nat.lt_or_ge k i with hlk | hgk
    · obtain ⟨y, hy, _⟩ := get_some (l := f.params) (k := k) (by omega)
      obtain ⟨b3, o3, c3, t3, ha3, hbb3, hgt3, hco3⟩ := F3.params.at hy
      obtain ⟨b4, o4, c4, t4, ha4, hbb4, hgt4, hco4⟩ := F3.params.at hz
      have hlk' : (k : Int) < (i : Int) := by omega
      have hinc3 : IntKind.wrap .i64 ((k : Int) + 1) = ((k + 1 : Nat) : Int) := inc (by have := F.pfew; omega)
      have hgk3 := getD_of hy
      by_cases yz : y = z
      · simp -implicitDefEqProofs only [EE, cond_true, cond_false, nth, ↓nw, Value.cells, ↓BK, setMany, if_true, if_false, Nat.reduceAdd, Nat.reduceLeDiff, Nat.reduceMul, Nat.reduceMod, Nat.reduceDiv, Nat.reduceSub, Nat.reduceEqDiff, Int.reduceEq, Int.reduceLT, Int.reduceLE, Int.reduceAdd, Int.reduceSub, Int.reduceMul, Int.reduceNeg, Int.reduceToNat, ne_eq, sto, ldn, ld1, beq_self_eq_true, al_22, al_3, al_43, al_46, al_48, fa_48_1, fa_48_2, fa_48_3, fa_48_4, fa_48_5, ix_22, ix_46, len_22, len_46, X_dRight_1, X_dRight_2, X_dRight_3, g3, pn, hlk', ha3, hgt3, hco3, ha4, hgt4, hco4, yz]
        have : parB f.params f.regs = false := range_not hlt (by unfold parAt; rw [range_not hlk (by rw [hgk3, hgd, yz]; simp), Bool.and_false])
        rw [hB, this]; rfl
      · simp -implicitDefEqProofs only [EE, cond_true, cond_false, nth, ↓nw, Value.cells, ↓BK, setMany, if_true, if_false, Nat.reduceAdd, Nat.reduceLeDiff, Nat.reduceMul, Nat.reduceMod, Nat.reduceDiv, Nat.reduceSub, Nat.reduceEqDiff, Int.reduceEq, Int.reduceLT, Int.reduceLE, Int.reduceAdd, Int.reduceSub, Int.reduceMul, Int.reduceNeg, Int.reduceToNat, ne_eq, sto, ldn, ld1, beq_self_eq_true, al_22, al_3, al_43, al_46, al_48, fa_48_1, fa_48_2, fa_48_3, fa_48_4, fa_48_5, ix_22, ix_46, len_22, len_46, X_dRight_1, X_dRight_2, X_dRight_3, g3, pn, hlk', ha3, hgt3, hco3, ha4, hgt4, hco4, yz, hinc3]
        exact hJ3 _ hlk (by rw [hgk3, hgd]; simp [yz]) e3
    · have hlk' : ¬ (k : Int) < (i : Int) := by omega
      simp -implicitDefEqProofs only [EE, cond_true, cond_false, nth, ↓nw, Value.cells, ↓BK, setMany, if_true, if_false, Nat.reduceAdd, Nat.reduceLeDiff, Nat.reduceMul, Nat.reduceMod, Nat.reduceDiv, Nat.reduceSub, Nat.reduceEqDiff, Int.reduceEq, Int.reduceLT, Int.reduceLE, Int.reduceAdd, Int.reduceSub, Int.reduceMul, Int.reduceNeg, Int.reduceToNat, ne_eq, sto, ldn, ld1, beq_self_eq_true, al_22, al_3, al_43, al_46, al_48, fa_48_1, fa_48_2, fa_48_3, fa_48_4, fa_48_5, ix_22, ix_46, len_22, len_46, X_dRight_3, X_dRight_9, hlk', hinc]
      refine hJ _ hlt ?_ (e2.trans e3)
      unfold parAt
      rw [hgd, within_yes z0 z1, Bool.true_and]
      have := range_all (n := i) (G := fun k => !decide (f.params.getD k 0 = f.params.getD i 0)) (fun k' hk' => hq3 k' (by omega))
      rw [hgd] at this
      exact this
  · have hlt' : ¬ (i : Int) < (f.params.length : Int) := by omega
    simp -implicitDefEqProofs only [EE, cond_true, cond_false, nth, ↓nw, Value.cells, ↓BK, setMany, if_true, if_false, Nat.reduceAdd, Nat.reduceLeDiff, Nat.reduceMul, Nat.reduceMod, Nat.reduceDiv, Nat.reduceSub, Nat.reduceEqDiff, Int.reduceEq, Int.reduceLT, Int.reduceLE, Int.reduceAdd, Int.reduceSub, Int.reduceMul, Int.reduceNeg, Int.reduceToNat, ne_eq, sto, ldn, ld1, beq_self_eq_true, al_22, al_3, al_43, al_46, al_48, fa_48_1, fa_48_2, fa_48_3, fa_48_4, fa_48_5, ix_22, ix_46, len_22, len_46, X_dRight_10, g2, pn, pl, hlt']
    have hp : parB f.params f.regs = true := range_all fun k hk => hq k (by omega)
    exact dr14 (B := B) F2 (Nat.lt_of_lt_of_le hb e2.next) g2 (by rw [hB, hp, Bool.true_and])
end
theorem dRight_q (f : Fn) (h : AHeap) (F : FnOk h f) : Quiet Tryz.prog 17 [f.val] h (.bool (dRightB f)) := by
  apply quiet_b
  replace F := F.lock
  generalize h.lock = L at F
  apply X_dRight_ok
  unfold X_dRight
  have pn := F.params.nob
  have cn := F.code.nob
  have F1 := F.old (Old.push L (.cells f.row 48))
  have cl := F1.code.len46 3 (L.push (.cells f.row 48))
  rw [List.length_map] at cl
  have fin : ∀ vs, X_dRight_15 (.pointer (some ⟨L.next, 0, none⟩)) (isB (parB f.params f.regs && f.code.all (dInsB f))) vs (L.push (.cells f.row 48)) := fun vs => dr10 F1 (Nat.lt_succ_self _) get_push_self rfl
  unfold dRightB sizesB
  by_cases c1 : f.regs < 0
  · simp -implicitDefEqProofs only [EE, cond_true, cond_false, nth, ↓nw, Value.cells, ↓BK, setMany, if_true, if_false, Nat.reduceAdd, Nat.reduceLeDiff, Nat.reduceMul, Nat.reduceMod, Nat.reduceDiv, Nat.reduceSub, Nat.reduceEqDiff, Int.reduceEq, Int.reduceLT, Int.reduceLE, Int.reduceAdd, Int.reduceSub, Int.reduceMul, Int.reduceNeg, Int.reduceToNat, ne_eq, sto, ldn, ld1, beq_self_eq_true, al_22, al_3, al_43, al_46, al_48, fa_48_1, fa_48_2, fa_48_3, fa_48_4, fa_48_5, ix_22, ix_46, len_22, len_46, X_dRight_16, X_dRight_17, X_dRight_18, X_dRight_19, X_dRight_20, X_dRight_21, X_dRight_22, X_dRight_23, X_dRight_24, X_dRight_25, X_dRight_26, X_dRight_27, pn, cn, c1]; rfl
  by_cases c2 : 5000 < f.regs
  · simp -implicitDefEqProofs only [EE, cond_true, cond_false, nth, ↓nw, Value.cells, ↓BK, setMany, if_true, if_false, Nat.reduceAdd, Nat.reduceLeDiff, Nat.reduceMul, Nat.reduceMod, Nat.reduceDiv, Nat.reduceSub, Nat.reduceEqDiff, Int.reduceEq, Int.reduceLT, Int.reduceLE, Int.reduceAdd, Int.reduceSub, Int.reduceMul, Int.reduceNeg, Int.reduceToNat, ne_eq, sto, ldn, ld1, beq_self_eq_true, al_22, al_3, al_43, al_46, al_48, fa_48_1, fa_48_2, fa_48_3, fa_48_4, fa_48_5, ix_22, ix_46, len_22, len_46, X_dRight_16, X_dRight_17, X_dRight_18, X_dRight_19, X_dRight_20, X_dRight_21, X_dRight_22, X_dRight_23, X_dRight_24, X_dRight_25, X_dRight_26, X_dRight_27, pn, cn, c1, c2]; rfl
  by_cases c3 : (5000 : Int) < f.code.length
  · simp -implicitDefEqProofs only [EE, cond_true, cond_false, nth, ↓nw, Value.cells, ↓BK, setMany, if_true, if_false, Nat.reduceAdd, Nat.reduceLeDiff, Nat.reduceMul, Nat.reduceMod, Nat.reduceDiv, Nat.reduceSub, Nat.reduceEqDiff, Int.reduceEq, Int.reduceLT, Int.reduceLE, Int.reduceAdd, Int.reduceSub, Int.reduceMul, Int.reduceNeg, Int.reduceToNat, ne_eq, sto, ldn, ld1, beq_self_eq_true, al_22, al_3, al_43, al_46, al_48, fa_48_1, fa_48_2, fa_48_3, fa_48_4, fa_48_5, ix_22, ix_46, len_22, len_46, X_dRight_16, X_dRight_17, X_dRight_18, X_dRight_19, X_dRight_20, X_dRight_21, X_dRight_22, X_dRight_23, X_dRight_24, X_dRight_25, X_dRight_26, X_dRight_27, pn, cn, cl, c1, c2, c3]; rfl
  by_cases c4 : f.entry < 0
  · simp -implicitDefEqProofs only [EE, cond_true, cond_false, nth, ↓nw, Value.cells, ↓BK, setMany, if_true, if_false, Nat.reduceAdd, Nat.reduceLeDiff, Nat.reduceMul, Nat.reduceMod, Nat.reduceDiv, Nat.reduceSub, Nat.reduceEqDiff, Int.reduceEq, Int.reduceLT, Int.reduceLE, Int.reduceAdd, Int.reduceSub, Int.reduceMul, Int.reduceNeg, Int.reduceToNat, ne_eq, sto, ldn, ld1, beq_self_eq_true, al_22, al_3, al_43, al_46, al_48, fa_48_1, fa_48_2, fa_48_3, fa_48_4, fa_48_5, ix_22, ix_46, len_22, len_46, X_dRight_16, X_dRight_17, X_dRight_18, X_dRight_19, X_dRight_20, X_dRight_21, X_dRight_22, X_dRight_23, X_dRight_24, X_dRight_25, X_dRight_26, X_dRight_27, pn, cn, cl, c1, c2, c3, c4]; rfl
  by_cases c5 : (f.code.length : Int) ≤ f.entry
  · simp -implicitDefEqProofs only [EE, cond_true, cond_false, nth, ↓nw, Value.cells, ↓BK, setMany, if_true, if_false, Nat.reduceAdd, Nat.reduceLeDiff, Nat.reduceMul, Nat.reduceMod, Nat.reduceDiv, Nat.reduceSub, Nat.reduceEqDiff, Int.reduceEq, Int.reduceLT, Int.reduceLE, Int.reduceAdd, Int.reduceSub, Int.reduceMul, Int.reduceNeg, Int.reduceToNat, ne_eq, sto, ldn, ld1, beq_self_eq_true, al_22, al_3, al_43, al_46, al_48, fa_48_1, fa_48_2, fa_48_3, fa_48_4, fa_48_5, ix_22, ix_46, len_22, len_46, X_dRight_16, X_dRight_17, X_dRight_18, X_dRight_19, X_dRight_20, X_dRight_21, X_dRight_22, X_dRight_23, X_dRight_24, X_dRight_25, X_dRight_26, X_dRight_27, pn, cn, cl, c1, c2, c3, c4, c5]; rfl
  by_cases c6 : f.frame < 0
  · simp -implicitDefEqProofs only [EE, cond_true, cond_false, nth, ↓nw, Value.cells, ↓BK, setMany, if_true, if_false, Nat.reduceAdd, Nat.reduceLeDiff, Nat.reduceMul, Nat.reduceMod, Nat.reduceDiv, Nat.reduceSub, Nat.reduceEqDiff, Int.reduceEq, Int.reduceLT, Int.reduceLE, Int.reduceAdd, Int.reduceSub, Int.reduceMul, Int.reduceNeg, Int.reduceToNat, ne_eq, sto, ldn, ld1, beq_self_eq_true, al_22, al_3, al_43, al_46, al_48, fa_48_1, fa_48_2, fa_48_3, fa_48_4, fa_48_5, ix_22, ix_46, len_22, len_46, X_dRight_16, X_dRight_17, X_dRight_18, X_dRight_19, X_dRight_20, X_dRight_21, X_dRight_22, X_dRight_23, X_dRight_24, X_dRight_25, X_dRight_26, X_dRight_27, pn, cn, cl, c1, c2, c3, c4, c5, c6]; rfl
  by_cases c7 : 65536 < f.frame
  · simp -implicitDefEqProofs only [EE, cond_true, cond_false, nth, ↓nw, Value.cells, ↓BK, setMany, if_true, if_false, Nat.reduceAdd, Nat.reduceLeDiff, Nat.reduceMul, Nat.reduceMod, Nat.reduceDiv, Nat.reduceSub, Nat.reduceEqDiff, Int.reduceEq, Int.reduceLT, Int.reduceLE, Int.reduceAdd, Int.reduceSub, Int.reduceMul, Int.reduceNeg, Int.reduceToNat, ne_eq, sto, ldn, ld1, beq_self_eq_true, al_22, al_3, al_43, al_46, al_48, fa_48_1, fa_48_2, fa_48_3, fa_48_4, fa_48_5, ix_22, ix_46, len_22, len_46, X_dRight_16, X_dRight_17, X_dRight_18, X_dRight_19, X_dRight_20, X_dRight_21, X_dRight_22, X_dRight_23, X_dRight_24, X_dRight_25, X_dRight_26, X_dRight_27, pn, cn, cl, c1, c2, c3, c4, c5, c6, c7]; rfl
  simp -implicitDefEqProofs only [EE, cond_true, cond_false, nth, ↓nw, Value.cells, ↓BK, setMany, if_true, if_false, Nat.reduceAdd, Nat.reduceLeDiff, Nat.reduceMul, Nat.reduceMod, Nat.reduceDiv, Nat.reduceSub, Nat.reduceEqDiff, Int.reduceEq, Int.reduceLT, Int.reduceLE, Int.reduceAdd, Int.reduceSub, Int.reduceMul, Int.reduceNeg, Int.reduceToNat, ne_eq, sto, ldn, ld1, beq_self_eq_true, al_22, al_3, al_43, al_46, al_48, fa_48_1, fa_48_2, fa_48_3, fa_48_4, fa_48_5, ix_22, ix_46, len_22, len_46, X_dRight_16, X_dRight_17, X_dRight_18, X_dRight_19, X_dRight_20, X_dRight_21, X_dRight_22, X_dRight_23, X_dRight_24, X_dRight_25, X_dRight_26, X_dRight_27, pn, cn, cl, c1, c2, c3, c4, c5, c6, c7]
  exact fin _
end Go.Rtl
namespace Go.Rtl
open Go.Ai Go.Proofs
set_option linter.unusedVariables false
set_option linter.unusedSimpArgs false
set_option maxRecDepth 10000
def globB (g : Int) : Bool := !decide (g < 0) && !decide (65536 < g)
def parsAt (p : Pg) (k : Int) : Int := match p.funcs[k.toNat]? with
  | some f => f.params.length
  | none => 0
def callOk (p : Pg) (c : Ins) : Bool := !decide (c.op = 10) || (withinB c.sub p.funcs.length && decide (parsAt p c.sub = c.args.length))
def glOk (p : Pg) (c : Ins) : Bool := !decide (c.op = 8) || (withinB c.sub p.globals.length && (!decide (c.k < 0) && !decide (p.globals.getD c.sub.toNat 0 < c.k)))
def insP (p : Pg) (c : Ins) : Bool := callOk p c && glOk p c
def sizesP (p : Pg) : Bool := !decide ((200 : Int) < p.globals.length) && (!decide ((100 : Int) < p.funcs.length) && (!decide (p.main < 0) && !decide ((p.funcs.length : Int) ≤ p.main)))
def dGoodB (p : Pg) : Bool := sizesP p && (p.globals.all globB && p.funcs.all fun f => dRightB f && f.code.all (insP p))
abbrev fcells (f : Fn) : AObj := .cells [.string f.nm, f.pv, .int .i64 f.regs, .int .i64 f.frame, .int .i64 f.entry, f.cv] 48
abbrev xcells (x : Ins) : AObj := .cells [.int .i64 x.op, .int .i64 x.sub, .int .i64 x.a, .int .i64 x.b, .int .i64 x.d, .int .i64 x.k, x.av, .int .i64 x.s, .int .i64 x.t] 43
abbrev pcells (p : Pg) : AObj := .cells [p.gv, p.fv, .int .i64 p.main] 25
theorem mem_of {α : Type} {l : List α} {k : Nat} {x : α} (h : l[k]? = some x) : x ∈ l := List.mem_of_getElem? h
theorem nat_of {n : Int} (h : ¬ n < 0) : ((n.toNat : Nat) : Int) = n := by omega
section
variable {h : AHeap} {b1 b5 : Nat} {p : Pg} {f : Fn} {x : Ins} {vs : List Value} {B : Bool}
theorem dg38 (P : PgOk h p) (F : FnOk h f) (hro : h.ro ≤ h.next) (hb : b1 < h.next) (hg : h.get b1 = some (pcells p)) (hb5 : b5 < h.next) (hg5 : h.get b5 = some (fcells f)) {i : Nat} (hx : f.code[i]? = some x) {v0 : Value} {J : List Value → AHeap → Prop}
    (hB : insP p x = false → B = false) (hJ : ∀ h', insP p x = true → Old h h' → J [v0] h') : X_dGood_38 (.pointer (some ⟨b5, 0, none⟩)) h [v0, .int .i64 (i : Nat)] (.pointer (some ⟨b1, 0, none⟩)) (isB B) J := by
  have hm := mem_of hx
  have cn := F.code.nob
  have I := F.ins x hm
  have an := I.args.nob
  have ac := I.args.cok
  obtain ⟨b, o, c, t, ha, hbb, hgt, hle, htk, _⟩ := F.code.at46 (i := i) (r := x.row) (by rw [List.getElem?_map, hx]; rfl) rfl
  have bad : insP p x = false → isB B (.bool false) h := fun q => by rw [hB q]; rfl
  simp -implicitDefEqProofs only [EE, cond_true, cond_false, nth, ↓nw, Value.cells, ↓BK, setMany, if_true, if_false, Nat.reduceAdd, Nat.reduceLeDiff, Nat.reduceMul, Nat.reduceMod, Nat.reduceDiv, Nat.reduceSub, Nat.reduceEqDiff, Int.reduceEq, Int.reduceLT, Int.reduceLE, Int.reduceAdd, Int.reduceSub, Int.reduceMul, Int.reduceNeg, Int.reduceToNat, ne_eq, sto, ldn, ld1, beq_self_eq_true, al_2, al_22, al_23, al_3, al_43, al_46, al_48, as_43, as_48, az_43, az_48, fa_25_0, fa_25_1, fa_25_2, fa_43_0, fa_43_1, fa_43_5, fa_43_6, fa_48_1, fa_48_5, ix_22, ix_23, ix_46, len_22, len_23, len_46, X_dGood_38, hg5, cn, ha, hgt, hle, htk, an, ac, az_43, hro]
  generalize hH : (AHeap.push h _).set h.next _ = H
  have e : Old h H := by subst hH; exact (Old.push h _).set (Nat.le_refl _) _
  have g7 : H.get h.next = some (xcells x) := by subst hH; exact get_set_self
  have g1 := e.got hb hg
  clear hH
  have PH := P.old e
  have fn := PH.funcs.nob
  have fl := PH.funcs.len23 3 H
  rw [List.length_map] at fl
  have gn := PH.globals.nob
  have gl := PH.globals.len22 3 H
  have al := (I.args.old e).len22 3 H
  have fin : insP p x = true → J [v0] H := fun q => hJ H q e
  have bad' : insP p x = false → isB B (.bool false) H := bad
  unfold insP callOk glOk at fin bad'
  by_cases c10 : x.op = 10
  · have c8 : ¬ x.op = 8 := by omega
    by_cases s0 : x.sub < 0
    · simp -implicitDefEqProofs only [EE, cond_true, cond_false, nth, ↓nw, Value.cells, ↓BK, setMany, if_true, if_false, Nat.reduceAdd, Nat.reduceLeDiff, Nat.reduceMul, Nat.reduceMod, Nat.reduceDiv, Nat.reduceSub, Nat.reduceEqDiff, Int.reduceEq, Int.reduceLT, Int.reduceLE, Int.reduceAdd, Int.reduceSub, Int.reduceMul, Int.reduceNeg, Int.reduceToNat, ne_eq, sto, ldn, ld1, beq_self_eq_true, al_2, al_22, al_23, al_3, al_43, al_46, al_48, as_43, as_48, az_43, az_48, fa_25_0, fa_25_1, fa_25_2, fa_43_0, fa_43_1, fa_43_5, fa_43_6, fa_48_1, fa_48_5, ix_22, ix_23, ix_46, len_22, len_23, len_46, X_dGood_8, X_dGood_9, X_dGood_10, X_dGood_11, X_dGood_12, X_dGood_13, X_dGood_14, X_dGood_15, X_dGood_16, X_dGood_17, X_dGood_18, X_dGood_19, X_dGood_20, X_dGood_21, X_dGood_22, X_dGood_23, X_dGood_24, X_dGood_25, X_dGood_26, X_dGood_27, X_dGood_28, X_dGood_29, X_dGood_30, X_dGood_31, X_dGood_32, X_dGood_33, X_dGood_34, X_dGood_35, X_dGood_36, X_dGood_37, X_dGood_38, g7, c10, s0]
      exact bad' (by rw [within_no (.inl s0)]; simp [c10])
    by_cases s1 : (p.funcs.length : Int) ≤ x.sub
    · simp -implicitDefEqProofs only [EE, cond_true, cond_false, nth, ↓nw, Value.cells, ↓BK, setMany, if_true, if_false, Nat.reduceAdd, Nat.reduceLeDiff, Nat.reduceMul, Nat.reduceMod, Nat.reduceDiv, Nat.reduceSub, Nat.reduceEqDiff, Int.reduceEq, Int.reduceLT, Int.reduceLE, Int.reduceAdd, Int.reduceSub, Int.reduceMul, Int.reduceNeg, Int.reduceToNat, ne_eq, sto, ldn, ld1, beq_self_eq_true, al_2, al_22, al_23, al_3, al_43, al_46, al_48, as_43, as_48, az_43, az_48, fa_25_0, fa_25_1, fa_25_2, fa_43_0, fa_43_1, fa_43_5, fa_43_6, fa_48_1, fa_48_5, ix_22, ix_23, ix_46, len_22, len_23, len_46, X_dGood_8, X_dGood_9, X_dGood_10, X_dGood_11, X_dGood_12, X_dGood_13, X_dGood_14, X_dGood_15, X_dGood_16, X_dGood_17, X_dGood_18, X_dGood_19, X_dGood_20, X_dGood_21, X_dGood_22, X_dGood_23, X_dGood_24, X_dGood_25, X_dGood_26, X_dGood_27, X_dGood_28, X_dGood_29, X_dGood_30, X_dGood_31, X_dGood_32, X_dGood_33, X_dGood_34, X_dGood_35, X_dGood_36, X_dGood_37, X_dGood_38, g1, g7, fn, fl, c10, s0, s1]
      exact bad' (by rw [within_no (.inr s1)]; simp [c10])
    obtain ⟨g, hgf, hgm⟩ := get_some (l := p.funcs) (k := x.sub.toNat) (by omega)
    obtain ⟨b', o', c', t', ha', hbb', hgt', hle', htk', hk'⟩ := PH.funcs.at23 (i := x.sub.toNat) (r := g.row) (by rw [List.getElem?_map, hgf]; rfl) rfl
    rw [nat_of s0] at ha'
    have hk1 : c'[o' + 1]? = some g.pv := hk' 1 (by omega)
    have pn := (PH.fns g hgm).params.nob
    have pl := (PH.fns g hgm).params.len22 3 H
    have hpa : parsAt p x.sub = g.params.length := by simp only [parsAt, hgf]
    by_cases s2 : (g.params.length : Int) = x.args.length
    · simp -implicitDefEqProofs only [EE, cond_true, cond_false, nth, ↓nw, Value.cells, ↓BK, setMany, if_true, if_false, Nat.reduceAdd, Nat.reduceLeDiff, Nat.reduceMul, Nat.reduceMod, Nat.reduceDiv, Nat.reduceSub, Nat.reduceEqDiff, Int.reduceEq, Int.reduceLT, Int.reduceLE, Int.reduceAdd, Int.reduceSub, Int.reduceMul, Int.reduceNeg, Int.reduceToNat, ne_eq, sto, ldn, ld1, beq_self_eq_true, al_2, al_22, al_23, al_3, al_43, al_46, al_48, as_43, as_48, az_43, az_48, fa_25_0, fa_25_1, fa_25_2, fa_43_0, fa_43_1, fa_43_5, fa_43_6, fa_48_1, fa_48_5, ix_22, ix_23, ix_46, len_22, len_23, len_46, X_dGood_8, X_dGood_9, X_dGood_10, X_dGood_11, X_dGood_12, X_dGood_13, X_dGood_14, X_dGood_15, X_dGood_16, X_dGood_17, X_dGood_18, X_dGood_19, X_dGood_20, X_dGood_21, X_dGood_22, X_dGood_23, X_dGood_24, X_dGood_25, X_dGood_26, X_dGood_27, X_dGood_28, X_dGood_29, X_dGood_30, X_dGood_31, X_dGood_32, X_dGood_33, X_dGood_34, X_dGood_35, X_dGood_36, X_dGood_37, X_dGood_38, g1, g7, fn, fl, an, al, ha', hgt', hk1, pn, pl, c10, s0, s1, s2]
      exact fin (by rw [within_yes s0 s1, hpa]; simp [c10, s2])
    · simp -implicitDefEqProofs only [EE, cond_true, cond_false, nth, ↓nw, Value.cells, ↓BK, setMany, if_true, if_false, Nat.reduceAdd, Nat.reduceLeDiff, Nat.reduceMul, Nat.reduceMod, Nat.reduceDiv, Nat.reduceSub, Nat.reduceEqDiff, Int.reduceEq, Int.reduceLT, Int.reduceLE, Int.reduceAdd, Int.reduceSub, Int.reduceMul, Int.reduceNeg, Int.reduceToNat, ne_eq, sto, ldn, ld1, beq_self_eq_true, al_2, al_22, al_23, al_3, al_43, al_46, al_48, as_43, as_48, az_43, az_48, fa_25_0, fa_25_1, fa_25_2, fa_43_0, fa_43_1, fa_43_5, fa_43_6, fa_48_1, fa_48_5, ix_22, ix_23, ix_46, len_22, len_23, len_46, X_dGood_8, X_dGood_9, X_dGood_10, X_dGood_11, X_dGood_12, X_dGood_13, X_dGood_14, X_dGood_15, X_dGood_16, X_dGood_17, X_dGood_18, X_dGood_19, X_dGood_20, X_dGood_21, X_dGood_22, X_dGood_23, X_dGood_24, X_dGood_25, X_dGood_26, X_dGood_27, X_dGood_28, X_dGood_29, X_dGood_30, X_dGood_31, X_dGood_32, X_dGood_33, X_dGood_34, X_dGood_35, X_dGood_36, X_dGood_37, X_dGood_38, g1, g7, fn, fl, an, al, ha', hgt', hk1, pn, pl, c10, s0, s1, s2]
      exact bad' (by rw [within_yes s0 s1, hpa]; simp [c10, s2])
  by_cases c8 : x.op = 8
  · by_cases s0 : x.sub < 0
    · simp -implicitDefEqProofs only [EE, cond_true, cond_false, nth, ↓nw, Value.cells, ↓BK, setMany, if_true, if_false, Nat.reduceAdd, Nat.reduceLeDiff, Nat.reduceMul, Nat.reduceMod, Nat.reduceDiv, Nat.reduceSub, Nat.reduceEqDiff, Int.reduceEq, Int.reduceLT, Int.reduceLE, Int.reduceAdd, Int.reduceSub, Int.reduceMul, Int.reduceNeg, Int.reduceToNat, ne_eq, sto, ldn, ld1, beq_self_eq_true, al_2, al_22, al_23, al_3, al_43, al_46, al_48, as_43, as_48, az_43, az_48, fa_25_0, fa_25_1, fa_25_2, fa_43_0, fa_43_1, fa_43_5, fa_43_6, fa_48_1, fa_48_5, ix_22, ix_23, ix_46, len_22, len_23, len_46, X_dGood_8, X_dGood_9, X_dGood_10, X_dGood_11, X_dGood_12, X_dGood_13, X_dGood_14, X_dGood_15, X_dGood_16, X_dGood_17, X_dGood_18, X_dGood_19, X_dGood_20, X_dGood_21, X_dGood_22, X_dGood_23, X_dGood_24, X_dGood_25, X_dGood_26, X_dGood_27, X_dGood_28, X_dGood_29, X_dGood_30, X_dGood_31, X_dGood_32, X_dGood_33, X_dGood_34, X_dGood_35, X_dGood_36, X_dGood_37, X_dGood_38, g7, c10, c8, s0]
      exact bad' (by rw [within_no (m := p.globals.length) (.inl s0)]; simp [c8])
    by_cases s1 : (p.globals.length : Int) ≤ x.sub
    · simp -implicitDefEqProofs only [EE, cond_true, cond_false, nth, ↓nw, Value.cells, ↓BK, setMany, if_true, if_false, Nat.reduceAdd, Nat.reduceLeDiff, Nat.reduceMul, Nat.reduceMod, Nat.reduceDiv, Nat.reduceSub, Nat.reduceEqDiff, Int.reduceEq, Int.reduceLT, Int.reduceLE, Int.reduceAdd, Int.reduceSub, Int.reduceMul, Int.reduceNeg, Int.reduceToNat, ne_eq, sto, ldn, ld1, beq_self_eq_true, al_2, al_22, al_23, al_3, al_43, al_46, al_48, as_43, as_48, az_43, az_48, fa_25_0, fa_25_1, fa_25_2, fa_43_0, fa_43_1, fa_43_5, fa_43_6, fa_48_1, fa_48_5, ix_22, ix_23, ix_46, len_22, len_23, len_46, X_dGood_8, X_dGood_9, X_dGood_10, X_dGood_11, X_dGood_12, X_dGood_13, X_dGood_14, X_dGood_15, X_dGood_16, X_dGood_17, X_dGood_18, X_dGood_19, X_dGood_20, X_dGood_21, X_dGood_22, X_dGood_23, X_dGood_24, X_dGood_25, X_dGood_26, X_dGood_27, X_dGood_28, X_dGood_29, X_dGood_30, X_dGood_31, X_dGood_32, X_dGood_33, X_dGood_34, X_dGood_35, X_dGood_36, X_dGood_37, X_dGood_38, g1, g7, gn, gl, c10, c8, s0, s1]
      exact bad' (by rw [within_no (.inr s1)]; simp [c8])
    by_cases s2 : x.k < 0
    · simp -implicitDefEqProofs only [EE, cond_true, cond_false, nth, ↓nw, Value.cells, ↓BK, setMany, if_true, if_false, Nat.reduceAdd, Nat.reduceLeDiff, Nat.reduceMul, Nat.reduceMod, Nat.reduceDiv, Nat.reduceSub, Nat.reduceEqDiff, Int.reduceEq, Int.reduceLT, Int.reduceLE, Int.reduceAdd, Int.reduceSub, Int.reduceMul, Int.reduceNeg, Int.reduceToNat, ne_eq, sto, ldn, ld1, beq_self_eq_true, al_2, al_22, al_23, al_3, al_43, al_46, al_48, as_43, as_48, az_43, az_48, fa_25_0, fa_25_1, fa_25_2, fa_43_0, fa_43_1, fa_43_5, fa_43_6, fa_48_1, fa_48_5, ix_22, ix_23, ix_46, len_22, len_23, len_46, X_dGood_8, X_dGood_9, X_dGood_10, X_dGood_11, X_dGood_12, X_dGood_13, X_dGood_14, X_dGood_15, X_dGood_16, X_dGood_17, X_dGood_18, X_dGood_19, X_dGood_20, X_dGood_21, X_dGood_22, X_dGood_23, X_dGood_24, X_dGood_25, X_dGood_26, X_dGood_27, X_dGood_28, X_dGood_29, X_dGood_30, X_dGood_31, X_dGood_32, X_dGood_33, X_dGood_34, X_dGood_35, X_dGood_36, X_dGood_37, X_dGood_38, g1, g7, gn, gl, c10, c8, s0, s1, s2]
      exact bad' (by rw [within_yes s0 s1]; simp [c8, s2])
    obtain ⟨z, hz, _⟩ := get_some (l := p.globals) (k := x.sub.toNat) (by omega)
    obtain ⟨b', o', c', t', ha', hbb', hgt', hco'⟩ := PH.globals.at hz
    rw [nat_of s0] at ha'
    have hgd := getD_of hz
    by_cases s3 : z < x.k
    · simp -implicitDefEqProofs only [EE, cond_true, cond_false, nth, ↓nw, Value.cells, ↓BK, setMany, if_true, if_false, Nat.reduceAdd, Nat.reduceLeDiff, Nat.reduceMul, Nat.reduceMod, Nat.reduceDiv, Nat.reduceSub, Nat.reduceEqDiff, Int.reduceEq, Int.reduceLT, Int.reduceLE, Int.reduceAdd, Int.reduceSub, Int.reduceMul, Int.reduceNeg, Int.reduceToNat, ne_eq, sto, ldn, ld1, beq_self_eq_true, al_2, al_22, al_23, al_3, al_43, al_46, al_48, as_43, as_48, az_43, az_48, fa_25_0, fa_25_1, fa_25_2, fa_43_0, fa_43_1, fa_43_5, fa_43_6, fa_48_1, fa_48_5, ix_22, ix_23, ix_46, len_22, len_23, len_46, X_dGood_8, X_dGood_9, X_dGood_10, X_dGood_11, X_dGood_12, X_dGood_13, X_dGood_14, X_dGood_15, X_dGood_16, X_dGood_17, X_dGood_18, X_dGood_19, X_dGood_20, X_dGood_21, X_dGood_22, X_dGood_23, X_dGood_24, X_dGood_25, X_dGood_26, X_dGood_27, X_dGood_28, X_dGood_29, X_dGood_30, X_dGood_31, X_dGood_32, X_dGood_33, X_dGood_34, X_dGood_35, X_dGood_36, X_dGood_37, X_dGood_38, g1, g7, gn, gl, ha', hgt', hco', c10, c8, s0, s1, s2, s3]
      exact bad' (by rw [within_yes s0 s1, hgd]; simp [c8, s3])
    · simp -implicitDefEqProofs only [EE, cond_true, cond_false, nth, ↓nw, Value.cells, ↓BK, setMany, if_true, if_false, Nat.reduceAdd, Nat.reduceLeDiff, Nat.reduceMul, Nat.reduceMod, Nat.reduceDiv, Nat.reduceSub, Nat.reduceEqDiff, Int.reduceEq, Int.reduceLT, Int.reduceLE, Int.reduceAdd, Int.reduceSub, Int.reduceMul, Int.reduceNeg, Int.reduceToNat, ne_eq, sto, ldn, ld1, beq_self_eq_true, al_2, al_22, al_23, al_3, al_43, al_46, al_48, as_43, as_48, az_43, az_48, fa_25_0, fa_25_1, fa_25_2, fa_43_0, fa_43_1, fa_43_5, fa_43_6, fa_48_1, fa_48_5, ix_22, ix_23, ix_46, len_22, len_23, len_46, X_dGood_8, X_dGood_9, X_dGood_10, X_dGood_11, X_dGood_12, X_dGood_13, X_dGood_14, X_dGood_15, X_dGood_16, X_dGood_17, X_dGood_18, X_dGood_19, X_dGood_20, X_dGood_21, X_dGood_22, X_dGood_23, X_dGood_24, X_dGood_25, X_dGood_26, X_dGood_27, X_dGood_28, X_dGood_29, X_dGood_30, X_dGood_31, X_dGood_32, X_dGood_33, X_dGood_34, X_dGood_35, X_dGood_36, X_dGood_37, X_dGood_38, g1, g7, gn, gl, ha', hgt', hco', c10, c8, s0, s1, s2, s3]
      exact fin (by rw [within_yes s0 s1, hgd]; simp [c8, s2, s3])
  simp -implicitDefEqProofs only [EE, cond_true, cond_false, nth, ↓nw, Value.cells, ↓BK, setMany, if_true, if_false, Nat.reduceAdd, Nat.reduceLeDiff, Nat.reduceMul, Nat.reduceMod, Nat.reduceDiv, Nat.reduceSub, Nat.reduceEqDiff, Int.reduceEq, Int.reduceLT, Int.reduceLE, Int.reduceAdd, Int.reduceSub, Int.reduceMul, Int.reduceNeg, Int.reduceToNat, ne_eq, sto, ldn, ld1, beq_self_eq_true, al_2, al_22, al_23, al_3, al_43, al_46, al_48, as_43, as_48, az_43, az_48, fa_25_0, fa_25_1, fa_25_2, fa_43_0, fa_43_1, fa_43_5, fa_43_6, fa_48_1, fa_48_5, ix_22, ix_23, ix_46, len_22, len_23, len_46, X_dGood_8, X_dGood_9, X_dGood_10, X_dGood_11, X_dGood_12, X_dGood_13, X_dGood_14, X_dGood_15, X_dGood_16, X_dGood_17, X_dGood_18, X_dGood_19, X_dGood_20, X_dGood_21, X_dGood_22, X_dGood_23, X_dGood_24, X_dGood_25, X_dGood_26, X_dGood_27, X_dGood_28, X_dGood_29, X_dGood_30, X_dGood_31, X_dGood_32, X_dGood_33, X_dGood_34, X_dGood_35, X_dGood_36, X_dGood_37, X_dGood_38, g7, c10, c8]
  exact fin (by simp [c10, c8])
/-- The loops of a program. -/
theorem dg44 (P : PgOk h p) (hro : h.ro ≤ h.next) (hb : b1 < h.next) (hg : h.get b1 = some (pcells p)) (hB : B = p.funcs.all fun f => dRightB f && f.code.all (insP p)) :
    LP (X_dGood_44 (.pointer (some ⟨b1, 0, none⟩)) (fun _ h65 => isB B (.bool true) h65) (isB B)) [(nth vs 0), (.int .i64 0)] h := by
  refine LP_up2 (lo := h) p.funcs.length (atB p.funcs fun f => dRightB f && f.code.all (insP p)) (.refl h) ?_
  intro i h2 J hi e2 hq hJ
  have g2 := e2.got hb hg
  have P2 := P.old e2
  have fn := P2.funcs.nob
  have fl := P2.funcs.len23 3 h2
  rw [List.length_map] at fl
  have hro2 : h2.ro ≤ h2.next := by rw [e2.ro]; exact Nat.le_trans hro e2.next
  rcases Nat.lt_or_ge i p.funcs.length with hlt | hge
  · obtain ⟨f, hf, hm⟩ := get_some hlt
    obtain ⟨b, o, c, t, ha, hbb, hgt, hle, htk, _⟩ := P2.funcs.at23 (i := i) (r := f.row) (by rw [List.getElem?_map, hf]; rfl) rfl
    have hlt' : (i : Int) < (p.funcs.length : Int) := by omega
    have hinc : IntKind.wrap .i64 ((i : Int) + 1) = ((i + 1 : Nat) : Int) := inc (by have := P.ffew; omega)
    have F2 := P2.fns f hm
    have pn := F2.params.nob
    have pc := F2.params.cok
    have cn := F2.code.nob
    have cc := F2.code.cok
    simp -implicitDefEqProofs only [EE, cond_true, cond_false, nth, ↓nw, Value.cells, ↓BK, setMany, if_true, if_false, Nat.reduceAdd, Nat.reduceLeDiff, Nat.reduceMul, Nat.reduceMod, Nat.reduceDiv, Nat.reduceSub, Nat.reduceEqDiff, Int.reduceEq, Int.reduceLT, Int.reduceLE, Int.reduceAdd, Int.reduceSub, Int.reduceMul, Int.reduceNeg, Int.reduceToNat, ne_eq, sto, ldn, ld1, beq_self_eq_true, al_2, al_22, al_23, al_3, al_43, al_46, al_48, as_43, as_48, az_43, az_48, fa_25_0, fa_25_1, fa_25_2, fa_43_0, fa_43_1, fa_43_5, fa_43_6, fa_48_1, fa_48_5, ix_22, ix_23, ix_46, len_22, len_23, len_46, X_dGood_42, X_dGood_43, X_dGood_44, g2, fn, fl, hlt', ha, hgt, hle, htk, pn, pc, cn, cc, az_48, hro2]
    generalize hH : (AHeap.push h2 _).set h2.next _ = H
    have e3 : Old h2 H := by subst hH; exact (Old.push h2 _).set (Nat.le_refl _) _
    have g5 : H.get h2.next = some (fcells f) := by subst hH; exact get_set_self
    have n5 : h2.next < H.next := by subst hH; exact Nat.lt_succ_self _
    have roH : H.ro ≤ H.next := by rw [e3.ro]; exact Nat.le_trans hro2 e3.next
    clear hH
    have FH := F2.old e3
    simp -implicitDefEqProofs only [EE, cond_true, cond_false, nth, ↓nw, Value.cells, ↓BK, setMany, if_true, if_false, Nat.reduceAdd, Nat.reduceLeDiff, Nat.reduceMul, Nat.reduceMod, Nat.reduceDiv, Nat.reduceSub, Nat.reduceEqDiff, Int.reduceEq, Int.reduceLT, Int.reduceLE, Int.reduceAdd, Int.reduceSub, Int.reduceMul, Int.reduceNeg, Int.reduceToNat, ne_eq, sto, ldn, ld1, beq_self_eq_true, g5]
    refine callV_q (by kernel_rfl) (by simp -implicitDefEqProofs only [EE, cond_true, cond_false, nth, ↓nw, Value.cells, ↓BK, setMany, if_true, if_false, Nat.reduceAdd, Nat.reduceLeDiff, Nat.reduceMul, Nat.reduceMod, Nat.reduceDiv, Nat.reduceSub, Nat.reduceEqDiff, Int.reduceEq, Int.reduceLT, Int.reduceLE, Int.reduceAdd, Int.reduceSub, Int.reduceMul, Int.reduceNeg, Int.reduceToNat, ne_eq, sto, ldn, ld1, beq_self_eq_true]) (dRight_q f H FH) ?_
    cases hR : dRightB f with
    | false =>
      simp -implicitDefEqProofs only [EE, cond_true, cond_false, nth, ↓nw, Value.cells, ↓BK, setMany, if_true, if_false, Nat.reduceAdd, Nat.reduceLeDiff, Nat.reduceMul, Nat.reduceMod, Nat.reduceDiv, Nat.reduceSub, Nat.reduceEqDiff, Int.reduceEq, Int.reduceLT, Int.reduceLE, Int.reduceAdd, Int.reduceSub, Int.reduceMul, Int.reduceNeg, Int.reduceToNat, ne_eq, sto, ldn, ld1, beq_self_eq_true, al_2, al_22, al_23, al_3, al_43, al_46, al_48, as_43, as_48, az_43, az_48, fa_25_0, fa_25_1, fa_25_2, fa_43_0, fa_43_1, fa_43_5, fa_43_6, fa_48_1, fa_48_5, ix_22, ix_23, ix_46, len_22, len_23, len_46, X_dGood_41]
      rw [hB, not_all (B := fun f => dRightB f && f.code.all (insP p)) hf (by rw [hR]; rfl)]; rfl
    | true =>
      simp -implicitDefEqProofs only [EE, cond_true, cond_false, nth, ↓nw, Value.cells, ↓BK, setMany, if_true, if_false, Nat.reduceAdd, Nat.reduceLeDiff, Nat.reduceMul, Nat.reduceMod, Nat.reduceDiv, Nat.reduceSub, Nat.reduceEqDiff, Int.reduceEq, Int.reduceLT, Int.reduceLE, Int.reduceAdd, Int.reduceSub, Int.reduceMul, Int.reduceNeg, Int.reduceToNat, ne_eq, sto, ldn, ld1, beq_self_eq_true, al_2, al_22, al_23, al_3, al_43, al_46, al_48, as_43, as_48, az_43, az_48, fa_25_0, fa_25_1, fa_25_2, fa_43_0, fa_43_1, fa_43_5, fa_43_6, fa_48_1, fa_48_5, ix_22, ix_23, ix_46, len_22, len_23, len_46, X_dGood_41]
      refine LP_up2 (lo := H) f.code.length (atB f.code (insP p)) (.refl H) ?_
      intro k h3 J3 hk e4 hq3 hJ3
      have g53 := e4.got n5 g5
      have F3 := FH.old e4
      have P3 := P2.old (e3.trans e4)
      have g3 := (e2.trans (e3.trans e4)).got hb hg
      have cn3 := F3.code.nob
      have cl3 := F3.code.len46 3 h3
      rw [List.length_map] at cl3
      have hro3 : h3.ro ≤ h3.next := by rw [e4.ro]; exact Nat.le_trans roH e4.next
      rcases Nat.lt_or_ge k f.code.length with hlk | hgk
      · obtain ⟨x, hx, hmx⟩ := get_some hlk
        have hlk' : (k : Int) < (f.code.length : Int) := by omega
        have hinc3 : IntKind.wrap .i64 ((k : Int) + 1) = ((k + 1 : Nat) : Int) := inc (by have := F2.cfew; omega)
        simp -implicitDefEqProofs only [EE, cond_true, cond_false, nth, ↓nw, Value.cells, ↓BK, setMany, if_true, if_false, Nat.reduceAdd, Nat.reduceLeDiff, Nat.reduceMul, Nat.reduceMod, Nat.reduceDiv, Nat.reduceSub, Nat.reduceEqDiff, Int.reduceEq, Int.reduceLT, Int.reduceLE, Int.reduceAdd, Int.reduceSub, Int.reduceMul, Int.reduceNeg, Int.reduceToNat, ne_eq, sto, ldn, ld1, beq_self_eq_true, al_2, al_22, al_23, al_3, al_43, al_46, al_48, as_43, as_48, az_43, az_48, fa_25_0, fa_25_1, fa_25_2, fa_43_0, fa_43_1, fa_43_5, fa_43_6, fa_48_1, fa_48_5, ix_22, ix_23, ix_46, len_22, len_23, len_46, X_dGood_40, g53, cn3, cl3, hlk']
        refine dg38 P3 F3 hro3 (Nat.lt_of_lt_of_le hb (e2.trans (e3.trans e4)).next) g3 (Nat.lt_of_lt_of_le n5 e4.next) g53 hx (fun q => ?_) fun h' q e5 => ?_
        · rw [hB, not_all (B := fun f => dRightB f && f.code.all (insP p)) hf (by rw [not_all hx q, Bool.and_false])]
        · simp -implicitDefEqProofs only [EE, cond_true, cond_false, nth, ↓nw, Value.cells, ↓BK, setMany, if_true, if_false, Nat.reduceAdd, Nat.reduceLeDiff, Nat.reduceMul, Nat.reduceMod, Nat.reduceDiv, Nat.reduceSub, Nat.reduceEqDiff, Int.reduceEq, Int.reduceLT, Int.reduceLE, Int.reduceAdd, Int.reduceSub, Int.reduceMul, Int.reduceNeg, Int.reduceToNat, ne_eq, sto, ldn, ld1, beq_self_eq_true, al_2, al_22, al_23, al_3, al_43, al_46, al_48, as_43, as_48, az_43, az_48, fa_25_0, fa_25_1, fa_25_2, fa_43_0, fa_43_1, fa_43_5, fa_43_6, fa_48_1, fa_48_5, ix_22, ix_23, ix_46, len_22, len_23, len_46, X_dGood_39, hinc3]
          exact hJ3 _ hlk (by rw [atB_of hx]; exact q) (e4.trans e5)
      · have hlk' : ¬ (k : Int) < (f.code.length : Int) := by omega
        simp -implicitDefEqProofs only [EE, cond_true, cond_false, nth, ↓nw, Value.cells, ↓BK, setMany, if_true, if_false, Nat.reduceAdd, Nat.reduceLeDiff, Nat.reduceMul, Nat.reduceMod, Nat.reduceDiv, Nat.reduceSub, Nat.reduceEqDiff, Int.reduceEq, Int.reduceLT, Int.reduceLE, Int.reduceAdd, Int.reduceSub, Int.reduceMul, Int.reduceNeg, Int.reduceToNat, ne_eq, sto, ldn, ld1, beq_self_eq_true, al_2, al_22, al_23, al_3, al_43, al_46, al_48, as_43, as_48, az_43, az_48, fa_25_0, fa_25_1, fa_25_2, fa_43_0, fa_43_1, fa_43_5, fa_43_6, fa_48_1, fa_48_5, ix_22, ix_23, ix_46, len_22, len_23, len_46, X_dGood_40, X_dGood_43, g53, cn3, cl3, hlk', hinc]
        refine hJ _ hlt ?_ (e2.trans (e3.trans e4))
        rw [atB_of hf, hR, Bool.true_and]
        exact all_of_at fun k' hk' => hq3 k' (by omega)
  · have hlt' : ¬ (i : Int) < (p.funcs.length : Int) := by omega
    simp -implicitDefEqProofs only [EE, cond_true, cond_false, nth, ↓nw, Value.cells, ↓BK, setMany, if_true, if_false, Nat.reduceAdd, Nat.reduceLeDiff, Nat.reduceMul, Nat.reduceMod, Nat.reduceDiv, Nat.reduceSub, Nat.reduceEqDiff, Int.reduceEq, Int.reduceLT, Int.reduceLE, Int.reduceAdd, Int.reduceSub, Int.reduceMul, Int.reduceNeg, Int.reduceToNat, ne_eq, sto, ldn, ld1, beq_self_eq_true, al_2, al_22, al_23, al_3, al_43, al_46, al_48, as_43, as_48, az_43, az_48, fa_25_0, fa_25_1, fa_25_2, fa_43_0, fa_43_1, fa_43_5, fa_43_6, fa_48_1, fa_48_5, ix_22, ix_23, ix_46, len_22, len_23, len_46, X_dGood_44, g2, fn, fl, hlt']
    have : (p.funcs.all fun f => dRightB f && f.code.all (insP p)) = true := all_of_at fun k hk => hq k (by omega)
    rw [hB, this]; rfl
theorem dg45 (P : PgOk h p) (hro : h.ro ≤ h.next) (hb : b1 < h.next) (hg : h.get b1 = some (pcells p)) (hB : B = (p.globals.all globB && p.funcs.all fun f => dRightB f && f.code.all (insP p))) :
    X_dGood_45 (.pointer (some ⟨b1, 0, none⟩)) (isB B) vs h := by
  simp -implicitDefEqProofs only [EE, cond_true, cond_false, nth, ↓nw, Value.cells, ↓BK, setMany, if_true, if_false, Nat.reduceAdd, Nat.reduceLeDiff, Nat.reduceMul, Nat.reduceMod, Nat.reduceDiv, Nat.reduceSub, Nat.reduceEqDiff, Int.reduceEq, Int.reduceLT, Int.reduceLE, Int.reduceAdd, Int.reduceSub, Int.reduceMul, Int.reduceNeg, Int.reduceToNat, ne_eq, sto, ldn, ld1, beq_self_eq_true, al_2, al_22, al_23, al_3, al_43, al_46, al_48, as_43, as_48, az_43, az_48, fa_25_0, fa_25_1, fa_25_2, fa_43_0, fa_43_1, fa_43_5, fa_43_6, fa_48_1, fa_48_5, ix_22, ix_23, ix_46, len_22, len_23, len_46, X_dGood_45]
  refine LP_up2 (lo := h) p.globals.length (atB p.globals globB) (.refl h) ?_
  intro i h2 J hi e2 hq hJ
  have g2 := e2.got hb hg
  have P2 := P.old e2
  have gn := P2.globals.nob
  have gl := P2.globals.len22 3 h2
  rcases Nat.lt_or_ge i p.globals.length with hlt | hge
  · obtain ⟨z, hz, _⟩ := get_some hlt
    obtain ⟨b, o, c, t, ha, hbb, hgt, hco⟩ := P2.globals.at hz
    have hlt' : (i : Int) < (p.globals.length : Int) := by omega
    have hinc : IntKind.wrap .i64 ((i : Int) + 1) = ((i + 1 : Nat) : Int) := inc (by have := P.gfew; omega)
    by_cases z0 : z < 0
    · simp -implicitDefEqProofs only [EE, cond_true, cond_false, nth, ↓nw, Value.cells, ↓BK, setMany, if_true, if_false, Nat.reduceAdd, Nat.reduceLeDiff, Nat.reduceMul, Nat.reduceMod, Nat.reduceDiv, Nat.reduceSub, Nat.reduceEqDiff, Int.reduceEq, Int.reduceLT, Int.reduceLE, Int.reduceAdd, Int.reduceSub, Int.reduceMul, Int.reduceNeg, Int.reduceToNat, ne_eq, sto, ldn, ld1, beq_self_eq_true, al_2, al_22, al_23, al_3, al_43, al_46, al_48, as_43, as_48, az_43, az_48, fa_25_0, fa_25_1, fa_25_2, fa_43_0, fa_43_1, fa_43_5, fa_43_6, fa_48_1, fa_48_5, ix_22, ix_23, ix_46, len_22, len_23, len_46, X_dGood_1, X_dGood_2, X_dGood_3, X_dGood_4, X_dGood_5, X_dGood_6, X_dGood_7, g2, gn, gl, hlt', ha, hgt, hco, z0]
      rw [hB, not_all (B := globB) hz (by simp [globB, z0])]; rfl
    by_cases z1 : 65536 < z
    · simp -implicitDefEqProofs only [EE, cond_true, cond_false, nth, ↓nw, Value.cells, ↓BK, setMany, if_true, if_false, Nat.reduceAdd, Nat.reduceLeDiff, Nat.reduceMul, Nat.reduceMod, Nat.reduceDiv, Nat.reduceSub, Nat.reduceEqDiff, Int.reduceEq, Int.reduceLT, Int.reduceLE, Int.reduceAdd, Int.reduceSub, Int.reduceMul, Int.reduceNeg, Int.reduceToNat, ne_eq, sto, ldn, ld1, beq_self_eq_true, al_2, al_22, al_23, al_3, al_43, al_46, al_48, as_43, as_48, az_43, az_48, fa_25_0, fa_25_1, fa_25_2, fa_43_0, fa_43_1, fa_43_5, fa_43_6, fa_48_1, fa_48_5, ix_22, ix_23, ix_46, len_22, len_23, len_46, X_dGood_1, X_dGood_2, X_dGood_3, X_dGood_4, X_dGood_5, X_dGood_6, X_dGood_7, g2, gn, gl, hlt', ha, hgt, hco, z0, z1]
      rw [hB, not_all (B := globB) hz (by simp [globB, z1])]; rfl
    simp -implicitDefEqProofs only [EE, cond_true, cond_false, nth, ↓nw, Value.cells, ↓BK, setMany, if_true, if_false, Nat.reduceAdd, Nat.reduceLeDiff, Nat.reduceMul, Nat.reduceMod, Nat.reduceDiv, Nat.reduceSub, Nat.reduceEqDiff, Int.reduceEq, Int.reduceLT, Int.reduceLE, Int.reduceAdd, Int.reduceSub, Int.reduceMul, Int.reduceNeg, Int.reduceToNat, ne_eq, sto, ldn, ld1, beq_self_eq_true, al_2, al_22, al_23, al_3, al_43, al_46, al_48, as_43, as_48, az_43, az_48, fa_25_0, fa_25_1, fa_25_2, fa_43_0, fa_43_1, fa_43_5, fa_43_6, fa_48_1, fa_48_5, ix_22, ix_23, ix_46, len_22, len_23, len_46, X_dGood_1, X_dGood_2, X_dGood_3, X_dGood_4, X_dGood_5, X_dGood_6, X_dGood_7, g2, gn, gl, hlt', ha, hgt, hco, z0, z1, hinc]
    exact hJ _ hlt (by rw [atB_of hz]; simp only [globB, z0, z1, decide_false, Bool.not_false, Bool.and_self]) e2
  · have hlt' : ¬ (i : Int) < (p.globals.length : Int) := by omega
    simp -implicitDefEqProofs only [EE, cond_true, cond_false, nth, ↓nw, Value.cells, ↓BK, setMany, if_true, if_false, Nat.reduceAdd, Nat.reduceLeDiff, Nat.reduceMul, Nat.reduceMod, Nat.reduceDiv, Nat.reduceSub, Nat.reduceEqDiff, Int.reduceEq, Int.reduceLT, Int.reduceLE, Int.reduceAdd, Int.reduceSub, Int.reduceMul, Int.reduceNeg, Int.reduceToNat, ne_eq, sto, ldn, ld1, beq_self_eq_true, al_2, al_22, al_23, al_3, al_43, al_46, al_48, as_43, as_48, az_43, az_48, fa_25_0, fa_25_1, fa_25_2, fa_43_0, fa_43_1, fa_43_5, fa_43_6, fa_48_1, fa_48_5, ix_22, ix_23, ix_46, len_22, len_23, len_46, X_dGood_7, g2, gn, gl, hlt']
    have hp : p.globals.all globB = true := all_of_at fun k hk => hq k (by omega)
    exact dg44 (B := B) P2 (by rw [e2.ro]; exact Nat.le_trans hro e2.next) (Nat.lt_of_lt_of_le hb e2.next) g2 (by rw [hB, hp, Bool.true_and])
end
theorem dGood_q (p : Pg) (h : AHeap) (P : PgOk h p) : Quiet Tryz.prog 7 [p.val] h (.bool (dGoodB p)) := by
  apply quiet_b
  replace P := P.lock
  generalize h.lock = L at P
  apply DC_wf; intro hwf; have hro := hwf.2
  apply X_dGood_ok
  unfold X_dGood
  have gn := P.globals.nob
  have fn := P.funcs.nob
  have P1 := P.old (Old.push L (.cells p.row 25))
  have gl := P1.globals.len22 3 (L.push (.cells p.row 25))
  have fl := P1.funcs.len23 3 (L.push (.cells p.row 25))
  rw [List.length_map] at fl
  have fin : ∀ vs, X_dGood_45 (.pointer (some ⟨L.next, 0, none⟩)) (isB (p.globals.all globB && p.funcs.all fun f => dRightB f && f.code.all (insP p))) vs (L.push (.cells p.row 25)) := fun vs => dg45 P1 (Nat.le_succ_of_le hro) (Nat.lt_succ_self _) get_push_self rfl
  unfold dGoodB sizesP
  by_cases c1 : (200 : Int) < p.globals.length
  · simp -implicitDefEqProofs only [EE, cond_true, cond_false, nth, ↓nw, Value.cells, ↓BK, setMany, if_true, if_false, Nat.reduceAdd, Nat.reduceLeDiff, Nat.reduceMul, Nat.reduceMod, Nat.reduceDiv, Nat.reduceSub, Nat.reduceEqDiff, Int.reduceEq, Int.reduceLT, Int.reduceLE, Int.reduceAdd, Int.reduceSub, Int.reduceMul, Int.reduceNeg, Int.reduceToNat, ne_eq, sto, ldn, ld1, beq_self_eq_true, al_2, al_22, al_23, al_3, al_43, al_46, al_48, as_43, as_48, az_43, az_48, fa_25_0, fa_25_1, fa_25_2, fa_43_0, fa_43_1, fa_43_5, fa_43_6, fa_48_1, fa_48_5, ix_22, ix_23, ix_46, len_22, len_23, len_46, X_dGood_46, X_dGood_47, X_dGood_48, X_dGood_49, X_dGood_50, X_dGood_51, X_dGood_52, gn, fn, gl, c1]; rfl
  by_cases c2 : (100 : Int) < p.funcs.length
  · simp -implicitDefEqProofs only [EE, cond_true, cond_false, nth, ↓nw, Value.cells, ↓BK, setMany, if_true, if_false, Nat.reduceAdd, Nat.reduceLeDiff, Nat.reduceMul, Nat.reduceMod, Nat.reduceDiv, Nat.reduceSub, Nat.reduceEqDiff, Int.reduceEq, Int.reduceLT, Int.reduceLE, Int.reduceAdd, Int.reduceSub, Int.reduceMul, Int.reduceNeg, Int.reduceToNat, ne_eq, sto, ldn, ld1, beq_self_eq_true, al_2, al_22, al_23, al_3, al_43, al_46, al_48, as_43, as_48, az_43, az_48, fa_25_0, fa_25_1, fa_25_2, fa_43_0, fa_43_1, fa_43_5, fa_43_6, fa_48_1, fa_48_5, ix_22, ix_23, ix_46, len_22, len_23, len_46, X_dGood_46, X_dGood_47, X_dGood_48, X_dGood_49, X_dGood_50, X_dGood_51, X_dGood_52, gn, fn, gl, fl, c1, c2]; rfl
  by_cases c3 : p.main < 0
  · simp -implicitDefEqProofs only [EE, cond_true, cond_false, nth, ↓nw, Value.cells, ↓BK, setMany, if_true, if_false, Nat.reduceAdd, Nat.reduceLeDiff, Nat.reduceMul, Nat.reduceMod, Nat.reduceDiv, Nat.reduceSub, Nat.reduceEqDiff, Int.reduceEq, Int.reduceLT, Int.reduceLE, Int.reduceAdd, Int.reduceSub, Int.reduceMul, Int.reduceNeg, Int.reduceToNat, ne_eq, sto, ldn, ld1, beq_self_eq_true, al_2, al_22, al_23, al_3, al_43, al_46, al_48, as_43, as_48, az_43, az_48, fa_25_0, fa_25_1, fa_25_2, fa_43_0, fa_43_1, fa_43_5, fa_43_6, fa_48_1, fa_48_5, ix_22, ix_23, ix_46, len_22, len_23, len_46, X_dGood_46, X_dGood_47, X_dGood_48, X_dGood_49, X_dGood_50, X_dGood_51, X_dGood_52, gn, fn, gl, fl, c1, c2, c3]; rfl
  by_cases c4 : (p.funcs.length : Int) ≤ p.main
  · simp -implicitDefEqProofs only [EE, cond_true, cond_false, nth, ↓nw, Value.cells, ↓BK, setMany, if_true, if_false, Nat.reduceAdd, Nat.reduceLeDiff, Nat.reduceMul, Nat.reduceMod, Nat.reduceDiv, Nat.reduceSub, Nat.reduceEqDiff, Int.reduceEq, Int.reduceLT, Int.reduceLE, Int.reduceAdd, Int.reduceSub, Int.reduceMul, Int.reduceNeg, Int.reduceToNat, ne_eq, sto, ldn, ld1, beq_self_eq_true, al_2, al_22, al_23, al_3, al_43, al_46, al_48, as_43, as_48, az_43, az_48, fa_25_0, fa_25_1, fa_25_2, fa_43_0, fa_43_1, fa_43_5, fa_43_6, fa_48_1, fa_48_5, ix_22, ix_23, ix_46, len_22, len_23, len_46, X_dGood_46, X_dGood_47, X_dGood_48, X_dGood_49, X_dGood_50, X_dGood_51, X_dGood_52, gn, fn, gl, fl, c1, c2, c3, c4]; rfl
  simp -implicitDefEqProofs only [EE, cond_true, cond_false, nth, ↓nw, Value.cells, ↓BK, setMany, if_true, if_false, Nat.reduceAdd, Nat.reduceLeDiff, Nat.reduceMul, Nat.reduceMod, Nat.reduceDiv, Nat.reduceSub, Nat.reduceEqDiff, Int.reduceEq, Int.reduceLT, Int.reduceLE, Int.reduceAdd, Int.reduceSub, Int.reduceMul, Int.reduceNeg, Int.reduceToNat, ne_eq, sto, ldn, ld1, beq_self_eq_true, al_2, al_22, al_23, al_3, al_43, al_46, al_48, as_43, as_48, az_43, az_48, fa_25_0, fa_25_1, fa_25_2, fa_43_0, fa_43_1, fa_43_5, fa_43_6, fa_48_1, fa_48_5, ix_22, ix_23, ix_46, len_22, len_23, len_46, X_dGood_46, X_dGood_47, X_dGood_48, X_dGood_49, X_dGood_50, X_dGood_51, X_dGood_52, gn, fn, gl, fl, c1, c2, c3, c4]
  exact fin _
end Go.Rtl
