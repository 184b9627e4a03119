/-
  FLOWSOLVES, walked: what is good.
-/
import Derived.Test.YtogpghbigjnpnaaDoorFwJ
namespace Go.Fw
open Go.Ai Go.Proofs Go.Fl
set_option linter.unusedVariables false
set_option linter.unusedSimpArgs false
set_option maxRecDepth 10000
def okEB (n : Int) (es : List (Int × Int)) : Bool := es.all fun e => decide ((0 ≤ e.1 ∧ e.1 < n) ∧ 0 ≤ e.2 ∧ e.2 < n)
theorem okEB_take {n : Int} {es : List (Int × Int)} {i : Nat} {e : Int × Int} (he : es[i]? = some e) (h : okEB n (es.take i) = true) (hp : (0 ≤ e.1 ∧ e.1 < n) ∧ 0 ≤ e.2 ∧ e.2 < n) : okEB n (es.take (i + 1)) = true := by
  unfold okEB at *
  rw [List.take_add_one, he, List.all_append, h]
  simpa using hp
theorem okEB_not {n : Int} {es : List (Int × Int)} {i : Nat} {e : Int × Int} (he : es[i]? = some e) (hp : ¬ ((0 ≤ e.1 ∧ e.1 < n) ∧ 0 ≤ e.2 ∧ e.2 < n)) : okEB n es = false := by
  unfold okEB
  rw [List.all_eq_false]
  exact ⟨e, List.mem_of_getElem? he, by simpa using hp⟩
section
variable {lo : Low} {h : AHeap} {L : List HP} {zs out : List Int} {es : List (Int × Int)} {sv ev : Value} {n most : Int} {R : Value → AHeap → Prop} {j : List Value → AHeap → Prop} {g0 : Bool}
theorem chk1 (S : SliceI h sv zs) (hl : zs.length ≤ 1000000) (k : j [.bool (g0 && okS most zs)] h) : LP (X_FlowSolves_9 sv j (.int .i64 most)) [.bool g0, .int .i64 0] h := by
  have svn := S.nob
  have lz := fun h' => len_i S 3 h'
  refine LP_of (fun m vs h' => ∃ (i : Nat) (g : Bool), i ≤ zs.length ∧ m = zs.length - i ∧ vs = [.bool g, .int .i64 (i : Nat)] ∧ ((g = true ∧ g0 = true ∧ okS most (zs.take i) = true) ∨ (g = false ∧ (g0 && okS most zs) = false)) ∧ h' = h) zs.length ⟨0, g0, Nat.zero_le _, rfl, rfl, by cases g0 <;> simp [okS], rfl⟩ ?_
  rintro m vs h' ⟨i, g, hi, rfl, rfl, hg, rfl⟩
  unfold X_FlowSolves_9
  cases g with
  | false =>
    simp -implicitDefEqProofs only [EE, cond_true, cond_false, nth, Value.cells, ↓bk_eq, setMany, if_true, if_false, Nat.reduceAdd, Nat.reduceLeDiff, Nat.reduceMul, Nat.reduceMod, Nat.reduceDiv, Nat.reduceSub, Nat.reduceEqDiff, Int.reduceEq, Int.reduceLT, Int.reduceLE, Int.reduceAdd, Int.reduceSub, Int.reduceMul, Int.reduceNeg, Int.reduceToNat, ne_eq, rv_none, ldn, ld1, beq_self_eq_true, al_3, ap_23, as_3, bs_23_0_, co_3, ix_22, ix_23, ix_28, len_22, len_23, X_FlowSolves_6, X_FlowSolves_7, X_FlowSolves_8, svn, lz]
    have : (g0 && okS most zs) = false := by simpa using hg
    rw [this] at k; exact k
  | true =>
    obtain ⟨hg0, hok⟩ : g0 = true ∧ okS most (zs.take i) = true := by simpa using hg
    subst hg0
    by_cases hlt : (i : Int) < (zs.length : Int)
    · obtain ⟨z, hz⟩ : ∃ z, zs[i]? = some z := ⟨_, List.getElem?_eq_getElem (by omega)⟩
      obtain ⟨b1, o1, c1, t1, x1, l1, g1, e1⟩ := at_i S hz
      have hin := inc (show i < 4611686018427387904 by omega)
      by_cases q1 : 0 ≤ z
      · by_cases q2 : z ≤ most
        · simp -implicitDefEqProofs only [EE, cond_true, cond_false, nth, Value.cells, ↓bk_eq, setMany, if_true, if_false, Nat.reduceAdd, Nat.reduceLeDiff, Nat.reduceMul, Nat.reduceMod, Nat.reduceDiv, Nat.reduceSub, Nat.reduceEqDiff, Int.reduceEq, Int.reduceLT, Int.reduceLE, Int.reduceAdd, Int.reduceSub, Int.reduceMul, Int.reduceNeg, Int.reduceToNat, ne_eq, rv_none, ldn, ld1, beq_self_eq_true, al_3, ap_23, as_3, bs_23_0_, co_3, ix_22, ix_23, ix_28, len_22, len_23, X_FlowSolves_1, X_FlowSolves_2, X_FlowSolves_3, X_FlowSolves_4, X_FlowSolves_5, X_FlowSolves_6, X_FlowSolves_7, X_FlowSolves_8, svn, lz, hlt, x1, g1, e1, q1, q2, hin]
          exact ⟨zs.length - (i + 1), by omega, i + 1, true, by omega, rfl, rfl, .inl ⟨rfl, okS_take hz hok ⟨q1, q2⟩⟩⟩
        · simp -implicitDefEqProofs only [EE, cond_true, cond_false, nth, Value.cells, ↓bk_eq, setMany, if_true, if_false, Nat.reduceAdd, Nat.reduceLeDiff, Nat.reduceMul, Nat.reduceMod, Nat.reduceDiv, Nat.reduceSub, Nat.reduceEqDiff, Int.reduceEq, Int.reduceLT, Int.reduceLE, Int.reduceAdd, Int.reduceSub, Int.reduceMul, Int.reduceNeg, Int.reduceToNat, ne_eq, rv_none, ldn, ld1, beq_self_eq_true, al_3, ap_23, as_3, bs_23_0_, co_3, ix_22, ix_23, ix_28, len_22, len_23, X_FlowSolves_1, X_FlowSolves_2, X_FlowSolves_3, X_FlowSolves_4, X_FlowSolves_5, X_FlowSolves_6, X_FlowSolves_7, X_FlowSolves_8, svn, lz, hlt, x1, g1, e1, q1, q2, hin]
          exact ⟨zs.length - (i + 1), by omega, i + 1, false, by omega, rfl, rfl, .inr ⟨rfl, okS_not hz fun q => q2 q.2⟩⟩
      · simp -implicitDefEqProofs only [EE, cond_true, cond_false, nth, Value.cells, ↓bk_eq, setMany, if_true, if_false, Nat.reduceAdd, Nat.reduceLeDiff, Nat.reduceMul, Nat.reduceMod, Nat.reduceDiv, Nat.reduceSub, Nat.reduceEqDiff, Int.reduceEq, Int.reduceLT, Int.reduceLE, Int.reduceAdd, Int.reduceSub, Int.reduceMul, Int.reduceNeg, Int.reduceToNat, ne_eq, rv_none, ldn, ld1, beq_self_eq_true, al_3, ap_23, as_3, bs_23_0_, co_3, ix_22, ix_23, ix_28, len_22, len_23, X_FlowSolves_1, X_FlowSolves_2, X_FlowSolves_3, X_FlowSolves_4, X_FlowSolves_5, X_FlowSolves_6, X_FlowSolves_7, X_FlowSolves_8, svn, lz, hlt, x1, g1, e1, q1, hin]
        exact ⟨zs.length - (i + 1), by omega, i + 1, false, by omega, rfl, rfl, .inr ⟨rfl, okS_not hz fun q => q1 q.1⟩⟩
    · simp -implicitDefEqProofs only [EE, cond_true, cond_false, nth, Value.cells, ↓bk_eq, setMany, if_true, if_false, Nat.reduceAdd, Nat.reduceLeDiff, Nat.reduceMul, Nat.reduceMod, Nat.reduceDiv, Nat.reduceSub, Nat.reduceEqDiff, Int.reduceEq, Int.reduceLT, Int.reduceLE, Int.reduceAdd, Int.reduceSub, Int.reduceMul, Int.reduceNeg, Int.reduceToNat, ne_eq, rv_none, ldn, ld1, beq_self_eq_true, al_3, ap_23, as_3, bs_23_0_, co_3, ix_22, ix_23, ix_28, len_22, len_23, X_FlowSolves_6, X_FlowSolves_7, X_FlowSolves_8, svn, lz, hlt]
      have e : i = zs.length := by omega
      rw [e, List.take_length] at hok
      rw [hok] at k; exact k
theorem chk2 (E : SliceR h ev 2 (es.map evRow)) (hl : es.length ≤ 1000000) (k : j [.bool (g0 && okEB n es)] h) : LP (X_FlowSolves_25 ev j (.int .i64 n)) [.bool g0, .int .i64 0] h := by
  have evn := E.nob
  have le := fun h' => len_e E 3 h'
  refine LP_of (fun m vs h' => ∃ (i : Nat) (g : Bool), i ≤ es.length ∧ m = es.length - i ∧ vs = [.bool g, .int .i64 (i : Nat)] ∧ ((g = true ∧ g0 = true ∧ okEB n (es.take i) = true) ∨ (g = false ∧ (g0 && okEB n es) = false)) ∧ h' = h) es.length ⟨0, g0, Nat.zero_le _, rfl, rfl, by cases g0 <;> simp [okEB], rfl⟩ ?_
  rintro m vs h' ⟨i, g, hi, rfl, rfl, hg, rfl⟩
  unfold X_FlowSolves_25
  cases g with
  | false =>
    simp -implicitDefEqProofs only [EE, cond_true, cond_false, nth, Value.cells, ↓bk_eq, setMany, if_true, if_false, Nat.reduceAdd, Nat.reduceLeDiff, Nat.reduceMul, Nat.reduceMod, Nat.reduceDiv, Nat.reduceSub, Nat.reduceEqDiff, Int.reduceEq, Int.reduceLT, Int.reduceLE, Int.reduceAdd, Int.reduceSub, Int.reduceMul, Int.reduceNeg, Int.reduceToNat, ne_eq, rv_none, ldn, ld1, beq_self_eq_true, al_3, ap_23, as_3, bs_23_0_, co_3, ix_22, ix_23, ix_28, len_22, len_23, X_FlowSolves_22, X_FlowSolves_23, X_FlowSolves_24, evn, le]
    have : (g0 && okEB n es) = false := by simpa using hg
    rw [this] at k; exact k
  | true =>
    obtain ⟨hg0, hok⟩ : g0 = true ∧ okEB n (es.take i) = true := by simpa using hg
    subst hg0
    by_cases hlt : (i : Int) < (es.length : Int)
    · obtain ⟨e, he⟩ : ∃ e, es[i]? = some e := ⟨_, List.getElem?_eq_getElem (by omega)⟩
      obtain ⟨b1, o1, c1, t1, x1, l1, g1, n1, k1, a1⟩ := at_e E (i := i) (r := evRow e) (by rw [List.getElem?_map, he]; rfl) rfl
      have a0 : c1[o1]? = some (.int .i64 e.1) := a1 0 (by decide)
      have a1 : c1[o1 + 1]? = some (.int .i64 e.2) := a1 1 (by decide)
      have hin := inc (show i < 4611686018427387904 by omega)
      by_cases q1 : 0 ≤ e.1
      · by_cases q2 : e.1 < n
        · by_cases q3 : 0 ≤ e.2
          · by_cases q4 : e.2 < n
            · simp -implicitDefEqProofs only [EE, cond_true, cond_false, nth, Value.cells, ↓bk_eq, setMany, if_true, if_false, Nat.reduceAdd, Nat.reduceLeDiff, Nat.reduceMul, Nat.reduceMod, Nat.reduceDiv, Nat.reduceSub, Nat.reduceEqDiff, Int.reduceEq, Int.reduceLT, Int.reduceLE, Int.reduceAdd, Int.reduceSub, Int.reduceMul, Int.reduceNeg, Int.reduceToNat, ne_eq, rv_none, ldn, ld1, beq_self_eq_true, al_3, ap_23, as_3, bs_23_0_, co_3, ix_22, ix_23, ix_28, len_22, len_23, X_FlowSolves_10, X_FlowSolves_11, X_FlowSolves_12, X_FlowSolves_13, X_FlowSolves_14, X_FlowSolves_15, X_FlowSolves_16, X_FlowSolves_17, X_FlowSolves_18, X_FlowSolves_19, X_FlowSolves_20, X_FlowSolves_21, X_FlowSolves_22, X_FlowSolves_23, X_FlowSolves_24, evn, le, hlt, x1, g1, a0, a1, q1, q2, q3, q4, hin, Nat.mul_one]
              exact ⟨es.length - (i + 1), by omega, i + 1, true, by omega, rfl, rfl, .inl ⟨rfl, okEB_take he hok ⟨⟨q1, q2⟩, q3, q4⟩⟩⟩
            · simp -implicitDefEqProofs only [EE, cond_true, cond_false, nth, Value.cells, ↓bk_eq, setMany, if_true, if_false, Nat.reduceAdd, Nat.reduceLeDiff, Nat.reduceMul, Nat.reduceMod, Nat.reduceDiv, Nat.reduceSub, Nat.reduceEqDiff, Int.reduceEq, Int.reduceLT, Int.reduceLE, Int.reduceAdd, Int.reduceSub, Int.reduceMul, Int.reduceNeg, Int.reduceToNat, ne_eq, rv_none, ldn, ld1, beq_self_eq_true, al_3, ap_23, as_3, bs_23_0_, co_3, ix_22, ix_23, ix_28, len_22, len_23, X_FlowSolves_10, X_FlowSolves_11, X_FlowSolves_12, X_FlowSolves_13, X_FlowSolves_14, X_FlowSolves_15, X_FlowSolves_16, X_FlowSolves_17, X_FlowSolves_18, X_FlowSolves_19, X_FlowSolves_20, X_FlowSolves_21, X_FlowSolves_22, X_FlowSolves_23, X_FlowSolves_24, evn, le, hlt, x1, g1, a0, a1, q1, q2, q3, q4, hin, Nat.mul_one]
              exact ⟨es.length - (i + 1), by omega, i + 1, false, by omega, rfl, rfl, .inr ⟨rfl, okEB_not he fun q => q4 q.2.2⟩⟩
          · simp -implicitDefEqProofs only [EE, cond_true, cond_false, nth, Value.cells, ↓bk_eq, setMany, if_true, if_false, Nat.reduceAdd, Nat.reduceLeDiff, Nat.reduceMul, Nat.reduceMod, Nat.reduceDiv, Nat.reduceSub, Nat.reduceEqDiff, Int.reduceEq, Int.reduceLT, Int.reduceLE, Int.reduceAdd, Int.reduceSub, Int.reduceMul, Int.reduceNeg, Int.reduceToNat, ne_eq, rv_none, ldn, ld1, beq_self_eq_true, al_3, ap_23, as_3, bs_23_0_, co_3, ix_22, ix_23, ix_28, len_22, len_23, X_FlowSolves_10, X_FlowSolves_11, X_FlowSolves_12, X_FlowSolves_13, X_FlowSolves_14, X_FlowSolves_15, X_FlowSolves_16, X_FlowSolves_17, X_FlowSolves_18, X_FlowSolves_19, X_FlowSolves_20, X_FlowSolves_21, X_FlowSolves_22, X_FlowSolves_23, X_FlowSolves_24, evn, le, hlt, x1, g1, a0, a1, q1, q2, q3, hin, Nat.mul_one]
            exact ⟨es.length - (i + 1), by omega, i + 1, false, by omega, rfl, rfl, .inr ⟨rfl, okEB_not he fun q => q3 q.2.1⟩⟩
        · simp -implicitDefEqProofs only [EE, cond_true, cond_false, nth, Value.cells, ↓bk_eq, setMany, if_true, if_false, Nat.reduceAdd, Nat.reduceLeDiff, Nat.reduceMul, Nat.reduceMod, Nat.reduceDiv, Nat.reduceSub, Nat.reduceEqDiff, Int.reduceEq, Int.reduceLT, Int.reduceLE, Int.reduceAdd, Int.reduceSub, Int.reduceMul, Int.reduceNeg, Int.reduceToNat, ne_eq, rv_none, ldn, ld1, beq_self_eq_true, al_3, ap_23, as_3, bs_23_0_, co_3, ix_22, ix_23, ix_28, len_22, len_23, X_FlowSolves_10, X_FlowSolves_11, X_FlowSolves_12, X_FlowSolves_13, X_FlowSolves_14, X_FlowSolves_15, X_FlowSolves_16, X_FlowSolves_17, X_FlowSolves_18, X_FlowSolves_19, X_FlowSolves_20, X_FlowSolves_21, X_FlowSolves_22, X_FlowSolves_23, X_FlowSolves_24, evn, le, hlt, x1, g1, a0, a1, q1, q2, hin, Nat.mul_one]
          exact ⟨es.length - (i + 1), by omega, i + 1, false, by omega, rfl, rfl, .inr ⟨rfl, okEB_not he fun q => q2 q.1.2⟩⟩
      · simp -implicitDefEqProofs only [EE, cond_true, cond_false, nth, Value.cells, ↓bk_eq, setMany, if_true, if_false, Nat.reduceAdd, Nat.reduceLeDiff, Nat.reduceMul, Nat.reduceMod, Nat.reduceDiv, Nat.reduceSub, Nat.reduceEqDiff, Int.reduceEq, Int.reduceLT, Int.reduceLE, Int.reduceAdd, Int.reduceSub, Int.reduceMul, Int.reduceNeg, Int.reduceToNat, ne_eq, rv_none, ldn, ld1, beq_self_eq_true, al_3, ap_23, as_3, bs_23_0_, co_3, ix_22, ix_23, ix_28, len_22, len_23, X_FlowSolves_10, X_FlowSolves_11, X_FlowSolves_12, X_FlowSolves_13, X_FlowSolves_14, X_FlowSolves_15, X_FlowSolves_16, X_FlowSolves_17, X_FlowSolves_18, X_FlowSolves_19, X_FlowSolves_20, X_FlowSolves_21, X_FlowSolves_22, X_FlowSolves_23, X_FlowSolves_24, evn, le, hlt, x1, g1, a0, a1, q1, hin, Nat.mul_one]
        exact ⟨es.length - (i + 1), by omega, i + 1, false, by omega, rfl, rfl, .inr ⟨rfl, okEB_not he fun q => q1 q.1.1⟩⟩
    · simp -implicitDefEqProofs only [EE, cond_true, cond_false, nth, Value.cells, ↓bk_eq, setMany, if_true, if_false, Nat.reduceAdd, Nat.reduceLeDiff, Nat.reduceMul, Nat.reduceMod, Nat.reduceDiv, Nat.reduceSub, Nat.reduceEqDiff, Int.reduceEq, Int.reduceLT, Int.reduceLE, Int.reduceAdd, Int.reduceSub, Int.reduceMul, Int.reduceNeg, Int.reduceToNat, ne_eq, rv_none, ldn, ld1, beq_self_eq_true, al_3, ap_23, as_3, bs_23_0_, co_3, ix_22, ix_23, ix_28, len_22, len_23, X_FlowSolves_22, X_FlowSolves_23, X_FlowSolves_24, evn, le, hlt]
      have e : i = es.length := by omega
      rw [e, List.take_length] at hok
      rw [hok] at k; exact k
end
end Go.Fw
