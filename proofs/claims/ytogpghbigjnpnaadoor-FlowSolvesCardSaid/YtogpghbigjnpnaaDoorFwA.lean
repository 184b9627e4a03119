/-
  SOLVE, walked: what is asked of the start, and each node's next ones.
-/
import Derived.Test.YtogpghbigjnpnaaDoorFlT
import Derived.Test.YtogpghbigjnpnaaDoorFlC
import Derived.Test.YtogpghbigjnpnaaDoorFwF
import Derived.KernelRfl
namespace Go.Fw
open Go.Ai Go.Proofs Go.Fl
set_option linter.unusedVariables false
set_option linter.unusedSimpArgs false
set_option maxRecDepth 10000
theorem mn_3 (a b : Int) (h : AHeap) : abuiltin Tryd.prog .min [3, 3] 3 [.int .i64 a, .int .i64 b] h = some (.int .i64 (if b < a then b else a), h) := by kernel_rfl
theorem mx_3 (a b : Int) (h : AHeap) : abuiltin Tryd.prog .max [3, 3] 3 [.int .i64 a, .int .i64 b] h = some (.int .i64 (if b > a then b else a), h) := by kernel_rfl
theorem inc {i : Nat} (h : i < 4611686018427387904) : IntKind.wrap .i64 ((i : Int) + 1) = ((i + 1 : Nat) : Int) := by
  simp only [IntKind.wrap, IntKind.bits, IntKind.signed]; simp; omega
theorem len_i {h : AHeap} {sv : Value} {zs : List Int} (S : SliceI h sv zs) (r : TypeId) (h' : AHeap) : abuiltin Tryd.prog .len [23] r [sv] h' = some (.int .i64 zs.length, h') := by
  rcases S with ⟨rfl, rfl⟩ | ⟨b, off, cp, rfl, _⟩
  · simp only [len_23, List.length_nil]
  · simp only [len_23]
theorem at_i {h : AHeap} {sv : Value} {zs : List Int} (S : SliceI h sv zs) {i : Nat} {z : Int} (hz : zs[i]? = some z) : ∃ b o c t, aindex Tryd.prog 23 sv (.int .i64 i) = some (.pointer (some ⟨b, o, none⟩)) ∧ b < h.next ∧ h.get b = some (.cells c t) ∧ c[o]? = some (.int .i64 z) := by
  have hi : i < zs.length := by
    rcases Nat.lt_or_ge i zs.length with q | q
    · exact q
    · rw [List.getElem?_eq_none q] at hz; cases hz
  rcases S with ⟨rfl, rfl⟩ | ⟨b, off, cp, rfl, hc⟩
  · cases hz
  · obtain ⟨c, t, hb, hg, hat⟩ := hc (by intro e; subst e; cases hz)
    have h1 : 0 ≤ (i : Int) ∧ (i : Int) < (zs.length : Int) := by omega
    exact ⟨b, off + i, c, t, by simp only [ix_23, h1, if_true, and_self, Nat.mul_one, Int.toNat_natCast], hb, hg, hat i z hz⟩
def okS (most : Int) (zs : List Int) : Bool := zs.all fun z => decide (0 ≤ z ∧ z ≤ most)
theorem okS_take {most : Int} {zs : List Int} {i : Nat} {z : Int} (hz : zs[i]? = some z) (h : okS most (zs.take i) = true) (hp : 0 ≤ z ∧ z ≤ most) : okS most (zs.take (i + 1)) = true := by
  unfold okS at *
  rw [List.take_add_one, hz, List.all_append, h]
  simpa using hp
theorem okS_not {most : Int} {zs : List Int} {i : Nat} {z : Int} (hz : zs[i]? = some z) (hp : ¬ (0 ≤ z ∧ z ≤ most)) : okS most zs = false := by
  unfold okS
  rw [List.all_eq_false]
  exact ⟨z, List.mem_of_getElem? hz, by simpa using hp⟩
def badV : Value := .tuple #[.slice none 0 0, .int .i64 1]
section
variable {lo : Low} {h : AHeap} {L : List HP} {sv ev v0 v1 : Value} {zs : List Int} {b6 : Nat} {n most : Int} {R : Value → AHeap → Prop}
theorem start_s (S : SliceI h sv zs) (hl : zs.length < 4611686018427387904) (g6 : h.get b6 = some (.cells [sv] 23)) (bad : okS most zs = false → R badV h) (k : okS most zs = true → ∀ v0 v1, X_Solve_30 (.int .i64 n) ev R (ptrV b6) [v0, v1] h) : X_Solve_31 (ptrV b6) (.int .i64 most) R (.int .i64 n) ev [v0, v1] h := by
  have an := S.nob
  have cn := S.cok
  have la := fun h' => len_i S 3 h'
  unfold X_Solve_31
  simp only [ptrV]
  simp -implicitDefEqProofs only [EE, cond_true, cond_false, nth, Value.cells, ↓bk_eq, setMany, if_true, if_false, Nat.reduceAdd, Nat.reduceLeDiff, Nat.reduceMul, Nat.reduceMod, Nat.reduceDiv, Nat.reduceSub, Nat.reduceEqDiff, Int.reduceEq, Int.reduceLT, Int.reduceLE, Int.reduceAdd, Int.reduceSub, Int.reduceMul, Int.reduceNeg, Int.reduceToNat, ne_eq, rv_none, ldn, ld1, beq_self_eq_true, al_23, al_28, al_3, al_4, ap_23, as_23, as_28, as_3, as_4, az_28, bs_23_1_0, co_3, ix_22, ix_23, ix_28, ix_31, ix_39, len_22, len_23, mk_23, mk_31, mk_39, sl0_23, sl_23, an, cn, la, g6]
  refine LP_of (fun m vs h' => ∃ (i : Nat) (v0 v1 : Value), i ≤ zs.length ∧ m = zs.length - i ∧ vs = [v0, v1, .int .i64 (i : Nat)] ∧ okS most (zs.take i) = true ∧ h' = h) zs.length ⟨0, _, _, Nat.zero_le _, rfl, rfl, by simp [okS], rfl⟩ ?_
  rintro m vs h' ⟨i, v0, v1, hi, rfl, rfl, hok, rfl⟩
  unfold X_Solve_5
  by_cases hc : (i : Int) < (zs.length : Int)
  · obtain ⟨z, hz⟩ : ∃ z, zs[i]? = some z := ⟨_, List.getElem?_eq_getElem (by omega)⟩
    obtain ⟨b1, o1, c1, t1, x1, l1, g1, k1⟩ := at_i S hz
    have hin := inc (show i < 4611686018427387904 by omega)
    by_cases q1 : z < 0
    · simp -implicitDefEqProofs only [EE, cond_true, cond_false, nth, Value.cells, ↓bk_eq, setMany, if_true, if_false, Nat.reduceAdd, Nat.reduceLeDiff, Nat.reduceMul, Nat.reduceMod, Nat.reduceDiv, Nat.reduceSub, Nat.reduceEqDiff, Int.reduceEq, Int.reduceLT, Int.reduceLE, Int.reduceAdd, Int.reduceSub, Int.reduceMul, Int.reduceNeg, Int.reduceToNat, ne_eq, rv_none, ldn, ld1, beq_self_eq_true, al_23, al_28, al_3, al_4, ap_23, as_23, as_28, as_3, as_4, az_28, bs_23_1_0, co_3, ix_22, ix_23, ix_28, ix_31, ix_39, len_22, len_23, mk_23, mk_31, mk_39, sl0_23, sl_23, X_Solve_1, X_Solve_2, X_Solve_3, X_Solve_4, an, la, hc, x1, g1, k1, hin, q1]
      exact bad (okS_not hz (by omega))
    · by_cases q2 : most < z
      · simp -implicitDefEqProofs only [EE, cond_true, cond_false, nth, Value.cells, ↓bk_eq, setMany, if_true, if_false, Nat.reduceAdd, Nat.reduceLeDiff, Nat.reduceMul, Nat.reduceMod, Nat.reduceDiv, Nat.reduceSub, Nat.reduceEqDiff, Int.reduceEq, Int.reduceLT, Int.reduceLE, Int.reduceAdd, Int.reduceSub, Int.reduceMul, Int.reduceNeg, Int.reduceToNat, ne_eq, rv_none, ldn, ld1, beq_self_eq_true, al_23, al_28, al_3, al_4, ap_23, as_23, as_28, as_3, as_4, az_28, bs_23_1_0, co_3, ix_22, ix_23, ix_28, ix_31, ix_39, len_22, len_23, mk_23, mk_31, mk_39, sl0_23, sl_23, X_Solve_1, X_Solve_2, X_Solve_3, X_Solve_4, an, la, hc, x1, g1, k1, hin, q1, q2]
        exact bad (okS_not hz (by omega))
      · simp -implicitDefEqProofs only [EE, cond_true, cond_false, nth, Value.cells, ↓bk_eq, setMany, if_true, if_false, Nat.reduceAdd, Nat.reduceLeDiff, Nat.reduceMul, Nat.reduceMod, Nat.reduceDiv, Nat.reduceSub, Nat.reduceEqDiff, Int.reduceEq, Int.reduceLT, Int.reduceLE, Int.reduceAdd, Int.reduceSub, Int.reduceMul, Int.reduceNeg, Int.reduceToNat, ne_eq, rv_none, ldn, ld1, beq_self_eq_true, al_23, al_28, al_3, al_4, ap_23, as_23, as_28, as_3, as_4, az_28, bs_23_1_0, co_3, ix_22, ix_23, ix_28, ix_31, ix_39, len_22, len_23, mk_23, mk_31, mk_39, sl0_23, sl_23, X_Solve_1, X_Solve_2, X_Solve_3, X_Solve_4, an, la, hc, x1, g1, k1, hin, q1, q2]
        exact ⟨zs.length - (i + 1), by omega, i + 1, _, _, by omega, rfl, rfl, okS_take hz hok (by omega)⟩
  · simp -implicitDefEqProofs only [EE, cond_true, cond_false, nth, Value.cells, ↓bk_eq, setMany, if_true, if_false, Nat.reduceAdd, Nat.reduceLeDiff, Nat.reduceMul, Nat.reduceMod, Nat.reduceDiv, Nat.reduceSub, Nat.reduceEqDiff, Int.reduceEq, Int.reduceLT, Int.reduceLE, Int.reduceAdd, Int.reduceSub, Int.reduceMul, Int.reduceNeg, Int.reduceToNat, ne_eq, rv_none, ldn, ld1, beq_self_eq_true, al_23, al_28, al_3, al_4, ap_23, as_23, as_28, as_3, as_4, az_28, bs_23_1_0, co_3, ix_22, ix_23, ix_28, ix_31, ix_39, len_22, len_23, mk_23, mk_31, mk_39, sl0_23, sl_23, X_Solve_1, X_Solve_2, X_Solve_3, X_Solve_4, an, la, hc]
    refine k ?_ _ _
    have : i = zs.length := by omega
    rw [this, List.take_length] at hok
    exact hok
end
end Go.Fw
