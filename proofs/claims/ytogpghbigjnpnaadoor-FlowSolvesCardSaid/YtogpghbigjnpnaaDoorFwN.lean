/-
  FLOWSOLVES, walked: the whole law.
-/
import Derived.Test.YtogpghbigjnpnaaDoorFwM
namespace Go.Fw
open Go.Ai Go.Proofs Go.Fl
set_option linter.unusedVariables false
set_option linter.unusedSimpArgs false
set_option maxRecDepth 10000
theorem okE_iff {N : Nat} {es : List (Int × Int)} : okE N es ↔ okEB N es = true := by
  unfold okE okEB
  rw [List.all_eq_true]
  constructor
  · intro h e he; exact decide_eq_true (h e he)
  · intro h e he; exact of_decide_eq_true (h e he)
def yes (v : Value) (_ : AHeap) : Prop := v = .bool true
section
variable {lo : Low} {h : AHeap} {L : List HP} {xs w zs : List Int} {es : List (Int × Int)} {wv ov ev sv v0 : Value} {n most : Int} {N : Nat} 
theorem same_s {j : List Value → AHeap → Prop} {R : Value → AHeap → Prop} (hN : N ≤ 1000000) (lx : xs.length = N) (lw : w.length = N) (hs : ∀ i, i < N → at0 xs i = at0 w i) (X : SliceR h ov 1 (xs.map intRow)) (W : SliceR h wv 1 (w.map intRow)) (k : ∀ v, j [v] h) :
    LP (X_FlowSolves_35 (.int .i64 N) j ov wv R) [v0, .int .i64 0] h := by
  refine LP_of (fun m vs h' => ∃ (i : Nat) (v0 : Value), i ≤ N ∧ m = N - i ∧ vs = [v0, .int .i64 (i : Nat)] ∧ h' = h) N ⟨0, v0, Nat.zero_le _, rfl, rfl, rfl⟩ ?_
  rintro m vs h' ⟨i, v0, hi, rfl, rfl, rfl⟩
  have xn := X.nob
  have wn := W.nob
  unfold X_FlowSolves_35
  by_cases hlt : (i : Int) < (N : Int)
  · have hin := inc (show i < 4611686018427387904 by omega)
    obtain ⟨b2, o2, c2, t2, x2, g2, e2⟩ := at_z X (at0_get (w := xs) (i := i) (by omega))
    obtain ⟨b3, o3, c3, t3, x3, g3, e3⟩ := at_z W (at0_get (w := w) (i := i) (by omega))
    have ee := hs i (by omega)
    rw [ee] at e2
    have d : (!decide (at0 w i = at0 w i)) = false := by simp
    simp -implicitDefEqProofs only [EE, cond_true, cond_false, nth, Value.cells, ↓bk_eq, setMany, if_true, if_false, Nat.reduceAdd, Nat.reduceLeDiff, Nat.reduceMul, Nat.reduceMod, Nat.reduceDiv, Nat.reduceSub, Nat.reduceEqDiff, Int.reduceEq, Int.reduceLT, Int.reduceLE, Int.reduceAdd, Int.reduceSub, Int.reduceMul, Int.reduceNeg, Int.reduceToNat, ne_eq, rv_none, ldn, ld1, beq_self_eq_true, al_3, ap_23, as_3, bs_23_0_, co_3, ix_22, ix_23, ix_28, len_22, len_23, X_FlowSolves_33, X_FlowSolves_34, hlt, x2, g2, e2, x3, g3, e3, d, hin, xn, wn]
    exact ⟨N - (i + 1), by omega, i + 1, _, by omega, rfl, rfl⟩
  · simp -implicitDefEqProofs only [EE, cond_true, cond_false, nth, Value.cells, ↓bk_eq, setMany, if_true, if_false, Nat.reduceAdd, Nat.reduceLeDiff, Nat.reduceMul, Nat.reduceMod, Nat.reduceDiv, Nat.reduceSub, Nat.reduceEqDiff, Int.reduceEq, Int.reduceLT, Int.reduceLE, Int.reduceAdd, Int.reduceSub, Int.reduceMul, Int.reduceNeg, Int.reduceToNat, ne_eq, rv_none, ldn, ld1, beq_self_eq_true, hlt]
    exact k _
theorem app_i (S : SliceI h sv zs) (hl : zs.length ≤ 1000000) (s : Sat lo h (slc 3 1 wv [] :: L)) : ∃ wv' h3, abuiltin Tryd.prog .append [23, 23] 23 [wv, sv] h = some (wv', h3) ∧ isBot wv' = false ∧ Sat lo h3 (slc 3 1 wv' (zs.map intRow) :: L) := by
  have f := (sliceR_I S).first (by decide) (row_of (f := intRow) (fun _ => rfl) zs)
  rw [List.length_map] at f
  have al : alenv sv = some zs.length := by
    rcases S with ⟨rfl, rfl⟩ | ⟨b, off, cp, rfl, hc⟩ <;> rfl
  have ha := ap_23 23 wv sv zs.length _ h al f (by simp [intRow, List.all_flatten]; exact fun _ _ => rfl) (by rw [flat_len (row_of (f := intRow) (fun _ => rfl) zs), List.length_map])
  by_cases h0 : zs = []
  · subst h0
    have wn := slc_nob s
    refine ⟨_, _, ha.trans ?_, wn, s⟩
    rcases slc_cases s with ⟨rfl, _, _⟩ | ⟨b, c, cs, rfl, _⟩ <;> rfl
  · obtain ⟨b', c', h3, a1, s3⟩ := slc_appn s (by simp) (zs.map intRow) (row_of (f := intRow) (fun _ => rfl) zs) 8 (by simp; omega) (by simpa using h0)
    rw [List.length_map] at a1
    rw [List.nil_append] at s3
    exact ⟨_, _, ha.trans a1, rfl, by simpa using s3⟩
theorem mid_s {R : Value → AHeap → Prop} {vs20 : List Value} {r0 : Value} {r1 : Int} (S : SliceI h sv zs) (E : SliceR h ev 2 (es.map evRow)) (hl : es.length ≤ 1000000) (hl2 : zs.length ≤ 1000000) (hn : isBot r0 = false)
    (k : X_FlowSolves_41 (.int .i64 r1) r0 R vs20 sv ev (.int .i64 n) [.bool ((decide (0 ≤ n ∧ (zs.length : Int) = n ∧ 0 ≤ most ∧ most ≤ 1000000) && okS most zs) && okEB n es)] h) : X_FlowSolves_47 (.int .i64 n) sv (.int .i64 most) ev R vs20 (.tuple #[r0, .int .i64 r1]) h := by
  have svn := S.nob
  have evn := E.nob
  have lz := fun h' => len_i S 3 h'
  generalize hP : decide (0 ≤ n ∧ (zs.length : Int) = n ∧ 0 ≤ most ∧ most ≤ 1000000) = g0 at k
  unfold X_FlowSolves_47
  by_cases q1 : 0 ≤ n
  · by_cases q2 : (zs.length : Int) = n
    · have d2 : decide ((zs.length : Int) = n) = true := decide_eq_true q2
      by_cases q3 : 0 ≤ most
      · by_cases q4 : most ≤ 1000000
        · obtain rfl : g0 = true := by rw [← hP]; exact decide_eq_true ⟨q1, q2, q3, q4⟩
          simp -implicitDefEqProofs only [EE, cond_true, cond_false, nth, Value.cells, ↓bk_eq, setMany, if_true, if_false, Nat.reduceAdd, Nat.reduceLeDiff, Nat.reduceMul, Nat.reduceMod, Nat.reduceDiv, Nat.reduceSub, Nat.reduceEqDiff, Int.reduceEq, Int.reduceLT, Int.reduceLE, Int.reduceAdd, Int.reduceSub, Int.reduceMul, Int.reduceNeg, Int.reduceToNat, ne_eq, rv_none, ldn, ld1, beq_self_eq_true, al_3, ap_23, as_3, bs_23_0_, co_3, ix_22, ix_23, ix_28, len_22, len_23, X_FlowSolves_42, X_FlowSolves_43, X_FlowSolves_44, X_FlowSolves_45, X_FlowSolves_46, q1, d2, q3, q4, svn, evn, lz, hn]
          refine chk1 S hl2 ?_
          simp -implicitDefEqProofs only [EE, cond_true, cond_false, nth, Value.cells, ↓bk_eq, setMany, if_true, if_false, Nat.reduceAdd, Nat.reduceLeDiff, Nat.reduceMul, Nat.reduceMod, Nat.reduceDiv, Nat.reduceSub, Nat.reduceEqDiff, Int.reduceEq, Int.reduceLT, Int.reduceLE, Int.reduceAdd, Int.reduceSub, Int.reduceMul, Int.reduceNeg, Int.reduceToNat, ne_eq, rv_none, ldn, ld1, beq_self_eq_true]
          exact chk2 E hl k
        · obtain rfl : g0 = false := by rw [← hP]; exact decide_eq_false fun q => q4 q.2.2.2
          simp -implicitDefEqProofs only [EE, cond_true, cond_false, nth, Value.cells, ↓bk_eq, setMany, if_true, if_false, Nat.reduceAdd, Nat.reduceLeDiff, Nat.reduceMul, Nat.reduceMod, Nat.reduceDiv, Nat.reduceSub, Nat.reduceEqDiff, Int.reduceEq, Int.reduceLT, Int.reduceLE, Int.reduceAdd, Int.reduceSub, Int.reduceMul, Int.reduceNeg, Int.reduceToNat, ne_eq, rv_none, ldn, ld1, beq_self_eq_true, al_3, ap_23, as_3, bs_23_0_, co_3, ix_22, ix_23, ix_28, len_22, len_23, X_FlowSolves_42, X_FlowSolves_43, X_FlowSolves_44, X_FlowSolves_45, X_FlowSolves_46, q1, d2, q3, q4, svn, evn, lz, hn]
          refine chk1 S hl2 ?_
          simp -implicitDefEqProofs only [EE, cond_true, cond_false, nth, Value.cells, ↓bk_eq, setMany, if_true, if_false, Nat.reduceAdd, Nat.reduceLeDiff, Nat.reduceMul, Nat.reduceMod, Nat.reduceDiv, Nat.reduceSub, Nat.reduceEqDiff, Int.reduceEq, Int.reduceLT, Int.reduceLE, Int.reduceAdd, Int.reduceSub, Int.reduceMul, Int.reduceNeg, Int.reduceToNat, ne_eq, rv_none, ldn, ld1, beq_self_eq_true]
          exact chk2 E hl k
      · obtain rfl : g0 = false := by rw [← hP]; exact decide_eq_false fun q => q3 q.2.2.1
        simp -implicitDefEqProofs only [EE, cond_true, cond_false, nth, Value.cells, ↓bk_eq, setMany, if_true, if_false, Nat.reduceAdd, Nat.reduceLeDiff, Nat.reduceMul, Nat.reduceMod, Nat.reduceDiv, Nat.reduceSub, Nat.reduceEqDiff, Int.reduceEq, Int.reduceLT, Int.reduceLE, Int.reduceAdd, Int.reduceSub, Int.reduceMul, Int.reduceNeg, Int.reduceToNat, ne_eq, rv_none, ldn, ld1, beq_self_eq_true, al_3, ap_23, as_3, bs_23_0_, co_3, ix_22, ix_23, ix_28, len_22, len_23, X_FlowSolves_42, X_FlowSolves_43, X_FlowSolves_44, X_FlowSolves_45, X_FlowSolves_46, q1, d2, q3, svn, evn, lz, hn]
        refine chk1 S hl2 ?_
        simp -implicitDefEqProofs only [EE, cond_true, cond_false, nth, Value.cells, ↓bk_eq, setMany, if_true, if_false, Nat.reduceAdd, Nat.reduceLeDiff, Nat.reduceMul, Nat.reduceMod, Nat.reduceDiv, Nat.reduceSub, Nat.reduceEqDiff, Int.reduceEq, Int.reduceLT, Int.reduceLE, Int.reduceAdd, Int.reduceSub, Int.reduceMul, Int.reduceNeg, Int.reduceToNat, ne_eq, rv_none, ldn, ld1, beq_self_eq_true]
        exact chk2 E hl k
    · have d2 : decide ((zs.length : Int) = n) = false := decide_eq_false q2
      obtain rfl : g0 = false := by rw [← hP]; exact decide_eq_false fun q => q2 q.2.1
      simp -implicitDefEqProofs only [EE, cond_true, cond_false, nth, Value.cells, ↓bk_eq, setMany, if_true, if_false, Nat.reduceAdd, Nat.reduceLeDiff, Nat.reduceMul, Nat.reduceMod, Nat.reduceDiv, Nat.reduceSub, Nat.reduceEqDiff, Int.reduceEq, Int.reduceLT, Int.reduceLE, Int.reduceAdd, Int.reduceSub, Int.reduceMul, Int.reduceNeg, Int.reduceToNat, ne_eq, rv_none, ldn, ld1, beq_self_eq_true, al_3, ap_23, as_3, bs_23_0_, co_3, ix_22, ix_23, ix_28, len_22, len_23, X_FlowSolves_42, X_FlowSolves_43, X_FlowSolves_44, X_FlowSolves_45, X_FlowSolves_46, q1, d2, svn, evn, lz, hn]
      refine chk1 S hl2 ?_
      simp -implicitDefEqProofs only [EE, cond_true, cond_false, nth, Value.cells, ↓bk_eq, setMany, if_true, if_false, Nat.reduceAdd, Nat.reduceLeDiff, Nat.reduceMul, Nat.reduceMod, Nat.reduceDiv, Nat.reduceSub, Nat.reduceEqDiff, Int.reduceEq, Int.reduceLT, Int.reduceLE, Int.reduceAdd, Int.reduceSub, Int.reduceMul, Int.reduceNeg, Int.reduceToNat, ne_eq, rv_none, ldn, ld1, beq_self_eq_true]
      exact chk2 E hl k
  · obtain rfl : g0 = false := by rw [← hP]; exact decide_eq_false fun q => q1 q.1
    simp -implicitDefEqProofs only [EE, cond_true, cond_false, nth, Value.cells, ↓bk_eq, setMany, if_true, if_false, Nat.reduceAdd, Nat.reduceLeDiff, Nat.reduceMul, Nat.reduceMod, Nat.reduceDiv, Nat.reduceSub, Nat.reduceEqDiff, Int.reduceEq, Int.reduceLT, Int.reduceLE, Int.reduceAdd, Int.reduceSub, Int.reduceMul, Int.reduceNeg, Int.reduceToNat, ne_eq, rv_none, ldn, ld1, beq_self_eq_true, al_3, ap_23, as_3, bs_23_0_, co_3, ix_22, ix_23, ix_28, len_22, len_23, X_FlowSolves_42, X_FlowSolves_43, X_FlowSolves_44, X_FlowSolves_45, X_FlowSolves_46, q1, svn, evn, lz, hn]
    refine chk1 S hl2 ?_
    simp -implicitDefEqProofs only [EE, cond_true, cond_false, nth, Value.cells, ↓bk_eq, setMany, if_true, if_false, Nat.reduceAdd, Nat.reduceLeDiff, Nat.reduceMul, Nat.reduceMod, Nat.reduceDiv, Nat.reduceSub, Nat.reduceEqDiff, Int.reduceEq, Int.reduceLT, Int.reduceLE, Int.reduceAdd, Int.reduceSub, Int.reduceMul, Int.reduceNeg, Int.reduceToNat, ne_eq, rv_none, ldn, ld1, beq_self_eq_true]
    exact chk2 E hl k
theorem solves_ok (Z : Rd lo (SliceI · sv zs)) (E : Rd lo (SliceR · ev 2 (es.map evRow))) (s : Sat lo h L) (aw : DC Tryd.prog 5 [] h (fun v h' => v = .bool true ∧ h' = h)) :
    DC Tryd.prog 3 [.int .i64 n, ev, sv, .int .i64 most] h yes := by
  have svn := (Z.at s).nob
  have evn := (E.at s).nob
  have lz := fun h' => len_i (Z.at s) 3 h'
  have le := fun h' => len_e (E.at s) 3 h'
  apply X_FlowSolves_ok
  unfold X_FlowSolves
  refine callV_of (by kernel_rfl) rfl aw ?_
  rintro v h1 ⟨rfl, rfl⟩
  by_cases q1 : 100 < n
  · simp -implicitDefEqProofs only [EE, cond_true, cond_false, nth, Value.cells, ↓bk_eq, setMany, if_true, if_false, Nat.reduceAdd, Nat.reduceLeDiff, Nat.reduceMul, Nat.reduceMod, Nat.reduceDiv, Nat.reduceSub, Nat.reduceEqDiff, Int.reduceEq, Int.reduceLT, Int.reduceLE, Int.reduceAdd, Int.reduceSub, Int.reduceMul, Int.reduceNeg, Int.reduceToNat, ne_eq, rv_none, ldn, ld1, beq_self_eq_true, al_3, ap_23, as_3, bs_23_0_, co_3, ix_22, ix_23, ix_28, len_22, len_23, X_FlowSolves_48, X_FlowSolves_49, X_FlowSolves_50, X_FlowSolves_51, X_FlowSolves_52, q1, svn, evn, lz, le]
    rfl
  by_cases q2 : (300 : Int) < (es.length : Int)
  · simp -implicitDefEqProofs only [EE, cond_true, cond_false, nth, Value.cells, ↓bk_eq, setMany, if_true, if_false, Nat.reduceAdd, Nat.reduceLeDiff, Nat.reduceMul, Nat.reduceMod, Nat.reduceDiv, Nat.reduceSub, Nat.reduceEqDiff, Int.reduceEq, Int.reduceLT, Int.reduceLE, Int.reduceAdd, Int.reduceSub, Int.reduceMul, Int.reduceNeg, Int.reduceToNat, ne_eq, rv_none, ldn, ld1, beq_self_eq_true, al_3, ap_23, as_3, bs_23_0_, co_3, ix_22, ix_23, ix_28, len_22, len_23, X_FlowSolves_48, X_FlowSolves_49, X_FlowSolves_50, X_FlowSolves_51, X_FlowSolves_52, q1, q2, svn, evn, lz, le]
    rfl
  by_cases q3 : (100 : Int) < (zs.length : Int)
  · simp -implicitDefEqProofs only [EE, cond_true, cond_false, nth, Value.cells, ↓bk_eq, setMany, if_true, if_false, Nat.reduceAdd, Nat.reduceLeDiff, Nat.reduceMul, Nat.reduceMod, Nat.reduceDiv, Nat.reduceSub, Nat.reduceEqDiff, Int.reduceEq, Int.reduceLT, Int.reduceLE, Int.reduceAdd, Int.reduceSub, Int.reduceMul, Int.reduceNeg, Int.reduceToNat, ne_eq, rv_none, ldn, ld1, beq_self_eq_true, al_3, ap_23, as_3, bs_23_0_, co_3, ix_22, ix_23, ix_28, len_22, len_23, X_FlowSolves_48, X_FlowSolves_49, X_FlowSolves_50, X_FlowSolves_51, X_FlowSolves_52, q1, q2, q3, svn, evn, lz, le]
    rfl
  simp -implicitDefEqProofs only [EE, cond_true, cond_false, nth, Value.cells, ↓bk_eq, setMany, if_true, if_false, Nat.reduceAdd, Nat.reduceLeDiff, Nat.reduceMul, Nat.reduceMod, Nat.reduceDiv, Nat.reduceSub, Nat.reduceEqDiff, Int.reduceEq, Int.reduceLT, Int.reduceLE, Int.reduceAdd, Int.reduceSub, Int.reduceMul, Int.reduceNeg, Int.reduceToNat, ne_eq, rv_none, ldn, ld1, beq_self_eq_true, al_3, ap_23, as_3, bs_23_0_, co_3, ix_22, ix_23, ix_28, len_22, len_23, X_FlowSolves_48, X_FlowSolves_49, X_FlowSolves_50, X_FlowSolves_51, X_FlowSolves_52, q1, q2, q3, svn, evn, lz, le]
  have hl : es.length ≤ 1000000 := by omega
  have hl2 : zs.length ≤ 1000000 := by omega
  refine callV_of (by kernel_rfl) (by simp only [nobot, svn, evn, cond_false]; rfl) (solve_s Z E hl hl2 s) ?_
  have gd : good n most zs es ↔ n ≤ 2000 ∧ ((decide (0 ≤ n ∧ (zs.length : Int) = n ∧ 0 ≤ most ∧ most ≤ 1000000) && okS most zs) && okEB n es) = true := by
    unfold good
    rw [okE_iff]
    simp only [Bool.and_eq_true, decide_eq_true_eq]
    constructor
    · rintro ⟨⟨a, b⟩, ⟨c, d⟩, e, f, g⟩
      rw [Int.toNat_of_nonneg a] at g
      exact ⟨b, ⟨⟨a, e, c, d⟩, f⟩, g⟩
    · rintro ⟨b, ⟨⟨a, e, c, d⟩, f⟩, g⟩
      refine ⟨⟨a, b⟩, ⟨c, d⟩, e, f, ?_⟩
      rw [Int.toNat_of_nonneg a]; exact g
  rintro v h2 (⟨ng, rfl, s2⟩ | ⟨g, ov, out, rfl, sol, ol, s2⟩)
  · refine mid_s (Z.at s2) (E.at s2) hl hl2 rfl ?_
    have e : ((decide (0 ≤ n ∧ (zs.length : Int) = n ∧ 0 ≤ most ∧ most ≤ 1000000) && okS most zs) && okEB n es) = false := by
      rw [← Bool.not_eq_true]; exact fun q => ng (gd.2 ⟨by omega, q⟩)
    rw [e]
    have z0 : ((0 : Nat) : Int) = 0 := rfl
    simp -implicitDefEqProofs only [EE, cond_true, cond_false, nth, Value.cells, ↓bk_eq, setMany, if_true, if_false, Nat.reduceAdd, Nat.reduceLeDiff, Nat.reduceMul, Nat.reduceMod, Nat.reduceDiv, Nat.reduceSub, Nat.reduceEqDiff, Int.reduceEq, Int.reduceLT, Int.reduceLE, Int.reduceAdd, Int.reduceSub, Int.reduceMul, Int.reduceNeg, Int.reduceToNat, ne_eq, rv_none, ldn, ld1, beq_self_eq_true, al_3, ap_23, as_3, bs_23_0_, co_3, ix_22, ix_23, ix_28, len_22, len_23, X_FlowSolves_26, X_FlowSolves_27, X_FlowSolves_41, z0]
    rfl
  · have ovn := slc_nob s2
    refine mid_s (Z.at s2) (E.at s2) hl hl2 ovn ?_
    rw [(gd.1 g).2]
    unfold X_FlowSolves_41
    have s3 : Sat lo (h2.push (.cells [] 3)) (slc 3 1 (.slice (some ⟨h2.next, 0, none⟩) 0 2) [] :: slc 3 1 ov (out.map intRow) :: L) := slc_full (rows := []) (c := 2) (by decide) (by simp) (by simp) (s2.push (.cells [] 3))
    obtain ⟨wv, h3, ea, wn, s4⟩ := app_i (Z.at s3) hl2 s3
    simp -implicitDefEqProofs only [EE, cond_true, cond_false, nth, Value.cells, ↓bk_eq, setMany, if_true, if_false, Nat.reduceAdd, Nat.reduceLeDiff, Nat.reduceMul, Nat.reduceMod, Nat.reduceDiv, Nat.reduceSub, Nat.reduceEqDiff, Int.reduceEq, Int.reduceLT, Int.reduceLE, Int.reduceAdd, Int.reduceSub, Int.reduceMul, Int.reduceNeg, Int.reduceToNat, ne_eq, rv_none, ldn, ld1, beq_self_eq_true, al_3, ap_23, as_3, bs_23_0_, co_3, ix_22, ix_23, ix_28, len_22, len_23, X_FlowSolves_40, ea, svn, wn]
    have hn2 : n = ((n.toNat : Nat) : Int) := by unfold good at g; omega
    have hzl : zs.length = n.toNat := by unfold good at g; omega
    have hM : ∀ i, i < n.toNat → at0 zs i ≤ most := fun i hi => by
      have g1 := g.2.2.2.1
      unfold okS at g1
      rw [List.all_eq_true] at g1
      exact (of_decide_eq_true (g1 _ (List.mem_of_getElem? (at0_get (w := zs) (i := i) (by omega))))).2
    have hX : n.toNat ≤ 1000000 := by omega
    refine relax_s (key := at0 zs) (M := most) (N := n.toNat) E hl g.2.2.2.2 hM (Rx.begin hzl fun i _ => rfl) s4 fun w' h4 lw sw s5 => ?_
    generalize hN : n.toNat = N at *
    subst hn2
    have lo1 : out.length = N := by omega
    have X := slc_read (s5.p 1) (row_of (f := intRow) (fun _ => rfl) _)
    have W := slc_read s5 (row_of (f := intRow) (fun _ => rfl) _)
    have lx := fun h' => len_z X 3 h'
    have d : (!decide ((out.length : Int) = (N : Int))) = false := by simp [lo1]
    simp -implicitDefEqProofs only [EE, cond_true, cond_false, nth, Value.cells, ↓bk_eq, setMany, if_true, if_false, Nat.reduceAdd, Nat.reduceLeDiff, Nat.reduceMul, Nat.reduceMod, Nat.reduceDiv, Nat.reduceSub, Nat.reduceEqDiff, Int.reduceEq, Int.reduceLT, Int.reduceLE, Int.reduceAdd, Int.reduceSub, Int.reduceMul, Int.reduceNeg, Int.reduceToNat, ne_eq, rv_none, ldn, ld1, beq_self_eq_true, al_3, ap_23, as_3, bs_23_0_, co_3, ix_22, ix_23, ix_28, len_22, len_23, X_FlowSolves_36, X_FlowSolves_37, X_FlowSolves_38, X_FlowSolves_39, ovn, lx, d]
    refine same_s hX lo1 lw (fun i hi => sol.one sw hi) X W fun v => ?_
    rfl
end
end Go.Fw
