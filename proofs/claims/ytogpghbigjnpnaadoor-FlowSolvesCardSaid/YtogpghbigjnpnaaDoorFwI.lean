/-
  SOLVE, walked: from the order on.
-/
import Derived.Test.YtogpghbigjnpnaaDoorFwH
namespace Go.Fw
open Go.Ai Go.Proofs Go.Fl
set_option linter.unusedVariables false
set_option linter.unusedSimpArgs false
set_option maxRecDepth 10000
theorem left_le : ∀ {dn : List Bool}, left dn ≤ dn.length
  | [] => Nat.le_refl _
  | x :: d => by
    have := left_le (dn := d)
    show (!x).toNat + left d ≤ d.length + 1
    cases x <;> simp <;> omega
theorem zc_one (v : Value) (N : Nat) : zcells [v] N = List.replicate N v := by
  unfold zcells
  apply List.ext_getElem?
  intro i
  rw [List.getElem?_map, List.getElem?_replicate]
  by_cases h : i < N
  · rw [List.getElem?_range h, if_pos h]; simp [Nat.mod_one]
  · rw [List.getElem?_eq_none (by simpa using h), if_neg h]; rfl
section
variable {lo : Low} {h : AHeap} {L : List HP} {zs out : List Int} {dn : List Bool} {S ord : List Nat} {es : List (Int × Int)} {vs : List Value} {sv ov tv v : Value} {b6 db ob nb N a m k : Nat} {R : Value → AHeap → Prop}
theorem outer_s {j : List Value → AHeap → Prop} (Z : Rd lo (SliceI · sv zs)) (hz : zs.length = N) (hN : N ≤ 2000) (hvs : vs.length = N) (hE : ∀ u w, (u, w) ∈ es.map toN → w < N) (hl : es.length ≤ 1000000) (ho : Order N (at0 zs) ord) (hol : ord.length = N)
    (X : Mn N (es.map toN) (at0 zs) ord 0 out dn) (s : Sat lo h (slc 3 1 ov (out.map intRow) :: pt db (.cells (bolC dn) 4) :: RestC b6 ob nb N sv ord es vs L))
    (k : ∀ out' dn' h', Mn N (es.map toN) (at0 zs) ord N out' dn' → Sat lo h' (slc 3 1 ov (out'.map intRow) :: pt db (.cells (bolC dn') 4) :: RestC b6 ob nb N sv ord es vs L) → j [] h') :
    LP (X_Solve_26 (.int .i64 N) j (.slice (some ⟨ob, 0, none⟩) N (N + 2)) (.slice (some ⟨db, 0, none⟩) N (N + 2)) (.slice (some ⟨nb, 0, none⟩) N (N + 2)) (.pointer (some ⟨b6, 0, none⟩)) ov) [.int .i64 0] h := by
  refine LP_of (fun q vs' h' => ∃ (i : Nat) (out : List Int) (dn : List Bool), i ≤ N ∧ q = N - i ∧ vs' = [.int .i64 (i : Nat)] ∧ Mn N (es.map toN) (at0 zs) ord i out dn ∧ Sat lo h' (slc 3 1 ov (out.map intRow) :: pt db (.cells (bolC dn) 4) :: RestC b6 ob nb N sv ord es vs L)) N ⟨0, out, dn, Nat.zero_le _, rfl, rfl, X, s⟩ ?_
  rintro q vs' h' ⟨i, out, dn, hi, rfl, rfl, X, s⟩
  have s' : Sat lo h' (slc 3 1 ov (out.map intRow) :: pt db (.cells (bolC dn) 4) :: pt b6 (.cells [sv] 23) :: pt ob (.cells (ordC ord) 3) :: tab 3 vs (nxt N es) :: pt nb (.cells vs 23) :: L) := s
  have gd := (s'.p 1).get
  have go := (s'.p 3).get
  unfold X_Solve_26
  by_cases hlt : (i : Int) < (N : Int)
  · obtain ⟨a, ha⟩ : ∃ a, ord[i]? = some a := ⟨_, List.getElem?_eq_getElem (by omega)⟩
    have haN : a < N := ho.lt i a ha
    have hii : (0 : Int) ≤ (i : Int) ∧ (i : Int) < (N : Int) := by omega
    have hai : (0 : Int) ≤ (a : Int) ∧ (a : Int) < (N : Int) := by omega
    have co : (ordC ord)[i]? = some (.int .i64 (a : Nat)) := by unfold ordC; rw [List.getElem?_map, ha]; rfl
    obtain ⟨d, hd⟩ : ∃ d, dn[a]? = some d := ⟨_, List.getElem?_eq_getElem (by rw [X.dlen]; exact haN)⟩
    have cd : (bolC dn)[a]? = some (.bool d) := by unfold bolC; rw [List.getElem?_map, hd]; rfl
    have hin := inc (show i < 4611686018427387904 by omega)
    cases d with
    | true =>
      simp -implicitDefEqProofs only [EE, cond_true, cond_false, nth, Value.cells, ↓bk_eq, setMany, if_true, if_false, Nat.reduceAdd, Nat.reduceLeDiff, Nat.reduceMul, Nat.reduceMod, Nat.reduceDiv, Nat.reduceSub, Nat.reduceEqDiff, Int.reduceEq, Int.reduceLT, Int.reduceLE, Int.reduceAdd, Int.reduceSub, Int.reduceMul, Int.reduceNeg, Int.reduceToNat, ne_eq, rv_none, ldn, ld1, beq_self_eq_true, al_23, al_28, al_3, al_4, ap_23, as_23, as_28, as_3, as_4, az_28, bs_23_1_0, co_3, ix_22, ix_23, ix_28, ix_31, ix_39, len_22, len_23, mk_23, mk_31, mk_39, sl0_23, sl_23, X_Solve_24, X_Solve_25, X_Solve_26, hlt, hii, hai, go, co, gd, cd, hin, Nat.mul_one, Int.toNat_natCast]
      exact ⟨N - (i + 1), by omega, i + 1, out, dn, by omega, rfl, rfl, X.skip ha hd, s⟩
    | false =>
      have hno : ¬ Fl.on dn a := fun q => by unfold Fl.on at q; rw [hd] at q; cases q
      simp -implicitDefEqProofs only [EE, cond_true, cond_false, nth, Value.cells, ↓bk_eq, setMany, if_true, if_false, Nat.reduceAdd, Nat.reduceLeDiff, Nat.reduceMul, Nat.reduceMod, Nat.reduceDiv, Nat.reduceSub, Nat.reduceEqDiff, Int.reduceEq, Int.reduceLT, Int.reduceLE, Int.reduceAdd, Int.reduceSub, Int.reduceMul, Int.reduceNeg, Int.reduceToNat, ne_eq, rv_none, ldn, ld1, beq_self_eq_true, al_23, al_28, al_3, al_4, ap_23, as_23, as_28, as_3, as_4, az_28, bs_23_1_0, co_3, ix_22, ix_23, ix_28, ix_31, ix_39, len_22, len_23, mk_23, mk_31, mk_39, sl0_23, sl_23, X_Solve_23, X_Solve_24, X_Solve_25, X_Solve_26, hlt, hii, hai, go, co, gd, cd, Nat.mul_one, Int.toNat_natCast]
      refine sto_s (s'.p 1) (by simp [bolC]; have := X.dlen; omega) rfl fun h1 s1 => ?_
      have s1 : Sat lo h1 (pt db (.cells ((bolC dn).set a (.bool true)) 4) :: slc 3 1 ov (out.map intRow) :: RestC b6 ob nb N sv ord es vs L) := s1
      rw [bol_set] at s1
      simp -implicitDefEqProofs only [EE, cond_true, cond_false, nth, Value.cells, ↓bk_eq, setMany, if_true, if_false, Nat.reduceAdd, Nat.reduceLeDiff, Nat.reduceMul, Nat.reduceMod, Nat.reduceDiv, Nat.reduceSub, Nat.reduceEqDiff, Int.reduceEq, Int.reduceLT, Int.reduceLE, Int.reduceAdd, Int.reduceSub, Int.reduceMul, Int.reduceNeg, Int.reduceToNat, ne_eq, rv_none, ldn, ld1, beq_self_eq_true, al_23, al_28, al_3, al_4, ap_23, as_23, as_28, as_3, as_4, az_28, bs_23_1_0, co_3, ix_22, ix_23, ix_28, ix_31, ix_39, len_22, len_23, mk_23, mk_31, mk_39, sl0_23, sl_23]
      have s2 := slc_one (s1.p 1) (natRow a) 3
      have hle := left_le (dn := dn.set a true)
      rw [List.length_set, X.dlen] at hle
      refine search_s (S := [a]) Z hz hN haN hvs hE hl (X.search ho ha hno) (by simp; omega) s2 fun out' dn' h2 Y s3 => ?_
      simp -implicitDefEqProofs only [EE, cond_true, cond_false, nth, Value.cells, ↓bk_eq, setMany, if_true, if_false, Nat.reduceAdd, Nat.reduceLeDiff, Nat.reduceMul, Nat.reduceMod, Nat.reduceDiv, Nat.reduceSub, Nat.reduceEqDiff, Int.reduceEq, Int.reduceLT, Int.reduceLE, Int.reduceAdd, Int.reduceSub, Int.reduceMul, Int.reduceNeg, Int.reduceToNat, ne_eq, rv_none, ldn, ld1, beq_self_eq_true, hin]
      exact ⟨N - (i + 1), by omega, i + 1, out', dn', by omega, rfl, rfl, X.over ho hE ha hno Y, s3⟩
  · have e : i = N := by omega
    subst e
    simp -implicitDefEqProofs only [EE, cond_true, cond_false, nth, Value.cells, ↓bk_eq, setMany, if_true, if_false, Nat.reduceAdd, Nat.reduceLeDiff, Nat.reduceMul, Nat.reduceMod, Nat.reduceDiv, Nat.reduceSub, Nat.reduceEqDiff, Int.reduceEq, Int.reduceLT, Int.reduceLE, Int.reduceAdd, Int.reduceSub, Int.reduceMul, Int.reduceNeg, Int.reduceToNat, ne_eq, rv_none, ldn, ld1, beq_self_eq_true, hlt]
    exact k _ _ _ X s
end
end Go.Fw
