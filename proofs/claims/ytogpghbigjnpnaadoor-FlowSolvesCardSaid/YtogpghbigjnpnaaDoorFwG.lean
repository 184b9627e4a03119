/-
  SOLVE, walked: a node's next one is looked at.
-/
import Derived.Test.YtogpghbigjnpnaaDoorFwE
namespace Go.Fw
open Go.Ai Go.Proofs Go.Fl
set_option linter.unusedVariables false
set_option linter.unusedSimpArgs false
set_option maxRecDepth 10000
theorem at_n {h : AHeap} {sv : Value} {r : List Nat} (S : SliceR h sv 1 (r.map natRow)) {i z : Nat} (hz : r[i]? = some z) : ∃ b o c t, aindex Tryd.prog 23 sv (.int .i64 i) = some (.pointer (some ⟨b, o, none⟩)) ∧ h.get b = some (.cells c t) ∧ c[o]? = some (.int .i64 (z : Nat)) := by
  obtain ⟨b, o, c, t, ⟨off, cp, rfl, rfl⟩, hi, hb, hg, hl, ht, hk⟩ := S.spot (r := natRow z) (i := i) (by rw [List.getElem?_map, hz]; rfl) rfl
  have h1 : 0 ≤ (i : Int) ∧ (i : Int) < ((r.map natRow).length : Int) := by omega
  exact ⟨b, off + i * 1, c, t, by simp only [ix_23, h1, Int.toNat_natCast, and_self, if_true], hg, hk 0 (by decide)⟩
theorem len_n {h : AHeap} {sv : Value} {r : List Nat} {n : Nat} (S : SliceR h sv n (r.map natRow)) (t : TypeId) (h' : AHeap) : abuiltin Tryd.prog .len [23] t [sv] h' = some (.int .i64 r.length, h') := by
  rcases S with ⟨rfl, e⟩ | ⟨b, off, cp, rfl, _⟩
  · have : r = [] := by simpa using e
    subst this
    simp only [len_23, List.length_nil]
  · simp only [len_23, List.length_map]
def bolC (dn : List Bool) : List Value := dn.map Value.bool
theorem bol_set {dn : List Bool} {b : Nat} : (bolC dn).set b (.bool true) = bolC (dn.set b true) := by
  unfold bolC
  rw [List.map_set]
section
variable {lo : Low} {h : AHeap} {L : List HP} {zs out : List Int} {dn : List Bool} {S : List Nat} {sv ov tv v : Value} {b6 db N a b i : Nat}
theorem visit_s {r : List Nat} {j : List Value → AHeap → Prop} (Z : Rd lo (SliceI · sv zs)) (ha : a < zs.length) (hb : b < N) (hbr : r[i]? = some b) (ho : out.length = N) (hd : dn.length = N) (hS : S.length ≤ 1000000)
    (s : Sat lo h (slc 3 1 tv (S.map natRow) :: slc 3 1 ov (out.map intRow) :: pt db (.cells (bolC dn) 4) :: pt b6 (.cells [sv] 23) :: L)) (V : SliceR h v 1 (r.map natRow))
    (k1 : on dn b → j [tv] h)
    (k2 : ¬ on dn b → ∀ tv' h', Sat lo h' (slc 3 1 tv' ((S ++ [b]).map natRow) :: slc 3 1 ov ((out.set b (at0 zs a)).map intRow) :: pt db (.cells (bolC (dn.set b true)) 4) :: pt b6 (.cells [sv] 23) :: L) → j [tv'] h') :
    X_Solve_18 v [tv, .int .i64 i] h (.slice (some ⟨db, 0, none⟩) N (N + 2)) (.pointer (some ⟨b6, 0, none⟩)) (.int .i64 a) ov j := by
  obtain ⟨b1, o1, c1, t1, x1, g1, e1⟩ := at_n V hbr
  obtain ⟨d, hdb⟩ : ∃ d, dn[b]? = some d := ⟨_, List.getElem?_eq_getElem (by omega)⟩
  have gd := (s.p 2).get
  have g6 := (s.p 3).get
  have tn := slc_nob s
  have on := slc_nob (s.p 1)
  have svn := (Z.at s).nob
  have hbi : (0 : Int) ≤ (b : Int) ∧ (b : Int) < (N : Int) := by omega
  have cd : (bolC dn)[b]? = some (.bool d) := by unfold bolC; rw [List.getElem?_map, hdb]; rfl
  have vn := V.nob
  unfold X_Solve_18
  cases d with
  | true =>
    simp -implicitDefEqProofs only [EE, cond_true, cond_false, nth, Value.cells, ↓bk_eq, setMany, if_true, if_false, Nat.reduceAdd, Nat.reduceLeDiff, Nat.reduceMul, Nat.reduceMod, Nat.reduceDiv, Nat.reduceSub, Nat.reduceEqDiff, Int.reduceEq, Int.reduceLT, Int.reduceLE, Int.reduceAdd, Int.reduceSub, Int.reduceMul, Int.reduceNeg, Int.reduceToNat, ne_eq, rv_none, ldn, ld1, beq_self_eq_true, al_23, al_28, al_3, al_4, ap_23, as_23, as_28, as_3, as_4, az_28, bs_23_1_0, co_3, ix_22, ix_23, ix_28, ix_31, ix_39, len_22, len_23, mk_23, mk_31, mk_39, sl0_23, sl_23, Nat.mul_one, Int.toNat_natCast, x1, g1, e1, gd, hbi, cd, tn, vn]
    exact k1 hdb
  | false =>
    have hza : zs[a]? = some (at0 zs a) := at0_get ha
    obtain ⟨b2, o2, c2, t2, x2, l2, g2, e2⟩ := at_i (Z.at s) hza
    simp -implicitDefEqProofs only [EE, cond_true, cond_false, nth, Value.cells, ↓bk_eq, setMany, if_true, if_false, Nat.reduceAdd, Nat.reduceLeDiff, Nat.reduceMul, Nat.reduceMod, Nat.reduceDiv, Nat.reduceSub, Nat.reduceEqDiff, Int.reduceEq, Int.reduceLT, Int.reduceLE, Int.reduceAdd, Int.reduceSub, Int.reduceMul, Int.reduceNeg, Int.reduceToNat, ne_eq, rv_none, ldn, ld1, beq_self_eq_true, al_23, al_28, al_3, al_4, ap_23, as_23, as_28, as_3, as_4, az_28, bs_23_1_0, co_3, ix_22, ix_23, ix_28, ix_31, ix_39, len_22, len_23, mk_23, mk_31, mk_39, sl0_23, sl_23, X_Solve_17, Nat.mul_one, Int.toNat_natCast, x1, g1, e1, gd, g6, hbi, cd, tn, vn, x2, g2, e2, svn]
    refine sto_s (s.p 2) (by simp [bolC]; omega) rfl fun h1 s1 => ?_
    have s1 : Sat lo h1 (pt db (.cells ((bolC dn).set b (.bool true)) 4) :: slc 3 1 tv (S.map natRow) :: slc 3 1 ov (out.map intRow) :: pt b6 (.cells [sv] 23) :: L) := s1
    rw [bol_set] at s1
    obtain ⟨bo, co, cs, rfl, go, wo, lo1, so⟩ := slc_row (s1.p 2) (row_of (f := intRow) (fun _ => rfl) _) (i := b) (by rw [List.length_map]; omega)
    rw [List.length_map, ho]
    have e3 : aindex Tryd.prog 23 (.slice (some ⟨bo, 0, none⟩) N co) (.int .i64 b) = some (.pointer (some ⟨bo, b * 1, none⟩)) := by
      simp only [ix_23, hbi, and_self, if_true, Int.toNat_natCast, Nat.zero_add]
    simp -implicitDefEqProofs only [EE, cond_true, cond_false, nth, Value.cells, ↓bk_eq, setMany, if_true, if_false, Nat.reduceAdd, Nat.reduceLeDiff, Nat.reduceMul, Nat.reduceMod, Nat.reduceDiv, Nat.reduceSub, Nat.reduceEqDiff, Int.reduceEq, Int.reduceLT, Int.reduceLE, Int.reduceAdd, Int.reduceSub, Int.reduceMul, Int.reduceNeg, Int.reduceToNat, ne_eq, rv_none, ldn, ld1, beq_self_eq_true, al_23, al_28, al_3, al_4, ap_23, as_23, as_28, as_3, as_4, az_28, bs_23_1_0, co_3, ix_22, ix_23, ix_28, ix_31, ix_39, len_22, len_23, mk_23, mk_31, mk_39, sl0_23, sl_23, e3]
    refine slc_sto go wo lo1 so rfl rfl fun h2 s2 => ?_
    have s3 := s2.push (.cells [.int .i64 (b : Nat)] 3)
    have g3 := s3.get
    obtain ⟨b', c', h4, a4, s4⟩ := slc_app (s3.p 3) (row_of (f := natRow) (fun _ => rfl) _) [.int .i64 (b : Nat)] rfl (by decide) 8 (by rw [List.length_map]; omega)
    have hap : abuiltin Tryd.prog .append [23, 23] 23 [tv, .slice (some ⟨h2.next, 0, none⟩) 1 3] (h2.push (.cells [.int .i64 (b : Nat)] 3)) = app2 (h2.push (.cells [.int .i64 (b : Nat)] 3)) 3 1 8 1 [.int .i64 (b : Nat)] tv := ap_23 _ _ _ 1 _ _ rfl (by simp only [firstc, g3]; rfl) rfl rfl
    simp only [List.length_map] at a4 s4
    simp -implicitDefEqProofs only [EE, cond_true, cond_false, nth, Value.cells, ↓bk_eq, setMany, if_true, if_false, Nat.reduceAdd, Nat.reduceLeDiff, Nat.reduceMul, Nat.reduceMod, Nat.reduceDiv, Nat.reduceSub, Nat.reduceEqDiff, Int.reduceEq, Int.reduceLT, Int.reduceLE, Int.reduceAdd, Int.reduceSub, Int.reduceMul, Int.reduceNeg, Int.reduceToNat, ne_eq, rv_none, ldn, ld1, beq_self_eq_true, al_23, al_28, al_3, al_4, ap_23, as_23, as_28, as_3, as_4, az_28, bs_23_1_0, co_3, ix_22, ix_23, ix_28, ix_31, ix_39, len_22, len_23, mk_23, mk_31, mk_39, sl0_23, sl_23, hap, a4, tn]
    have er : S.map natRow ++ [[.int .i64 (b : Nat)]] = (S ++ [b]).map natRow := by rw [List.map_append]; rfl
    have eo : (out.map intRow).set b [.int .i64 (at0 zs a)] = (out.set b (at0 zs a)).map intRow := by rw [List.map_set]; rfl
    rw [er, eo] at s4
    refine k2 (fun q => by unfold Fl.on at q; rw [hdb] at q; cases q) _ _ ?_
    rw [List.length_map]
    exact (s4.p 1).drop
end
end Go.Fw
