/-
  SOLVE, walked: the copy, the order, the answer.
-/
import Derived.Test.YtogpghbigjnpnaaDoorFwI
namespace Go.Fw
open Go.Ai Go.Proofs Go.Fl
set_option linter.unusedVariables false
set_option linter.unusedSimpArgs false
set_option maxRecDepth 10000
def fillC (N i : Nat) : List Value := (List.range N).map fun k => .int .i64 ((if k < i then k else 0 : Nat) : Int)
theorem fill_zero (N : Nat) : fillC N 0 = List.replicate N (.int .i64 0) := by
  unfold fillC
  apply List.ext_getElem?
  intro i
  rw [List.getElem?_map, List.getElem?_replicate]
  by_cases h : i < N
  · rw [List.getElem?_range h, if_pos h]; rfl
  · rw [List.getElem?_eq_none (by simpa using h), if_neg h]; rfl
theorem fill_all (N : Nat) : fillC N N = ordC (List.range N) := by
  unfold fillC ordC
  apply List.map_congr_left
  intro k hk
  rw [if_pos (List.mem_range.1 hk)]
theorem fill_set (N i : Nat) : (fillC N i).set i (.int .i64 (i : Nat)) = fillC N (i + 1) := by
  unfold fillC
  apply List.ext_getElem?
  intro k
  rw [List.getElem?_set]
  by_cases h : k < N
  · rw [List.getElem?_map, List.getElem?_map, List.getElem?_range h]
    by_cases q : i = k
    · subst q; simp [h]
    · have e : (k < i + 1) ↔ k < i := by omega
      simp [q, e]
  · rw [List.getElem?_eq_none (l := List.map _ _) (by simpa using h), List.getElem?_eq_none (l := List.map _ _) (by simpa using h)]
    split
    · simp; omega
    · rfl
section
variable {lo : Low} {h : AHeap} {L : List HP} {zs out : List Int} {es : List (Int × Int)} {vs : List Value} {sv ov wv v : Value} {b6 nb N : Nat} {R : Value → AHeap → Prop} {world : List Int}
theorem clone_s (hw : SliceI h wv world) (hl : world.length * 8 ≤ 2 ^ 47) (s : Sat lo h L) : DC Tryd.prog 13 [wv] h (fun v h' => isBot v = false ∧ cellOk v = true ∧ Sat lo h' (slc 3 1 v (world.map intRow) :: L)) := by
  apply X_Clone_ok
  unfold X_Clone
  have SR := sliceR_I hw
  rcases hw with ⟨rfl, rfl⟩ | ⟨b, off, cp, rfl, hc⟩
  · simp -implicitDefEqProofs only [EE, cond_true, cond_false, nth, Value.cells, ↓bk_eq, setMany, if_true, if_false, Nat.reduceAdd, Nat.reduceLeDiff, Nat.reduceMul, Nat.reduceMod, Nat.reduceDiv, Nat.reduceSub, Nat.reduceEqDiff, Int.reduceEq, Int.reduceLT, Int.reduceLE, Int.reduceAdd, Int.reduceSub, Int.reduceMul, Int.reduceNeg, Int.reduceToNat, ne_eq, rv_none, ldn, ld1, beq_self_eq_true, ap_23, bs_23_0_, co_3, eql0_23, eql_23]
    exact slc_nil _ _ s
  · simp -implicitDefEqProofs only [EE, cond_true, cond_false, nth, Value.cells, ↓bk_eq, setMany, if_true, if_false, Nat.reduceAdd, Nat.reduceLeDiff, Nat.reduceMul, Nat.reduceMod, Nat.reduceDiv, Nat.reduceSub, Nat.reduceEqDiff, Int.reduceEq, Int.reduceLT, Int.reduceLE, Int.reduceAdd, Int.reduceSub, Int.reduceMul, Int.reduceNeg, Int.reduceToNat, ne_eq, rv_none, ldn, ld1, beq_self_eq_true, ap_23, bs_23_0_, co_3, eql0_23, eql_23]
    have s1 := s.push (.cells [] 3)
    have s2 : Sat lo (h.push (.cells [] 3)) (slc 3 1 (.slice (some ⟨h.next, 0, none⟩) 0 2) [] :: L) := slc_full (rows := []) (c := 2) (by decide) (by simp) (by simp) s1
    have hap : ∀ r, abuiltin Tryd.prog .append [23, 23] r [.slice (some ⟨h.next, 0, none⟩) 0 2, .slice (some ⟨b, off, none⟩) world.length cp] (h.push (.cells [] 3)) = app2 (h.push (.cells [] 3)) 3 1 8 world.length (world.map intRow).flatten (.slice (some ⟨h.next, 0, none⟩) 0 2) := fun r => by
      have f := (SR.old (Old.push h (.cells [] 3))).first (by decide) (row_of (f := intRow) (fun _ => rfl) world)
      rw [List.length_map] at f
      exact ap_23 r _ _ world.length _ _ rfl f (by simp [intRow, List.all_flatten]; exact fun _ _ => rfl) (by rw [flat_len (row_of (f := intRow) (fun _ => rfl) world), List.length_map])
    by_cases h0 : world = []
    · subst h0
      have : app2 (h.push (.cells [] 3)) 3 1 8 ([] : List Int).length (([] : List Int).map intRow).flatten (.slice (some ⟨h.next, 0, none⟩) 0 2) = some (.slice (some ⟨h.next, 0, none⟩) 0 2, h.push (.cells [] 3)) := rfl
      simp -implicitDefEqProofs only [EE, cond_true, cond_false, nth, Value.cells, ↓bk_eq, setMany, if_true, if_false, Nat.reduceAdd, Nat.reduceLeDiff, Nat.reduceMul, Nat.reduceMod, Nat.reduceDiv, Nat.reduceSub, Nat.reduceEqDiff, Int.reduceEq, Int.reduceLT, Int.reduceLE, Int.reduceAdd, Int.reduceSub, Int.reduceMul, Int.reduceNeg, Int.reduceToNat, ne_eq, rv_none, ldn, ld1, beq_self_eq_true, ap_23, bs_23_0_, co_3, eql0_23, eql_23, hap, this]
      first | exact s2 | exact ⟨rfl, rfl, s2⟩ | exact ⟨rfl, rfl, rfl, s2⟩
    · obtain ⟨b', c', h3, a1, s3⟩ := slc_appn s2 (by simp) (world.map intRow) (row_of (f := intRow) (fun _ => rfl) world) 8 (by simp; omega) (by simpa using h0)
      rw [List.length_map] at a1 s3
      simp -implicitDefEqProofs only [EE, cond_true, cond_false, nth, Value.cells, ↓bk_eq, setMany, if_true, if_false, Nat.reduceAdd, Nat.reduceLeDiff, Nat.reduceMul, Nat.reduceMod, Nat.reduceDiv, Nat.reduceSub, Nat.reduceEqDiff, Int.reduceEq, Int.reduceLT, Int.reduceLE, Int.reduceAdd, Int.reduceSub, Int.reduceMul, Int.reduceNeg, Int.reduceToNat, ne_eq, rv_none, ldn, ld1, beq_self_eq_true, ap_23, bs_23_0_, co_3, eql0_23, eql_23, hap, a1, List.length_nil]
      rw [List.length_nil, Nat.zero_add, List.nil_append] at s3
      first | exact s3 | exact ⟨rfl, rfl, s3⟩
theorem rest_s {vs100 : List Value} {ob : Nat} (Z : Rd lo (SliceI · sv zs)) (hz : zs.length = N) (hN : N ≤ 2000) (hzb : ∀ z, z ∈ zs → 0 ≤ z ∧ z ≤ 1000000) (hvs : vs.length = N) (hE : ∀ u w, (u, w) ∈ es.map toN → u < N ∧ w < N) (hl : es.length ≤ 1000000) (ns : 0 < N → ∀ b off n c, sv = .slice (some ⟨b, off, none⟩) n c → ¬ b = ob) (ovn : isBot ov = false)
    (s : Sat lo h (pt ob (.cells (ordC (List.range N)) 3) :: pt b6 (.cells [sv] 23) :: slc 3 1 ov (zs.map intRow) :: tab 3 vs (nxt N es) :: pt nb (.cells vs 23) :: L))
    (k : ∀ out h', Sol N (es.map toN) (at0 zs) (at0 out) → out.length = N → Sat lo h' (slc 3 1 ov (out.map intRow) :: pt b6 (.cells [sv] 23) :: L) → R (.tuple #[ov, .int .i64 0]) h') :
    X_Solve_28 (.pointer (some ⟨b6, 0, none⟩)) (.slice (some ⟨ob, 0, none⟩) N (N + 2)) (.int .i64 N) (.slice (some ⟨nb, 0, none⟩) N (N + 2)) ov R vs100 h := by
  unfold X_Solve_28
  simp -implicitDefEqProofs only [EE, cond_true, cond_false, nth, Value.cells, ↓bk_eq, setMany, if_true, if_false, Nat.reduceAdd, Nat.reduceLeDiff, Nat.reduceMul, Nat.reduceMod, Nat.reduceDiv, Nat.reduceSub, Nat.reduceEqDiff, Int.reduceEq, Int.reduceLT, Int.reduceLE, Int.reduceAdd, Int.reduceSub, Int.reduceMul, Int.reduceNeg, Int.reduceToNat, ne_eq, rv_none, ldn, ld1, beq_self_eq_true, al_23, al_28, al_3, al_4, ap_23, as_23, as_28, as_3, as_4, az_28, bs_23_1_0, co_3, ix_22, ix_23, ix_28, ix_31, ix_39, len_22, len_23, mk_23, mk_31, mk_39, sl0_23, sl_23, List.nil_append]
  refine callV_of (by kernel_rfl) rfl (sort_s (Z.at s) hz hN hzb s ns) ?_
  rintro v h1 ⟨rfl, ord, o1, o2, s1⟩
  have am : amake Tryd.prog 39 (.int .i64 N) (.int .i64 N) h1 = some (.slice (some ⟨h1.next, 0, none⟩) N (N + 2), h1.push (.cells (bolC (List.replicate N false)) 4)) := by
    rw [mk_39 _ _ _ _ _ (by omega) (by omega) (by omega), Int.toNat_natCast, Nat.mul_one, zc_one]
    unfold bolC
    rw [List.map_replicate]
  unfold X_Solve_27
  simp -implicitDefEqProofs only [EE, cond_true, cond_false, nth, Value.cells, ↓bk_eq, setMany, if_true, if_false, Nat.reduceAdd, Nat.reduceLeDiff, Nat.reduceMul, Nat.reduceMod, Nat.reduceDiv, Nat.reduceSub, Nat.reduceEqDiff, Int.reduceEq, Int.reduceLT, Int.reduceLE, Int.reduceAdd, Int.reduceSub, Int.reduceMul, Int.reduceNeg, Int.reduceToNat, ne_eq, rv_none, ldn, ld1, beq_self_eq_true, al_23, al_28, al_3, al_4, ap_23, as_23, as_28, as_3, as_4, az_28, bs_23_1_0, co_3, ix_22, ix_23, ix_28, ix_31, ix_39, len_22, len_23, mk_23, mk_31, mk_39, sl0_23, sl_23, am]
  have s2 := s1.push (.cells (bolC (List.replicate N false)) 4)
  generalize h1.push (.cells (bolC (List.replicate N false)) 4) = h2 at s2 ⊢
  generalize h1.next = db at s2 ⊢
  refine outer_s (out := zs) (dn := List.replicate N false) Z hz hN hvs (fun u w e => (hE u w e).2) hl o1 o2 (Mn.begin hz (fun i _ => rfl) (fun i _ => rfl) 1000000 (fun i => ?_)) (s2.f [3, 0, 2, 1, 4, 5]) fun out dn h3 X s3 => ?_
  · by_cases q : i < zs.length
    · exact (hzb _ (List.mem_of_getElem? (at0_get q))).2
    · unfold at0
      rw [List.getD_eq_getElem?_getD, List.getElem?_eq_none (by omega)]
      decide
  · simp -implicitDefEqProofs only [EE, cond_true, cond_false, nth, Value.cells, ↓bk_eq, setMany, if_true, if_false, Nat.reduceAdd, Nat.reduceLeDiff, Nat.reduceMul, Nat.reduceMod, Nat.reduceDiv, Nat.reduceSub, Nat.reduceEqDiff, Int.reduceEq, Int.reduceLT, Int.reduceLE, Int.reduceAdd, Int.reduceSub, Int.reduceMul, Int.reduceNeg, Int.reduceToNat, ne_eq, rv_none, ldn, ld1, beq_self_eq_true, ovn]
    refine k out h3 (X.sol o1 (fun u w e => (hE u w e).1) (by omega)) X.olen ?_
    have s4 : Sat lo h3 (slc 3 1 ov (out.map intRow) :: pt db (.cells (bolC dn) 4) :: pt b6 (.cells [sv] 23) :: pt ob (.cells (ordC ord) 3) :: tab 3 vs (nxt N es) :: pt nb (.cells vs 23) :: L) := s3
    exact ((s4.f [1, 3, 4, 5]).drop.drop.drop).drop
theorem make_s (Z : Rd lo (SliceI · sv zs)) (hz : zs.length = N) (hN : N ≤ 2000) (hzb : ∀ z, z ∈ zs → 0 ≤ z ∧ z ≤ 1000000) (hvs : vs.length = N) (hE : ∀ u w, (u, w) ∈ es.map toN → u < N ∧ w < N) (hl : es.length ≤ 1000000) (ovn : isBot ov = false)
    (s : Sat lo h (slc 3 1 ov (zs.map intRow) :: tab 3 vs (nxt N es) :: pt nb (.cells vs 23) :: pt b6 (.cells [sv] 23) :: L))
    (k : ∀ out h', Sol N (es.map toN) (at0 zs) (at0 out) → out.length = N → Sat lo h' (slc 3 1 ov (out.map intRow) :: pt b6 (.cells [sv] 23) :: L) → R (.tuple #[ov, .int .i64 0]) h') :
    X_Solve_29 (.int .i64 N) (.pointer (some ⟨b6, 0, none⟩)) (.slice (some ⟨nb, 0, none⟩) N (N + 2)) R ov h := by
  have am : amake Tryd.prog 23 (.int .i64 N) (.int .i64 N) h = some (.slice (some ⟨h.next, 0, none⟩) N (N + 2), h.push (.cells (fillC N 0) 3)) := by
    rw [mk_23 _ _ _ _ _ (by omega) (by omega) (by omega), Int.toNat_natCast, Nat.mul_one, zc_one, fill_zero]
  have ns : 0 < N → ∀ b off n c, sv = .slice (some ⟨b, off, none⟩) n c → ¬ b = h.next := fun h0 b off n c e => by
    subst e
    rcases Z.at s with ⟨e, _⟩ | ⟨b1, o1, c1, e, hc⟩
    · cases e
    · cases e
      obtain ⟨c, t, hb, _⟩ := hc (by intro e; subst e; simp at hz; omega)
      omega
  unfold X_Solve_29
  simp -implicitDefEqProofs only [EE, cond_true, cond_false, nth, Value.cells, ↓bk_eq, setMany, if_true, if_false, Nat.reduceAdd, Nat.reduceLeDiff, Nat.reduceMul, Nat.reduceMod, Nat.reduceDiv, Nat.reduceSub, Nat.reduceEqDiff, Int.reduceEq, Int.reduceLT, Int.reduceLE, Int.reduceAdd, Int.reduceSub, Int.reduceMul, Int.reduceNeg, Int.reduceToNat, ne_eq, rv_none, ldn, ld1, beq_self_eq_true, al_23, al_28, al_3, al_4, ap_23, as_23, as_28, as_3, as_4, az_28, bs_23_1_0, co_3, ix_22, ix_23, ix_28, ix_31, ix_39, len_22, len_23, mk_23, mk_31, mk_39, sl0_23, sl_23, am]
  have s0 := s.push (.cells (fillC N 0) 3)
  generalize h.push (.cells (fillC N 0) 3) = h1 at s0 ⊢
  generalize h.next = ob at s0 ns ⊢
  refine LP_of (fun q vs' h' => ∃ (i : Nat), i ≤ N ∧ q = N - i ∧ vs' = [.int .i64 (i : Nat)] ∧ Sat lo h' (pt ob (.cells (fillC N i) 3) :: slc 3 1 ov (zs.map intRow) :: tab 3 vs (nxt N es) :: pt nb (.cells vs 23) :: pt b6 (.cells [sv] 23) :: L)) N ⟨0, Nat.zero_le _, rfl, rfl, s0⟩ ?_
  rintro q vs' h' ⟨i, hi, rfl, rfl, s1⟩
  unfold X_Solve_16
  by_cases hlt : (i : Int) < (N : Int)
  · have hii : (0 : Int) ≤ (i : Int) ∧ (i : Int) < (N : Int) := by omega
    have hin := inc (show i < 4611686018427387904 by omega)
    simp -implicitDefEqProofs only [EE, cond_true, cond_false, nth, Value.cells, ↓bk_eq, setMany, if_true, if_false, Nat.reduceAdd, Nat.reduceLeDiff, Nat.reduceMul, Nat.reduceMod, Nat.reduceDiv, Nat.reduceSub, Nat.reduceEqDiff, Int.reduceEq, Int.reduceLT, Int.reduceLE, Int.reduceAdd, Int.reduceSub, Int.reduceMul, Int.reduceNeg, Int.reduceToNat, ne_eq, rv_none, ldn, ld1, beq_self_eq_true, al_23, al_28, al_3, al_4, ap_23, as_23, as_28, as_3, as_4, az_28, bs_23_1_0, co_3, ix_22, ix_23, ix_28, ix_31, ix_39, len_22, len_23, mk_23, mk_31, mk_39, sl0_23, sl_23, X_Solve_15, hlt, hii, Nat.mul_one, Int.toNat_natCast]
    refine sto_s s1 (by simp [fillC]; omega) rfl fun h2 s2 => ?_
    have s2 : Sat lo h2 (pt ob (.cells ((fillC N i).set i (.int .i64 (i : Nat))) 3) :: slc 3 1 ov (zs.map intRow) :: tab 3 vs (nxt N es) :: pt nb (.cells vs 23) :: pt b6 (.cells [sv] 23) :: L) := s2
    rw [fill_set] at s2
    simp -implicitDefEqProofs only [EE, cond_true, cond_false, nth, Value.cells, ↓bk_eq, setMany, if_true, if_false, Nat.reduceAdd, Nat.reduceLeDiff, Nat.reduceMul, Nat.reduceMod, Nat.reduceDiv, Nat.reduceSub, Nat.reduceEqDiff, Int.reduceEq, Int.reduceLT, Int.reduceLE, Int.reduceAdd, Int.reduceSub, Int.reduceMul, Int.reduceNeg, Int.reduceToNat, ne_eq, rv_none, ldn, ld1, beq_self_eq_true, hin]
    exact ⟨N - (i + 1), by omega, i + 1, by omega, rfl, rfl, s2⟩
  · have e : i = N := by omega
    subst e
    rw [fill_all] at s1
    simp -implicitDefEqProofs only [EE, cond_true, cond_false, nth, Value.cells, ↓bk_eq, setMany, if_true, if_false, Nat.reduceAdd, Nat.reduceLeDiff, Nat.reduceMul, Nat.reduceMod, Nat.reduceDiv, Nat.reduceSub, Nat.reduceEqDiff, Int.reduceEq, Int.reduceLT, Int.reduceLE, Int.reduceAdd, Int.reduceSub, Int.reduceMul, Int.reduceNeg, Int.reduceToNat, ne_eq, rv_none, ldn, ld1, beq_self_eq_true, hlt]
    exact rest_s Z hz hN hzb hvs hE hl ns ovn (s1.f [0, 4]) k
/-- What is asked of Solve's arguments. -/
def good (n most : Int) (zs : List Int) (es : List (Int × Int)) : Prop := (0 ≤ n ∧ n ≤ 2000) ∧ (0 ≤ most ∧ most ≤ 1000000) ∧ (zs.length : Int) = n ∧ okS most zs = true ∧ okE n.toNat es
theorem solve_s {n most : Int} {ev : Value} (Z : Rd lo (SliceI · sv zs)) (E : Rd lo (SliceR · ev 2 (es.map evRow))) (hl : es.length ≤ 1000000) (hl2 : zs.length ≤ 1000000) (s : Sat lo h L) :
    DC Tryd.prog 6 [.int .i64 n, ev, sv, .int .i64 most] h (fun v h' => (¬ good n most zs es ∧ v = badV ∧ Sat lo h' L) ∨ (good n most zs es ∧ ∃ ov out, v = .tuple #[ov, .int .i64 0] ∧ Sol n.toNat (es.map toN) (at0 zs) (at0 out) ∧ (out.length : Int) = n ∧ Sat lo h' (slc 3 1 ov (out.map intRow) :: L))) := by
  have svn := (Z.at s).nob
  have svc := (Z.at s).cok
  have evn := (E.at s).nob
  have lz := fun h' => len_i (Z.at s) 3 h'
  apply X_Solve_ok
  unfold X_Solve
  have svl : (Value.cells sv).toList = [sv] := by
    rcases Z.at s with ⟨rfl, _⟩ | ⟨b, off, cp, rfl, _⟩ <;> rfl
  simp only [nb_cons, nb_nil, opt_some, svn, svl, cond_false]
  refine nw_s s fun b6 h1 s1 => ?_
  have g6 := s1.get
  have bad : ¬ good n most zs es → ∀ h', Sat lo h' (pt b6 (.cells [sv] 23) :: L) → (fun v h' => (¬ good n most zs es ∧ v = badV ∧ Sat lo h' L) ∨ (good n most zs es ∧ ∃ ov out, v = .tuple #[ov, .int .i64 0] ∧ Sol n.toNat (es.map toN) (at0 zs) (at0 out) ∧ (out.length : Int) = n ∧ Sat lo h' (slc 3 1 ov (out.map intRow) :: L))) badV h' := fun g h' s' => .inl ⟨g, rfl, s'.drop⟩
  generalize hR : (fun (v : Value) (h' : AHeap) => (¬ good n most zs es ∧ v = badV ∧ Sat lo h' L) ∨ (good n most zs es ∧ ∃ ov out, v = .tuple #[ov, .int .i64 0] ∧ Sol n.toNat (es.map toN) (at0 zs) (at0 out) ∧ (out.length : Int) = n ∧ Sat lo h' (slc 3 1 ov (out.map intRow) :: L))) = R at bad ⊢
  by_cases q1 : n < 0
  · simp -implicitDefEqProofs only [EE, cond_true, cond_false, nth, Value.cells, ↓bk_eq, setMany, if_true, if_false, Nat.reduceAdd, Nat.reduceLeDiff, Nat.reduceMul, Nat.reduceMod, Nat.reduceDiv, Nat.reduceSub, Nat.reduceEqDiff, Int.reduceEq, Int.reduceLT, Int.reduceLE, Int.reduceAdd, Int.reduceSub, Int.reduceMul, Int.reduceNeg, Int.reduceToNat, ne_eq, rv_none, ldn, ld1, beq_self_eq_true, al_23, al_28, al_3, al_4, ap_23, as_23, as_28, as_3, as_4, az_28, bs_23_1_0, co_3, ix_22, ix_23, ix_28, ix_31, ix_39, len_22, len_23, mk_23, mk_31, mk_39, sl0_23, sl_23, X_Solve_32, X_Solve_33, X_Solve_34, X_Solve_35, X_Solve_36, X_Solve_37, q1, g6, svn, lz]
    exact bad (fun g => by unfold good at g; omega) _ s1
  by_cases q2 : 2000 < n
  · simp -implicitDefEqProofs only [EE, cond_true, cond_false, nth, Value.cells, ↓bk_eq, setMany, if_true, if_false, Nat.reduceAdd, Nat.reduceLeDiff, Nat.reduceMul, Nat.reduceMod, Nat.reduceDiv, Nat.reduceSub, Nat.reduceEqDiff, Int.reduceEq, Int.reduceLT, Int.reduceLE, Int.reduceAdd, Int.reduceSub, Int.reduceMul, Int.reduceNeg, Int.reduceToNat, ne_eq, rv_none, ldn, ld1, beq_self_eq_true, al_23, al_28, al_3, al_4, ap_23, as_23, as_28, as_3, as_4, az_28, bs_23_1_0, co_3, ix_22, ix_23, ix_28, ix_31, ix_39, len_22, len_23, mk_23, mk_31, mk_39, sl0_23, sl_23, X_Solve_32, X_Solve_33, X_Solve_34, X_Solve_35, X_Solve_36, X_Solve_37, q1, q2, g6, svn, lz]
    exact bad (fun g => by unfold good at g; omega) _ s1
  by_cases q3 : most < 0
  · simp -implicitDefEqProofs only [EE, cond_true, cond_false, nth, Value.cells, ↓bk_eq, setMany, if_true, if_false, Nat.reduceAdd, Nat.reduceLeDiff, Nat.reduceMul, Nat.reduceMod, Nat.reduceDiv, Nat.reduceSub, Nat.reduceEqDiff, Int.reduceEq, Int.reduceLT, Int.reduceLE, Int.reduceAdd, Int.reduceSub, Int.reduceMul, Int.reduceNeg, Int.reduceToNat, ne_eq, rv_none, ldn, ld1, beq_self_eq_true, al_23, al_28, al_3, al_4, ap_23, as_23, as_28, as_3, as_4, az_28, bs_23_1_0, co_3, ix_22, ix_23, ix_28, ix_31, ix_39, len_22, len_23, mk_23, mk_31, mk_39, sl0_23, sl_23, X_Solve_32, X_Solve_33, X_Solve_34, X_Solve_35, X_Solve_36, X_Solve_37, q1, q2, q3, g6, svn, lz]
    exact bad (fun g => by unfold good at g; omega) _ s1
  by_cases q4 : 1000000 < most
  · simp -implicitDefEqProofs only [EE, cond_true, cond_false, nth, Value.cells, ↓bk_eq, setMany, if_true, if_false, Nat.reduceAdd, Nat.reduceLeDiff, Nat.reduceMul, Nat.reduceMod, Nat.reduceDiv, Nat.reduceSub, Nat.reduceEqDiff, Int.reduceEq, Int.reduceLT, Int.reduceLE, Int.reduceAdd, Int.reduceSub, Int.reduceMul, Int.reduceNeg, Int.reduceToNat, ne_eq, rv_none, ldn, ld1, beq_self_eq_true, al_23, al_28, al_3, al_4, ap_23, as_23, as_28, as_3, as_4, az_28, bs_23_1_0, co_3, ix_22, ix_23, ix_28, ix_31, ix_39, len_22, len_23, mk_23, mk_31, mk_39, sl0_23, sl_23, X_Solve_32, X_Solve_33, X_Solve_34, X_Solve_35, X_Solve_36, X_Solve_37, q1, q2, q3, q4, g6, svn, lz]
    exact bad (fun g => by unfold good at g; omega) _ s1
  by_cases q5 : (zs.length : Int) = n
  · have hn : n = ((n.toNat : Nat) : Int) := by omega
    have d5 : (!decide ((zs.length : Int) = n)) = false := by simp [q5]
    simp -implicitDefEqProofs only [EE, cond_true, cond_false, nth, Value.cells, ↓bk_eq, setMany, if_true, if_false, Nat.reduceAdd, Nat.reduceLeDiff, Nat.reduceMul, Nat.reduceMod, Nat.reduceDiv, Nat.reduceSub, Nat.reduceEqDiff, Int.reduceEq, Int.reduceLT, Int.reduceLE, Int.reduceAdd, Int.reduceSub, Int.reduceMul, Int.reduceNeg, Int.reduceToNat, ne_eq, rv_none, ldn, ld1, beq_self_eq_true, al_23, al_28, al_3, al_4, ap_23, as_23, as_28, as_3, as_4, az_28, bs_23_1_0, co_3, ix_22, ix_23, ix_28, ix_31, ix_39, len_22, len_23, mk_23, mk_31, mk_39, sl0_23, sl_23, X_Solve_32, X_Solve_33, X_Solve_34, X_Solve_35, X_Solve_36, X_Solve_37, q1, q2, q3, q4, d5, g6, svn, lz]
    refine start_s (Z.at s1) (by omega) g6 (fun g => bad (fun g2 => by unfold good at g2; rw [g2.2.2.2.1] at g; cases g) _ s1) fun hok v0 v1 => ?_
    generalize hN : n.toNat = N at *
    subst hn
    have hzb : ∀ z, z ∈ zs → 0 ≤ z ∧ z ≤ 1000000 := fun z hz => by
      unfold okS at hok
      rw [List.all_eq_true] at hok
      have := of_decide_eq_true (hok z hz)
      omega
    refine next_s (by omega) E hl s1 (fun g h' s' => bad (fun g2 => g (by unfold good at g2; simpa using g2.2.2.2.2)) _ s') fun hE nb vs h2 hvs s2 => ?_
    have hz : zs.length = N := by omega
    refine callV_of (by kernel_rfl) (by simp only [nobot, svn, cond_false]) (clone_s (Z.at s2) (by omega) s2) ?_
    rintro ov h3 ⟨on, oc, s3⟩
    refine make_s Z hz (by omega) hzb hvs (fun u w e => ?_) hl on s3 fun out h4 sol ol s4 => ?_
    · obtain ⟨x, hx, e2⟩ := List.mem_map.1 e
      have := hE x hx
      unfold toN at e2
      cases e2
      omega
    · rw [← hR]
      refine .inr ⟨⟨by omega, by omega, by omega, hok, by simpa using hE⟩, ov, out, rfl, sol, by omega, (s4.p 1).drop⟩
  · have d5 : (!decide ((zs.length : Int) = n)) = true := by simp [q5]
    simp -implicitDefEqProofs only [EE, cond_true, cond_false, nth, Value.cells, ↓bk_eq, setMany, if_true, if_false, Nat.reduceAdd, Nat.reduceLeDiff, Nat.reduceMul, Nat.reduceMod, Nat.reduceDiv, Nat.reduceSub, Nat.reduceEqDiff, Int.reduceEq, Int.reduceLT, Int.reduceLE, Int.reduceAdd, Int.reduceSub, Int.reduceMul, Int.reduceNeg, Int.reduceToNat, ne_eq, rv_none, ldn, ld1, beq_self_eq_true, al_23, al_28, al_3, al_4, ap_23, as_23, as_28, as_3, as_4, az_28, bs_23_1_0, co_3, ix_22, ix_23, ix_28, ix_31, ix_39, len_22, len_23, mk_23, mk_31, mk_39, sl0_23, sl_23, X_Solve_32, X_Solve_33, X_Solve_34, X_Solve_35, X_Solve_36, X_Solve_37, q1, q2, q3, q4, d5, g6, svn, lz]
    exact bad (fun g => by unfold good at g; omega) _ s1
end
end Go.Fw
