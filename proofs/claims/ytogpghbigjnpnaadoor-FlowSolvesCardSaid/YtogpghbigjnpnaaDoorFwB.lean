/-
  SOLVE, walked: each node's next ones.
-/
import Derived.Test.YtogpghbigjnpnaaDoorFwA
namespace Go.Fw
open Go.Ai Go.Proofs Go.Fl
set_option linter.unusedVariables false
set_option linter.unusedSimpArgs false
set_option maxRecDepth 10000
def evRow (e : Int × Int) : List Value := [.int .i64 e.1, .int .i64 e.2]
def toN (e : Int × Int) : Nat × Nat := (e.1.toNat, e.2.toNat)
def okE (N : Nat) (es : List (Int × Int)) : Prop := ∀ e, e ∈ es → (0 ≤ e.1 ∧ e.1 < N) ∧ 0 ≤ e.2 ∧ e.2 < N
theorem okE_take {N : Nat} {es : List (Int × Int)} {i : Nat} {e : Int × Int} (he : es[i]? = some e) (h : okE N (es.take i)) (hp : (0 ≤ e.1 ∧ e.1 < N) ∧ 0 ≤ e.2 ∧ e.2 < N) : okE N (es.take (i + 1)) := by
  intro x hx
  rw [List.take_add_one, he] at hx
  rcases List.mem_append.1 hx with hx | hx
  · exact h x hx
  · have : x = e := by simpa using hx
    rw [this]; exact hp
def nxt (N : Nat) (es : List (Int × Int)) : List (List Nat) := (List.range N).map (adj (es.map toN))
theorem nxt_nil (N : Nat) : nxt N [] = List.replicate N [] := by
  unfold nxt
  apply List.ext_getElem?
  intro i
  rw [List.getElem?_map, List.getElem?_replicate]
  by_cases h : i < N
  · rw [List.getElem?_range h, if_pos h]; rfl
  · rw [List.getElem?_eq_none (by simpa using h), if_neg h]; rfl
theorem nxt_at {N i : Nat} {es : List (Int × Int)} (h : i < N) : (nxt N es)[i]? = some (adj (es.map toN) i) := by
  unfold nxt
  rw [List.getElem?_map, List.getElem?_range h]; rfl
theorem nxt_snoc {N i : Nat} {es : List (Int × Int)} {e : Int × Int} (he : es[i]? = some e) (h : e.1.toNat < N) : nxt N (es.take (i + 1)) = (nxt N (es.take i)).set e.1.toNat (adj ((es.take i).map toN) e.1.toNat ++ [e.2.toNat]) := by
  apply List.ext_getElem?
  intro k
  rw [List.getElem?_set]
  by_cases hk : k < N
  · rw [nxt_at hk, nxt_at hk, List.take_add_one, he]
    have hl : e.1.toNat < (nxt N (es.take i)).length := by unfold nxt; simpa using h
    simp only [Option.toList_some, List.map_append, List.map_cons, List.map_nil]
    rw [show toN e = (e.1.toNat, e.2.toNat) from rfl, adj_snoc]
    by_cases q : k = e.1.toNat
    · subst q; simp [hl]
    · have : ¬ e.1.toNat = k := fun q2 => q q2.symm
      simp [q, this]
  · have a : (nxt N (es.take (i + 1)))[k]? = none := List.getElem?_eq_none (by unfold nxt; simpa using hk)
    have b : (nxt N (es.take i))[k]? = none := List.getElem?_eq_none (by unfold nxt; simpa using hk)
    rw [a, b]
    by_cases q : e.1.toNat = k
    · omega
    · rw [if_neg q]
theorem len_e {h : AHeap} {sv : Value} {es : List (Int × Int)} {n : Nat} (S : SliceR h sv n (es.map evRow)) (r : TypeId) (h' : AHeap) : abuiltin Tryd.prog .len [22] r [sv] h' = some (.int .i64 es.length, h') := by
  rcases S with ⟨rfl, e⟩ | ⟨b, off, cp, rfl, _⟩
  · have : es = [] := by simpa using e
    subst this
    simp only [len_22, List.length_nil]
  · simp only [len_22, List.length_map]
theorem at_e {h : AHeap} {sv : Value} {rows : List (List Value)} (S : SliceR h sv 2 rows) {i : Nat} {r : List Value} (hr : rows[i]? = some r) (hn : r.length = 2) : ∃ b o c t, aindex Tryd.prog 22 sv (.int .i64 i) = some (.pointer (some ⟨b, o, none⟩)) ∧ b < h.next ∧ h.get b = some (.cells c t) ∧ o + 2 ≤ c.length ∧ (c.drop o).take 2 = r ∧ ∀ k, k < 2 → c[o + k]? = r[k]? := by
  obtain ⟨b, o, c, t, ⟨off, cp, rfl, rfl⟩, hi, hb, hg, hl, ht, hk⟩ := S.spot hr hn
  have h1 : 0 ≤ (i : Int) ∧ (i : Int) < (rows.length : Int) := by omega
  exact ⟨b, off + i * 2, c, t, by simp only [ix_22, h1, Int.toNat_natCast, and_self, if_true], hb, hg, hl, ht, hk⟩
theorem zc_nil (N : Nat) : zcells [.slice none 0 0] N = List.replicate N (.slice none 0 0) := by
  unfold zcells
  apply List.ext_getElem?
  intro i
  rw [List.getElem?_map, List.getElem?_replicate]
  by_cases h : i < N
  · rw [List.getElem?_range h, if_pos h]; simp [Nat.mod_one]
  · rw [List.getElem?_eq_none (by simpa using h), if_neg h]; rfl
section
variable {lo : Low} {h : AHeap} {L : List HP} {sv ev : Value} {es : List (Int × Int)} {b6 N : Nat} {R : Value → AHeap → Prop}
/-- The state between edges. -/
def StB (b6 nb N : Nat) (sv : Value) (es : List (Int × Int)) (L : List HP) (lo : Low) (h : AHeap) : Prop := ∃ vs : List Value, vs.length = N ∧ Sat lo h (tab 3 vs (nxt N es) :: pt nb (.cells vs 23) :: pt b6 (.cells [sv] 23) :: L)
/-- An edge is laid by. -/
theorem edge_s {nb i : Nat} {e : Int × Int} {vs84 : List Value} {j : List Value → AHeap → Prop} (he : es[i]? = some e) (hp : (0 ≤ e.1 ∧ e.1 < N) ∧ 0 ≤ e.2 ∧ e.2 < N) (hl : es.length ≤ 1000000) {eb : Nat}
    {vs : List Value} (hv : vs.length = N) (s : Sat lo h (pt eb (.cells (evRow e) 28) :: tab 3 vs (nxt N (es.take i)) :: pt nb (.cells vs 23) :: pt b6 (.cells [sv] 23) :: L))
    (k : ∀ v0 v1 h', StB b6 nb N sv (es.take (i + 1)) L lo h' → j [v0, v1] h') : X_Solve_7 (.pointer (some ⟨eb, 0, none⟩)) (.slice (some ⟨nb, 0, none⟩) N (N + 2)) j vs84 h := by
  have ge := s.get
  have gn := (s.p 2).get
  have eb1 : eb < h.next := s.lt
  have nb1 : nb < h.next := (s.p 2).lt
  have n1 : e.1.toNat < N := by omega
  obtain ⟨v, hvv⟩ : ∃ v, vs[e.1.toNat]? = some v := ⟨_, List.getElem?_eq_getElem (by omega)⟩
  have hx : 0 ≤ e.1 ∧ e.1 < (N : Int) := hp.1
  unfold X_Solve_7
  unfold evRow at ge
  simp -implicitDefEqProofs only [EE, cond_true, cond_false, nth, Value.cells, ↓bk_eq, setMany, if_true, if_false, Nat.reduceAdd, Nat.reduceLeDiff, Nat.reduceMul, Nat.reduceMod, Nat.reduceDiv, Nat.reduceSub, Nat.reduceEqDiff, Int.reduceEq, Int.reduceLT, Int.reduceLE, Int.reduceAdd, Int.reduceSub, Int.reduceMul, Int.reduceNeg, Int.reduceToNat, ne_eq, rv_none, ldn, ld1, beq_self_eq_true, al_23, al_28, al_3, al_4, ap_23, as_23, as_28, as_3, as_4, az_28, bs_23_1_0, co_3, ix_22, ix_23, ix_28, ix_31, ix_39, len_22, len_23, mk_23, mk_31, mk_39, sl0_23, sl_23, Nat.mul_one, ge, gn, hx, hvv]
  refine LH_of (hid := [eb, eb, nb]) ?_ ?_
  · simp [hidL, Nat.testBit]
  simp -implicitDefEqProofs only [EE, cond_true, cond_false, nth, Value.cells, ↓bk_eq, setMany, if_true, if_false, Nat.reduceAdd, Nat.reduceLeDiff, Nat.reduceMul, Nat.reduceMod, Nat.reduceDiv, Nat.reduceSub, Nat.reduceEqDiff, Int.reduceEq, Int.reduceLT, Int.reduceLE, Int.reduceAdd, Int.reduceSub, Int.reduceMul, Int.reduceNeg, Int.reduceToNat, ne_eq, rv_none, ldn, ld1, beq_self_eq_true, al_23, al_28, al_3, al_4, ap_23, as_23, as_28, as_3, as_4, az_28, bs_23_1_0, co_3, ix_22, ix_23, ix_28, ix_31, ix_39, len_22, len_23, mk_23, mk_31, mk_39, sl0_23, sl_23]
  have s4 := push_un s (hid := [eb, eb, nb]) (by simp [eb1, nb1]) (.cells [.int .i64 e.2] 3)
  have hnx : (h.hide [eb, eb, nb]).next = h.next := rfl
  rw [hnx]
  generalize ((h.hide [eb, eb, nb]).push (.cells [.int .i64 e.2] 3)).unhide h [eb, eb, nb] = h4 at s4 ⊢
  generalize h.next = b4 at s4 ⊢
  unfold X_Solve_6
  refine LH_of (hid := [eb]) ?_ ?_
  · simp [hidL, Nat.testBit]
  obtain ⟨lo1, ll, s5, back⟩ := hide_s (s4.p 1)
  have g5 := s5.get
  have s6 := tab_open (s5.p 1) hvv (nxt_at (es := es.take i) n1)
  generalize hH : h4.hide [eb] = h5 at *
  have rl : ((adj ((es.take i).map toN) e.1.toNat).map natRow).length ≤ es.length := by
    rw [List.length_map]
    refine Nat.le_trans adj_len ?_
    rw [List.length_map]
    rw [List.length_take]; exact Nat.min_le_right ..
  obtain ⟨b', c', h7, a7, s7⟩ := slc_app s6 (row_of (f := natRow) (fun _ => rfl) _) [.int .i64 e.2] rfl (by decide) 8 (by omega)
  have vn := slc_nob s6
  simp only [List.length_map] at a7 s7
  have hap : abuiltin Tryd.prog .append [23, 23] 23 [v, .slice (some ⟨b4, 0, none⟩) 1 3] h5 = app2 h5 3 1 8 1 [.int .i64 e.2] v := ap_23 _ _ _ 1 _ _ rfl (by simp only [firstc, g5]; rfl) rfl rfl
  simp -implicitDefEqProofs only [EE, cond_true, cond_false, nth, Value.cells, ↓bk_eq, setMany, if_true, if_false, Nat.reduceAdd, Nat.reduceLeDiff, Nat.reduceMul, Nat.reduceMod, Nat.reduceDiv, Nat.reduceSub, Nat.reduceEqDiff, Int.reduceEq, Int.reduceLT, Int.reduceLE, Int.reduceAdd, Int.reduceSub, Int.reduceMul, Int.reduceNeg, Int.reduceToNat, ne_eq, rv_none, ldn, ld1, beq_self_eq_true, al_23, al_28, al_3, al_4, ap_23, as_23, as_28, as_3, as_4, az_28, bs_23_1_0, co_3, ix_22, ix_23, ix_28, ix_31, ix_39, len_22, len_23, mk_23, mk_31, mk_39, sl0_23, sl_23, hap, a7, vn, hx, Nat.mul_one]
  have s8 := (back h7 _ s7).p 4
  generalize h7.unhide h4 [eb] = h8 at s8 ⊢
  refine sto_s s8 (by simp; omega) rfl fun h9 s9 => ?_
  have s10 := (s9.f [1, 4]).drop.drop.f [1, 2]
  have er : (adj ((es.take i).map toN) e.1.toNat).map natRow ++ [[.int .i64 e.2]] = (adj ((es.take i).map toN) e.1.toNat ++ [e.2.toNat]).map natRow := by
    rw [List.map_append]
    simp only [List.map_cons, List.map_nil, natRow, Int.toNat_of_nonneg hp.2.1]
  rw [er] at s10
  have s11 := tab_close hvv (nxt_at (es := es.take i) n1) s10
  rw [← nxt_snoc he n1] at s11
  exact k (nth vs84 0) (nth vs84 1) _ ⟨_, by rw [List.length_set]; exact hv, s11⟩
theorem next_s {v0 v1 : Value} (hN : N ≤ 2000) (E : Rd lo (SliceR · ev 2 (es.map evRow))) (hl : es.length ≤ 1000000) (s : Sat lo h (pt b6 (.cells [sv] 23) :: L))
    (bad : ¬ okE N es → ∀ h', Sat lo h' (pt b6 (.cells [sv] 23) :: L) → R badV h')
    (k : okE N es → ∀ nb vs h', vs.length = N → Sat lo h' (tab 3 vs (nxt N es) :: pt nb (.cells vs 23) :: pt b6 (.cells [sv] 23) :: L) → (callV Tryd.prog (.func (.func 13) #[] #[]) [sv] h' (X_Solve_29 (.int .i64 N) (.pointer (some ⟨b6, 0, none⟩)) (.slice (some ⟨nb, 0, none⟩) N (N + 2)) R))) :
    X_Solve_30 (.int .i64 N) ev R (.pointer (some ⟨b6, 0, none⟩)) [v0, v1] h := by
  have en := (E.at s).nob
  have le := fun h' => len_e (E.at s) 3 h'
  have am : amake Tryd.prog 31 (.int .i64 N) (.int .i64 N) h = some (.slice (some ⟨h.next, 0, none⟩) N (N + 2), h.push (.cells (List.replicate N (.slice none 0 0)) 23)) := by
    rw [mk_31 _ _ _ _ _ (by omega) (by omega) (by omega), Int.toNat_natCast, Nat.mul_one, zc_nil]
  unfold X_Solve_30
  simp -implicitDefEqProofs only [EE, cond_true, cond_false, nth, Value.cells, ↓bk_eq, setMany, if_true, if_false, Nat.reduceAdd, Nat.reduceLeDiff, Nat.reduceMul, Nat.reduceMod, Nat.reduceDiv, Nat.reduceSub, Nat.reduceEqDiff, Int.reduceEq, Int.reduceLT, Int.reduceLE, Int.reduceAdd, Int.reduceSub, Int.reduceMul, Int.reduceNeg, Int.reduceToNat, ne_eq, rv_none, ldn, ld1, beq_self_eq_true, al_23, al_28, al_3, al_4, ap_23, as_23, as_28, as_3, as_4, az_28, bs_23_1_0, co_3, ix_22, ix_23, ix_28, ix_31, ix_39, len_22, len_23, mk_23, mk_31, mk_39, sl0_23, sl_23, am, le, en]
  have s0 := tab_new (ty := 3) (s.push (.cells (List.replicate N (.slice none 0 0)) 23)) N
  rw [← nxt_nil] at s0
  generalize h.push (.cells (List.replicate N (.slice none 0 0)) 23) = h1 at s0 ⊢
  generalize h.next = nb at s0 ⊢
  refine LP_of (fun m vs h' => ∃ (i : Nat) (v0 v1 : Value), i ≤ es.length ∧ m = es.length - i ∧ vs = [v0, v1, .int .i64 (i : Nat)] ∧ okE N (es.take i) ∧ StB b6 nb N sv (es.take i) L lo h') es.length ⟨0, _, _, Nat.zero_le _, rfl, rfl, (fun e he => by simp at he), _, List.length_replicate .., s0⟩ ?_
  rintro m vs h' ⟨i, v0, v1, hi, rfl, rfl, hok, vs, hv, s1⟩
  unfold X_Solve_14
  by_cases hc : (i : Int) < (es.length : Int)
  · obtain ⟨e, he⟩ : ∃ e, es[i]? = some e := ⟨_, List.getElem?_eq_getElem (by omega)⟩
    obtain ⟨b1, o1, c1, t1, x1, l1, g1, n1, k1, _⟩ := at_e (E.at s1) (i := i) (r := evRow e) (by rw [List.getElem?_map, he]; rfl) rfl
    have hin := inc (show i < 4611686018427387904 by omega)
    unfold evRow at k1
    simp -implicitDefEqProofs only [EE, cond_true, cond_false, nth, Value.cells, ↓bk_eq, setMany, if_true, if_false, Nat.reduceAdd, Nat.reduceLeDiff, Nat.reduceMul, Nat.reduceMod, Nat.reduceDiv, Nat.reduceSub, Nat.reduceEqDiff, Int.reduceEq, Int.reduceLT, Int.reduceLE, Int.reduceAdd, Int.reduceSub, Int.reduceMul, Int.reduceNeg, Int.reduceToNat, ne_eq, rv_none, ldn, ld1, beq_self_eq_true, al_23, al_28, al_3, al_4, ap_23, as_23, as_28, as_3, as_4, az_28, bs_23_1_0, co_3, ix_22, ix_23, ix_28, ix_31, ix_39, len_22, len_23, mk_23, mk_31, mk_39, sl0_23, sl_23, en, hc, X_Solve_12, x1, g1, n1, k1, beq_self_eq_true, Bool.and_self]
    refine nw_s s1 fun eb h2 s2 => ?_
    rw [show Value.agg #[.int .i64 e.1, .int .i64 e.2] = .agg [.int .i64 e.1, .int .i64 e.2].toArray from rfl, as_28 eb 0 [.int .i64 e.1, .int .i64 e.2] h2 rfl]
    refine sto_s s2 (by simp) rfl fun h3 s3 => ?_
    have s3 : Sat lo h3 (pt eb (.cells (evRow e) 28) :: tab 3 vs (nxt N (es.take i)) :: pt nb (.cells vs 23) :: pt b6 (.cells [sv] 23) :: L) := s3
    have g3 := s3.get
    unfold evRow at g3
    have no : ¬ ((0 ≤ e.1 ∧ e.1 < N) ∧ 0 ≤ e.2 ∧ e.2 < N) → R badV h3 := fun q => bad (fun q2 => q (q2 e (List.mem_of_getElem? he))) _ ((s3.f [0, 1, 2]).drop.drop.drop)
    by_cases q1 : (if e.2 < e.1 then e.2 else e.1) < 0
    · simp -implicitDefEqProofs only [EE, cond_true, cond_false, nth, Value.cells, ↓bk_eq, setMany, if_true, if_false, Nat.reduceAdd, Nat.reduceLeDiff, Nat.reduceMul, Nat.reduceMod, Nat.reduceDiv, Nat.reduceSub, Nat.reduceEqDiff, Int.reduceEq, Int.reduceLT, Int.reduceLE, Int.reduceAdd, Int.reduceSub, Int.reduceMul, Int.reduceNeg, Int.reduceToNat, ne_eq, rv_none, ldn, ld1, beq_self_eq_true, al_23, al_28, al_3, al_4, ap_23, as_23, as_28, as_3, as_4, az_28, bs_23_1_0, co_3, ix_22, ix_23, ix_28, ix_31, ix_39, len_22, len_23, mk_23, mk_31, mk_39, sl0_23, sl_23, X_Solve_8, X_Solve_9, X_Solve_10, X_Solve_11, mn_3, g3, q1]
      refine no fun q => ?_
      split at q1 <;> omega
    · by_cases q2 : (N : Int) ≤ (if e.1 < e.2 then e.2 else e.1)
      · simp -implicitDefEqProofs only [EE, cond_true, cond_false, nth, Value.cells, ↓bk_eq, setMany, if_true, if_false, Nat.reduceAdd, Nat.reduceLeDiff, Nat.reduceMul, Nat.reduceMod, Nat.reduceDiv, Nat.reduceSub, Nat.reduceEqDiff, Int.reduceEq, Int.reduceLT, Int.reduceLE, Int.reduceAdd, Int.reduceSub, Int.reduceMul, Int.reduceNeg, Int.reduceToNat, ne_eq, rv_none, ldn, ld1, beq_self_eq_true, al_23, al_28, al_3, al_4, ap_23, as_23, as_28, as_3, as_4, az_28, bs_23_1_0, co_3, ix_22, ix_23, ix_28, ix_31, ix_39, len_22, len_23, mk_23, mk_31, mk_39, sl0_23, sl_23, X_Solve_8, X_Solve_9, X_Solve_10, X_Solve_11, mn_3, mx_3, g3, q1, q2, gt_iff_lt]
        refine no fun q => ?_
        split at q2 <;> omega
      · simp -implicitDefEqProofs only [EE, cond_true, cond_false, nth, Value.cells, ↓bk_eq, setMany, if_true, if_false, Nat.reduceAdd, Nat.reduceLeDiff, Nat.reduceMul, Nat.reduceMod, Nat.reduceDiv, Nat.reduceSub, Nat.reduceEqDiff, Int.reduceEq, Int.reduceLT, Int.reduceLE, Int.reduceAdd, Int.reduceSub, Int.reduceMul, Int.reduceNeg, Int.reduceToNat, ne_eq, rv_none, ldn, ld1, beq_self_eq_true, al_23, al_28, al_3, al_4, ap_23, as_23, as_28, as_3, as_4, az_28, bs_23_1_0, co_3, ix_22, ix_23, ix_28, ix_31, ix_39, len_22, len_23, mk_23, mk_31, mk_39, sl0_23, sl_23, X_Solve_8, X_Solve_9, X_Solve_10, X_Solve_11, mn_3, mx_3, g3, q1, q2, gt_iff_lt]
        have hp : (0 ≤ e.1 ∧ e.1 < (N : Int)) ∧ 0 ≤ e.2 ∧ e.2 < N := by
          split at q1 <;> split at q2 <;> omega
        refine edge_s he hp hl hv s3 fun v0 v1 h' st => ?_
        unfold X_Solve_13
        simp -implicitDefEqProofs only [EE, cond_true, cond_false, nth, Value.cells, ↓bk_eq, setMany, if_true, if_false, Nat.reduceAdd, Nat.reduceLeDiff, Nat.reduceMul, Nat.reduceMod, Nat.reduceDiv, Nat.reduceSub, Nat.reduceEqDiff, Int.reduceEq, Int.reduceLT, Int.reduceLE, Int.reduceAdd, Int.reduceSub, Int.reduceMul, Int.reduceNeg, Int.reduceToNat, ne_eq, rv_none, ldn, ld1, beq_self_eq_true, hin]
        exact ⟨es.length - (i + 1), by omega, i + 1, _, _, by omega, rfl, rfl, okE_take he hok hp, st⟩
  · have g6 := (s1.p 2).get
    have cn : True := trivial
    simp -implicitDefEqProofs only [EE, cond_true, cond_false, nth, Value.cells, ↓bk_eq, setMany, if_true, if_false, Nat.reduceAdd, Nat.reduceLeDiff, Nat.reduceMul, Nat.reduceMod, Nat.reduceDiv, Nat.reduceSub, Nat.reduceEqDiff, Int.reduceEq, Int.reduceLT, Int.reduceLE, Int.reduceAdd, Int.reduceSub, Int.reduceMul, Int.reduceNeg, Int.reduceToNat, ne_eq, rv_none, ldn, ld1, beq_self_eq_true, al_23, al_28, al_3, al_4, ap_23, as_23, as_28, as_3, as_4, az_28, bs_23_1_0, co_3, ix_22, ix_23, ix_28, ix_31, ix_39, len_22, len_23, mk_23, mk_31, mk_39, sl0_23, sl_23, en, hc, g6]
    have hi2 : i = es.length := by omega
    rw [hi2, List.take_length] at hok s1
    exact k hok nb vs _ hv s1
end
end Go.Fw
