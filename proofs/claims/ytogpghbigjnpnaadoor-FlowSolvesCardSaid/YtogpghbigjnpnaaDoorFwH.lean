/-
  SOLVE, walked: the search.
-/
import Derived.Test.YtogpghbigjnpnaaDoorFwG
namespace Go.Fw
open Go.Ai Go.Proofs Go.Fl
set_option linter.unusedVariables false
set_option linter.unusedSimpArgs false
set_option maxRecDepth 10000
section
variable {lo : Low} {h : AHeap} {L : List HP} {zs out : List Int} {dn : List Bool} {S ord : List Nat} {es : List (Int × Int)} {vs : List Value} {sv ov tv v : Value} {b6 db ob nb N a m M : Nat} {x0 : Nat → Int} {D0 : Nat → Prop}
/-- What else there is. -/
def RestC (b6 ob nb N : Nat) (sv : Value) (ord : List Nat) (es : List (Int × Int)) (vs : List Value) (L : List HP) : List HP := pt b6 (.cells [sv] 23) :: pt ob (.cells (ordC ord) 3) :: tab 3 vs (nxt N es) :: pt nb (.cells vs 23) :: L
def StC (db : Nat) (ov tv : Value) (S : List Nat) (out : List Int) (dn : List Bool) (Q : List HP) : List HP := slc 3 1 tv (S.map natRow) :: slc 3 1 ov (out.map intRow) :: pt db (.cells (bolC dn) 4) :: Q
theorem scan_s {j : List Value → AHeap → Prop} (Z : Rd lo (SliceI · sv zs)) (hz : zs.length = N) (hN : N ≤ 2000) (ha : a < N) (hm : m < N) (hv : vs[m]? = some v) (hE : ∀ u w, (u, w) ∈ es.map toN → w < N) (hl : es.length ≤ 1000000) (hM : M ≤ 1000000)
    (X : SrR N (es.map toN) (at0 zs) x0 D0 a out dn S m (adj (es.map toN) m)) (hc : 2 * left dn + S.length ≤ M) (s : Sat lo h (StC db ov tv S out dn (RestC b6 ob nb N sv ord es vs L)))
    (k : ∀ out' dn' S' tv' h', Sr N (es.map toN) (at0 zs) x0 D0 a out' dn' S' → 2 * left dn' + S'.length ≤ M → Sat lo h' (StC db ov tv' S' out' dn' (RestC b6 ob nb N sv ord es vs L)) → j [tv'] h') :
    LP (X_Solve_20 (.int .i64 (adj (es.map toN) m).length) j v (.slice (some ⟨db, 0, none⟩) N (N + 2)) (.pointer (some ⟨b6, 0, none⟩)) (.int .i64 a) ov) [tv, .int .i64 0] h := by
  have hr : (adj (es.map toN) m).length ≤ 1000000 := Nat.le_trans adj_len (by rw [List.length_map]; exact hl)
  generalize hR : adj (es.map toN) m = r at *
  refine LP_of (fun q vs' h' => ∃ (i : Nat) (out : List Int) (dn : List Bool) (S : List Nat) (tv : Value), i ≤ r.length ∧ q = r.length - i ∧ vs' = [tv, .int .i64 (i : Nat)] ∧ SrR N (es.map toN) (at0 zs) x0 D0 a out dn S m (r.drop i) ∧ 2 * left dn + S.length ≤ M ∧ Sat lo h' (StC db ov tv S out dn (RestC b6 ob nb N sv ord es vs L))) r.length ⟨0, out, dn, S, tv, Nat.zero_le _, rfl, rfl, X, hc, s⟩ ?_
  rintro q vs' h' ⟨i, out, dn, S, tv, hi, rfl, rfl, X, hc, s⟩
  have s' : Sat lo h' (slc 3 1 tv (S.map natRow) :: slc 3 1 ov (out.map intRow) :: pt db (.cells (bolC dn) 4) :: pt b6 (.cells [sv] 23) :: pt ob (.cells (ordC ord) 3) :: tab 3 vs (nxt N es) :: pt nb (.cells vs 23) :: L) := s
  have V : SliceR h' v 1 (r.map natRow) := by
    have := slc_read (tab_open (s'.p 5) hv (nxt_at (es := es) hm)) (row_of (f := natRow) (fun _ => rfl) _)
    rw [hR] at this; exact this
  have tn := slc_nob s'
  have vn := V.nob
  unfold X_Solve_20
  by_cases hlt : (i : Int) < (r.length : Int)
  · obtain ⟨b, hb⟩ : ∃ b, r[i]? = some b := ⟨_, List.getElem?_eq_getElem (by omega)⟩
    have ed : r.drop i = b :: r.drop (i + 1) := by
      rw [List.drop_eq_getElem_cons (by omega)]
      rw [List.getElem?_eq_getElem (by omega)] at hb
      rw [Option.some.inj hb]
    rw [ed] at X
    have hbN : b < N := hE m b (X.i.to b (List.mem_cons_self ..))
    have hin := inc (show i < 4611686018427387904 by omega)
    simp -implicitDefEqProofs only [EE, cond_true, cond_false, nth, Value.cells, ↓bk_eq, setMany, if_true, if_false, Nat.reduceAdd, Nat.reduceLeDiff, Nat.reduceMul, Nat.reduceMod, Nat.reduceDiv, Nat.reduceSub, Nat.reduceEqDiff, Int.reduceEq, Int.reduceLT, Int.reduceLE, Int.reduceAdd, Int.reduceSub, Int.reduceMul, Int.reduceNeg, Int.reduceToNat, ne_eq, rv_none, ldn, ld1, beq_self_eq_true, tn, hlt]
    refine visit_s Z (by omega) hbN hb X.olen X.dlen (by omega) s' V (fun h1 => ?_) (fun h1 tv' h2 s2 => ?_)
    · unfold X_Solve_19
      simp -implicitDefEqProofs only [EE, cond_true, cond_false, nth, Value.cells, ↓bk_eq, setMany, if_true, if_false, Nat.reduceAdd, Nat.reduceLeDiff, Nat.reduceMul, Nat.reduceMod, Nat.reduceDiv, Nat.reduceSub, Nat.reduceEqDiff, Int.reduceEq, Int.reduceLT, Int.reduceLE, Int.reduceAdd, Int.reduceSub, Int.reduceMul, Int.reduceNeg, Int.reduceToNat, ne_eq, rv_none, ldn, ld1, beq_self_eq_true, hin, tn]
      exact ⟨r.length - (i + 1), by omega, i + 1, out, dn, S, tv, by omega, rfl, rfl, X.skip h1, hc, s⟩
    · have hf : dn[b]? = some false := by
        have hlen : b < dn.length := by rw [X.dlen]; exact hbN
        rw [List.getElem?_eq_getElem hlen]
        cases hq : dn[b] with
        | false => rfl
        | true => exact absurd (by unfold Fl.on; rw [List.getElem?_eq_getElem hlen, hq]) h1
      have e := left_set hf
      have tn2 := slc_nob s2
      unfold X_Solve_19
      simp -implicitDefEqProofs only [EE, cond_true, cond_false, nth, Value.cells, ↓bk_eq, setMany, if_true, if_false, Nat.reduceAdd, Nat.reduceLeDiff, Nat.reduceMul, Nat.reduceMod, Nat.reduceDiv, Nat.reduceSub, Nat.reduceEqDiff, Int.reduceEq, Int.reduceLT, Int.reduceLE, Int.reduceAdd, Int.reduceSub, Int.reduceMul, Int.reduceNeg, Int.reduceToNat, ne_eq, rv_none, ldn, ld1, beq_self_eq_true, hin, tn2]
      exact ⟨r.length - (i + 1), by omega, i + 1, _, _, _, tv', by omega, rfl, rfl, X.push hbN h1, by rw [List.length_append, List.length_singleton]; omega, s2⟩
  · simp -implicitDefEqProofs only [EE, cond_true, cond_false, nth, Value.cells, ↓bk_eq, setMany, if_true, if_false, Nat.reduceAdd, Nat.reduceLeDiff, Nat.reduceMul, Nat.reduceMod, Nat.reduceDiv, Nat.reduceSub, Nat.reduceEqDiff, Int.reduceEq, Int.reduceLT, Int.reduceLE, Int.reduceAdd, Int.reduceSub, Int.reduceMul, Int.reduceNeg, Int.reduceToNat, ne_eq, rv_none, ldn, ld1, beq_self_eq_true, tn, hlt]
    have e : r.drop i = [] := List.drop_eq_nil_of_le (by omega)
    rw [e] at X
    exact k _ _ _ _ _ X.done hc s
theorem cells_int : Nat.beq (Tryd.prog.cellsOf 3) 1 = true := by kernel_rfl
theorem capsub0 {c : Nat} (hc : c ≠ 0) : capsub c 0 = c := by
  match c with
  | 0 => exact absurd rfl hc
  | 1 => rfl
  | k + 2 => rfl
theorem wdec {k : Nat} (h : k < 4611686018427387904) : IntKind.wrap .i64 (((k + 1 : Nat) : Int) - 1) = (k : Int) := by
  simp only [IntKind.wrap, IntKind.bits, IntKind.signed]; simp; omega
/-- The last one, and the others. -/
theorem slc_last {n : Nat} {rows : List (List Value)} {row : List Value} {ty : TypeId} (s : Sat lo h (slc ty n sv (rows ++ [row]) :: L)) (hn : ∀ r, r ∈ rows → r.length = n) : ∃ b c cs, sv = .slice (some ⟨b, 0, none⟩) (rows.length + 1) c ∧ c ≠ 0 ∧ h.get b = some (.cells cs ty) ∧ Sat lo h (slc ty n (.slice (some ⟨b, 0, none⟩) rows.length c) rows :: L) := by
  have hlen : (rows ++ [row]).length = rows.length + 1 := by simp
  rcases slc_cases s with ⟨_, e, _⟩ | ⟨b, c, cs, rfl, hc, hl, hf, s⟩
  · simp at e
  · rw [hlen, Nat.succ_mul] at hl hf
    refine ⟨b, c, cs, by rw [hlen], hc, s.get, slc_pt hc (by omega) ?_ s⟩
    have := congrArg (List.take (rows.length * n)) hf
    rw [List.take_take, Nat.min_eq_left (by omega), List.flatten_append] at this
    rw [this, List.take_left' (by rw [flat_len hn])]
theorem asl_last {b c k : Nat} {h : AHeap} {cs : List Value} (hc : c ≠ 0) (hg : h.get b = some (.cells cs 3)) : asl Tryd.prog 23 (.slice (some ⟨b, 0, none⟩) (k + 1) c) none (some (.int .i64 (k : Nat))) h = some (.slice (some ⟨b, 0, none⟩) k c) := by
  have h1 : (0 : Int) ≤ k ∧ (k : Int) ≤ ((k + 1 : Nat) : Int) := by omega
  rw [sl_23, abound_int, if_pos h1, Option.bind_some, abound_none, Option.bind_some, wide_of hg, cells_int, cond_true, capsub0 hc]
  simp
theorem search_s {j : List Value → AHeap → Prop} (Z : Rd lo (SliceI · sv zs)) (hz : zs.length = N) (hN : N ≤ 2000) (ha : a < N) (hvs : vs.length = N) (hE : ∀ u w, (u, w) ∈ es.map toN → w < N) (hl : es.length ≤ 1000000) 
    (X : Sr N (es.map toN) (at0 zs) x0 D0 a out dn S) (hM : 2 * left dn + S.length ≤ 1000000) (s : Sat lo h (StC db ov tv S out dn (RestC b6 ob nb N sv ord es vs L)))
    (k : ∀ out' dn' h', Sr N (es.map toN) (at0 zs) x0 D0 a out' dn' [] → Sat lo h' (slc 3 1 ov (out'.map intRow) :: pt db (.cells (bolC dn') 4) :: RestC b6 ob nb N sv ord es vs L) → j [] h') :
    LP (X_Solve_22 j (.slice (some ⟨nb, 0, none⟩) N (N + 2)) (.slice (some ⟨db, 0, none⟩) N (N + 2)) (.pointer (some ⟨b6, 0, none⟩)) (.int .i64 a) ov) [tv] h := by
  refine LP_of (fun q vs' h' => ∃ (out : List Int) (dn : List Bool) (S : List Nat) (tv : Value), vs' = [tv] ∧ Sr N (es.map toN) (at0 zs) x0 D0 a out dn S ∧ 2 * left dn + S.length ≤ q ∧ q ≤ 1000000 ∧ Sat lo h' (StC db ov tv S out dn (RestC b6 ob nb N sv ord es vs L))) (2 * left dn + S.length) ⟨out, dn, S, tv, rfl, X, Nat.le_refl _, hM, s⟩ ?_
  rintro q vs' h' ⟨out, dn, S, tv, rfl, X, hq, hq2, s⟩
  have s' : Sat lo h' (slc 3 1 tv (S.map natRow) :: slc 3 1 ov (out.map intRow) :: pt db (.cells (bolC dn) 4) :: pt b6 (.cells [sv] 23) :: pt ob (.cells (ordC ord) 3) :: tab 3 vs (nxt N es) :: pt nb (.cells vs 23) :: L) := s
  have tn := slc_nob s'
  have T := slc_read s' (row_of (f := natRow) (fun _ => rfl) _)
  have lt := fun h' => len_n T 3 h'
  unfold X_Solve_22
  rcases List.eq_nil_or_concat S with rfl | ⟨S0, m, rfl⟩
  · have e0 : ((([] : List Nat).length : Nat) : Int) = 0 := rfl
    simp -implicitDefEqProofs only [EE, cond_true, cond_false, nth, Value.cells, ↓bk_eq, setMany, if_true, if_false, Nat.reduceAdd, Nat.reduceLeDiff, Nat.reduceMul, Nat.reduceMod, Nat.reduceDiv, Nat.reduceSub, Nat.reduceEqDiff, Int.reduceEq, Int.reduceLT, Int.reduceLE, Int.reduceAdd, Int.reduceSub, Int.reduceMul, Int.reduceNeg, Int.reduceToNat, ne_eq, rv_none, ldn, ld1, beq_self_eq_true, al_23, al_28, al_3, al_4, ap_23, as_23, as_28, as_3, as_4, az_28, bs_23_1_0, co_3, ix_22, ix_23, ix_28, ix_31, ix_39, len_22, len_23, mk_23, mk_31, mk_39, sl0_23, sl_23, tn, lt, e0]
    exact k _ _ _ X s'.drop
  · rw [List.concat_eq_append] at *
    have hm : m < N := (X.i.mine m (X.i.stack m (by simp)).1 (X.i.stack m (by simp)).2).1
    obtain ⟨v, hv⟩ : ∃ v, vs[m]? = some v := ⟨_, List.getElem?_eq_getElem (by omega)⟩
    have gn := (s'.p 6).get
    have vo := tab_open (s'.p 5) hv (nxt_at (es := es) hm)
    have V := slc_read vo (row_of (f := natRow) (fun _ => rfl) _)
    have vn := V.nob
    have lv := fun h' => len_n V 3 h'
    have el : (S0 ++ [m]).length = S0.length + 1 := by simp
    rw [el] at hq lt
    have hlt : (0 : Int) < ((S0.length + 1 : Nat) : Int) := by omega
    have wd := wdec (show S0.length < 4611686018427387904 by omega)
    obtain ⟨b1, o1, c1, t1, x1, g1, e1⟩ := at_n T (i := S0.length) (z := m) (by simp)
    have er : (S0 ++ [m]).map natRow = S0.map natRow ++ [natRow m] := by rw [List.map_append]; rfl
    have s2 := s'
    rw [er] at s2
    obtain ⟨bb, cc, cs, rfl, hcc, gb, s3⟩ := slc_last s2 (row_of (f := natRow) (fun _ => rfl) _)
    rw [List.length_map] at *
    have ea := asl_last (k := S0.length) hcc gb
    have hmi : (0 : Int) ≤ (m : Int) ∧ (m : Int) < (N : Int) := by omega
    simp -implicitDefEqProofs only [EE, cond_true, cond_false, nth, Value.cells, ↓bk_eq, setMany, if_true, if_false, Nat.reduceAdd, Nat.reduceLeDiff, Nat.reduceMul, Nat.reduceMod, Nat.reduceDiv, Nat.reduceSub, Nat.reduceEqDiff, Int.reduceEq, Int.reduceLT, Int.reduceLE, Int.reduceAdd, Int.reduceSub, Int.reduceMul, Int.reduceNeg, Int.reduceToNat, ne_eq, rv_none, ldn, ld1, beq_self_eq_true, al_23, al_28, al_3, al_4, ap_23, as_23, as_28, as_3, as_4, az_28, bs_23_1_0, co_3, ix_22, ix_23, ix_28, ix_31, ix_39, len_22, len_23, mk_23, mk_31, mk_39, sl0_23, sl_23, X_Solve_21, tn, lt, hlt, wd, x1, g1, e1, ea, hmi, gn, hv, vn, lv, Nat.mul_one, Int.toNat_natCast]
    refine scan_s (M := 2 * left dn + S0.length) Z hz hN ha hm hv hE hl (by omega) (X.pop (fun w => adj_mem)) (Nat.le_refl _) s3 fun out' dn' S' tv' h' X' hc' s4 => ?_
    exact ⟨_, by omega, out', dn', S', tv', rfl, X', hc', by omega, s4⟩
end
end Go.Fw
