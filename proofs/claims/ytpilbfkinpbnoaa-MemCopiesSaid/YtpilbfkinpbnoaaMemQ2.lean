/-
  THE DOCUMENT'S OWN MEMORY: a block more; an access.
-/
import Derived.Test.YtpilbfkinpbnoaaMemQ1
import Derived.Test.YtpilbfkinpbnoaaMemAH
namespace Go.Mem
open Go.Ai Go.Proofs
set_option linter.unusedVariables false
set_option linter.unusedSimpArgs false
theorem eff_at (h : AHeap) (b : Nat) (o : Option AObj) : Eff (fun x => x = b) h (h.set b o) :=
  (Eff.refl (fun x => x = b) h).set (b := b) (.inl (by rfl)) o
/-- The blocks' list, turned. -/
theorem RefO.list {h : AHeap} {w N : Nat} {ls pv : Value} {rs : List (Value × Bool)} {F : Nat → Prop} (x : RefO h w ls pv rs N F) {h1 : AHeap} {q c qn n cn : Nat} {cs : List Value} (hN : rs.length + 1 ≤ N + 1) (hw : h1.get w = some (.cells [.slice (some ⟨q, 0, none⟩) (rs.length + 1) c, pv] 74)) (hc : c ≠ 0)
    (hq : h1.get q = some (.cells (flat2 (rs ++ [(.slice (some ⟨qn, 0, none⟩) n cn, false)])) 86)) (hqn : h1.get qn = some (.cells cs 3)) (hl : cs.length = n) (hn : n ≤ 65536) (keep : ∀ b c t, F b → h.get b = some (.cells c t) → t ≠ 74 → t ≠ 86 → h1.get b = h.get b)
    (hF : ∀ b, F b → h1.ro ≤ b ∧ b < h1.next) (h2 : h1.ro ≤ q ∧ q < h1.next) (h3 : h1.ro ≤ qn ∧ qn < h1.next) :
    RefO h1 w (.slice (some ⟨q, 0, none⟩) (rs.length + 1) c) pv (rs ++ [(.slice (some ⟨qn, 0, none⟩) n cn, false)]) (N + 1) (fun b => F b ∨ b = q ∨ b = qn) := by
  refine ⟨hw, .inl x.fw, by simpa using hN, .inr ⟨q, c, by simp, hc, .inr (.inl rfl), hq⟩, fun i r hr => ?_, ?_, fun b hb => ?_⟩
  · by_cases hi : i < rs.length
    · rw [List.getElem?_append_left hi] at hr
      obtain ⟨q', n', c', cs', a1, a2, a3, a4⟩ := x.rows i r hr
      exact ⟨q', n', c', cs', a1, .inl a2, by rw [keep q' _ _ a2 a3 (by decide) (by decide)]; exact a3, a4⟩
    · rw [List.getElem?_append_right (by omega)] at hr
      have : i - rs.length = 0 := by
        rcases Nat.eq_zero_or_pos (i - rs.length) with z | z
        · exact z
        · rw [List.getElem?_eq_none (by simp; omega)] at hr; cases hr
      rw [this] at hr
      simp at hr
      subst hr
      exact ⟨qn, n, cn, cs, rfl, .inr (.inr rfl), hqn, hl, hn⟩
  · rcases x.hp with a | ⟨pb, np, c', cs', a1, a2, a3, a4, a5, a6⟩
    · exact .inl a
    · exact .inr ⟨pb, np, c', cs', a1, a2, .inl a3, by rw [keep pb _ _ a3 a4 (by decide) (by decide)]; exact a4, a5, by omega⟩
  · rcases hb with hb | rfl | rfl
    · exact hF b hb
    · exact h2
    · exact h3
def RaI (h : AHeap) (w : Nat) (ls pv : Value) (rs : List (Value × Bool)) (N : Nat) (F : Nat → Prop) (q L : Nat) (n : Nat) (vs : List Value) (h' : AHeap) : Prop :=
  ∃ k cs, k ≤ L ∧ n = L - k ∧ vs = [.int .i64 k] ∧ h'.get q = some (.cells cs 3) ∧ cs.length = L ∧ Eff (fun b => b = q) h h'
section
variable {h : AHeap} {w N : Nat} {ls pv : Value} {rs : List (Value × Bool)} {F : Nat → Prop}
theorem refAlloc_ok (x : RefO h w ls pv rs N F) (hN : N ≤ 1000) {n : Int} : DC Try.prog 29 [.pointer (some ⟨w, 0, none⟩), .int .i64 n] h (fun v h1 => RefR h w N F h1) := by
  apply DC_wf; intro hwf; have hro := hwf.2
  apply X_refAlloc_ok
  unfold X_refAlloc
  by_cases h1 : n < 0
  · simp -implicitDefEqProofs only [axt_20, axt_21, opt_some, optH_some, nb_cons, nb_nil, CD_true, CD_false, GD_tt, GD_ff, GD_tf, GD_ft, GD_un, pk_true, pk_false, nck_ptr, rv_one, rv_two, b_lss, b_leq, b_gtr, b_geq, b_eql, b_neq, b_add, b_sub, b_mul, b_quo, b_rem, b_shl, b_shr, b_and, b_or, b_xor, b_andNot, u_not, u_neg, nob_bool, nob_int, nob_string, nob_ptr, nob_slice, nob_map, nob_func, nob_nilf, nob_iface, nob_nili, nob_agg, nob_tuple, cok_bool, cok_int, cok_string, cok_ptr, cok_slice, cok_map, cok_func, nobot_nil, nobot_cons, onb_none, onb_some, cond_true, cond_false, abound_none, abound_int, Option.bind_some, Option.bind_none, nth, ↓nw, Value.cells, ↓BK, List.getElem?_cons_zero, List.getElem?_cons_succ, List.toList_toArray, Nat.zero_add, Nat.add_zero, List.length_cons, List.length_nil, List.length_replicate, List.length_map, List.length_set, List.all_cons, List.all_nil, setMany, List.set_cons_zero, List.set_cons_succ, List.drop_zero, List.take_zero, List.take_succ_cons, List.drop_succ_cons, List.take_nil, List.drop_nil, if_true, if_false, Bool.and_true, Bool.true_and, Nat.reduceAdd, Nat.reduceLeDiff, Nat.reduceMul, Nat.reduceMod, Nat.reduceDiv, Nat.reduceSub, Nat.reduceEqDiff, Nat.lt_irrefl, Int.reduceEq, Int.reduceLT, Int.reduceLE, Int.reduceAdd, Int.reduceSub, Int.reduceMul, Int.reduceNeg, Int.reduceToNat, and_true, true_and, Nat.le_refl, dec_t, dec_f, nxt_push, nxt_set, ro_pushk, ro_setk, next_lock, ro_lock, get_lock, get_push_self, get_push_eq, get_push_lt, get_set_self, get_set_ne, ne_eq, lt_add1, lt_add, sto, ldn, ld1, not_false_eq_true, not_true_eq_false, Bool.not_true, Bool.not_false, Bool.and_false, Bool.false_and, beq_self_eq_true, al_71, ap_71, as_3, as_71, bd_86_0, bs_71_1_0, co_86, fa_74_0, ix_41, len_71, mk_41, X_refAlloc_1, X_refAlloc_2, X_refAlloc_3, X_refAlloc_4, X_refAlloc_5, X_refAlloc_6, h1]
    exact x.same
  by_cases h2 : 65536 < n
  · simp -implicitDefEqProofs only [axt_20, axt_21, opt_some, optH_some, nb_cons, nb_nil, CD_true, CD_false, GD_tt, GD_ff, GD_tf, GD_ft, GD_un, pk_true, pk_false, nck_ptr, rv_one, rv_two, b_lss, b_leq, b_gtr, b_geq, b_eql, b_neq, b_add, b_sub, b_mul, b_quo, b_rem, b_shl, b_shr, b_and, b_or, b_xor, b_andNot, u_not, u_neg, nob_bool, nob_int, nob_string, nob_ptr, nob_slice, nob_map, nob_func, nob_nilf, nob_iface, nob_nili, nob_agg, nob_tuple, cok_bool, cok_int, cok_string, cok_ptr, cok_slice, cok_map, cok_func, nobot_nil, nobot_cons, onb_none, onb_some, cond_true, cond_false, abound_none, abound_int, Option.bind_some, Option.bind_none, nth, ↓nw, Value.cells, ↓BK, List.getElem?_cons_zero, List.getElem?_cons_succ, List.toList_toArray, Nat.zero_add, Nat.add_zero, List.length_cons, List.length_nil, List.length_replicate, List.length_map, List.length_set, List.all_cons, List.all_nil, setMany, List.set_cons_zero, List.set_cons_succ, List.drop_zero, List.take_zero, List.take_succ_cons, List.drop_succ_cons, List.take_nil, List.drop_nil, if_true, if_false, Bool.and_true, Bool.true_and, Nat.reduceAdd, Nat.reduceLeDiff, Nat.reduceMul, Nat.reduceMod, Nat.reduceDiv, Nat.reduceSub, Nat.reduceEqDiff, Nat.lt_irrefl, Int.reduceEq, Int.reduceLT, Int.reduceLE, Int.reduceAdd, Int.reduceSub, Int.reduceMul, Int.reduceNeg, Int.reduceToNat, and_true, true_and, Nat.le_refl, dec_t, dec_f, nxt_push, nxt_set, ro_pushk, ro_setk, next_lock, ro_lock, get_lock, get_push_self, get_push_eq, get_push_lt, get_set_self, get_set_ne, ne_eq, lt_add1, lt_add, sto, ldn, ld1, not_false_eq_true, not_true_eq_false, Bool.not_true, Bool.not_false, Bool.and_false, Bool.false_and, beq_self_eq_true, al_71, ap_71, as_3, as_71, bd_86_0, bs_71_1_0, co_86, fa_74_0, ix_41, len_71, mk_41, X_refAlloc_1, X_refAlloc_2, X_refAlloc_3, X_refAlloc_4, X_refAlloc_5, X_refAlloc_6, h1, h2]
    exact x.same
  have hw := x.hw
  have hlen := x.len
  obtain ⟨L, rfl⟩ : ∃ L : Nat, n = (L : Int) := ⟨n.toNat, by omega⟩
  have hmk := mk_41 .i64 .i64 (L : Int) (L : Int) h (by omega) (by omega) (by omega)
  have nbl := x.nob.1
  have hln : ∀ h', abuiltin Try.prog .len [71] 3 [ls] h' = some (.int .i64 rs.length, h') := fun h' => by
    rcases x.hL with ⟨rfl, rfl⟩ | ⟨_, _, rfl, _⟩
    · simp only [al_71, ap_71, as_3, as_71, bd_86_0, bs_71_1_0, co_86, fa_74_0, ix_41, len_71, mk_41, X_refAlloc_1, X_refAlloc_2, X_refAlloc_3, X_refAlloc_4, X_refAlloc_5, X_refAlloc_6, List.length_nil]
    · simp only [al_71, ap_71, as_3, as_71, bd_86_0, bs_71_1_0, co_86, fa_74_0, ix_41, len_71, mk_41, X_refAlloc_1, X_refAlloc_2, X_refAlloc_3, X_refAlloc_4, X_refAlloc_5, X_refAlloc_6]
  have h3 : ¬ (100000 : Int) ≤ (rs.length : Int) := by omega
  simp -implicitDefEqProofs only [axt_20, axt_21, opt_some, optH_some, nb_cons, nb_nil, CD_true, CD_false, GD_tt, GD_ff, GD_tf, GD_ft, GD_un, pk_true, pk_false, nck_ptr, rv_one, rv_two, b_lss, b_leq, b_gtr, b_geq, b_eql, b_neq, b_add, b_sub, b_mul, b_quo, b_rem, b_shl, b_shr, b_and, b_or, b_xor, b_andNot, u_not, u_neg, nob_bool, nob_int, nob_string, nob_ptr, nob_slice, nob_map, nob_func, nob_nilf, nob_iface, nob_nili, nob_agg, nob_tuple, cok_bool, cok_int, cok_string, cok_ptr, cok_slice, cok_map, cok_func, nobot_nil, nobot_cons, onb_none, onb_some, cond_true, cond_false, abound_none, abound_int, Option.bind_some, Option.bind_none, nth, ↓nw, Value.cells, ↓BK, List.getElem?_cons_zero, List.getElem?_cons_succ, List.toList_toArray, Nat.zero_add, Nat.add_zero, List.length_cons, List.length_nil, List.length_replicate, List.length_map, List.length_set, List.all_cons, List.all_nil, setMany, List.set_cons_zero, List.set_cons_succ, List.drop_zero, List.take_zero, List.take_succ_cons, List.drop_succ_cons, List.take_nil, List.drop_nil, if_true, if_false, Bool.and_true, Bool.true_and, Nat.reduceAdd, Nat.reduceLeDiff, Nat.reduceMul, Nat.reduceMod, Nat.reduceDiv, Nat.reduceSub, Nat.reduceEqDiff, Nat.lt_irrefl, Int.reduceEq, Int.reduceLT, Int.reduceLE, Int.reduceAdd, Int.reduceSub, Int.reduceMul, Int.reduceNeg, Int.reduceToNat, and_true, true_and, Nat.le_refl, dec_t, dec_f, nxt_push, nxt_set, ro_pushk, ro_setk, next_lock, ro_lock, get_lock, get_push_self, get_push_eq, get_push_lt, get_set_self, get_set_ne, ne_eq, lt_add1, lt_add, sto, ldn, ld1, not_false_eq_true, not_true_eq_false, Bool.not_true, Bool.not_false, Bool.and_false, Bool.false_and, beq_self_eq_true, al_71, ap_71, as_3, as_71, bd_86_0, bs_71_1_0, co_86, fa_74_0, ix_41, len_71, mk_41, X_refAlloc_1, X_refAlloc_2, X_refAlloc_3, X_refAlloc_4, X_refAlloc_5, X_refAlloc_6, h1, h2, hw, nbl, hln, h3, hmk, Int.toNat_natCast, Nat.mul_one]
  generalize hH : h.push (.cells (zcells [.int .i64 0] L) 3) = H
  have eH : Eff nof h H := by subst hH; exact (Eff.refl _ _).push _
  have gH : H.get h.next = some (.cells (zcells [.int .i64 0] L) 3) := by subst hH; exact get_push_self
  have nH : H.next = h.next + 1 := by subst hH; rfl
  have rH : H.ro = h.ro := by subst hH; rfl
  clear hH
  have zl : (zcells [Value.int .i64 0] L).length = L := by have := zc_one (.int .i64 0) L; rw [Nat.mul_one] at this; rw [this]; simp
  refine LP_of (RaI H w ls pv rs N F h.next L) L ⟨0, _, Nat.zero_le _, rfl, rfl, gH, zl, .refl _ _⟩ ?_
  rintro n vs h' ⟨k, cs, hk, rfl, rfl, hq, hl, e⟩
  have n1 := e.next
  have r1 := e.ro
  by_cases hkl : k < L
  · have hk1 : (k : Int) < (L : Int) := by omega
    have hk2 : 0 ≤ (k : Int) ∧ (k : Int) < (L : Int) := by omega
    have hk3 : k + 1 ≤ cs.length := by omega
    have okq : h'.ro ≤ h.next := by omega
    have hw1 : IntKind.wrap .i64 ((k : Int) + 1) = ((k + 1 : Nat) : Int) := by rw [w64 (by omega) (by omega)]; omega
    simp -implicitDefEqProofs only [axt_20, axt_21, opt_some, optH_some, nb_cons, nb_nil, CD_true, CD_false, GD_tt, GD_ff, GD_tf, GD_ft, GD_un, pk_true, pk_false, nck_ptr, rv_one, rv_two, b_lss, b_leq, b_gtr, b_geq, b_eql, b_neq, b_add, b_sub, b_mul, b_quo, b_rem, b_shl, b_shr, b_and, b_or, b_xor, b_andNot, u_not, u_neg, nob_bool, nob_int, nob_string, nob_ptr, nob_slice, nob_map, nob_func, nob_nilf, nob_iface, nob_nili, nob_agg, nob_tuple, cok_bool, cok_int, cok_string, cok_ptr, cok_slice, cok_map, cok_func, nobot_nil, nobot_cons, onb_none, onb_some, cond_true, cond_false, abound_none, abound_int, Option.bind_some, Option.bind_none, nth, ↓nw, Value.cells, ↓BK, List.getElem?_cons_zero, List.getElem?_cons_succ, List.toList_toArray, Nat.zero_add, Nat.add_zero, List.length_cons, List.length_nil, List.length_replicate, List.length_map, List.length_set, List.all_cons, List.all_nil, setMany, List.set_cons_zero, List.set_cons_succ, List.drop_zero, List.take_zero, List.take_succ_cons, List.drop_succ_cons, List.take_nil, List.drop_nil, if_true, if_false, Bool.and_true, Bool.true_and, Nat.reduceAdd, Nat.reduceLeDiff, Nat.reduceMul, Nat.reduceMod, Nat.reduceDiv, Nat.reduceSub, Nat.reduceEqDiff, Nat.lt_irrefl, Int.reduceEq, Int.reduceLT, Int.reduceLE, Int.reduceAdd, Int.reduceSub, Int.reduceMul, Int.reduceNeg, Int.reduceToNat, and_true, true_and, Nat.le_refl, dec_t, dec_f, nxt_push, nxt_set, ro_pushk, ro_setk, next_lock, ro_lock, get_lock, get_push_self, get_push_eq, get_push_lt, get_set_self, get_set_ne, ne_eq, lt_add1, lt_add, sto, ldn, ld1, not_false_eq_true, not_true_eq_false, Bool.not_true, Bool.not_false, Bool.and_false, Bool.false_and, beq_self_eq_true, al_71, ap_71, as_3, as_71, bd_86_0, bs_71_1_0, co_86, fa_74_0, ix_41, len_71, mk_41, X_refAlloc_1, X_refAlloc_2, X_refAlloc_3, X_refAlloc_4, X_refAlloc_5, X_refAlloc_6, hk1, hk2, Int.toNat_natCast, Nat.mul_one, hq, hk3, okq, hw1]
    exact ⟨L - (k + 1), by omega, k + 1, _, by omega, rfl, rfl, get_set_self, by simp [hl], e.set (.inl rfl) _⟩
  · have hk1 : ¬ (k : Int) < (L : Int) := by omega
    have keep : ∀ b, F b → h'.get b = h.get b := fun b hb => by
      have := x.ok b hb
      rw [e.get b (fun (q : b = h.next) => by omega) (by omega), eH.get b (fun q => q) this.2]
    have y := x.keep keep (by omega) (by omega)
    have hw' := y.hw
    have okw := y.ok w y.fw
    have ew : h'.ro ≤ w ∧ w < h'.next := okw
    have n2 : ¬ w = h'.next := by omega
    have n3 : ¬ w = h'.next + 1 := by omega
    have n4 : w < h'.next + 1 := by omega
    have hnb : ∀ p, h'.push (.cells [.slice (some ⟨h.next, 0, none⟩) L (L + 2), .bool false] 86) = p → firstc p 1 2 (.slice (some ⟨h'.next, 0, none⟩) 1 3) = some [.slice (some ⟨h.next, 0, none⟩) L (L + 2), .bool false] := fun p hp => by
      subst hp
      simp only [firstc, get_push_self]
      rfl
    have hap := fun v h'' hh => ap_71 71 v (.slice (some ⟨h'.next, 0, none⟩) 1 3) 1 [.slice (some ⟨h.next, 0, none⟩) L (L + 2), .bool false] h'' rfl (hnb h'' hh) rfl rfl
    have eff0 : Eff F h h' := ⟨by omega, by omega, fun b hb hlt => by rw [e.get b (fun (q : b = h.next) => by omega) (by omega), eH.get b (fun q => q) hlt]⟩
    rcases y.hL with ⟨rfl, rfl⟩ | ⟨bb, c, rfl, hc, fb, hbb⟩
    · simp -implicitDefEqProofs only [axt_20, axt_21, opt_some, optH_some, nb_cons, nb_nil, CD_true, CD_false, GD_tt, GD_ff, GD_tf, GD_ft, GD_un, pk_true, pk_false, nck_ptr, rv_one, rv_two, b_lss, b_leq, b_gtr, b_geq, b_eql, b_neq, b_add, b_sub, b_mul, b_quo, b_rem, b_shl, b_shr, b_and, b_or, b_xor, b_andNot, u_not, u_neg, nob_bool, nob_int, nob_string, nob_ptr, nob_slice, nob_map, nob_func, nob_nilf, nob_iface, nob_nili, nob_agg, nob_tuple, cok_bool, cok_int, cok_string, cok_ptr, cok_slice, cok_map, cok_func, nobot_nil, nobot_cons, onb_none, onb_some, cond_true, cond_false, abound_none, abound_int, Option.bind_some, Option.bind_none, nth, ↓nw, Value.cells, ↓BK, List.getElem?_cons_zero, List.getElem?_cons_succ, List.toList_toArray, Nat.zero_add, Nat.add_zero, List.length_cons, List.length_nil, List.length_replicate, List.length_map, List.length_set, List.all_cons, List.all_nil, setMany, List.set_cons_zero, List.set_cons_succ, List.drop_zero, List.take_zero, List.take_succ_cons, List.drop_succ_cons, List.take_nil, List.drop_nil, if_true, if_false, Bool.and_true, Bool.true_and, Nat.reduceAdd, Nat.reduceLeDiff, Nat.reduceMul, Nat.reduceMod, Nat.reduceDiv, Nat.reduceSub, Nat.reduceEqDiff, Nat.lt_irrefl, Int.reduceEq, Int.reduceLT, Int.reduceLE, Int.reduceAdd, Int.reduceSub, Int.reduceMul, Int.reduceNeg, Int.reduceToNat, and_true, true_and, Nat.le_refl, dec_t, dec_f, nxt_push, nxt_set, ro_pushk, ro_setk, next_lock, ro_lock, get_lock, get_push_self, get_push_eq, get_push_lt, get_set_self, get_set_ne, ne_eq, lt_add1, lt_add, sto, ldn, ld1, not_false_eq_true, not_true_eq_false, Bool.not_true, Bool.not_false, Bool.and_false, Bool.false_and, beq_self_eq_true, al_71, ap_71, as_3, as_71, bd_86_0, bs_71_1_0, co_86, fa_74_0, ix_41, len_71, mk_41, X_refAlloc_1, X_refAlloc_2, X_refAlloc_3, X_refAlloc_4, X_refAlloc_5, X_refAlloc_6, hk1, hw', hap, app2, Nat.reducePow, n2, n3, n4, ew]
      generalize hX : AHeap.set _ w _ = X
      have gX : X.get w = some (.cells [.slice (some ⟨h'.next + 1, 0, none⟩) 1 1, pv] 74) := by subst hX; exact get_set_self
      have g2 : X.get (h'.next + 1) = some (.cells [.slice (some ⟨h.next, 0, none⟩) L (L + 2), .bool false] 86) := by
        subst hX; rw [get_set_ne (fun e => n3 e.symm)]; exact get_push_eq rfl
      have g3 : ∀ b, b < h'.next → b ≠ w → X.get b = h'.get b := fun b hb hne => by
        subst hX; rw [get_set_ne hne, get_push_lt (by simp only [nxt_push]; omega), get_push_lt hb]
      have nX : X.next = h'.next + 2 := by subst hX; rfl
      have rX : X.ro = h'.ro := by subst hX; rfl
      clear hX
      have z := y.list (h1 := X) (q := h'.next + 1) (c := 1) (qn := h.next) (n := L) (cn := L + 2) (cs := cs) (by simp) gX (by decide) g2 (by rw [g3 h.next (by omega) (by have := x.ok w x.fw; omega)]; exact hq) hl (by omega)
        (fun b c t hb hg h74 h86 => g3 b (y.ok b hb).2 (fun e => by rw [e, hw'] at hg; simp at hg; exact h74 hg.2.symm)) (fun b hb => by have := y.ok b hb; omega) (by omega) (by omega)
      exact ⟨_, ⟨_, _, _, z⟩, ⟨by omega, by omega, fun b hb hlt => by rw [g3 b (by omega) (fun e => hb (by rw [e]; exact x.fw))]; exact eff0.get b hb hlt⟩, fun b hb => (by rcases hb with q | q | q <;> first | exact .inl q | exact .inr (by omega))⟩
    · have okb := y.ok bb fb
      have eb : h'.ro ≤ bb ∧ bb < h'.next := okb
      have hbw : ¬ bb = w := by intro e; subst e; rw [hbb] at hw'; simp at hw'
      have hwb : ¬ w = bb := fun e => hbw e.symm
      have hroom : roomFor c (rs.length + 1) 32 = true := by
        unfold roomFor
        cases Nat.beq c 2 <;> simp only [cond_true, cond_false, Nat.ble_eq] <;> omega
      have hfl : rs.length * 2 ≤ (flat2 rs).length := by rw [flat_len]; omega
      have hz : List.take (rs.length * 2) (flat2 rs) = flat2 rs := List.take_of_length_le (by rw [flat_len]; omega)
      simp -implicitDefEqProofs only [axt_20, axt_21, opt_some, optH_some, nb_cons, nb_nil, CD_true, CD_false, GD_tt, GD_ff, GD_tf, GD_ft, GD_un, pk_true, pk_false, nck_ptr, rv_one, rv_two, b_lss, b_leq, b_gtr, b_geq, b_eql, b_neq, b_add, b_sub, b_mul, b_quo, b_rem, b_shl, b_shr, b_and, b_or, b_xor, b_andNot, u_not, u_neg, nob_bool, nob_int, nob_string, nob_ptr, nob_slice, nob_map, nob_func, nob_nilf, nob_iface, nob_nili, nob_agg, nob_tuple, cok_bool, cok_int, cok_string, cok_ptr, cok_slice, cok_map, cok_func, nobot_nil, nobot_cons, onb_none, onb_some, cond_true, cond_false, abound_none, abound_int, Option.bind_some, Option.bind_none, nth, ↓nw, Value.cells, ↓BK, List.getElem?_cons_zero, List.getElem?_cons_succ, List.toList_toArray, Nat.zero_add, Nat.add_zero, List.length_cons, List.length_nil, List.length_replicate, List.length_map, List.length_set, List.all_cons, List.all_nil, setMany, List.set_cons_zero, List.set_cons_succ, List.drop_zero, List.take_zero, List.take_succ_cons, List.drop_succ_cons, List.take_nil, List.drop_nil, if_true, if_false, Bool.and_true, Bool.true_and, Nat.reduceAdd, Nat.reduceLeDiff, Nat.reduceMul, Nat.reduceMod, Nat.reduceDiv, Nat.reduceSub, Nat.reduceEqDiff, Nat.lt_irrefl, Int.reduceEq, Int.reduceLT, Int.reduceLE, Int.reduceAdd, Int.reduceSub, Int.reduceMul, Int.reduceNeg, Int.reduceToNat, and_true, true_and, Nat.le_refl, dec_t, dec_f, nxt_push, nxt_set, ro_pushk, ro_setk, next_lock, ro_lock, get_lock, get_push_self, get_push_eq, get_push_lt, get_set_self, get_set_ne, ne_eq, lt_add1, lt_add, sto, ldn, ld1, not_false_eq_true, not_true_eq_false, Bool.not_true, Bool.not_false, Bool.and_false, Bool.false_and, beq_self_eq_true, al_71, ap_71, as_3, as_71, bd_86_0, bs_71_1_0, co_86, fa_74_0, ix_41, len_71, mk_41, X_refAlloc_1, X_refAlloc_2, X_refAlloc_3, X_refAlloc_4, X_refAlloc_5, X_refAlloc_6, hk1, hw', hap, app2, n2, n3, n4, ew, eb, hbb, hroom, hfl, hc, hwb, hz]
      generalize hX : AHeap.set _ w _ = X
      have gX : X.get w = some (.cells [.slice (some ⟨h'.next + 1, 0, none⟩) (rs.length + 1) (capafter c (rs.length + 1)), pv] 74) := by subst hX; exact get_set_self
      have g2 : X.get (h'.next + 1) = some (.cells (flat2 (rs ++ [(.slice (some ⟨h.next, 0, none⟩) L (L + 2), false)])) 86) := by
        subst hX; rw [get_set_ne (fun e => n3 e.symm), flat_app]; exact get_push_eq rfl
      have g3 : ∀ b, b < h'.next → b ≠ w → b ≠ bb → X.get b = h'.get b := fun b hb hne hnb => by
        subst hX; rw [get_set_ne hne, get_push_lt (by simp only [nxt_push, nxt_set]; omega), get_set_ne hnb, get_push_lt hb]
      have nX : X.next = h'.next + 2 := by subst hX; rfl
      have rX : X.ro = h'.ro := by subst hX; rfl
      clear hX
      have hbn : bb ≠ h.next := by have := x.ok bb fb; omega
      have z := y.list (h1 := X) (q := h'.next + 1) (c := capafter c (rs.length + 1)) (qn := h.next) (n := L) (cn := L + 2) (cs := cs) (by omega) gX (cap_ne _ _) g2 (by rw [g3 h.next (by omega) (by have := x.ok w x.fw; omega) (fun e => hbn e.symm)]; exact hq) hl (by omega)
        (fun b c t hb hg h74 h86 => g3 b (y.ok b hb).2 (fun e => by rw [e, hw'] at hg; simp at hg; exact h74 hg.2.symm) (fun e => by rw [e, hbb] at hg; simp at hg; exact h86 hg.2.symm)) (fun b hb => by have := y.ok b hb; omega) (by omega) (by omega)
      exact ⟨_, ⟨_, _, _, z⟩, ⟨by omega, by omega, fun b hb hlt => by rw [g3 b (by omega) (fun e => hb (by rw [e]; exact x.fw)) (fun e => hb (by rw [e]; exact fb))]; exact eff0.get b hb hlt⟩, fun b hb => (by rcases hb with q | q | q <;> first | exact .inl q | exact .inr (by omega))⟩
end
end Go.Mem
