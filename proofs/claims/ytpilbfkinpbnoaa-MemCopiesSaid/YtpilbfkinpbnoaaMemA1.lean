/-
  MEMORY: calls told in a slice; what a store leaves (the plain law).
-/
import Derived.Test.YtpilbfkinpbnoaaMemD
namespace Go.Mem
open Go.Ai Go.Proofs
set_option linter.unusedVariables false
set_option linter.unusedSimpArgs false
set_option linter.unusedSectionVars false
theorem refGood_q (v : V) (h : AHeap) : Quiet Try.prog 12 [v.val] h (.bool (goodV v)) := by
  refine Quiet.of rfl ?_
  obtain ⟨k, n, b⟩ := v
  apply W_refGood_ok
  unfold W_refGood V.val goodV
  by_cases h0 : k = 0
  · subst h0
    by_cases hn : n = 0
    · subst hn
      simp only [axt_20, axt_21, opt_some, optH_some, nb_cons, nb_nil, CD_true, CD_false, GD_tt, GD_ff, GD_tf, GD_ft, GD_un, pk_true, pk_false, nck_ptr, rv_one, rv_two, b_lss, b_leq, b_gtr, b_geq, b_eql, b_neq, b_add, b_sub, b_mul, b_quo, b_rem, b_shl, b_shr, b_and, b_or, b_xor, b_andNot, u_not, u_neg, nob_bool, nob_int, nob_string, nob_ptr, nob_slice, nob_map, nob_func, nob_nilf, nob_iface, nob_nili, nob_agg, nob_tuple, cok_bool, cok_int, cok_string, cok_ptr, cok_slice, cok_map, cok_func, nobot_nil, nobot_cons, onb_none, onb_some, cond_true, cond_false, abound_none, abound_int, Option.bind_some, Option.bind_none, nth, nw, Value.cells, BK, List.getElem?_cons_zero, List.getElem?_cons_succ, List.toList_toArray, Nat.zero_add, Nat.add_zero, List.length_cons, List.length_nil, List.length_replicate, List.length_map, List.length_set, List.all_cons, List.all_nil, setMany, List.set_cons_zero, List.set_cons_succ, List.drop_zero, List.take_zero, List.take_succ_cons, List.drop_succ_cons, List.take_nil, List.drop_nil, if_true, if_false, Bool.and_true, Bool.true_and, Nat.reduceAdd, Nat.reduceLeDiff, Nat.reduceMul, Nat.reduceMod, Nat.reduceDiv, Nat.reduceSub, Nat.reduceEqDiff, Nat.lt_irrefl, Int.reduceEq, Int.reduceLT, Int.reduceLE, Int.reduceAdd, Int.reduceSub, Int.reduceMul, Int.reduceNeg, Int.reduceToNat, and_true, true_and, Nat.le_refl, dec_t, dec_f, nxt_push, nxt_set, ro_pushk, ro_setk, next_lock, ro_lock, get_lock, get_push_self, get_push_eq, get_push_lt, get_set_self, get_set_ne, ne_eq, lt_add1, lt_add, sto, ldn, ld1, not_false_eq_true, not_true_eq_false, Bool.not_true, Bool.not_false, Bool.and_false, Bool.false_and, beq_self_eq_true, al_2, al_3, fa_24_0, fa_24_1, fa_24_2]
      try rfl
    · simp only [axt_20, axt_21, opt_some, optH_some, nb_cons, nb_nil, CD_true, CD_false, GD_tt, GD_ff, GD_tf, GD_ft, GD_un, pk_true, pk_false, nck_ptr, rv_one, rv_two, b_lss, b_leq, b_gtr, b_geq, b_eql, b_neq, b_add, b_sub, b_mul, b_quo, b_rem, b_shl, b_shr, b_and, b_or, b_xor, b_andNot, u_not, u_neg, nob_bool, nob_int, nob_string, nob_ptr, nob_slice, nob_map, nob_func, nob_nilf, nob_iface, nob_nili, nob_agg, nob_tuple, cok_bool, cok_int, cok_string, cok_ptr, cok_slice, cok_map, cok_func, nobot_nil, nobot_cons, onb_none, onb_some, cond_true, cond_false, abound_none, abound_int, Option.bind_some, Option.bind_none, nth, nw, Value.cells, BK, List.getElem?_cons_zero, List.getElem?_cons_succ, List.toList_toArray, Nat.zero_add, Nat.add_zero, List.length_cons, List.length_nil, List.length_replicate, List.length_map, List.length_set, List.all_cons, List.all_nil, setMany, List.set_cons_zero, List.set_cons_succ, List.drop_zero, List.take_zero, List.take_succ_cons, List.drop_succ_cons, List.take_nil, List.drop_nil, if_true, if_false, Bool.and_true, Bool.true_and, Nat.reduceAdd, Nat.reduceLeDiff, Nat.reduceMul, Nat.reduceMod, Nat.reduceDiv, Nat.reduceSub, Nat.reduceEqDiff, Nat.lt_irrefl, Int.reduceEq, Int.reduceLT, Int.reduceLE, Int.reduceAdd, Int.reduceSub, Int.reduceMul, Int.reduceNeg, Int.reduceToNat, and_true, true_and, Nat.le_refl, dec_t, dec_f, nxt_push, nxt_set, ro_pushk, ro_setk, next_lock, ro_lock, get_lock, get_push_self, get_push_eq, get_push_lt, get_set_self, get_set_ne, ne_eq, lt_add1, lt_add, sto, ldn, ld1, not_false_eq_true, not_true_eq_false, Bool.not_true, Bool.not_false, Bool.and_false, Bool.false_and, beq_self_eq_true, al_2, al_3, fa_24_0, fa_24_1, fa_24_2, hn]
      simp [hn]
  · by_cases h1 : k = 1
    · subst h1
      simp only [axt_20, axt_21, opt_some, optH_some, nb_cons, nb_nil, CD_true, CD_false, GD_tt, GD_ff, GD_tf, GD_ft, GD_un, pk_true, pk_false, nck_ptr, rv_one, rv_two, b_lss, b_leq, b_gtr, b_geq, b_eql, b_neq, b_add, b_sub, b_mul, b_quo, b_rem, b_shl, b_shr, b_and, b_or, b_xor, b_andNot, u_not, u_neg, nob_bool, nob_int, nob_string, nob_ptr, nob_slice, nob_map, nob_func, nob_nilf, nob_iface, nob_nili, nob_agg, nob_tuple, cok_bool, cok_int, cok_string, cok_ptr, cok_slice, cok_map, cok_func, nobot_nil, nobot_cons, onb_none, onb_some, cond_true, cond_false, abound_none, abound_int, Option.bind_some, Option.bind_none, nth, nw, Value.cells, BK, List.getElem?_cons_zero, List.getElem?_cons_succ, List.toList_toArray, Nat.zero_add, Nat.add_zero, List.length_cons, List.length_nil, List.length_replicate, List.length_map, List.length_set, List.all_cons, List.all_nil, setMany, List.set_cons_zero, List.set_cons_succ, List.drop_zero, List.take_zero, List.take_succ_cons, List.drop_succ_cons, List.take_nil, List.drop_nil, if_true, if_false, Bool.and_true, Bool.true_and, Nat.reduceAdd, Nat.reduceLeDiff, Nat.reduceMul, Nat.reduceMod, Nat.reduceDiv, Nat.reduceSub, Nat.reduceEqDiff, Nat.lt_irrefl, Int.reduceEq, Int.reduceLT, Int.reduceLE, Int.reduceAdd, Int.reduceSub, Int.reduceMul, Int.reduceNeg, Int.reduceToNat, and_true, true_and, Nat.le_refl, dec_t, dec_f, nxt_push, nxt_set, ro_pushk, ro_setk, next_lock, ro_lock, get_lock, get_push_self, get_push_eq, get_push_lt, get_set_self, get_set_ne, ne_eq, lt_add1, lt_add, sto, ldn, ld1, not_false_eq_true, not_true_eq_false, Bool.not_true, Bool.not_false, Bool.and_false, Bool.false_and, beq_self_eq_true, al_2, al_3, fa_24_0, fa_24_1, fa_24_2, h0]
      try rfl
    · by_cases h2 : k = 2
      · subst h2
        simp only [axt_20, axt_21, opt_some, optH_some, nb_cons, nb_nil, CD_true, CD_false, GD_tt, GD_ff, GD_tf, GD_ft, GD_un, pk_true, pk_false, nck_ptr, rv_one, rv_two, b_lss, b_leq, b_gtr, b_geq, b_eql, b_neq, b_add, b_sub, b_mul, b_quo, b_rem, b_shl, b_shr, b_and, b_or, b_xor, b_andNot, u_not, u_neg, nob_bool, nob_int, nob_string, nob_ptr, nob_slice, nob_map, nob_func, nob_nilf, nob_iface, nob_nili, nob_agg, nob_tuple, cok_bool, cok_int, cok_string, cok_ptr, cok_slice, cok_map, cok_func, nobot_nil, nobot_cons, onb_none, onb_some, cond_true, cond_false, abound_none, abound_int, Option.bind_some, Option.bind_none, nth, nw, Value.cells, BK, List.getElem?_cons_zero, List.getElem?_cons_succ, List.toList_toArray, Nat.zero_add, Nat.add_zero, List.length_cons, List.length_nil, List.length_replicate, List.length_map, List.length_set, List.all_cons, List.all_nil, setMany, List.set_cons_zero, List.set_cons_succ, List.drop_zero, List.take_zero, List.take_succ_cons, List.drop_succ_cons, List.take_nil, List.drop_nil, if_true, if_false, Bool.and_true, Bool.true_and, Nat.reduceAdd, Nat.reduceLeDiff, Nat.reduceMul, Nat.reduceMod, Nat.reduceDiv, Nat.reduceSub, Nat.reduceEqDiff, Nat.lt_irrefl, Int.reduceEq, Int.reduceLT, Int.reduceLE, Int.reduceAdd, Int.reduceSub, Int.reduceMul, Int.reduceNeg, Int.reduceToNat, and_true, true_and, Nat.le_refl, dec_t, dec_f, nxt_push, nxt_set, ro_pushk, ro_setk, next_lock, ro_lock, get_lock, get_push_self, get_push_eq, get_push_lt, get_set_self, get_set_ne, ne_eq, lt_add1, lt_add, sto, ldn, ld1, not_false_eq_true, not_true_eq_false, Bool.not_true, Bool.not_false, Bool.and_false, Bool.false_and, beq_self_eq_true, al_2, al_3, fa_24_0, fa_24_1, fa_24_2, h0, h1]
        try rfl
      · simp only [axt_20, axt_21, opt_some, optH_some, nb_cons, nb_nil, CD_true, CD_false, GD_tt, GD_ff, GD_tf, GD_ft, GD_un, pk_true, pk_false, nck_ptr, rv_one, rv_two, b_lss, b_leq, b_gtr, b_geq, b_eql, b_neq, b_add, b_sub, b_mul, b_quo, b_rem, b_shl, b_shr, b_and, b_or, b_xor, b_andNot, u_not, u_neg, nob_bool, nob_int, nob_string, nob_ptr, nob_slice, nob_map, nob_func, nob_nilf, nob_iface, nob_nili, nob_agg, nob_tuple, cok_bool, cok_int, cok_string, cok_ptr, cok_slice, cok_map, cok_func, nobot_nil, nobot_cons, onb_none, onb_some, cond_true, cond_false, abound_none, abound_int, Option.bind_some, Option.bind_none, nth, nw, Value.cells, BK, List.getElem?_cons_zero, List.getElem?_cons_succ, List.toList_toArray, Nat.zero_add, Nat.add_zero, List.length_cons, List.length_nil, List.length_replicate, List.length_map, List.length_set, List.all_cons, List.all_nil, setMany, List.set_cons_zero, List.set_cons_succ, List.drop_zero, List.take_zero, List.take_succ_cons, List.drop_succ_cons, List.take_nil, List.drop_nil, if_true, if_false, Bool.and_true, Bool.true_and, Nat.reduceAdd, Nat.reduceLeDiff, Nat.reduceMul, Nat.reduceMod, Nat.reduceDiv, Nat.reduceSub, Nat.reduceEqDiff, Nat.lt_irrefl, Int.reduceEq, Int.reduceLT, Int.reduceLE, Int.reduceAdd, Int.reduceSub, Int.reduceMul, Int.reduceNeg, Int.reduceToNat, and_true, true_and, Nat.le_refl, dec_t, dec_f, nxt_push, nxt_set, ro_pushk, ro_setk, next_lock, ro_lock, get_lock, get_push_self, get_push_eq, get_push_lt, get_set_self, get_set_ne, ne_eq, lt_add1, lt_add, sto, ldn, ld1, not_false_eq_true, not_true_eq_false, Bool.not_true, Bool.not_false, Bool.and_false, Bool.false_and, beq_self_eq_true, al_2, al_3, fa_24_0, fa_24_1, fa_24_2, h0, h1, h2]
        simp [h0, h1, h2]
/-! ### Calls that are told -/
structure Act where
  op : Int
  n : Int
  c : Int
  p : V
  v : V
def Act.vals (a : Act) : List Value := [.int .i64 a.op, .int .i64 a.n, .int .i64 a.c, .int .i64 a.p.k, .int .i64 a.p.n, .int .i64 a.p.b, .int .i64 a.v.k, .int .i64 a.v.n, .int .i64 a.v.b]
def Act.ok (a : Act) : Prop := in64 a.n ∧ in64 a.c ∧ a.p.ok ∧ a.v.ok
/-- A slice of calls. -/
def SliceA (h : AHeap) (sv : Value) (zs : List Act) : Prop := (sv = .slice none 0 0 ∧ zs = []) ∨ ∃ b off, sv = .slice (some ⟨b, off, none⟩) zs.length 0 ∧ (zs ≠ [] → ∃ c t, b < h.next ∧ h.get b = some (.cells c t) ∧ ∀ (i : Nat) a, zs[i]? = some a → a.ok ∧ (c.drop (off + i * 9)).take 9 = a.vals)
section
variable {h : AHeap} {sv : Value} {zs : List Act}
theorem SliceA.nob (S : SliceA h sv zs) : isBot sv = false := by
  rcases S with ⟨rfl, _⟩ | ⟨b, off, rfl, _⟩ <;> rfl
theorem SliceA.len (S : SliceA h sv zs) (h' : AHeap) : abuiltin Try.prog .len [22] 3 [sv] h' = some (.int .i64 zs.length, h') := by
  rcases S with ⟨rfl, rfl⟩ | ⟨b, off, rfl, _⟩
  · simp only [al_2, al_24, al_3, as_24, az_24, bd_24_, cv_3_39, eql_24, eql_4, fa_24_0, fa_24_1, fa_24_2, fa_32_0, fa_32_2, fa_32_3, fa_32_4, ix_22, len_22, neq_24, neq_4, List.length_nil]
  · simp only [al_2, al_24, al_3, as_24, az_24, bd_24_, cv_3_39, eql_24, eql_4, fa_24_0, fa_24_1, fa_24_2, fa_32_0, fa_32_2, fa_32_3, fa_32_4, ix_22, len_22, neq_24, neq_4]
theorem SliceA.ok (S : SliceA h sv zs) {i : Nat} {z : Act} (hz : zs[i]? = some z) : z.ok := by
  rcases S with ⟨rfl, rfl⟩ | ⟨b, off, rfl, hc⟩
  · cases hz
  · obtain ⟨c, t, hb, hg, hat⟩ := hc (by intro e; subst e; cases hz)
    exact (hat i z hz).1
theorem SliceA.at (S : SliceA h sv zs) {i : Nat} {z : Act} (hz : zs[i]? = some z) : ∃ b o c t, aindex Try.prog 22 sv (.int .i64 i) = some (.pointer (some ⟨b, o, none⟩)) ∧ (∀ h', Eff nof h h' → h'.get b = some (.cells c t)) ∧
    (c[o]? = some (.int .i64 z.op) ∧ c[o + 1]? = some (.int .i64 z.n) ∧ c[o + 2]? = some (.int .i64 z.c)) ∧ (o + 9 ≤ c.length ∧ o + 3 + 3 ≤ c.length ∧ o + 6 + 3 ≤ c.length) ∧
    ((c.drop (o + 3)).take 3).toArray = #[.int .i64 z.p.k, .int .i64 z.p.n, .int .i64 z.p.b] ∧ ((c.drop (o + 6)).take 3).toArray = #[.int .i64 z.v.k, .int .i64 z.v.n, .int .i64 z.v.b] ∧
    ((c.drop o).take 9).toArray = #[.int .i64 z.op, .int .i64 z.n, .int .i64 z.c, .int .i64 z.p.k, .int .i64 z.p.n, .int .i64 z.p.b, .int .i64 z.v.k, .int .i64 z.v.n, .int .i64 z.v.b] := by
  rcases S with ⟨rfl, rfl⟩ | ⟨b, off, rfl, hc⟩
  · cases hz
  · have hlt : i < zs.length := by
      rcases Nat.lt_or_ge i zs.length with a | a
      · exact a
      · rw [List.getElem?_eq_none a] at hz; cases hz
    obtain ⟨c, t, hb, hg, hat⟩ := hc (by intro e; subst e; cases hz)
    have h1 : 0 ≤ (i : Int) ∧ (i : Int) < (zs.length : Int) := by omega
    have hv := (hat i z hz).2
    have hlen : off + i * 9 + 9 ≤ c.length := by
      have := congrArg List.length hv
      simp [Act.vals] at this
      omega
    have one : ∀ j, j < 9 → c[off + i * 9 + j]? = z.vals[j]? := fun j hj => by
      rw [← hv, List.getElem?_take_of_lt hj, List.getElem?_drop]
    have sub : ∀ j k, j + k ≤ 9 → (c.drop (off + i * 9 + j)).take k = (z.vals.drop j).take k := fun j k hj => by
      rw [← hv, List.drop_take, List.drop_drop, List.take_take, Nat.min_eq_left (by omega)]
    refine ⟨b, off + i * 9, c, t, by simp only [axt_20, axt_21, opt_some, optH_some, nb_cons, nb_nil, CD_true, CD_false, GD_tt, GD_ff, GD_tf, GD_ft, GD_un, pk_true, pk_false, nck_ptr, rv_one, rv_two, b_lss, b_leq, b_gtr, b_geq, b_eql, b_neq, b_add, b_sub, b_mul, b_quo, b_rem, b_shl, b_shr, b_and, b_or, b_xor, b_andNot, u_not, u_neg, nob_bool, nob_int, nob_string, nob_ptr, nob_slice, nob_map, nob_func, nob_nilf, nob_iface, nob_nili, nob_agg, nob_tuple, cok_bool, cok_int, cok_string, cok_ptr, cok_slice, cok_map, cok_func, nobot_nil, nobot_cons, onb_none, onb_some, cond_true, cond_false, abound_none, abound_int, Option.bind_some, Option.bind_none, nth, nw, Value.cells, BK, List.getElem?_cons_zero, List.getElem?_cons_succ, List.toList_toArray, Nat.zero_add, Nat.add_zero, List.length_cons, List.length_nil, List.length_replicate, List.length_map, List.length_set, List.all_cons, List.all_nil, setMany, List.set_cons_zero, List.set_cons_succ, List.drop_zero, List.take_zero, List.take_succ_cons, List.drop_succ_cons, List.take_nil, List.drop_nil, if_true, if_false, Bool.and_true, Bool.true_and, Nat.reduceAdd, Nat.reduceLeDiff, Nat.reduceMul, Nat.reduceMod, Nat.reduceDiv, Nat.reduceSub, Nat.reduceEqDiff, Nat.lt_irrefl, Int.reduceEq, Int.reduceLT, Int.reduceLE, Int.reduceAdd, Int.reduceSub, Int.reduceMul, Int.reduceNeg, Int.reduceToNat, and_true, true_and, Nat.le_refl, dec_t, dec_f, nxt_push, nxt_set, ro_pushk, ro_setk, next_lock, ro_lock, get_lock, get_push_self, get_push_eq, get_push_lt, get_set_self, get_set_ne, ne_eq, lt_add1, lt_add, sto, ldn, ld1, not_false_eq_true, not_true_eq_false, Bool.not_true, Bool.not_false, Bool.and_false, Bool.false_and, beq_self_eq_true, al_2, al_24, al_3, as_24, az_24, bd_24_, cv_3_39, eql_24, eql_4, fa_24_0, fa_24_1, fa_24_2, fa_32_0, fa_32_2, fa_32_3, fa_32_4, ix_22, len_22, neq_24, neq_4, h1, Int.toNat_natCast], fun h' e => by rw [e.get b (fun q => q) hb]; exact hg, ⟨one 0 (by decide), one 1 (by decide), one 2 (by decide)⟩, ⟨hlen, by omega, by omega⟩, ?_, ?_, ?_⟩
    · rw [sub 3 3 (by decide)]; rfl
    · rw [sub 6 3 (by decide)]; rfl
    · rw [hv]; rfl
end
/-! ### What a store leaves -/
/-- What a load answers. -/
def lr (M : MM) (c : Int) (p : V) : V × Bool := match loadM M c p with
  | none => (v0, false)
  | some a => (a, true)
theorem loadR_eq {M : MM} {c : Int} {p : V} {v : Value} (h : LoadR M c p v) : v = .tuple #[(lr M c p).1.val, .bool (lr M c p).2] := by
  unfold LoadR at h
  unfold lr
  cases e : loadM M c p with
  | none => rw [e] at h; exact h
  | some a => rw [e] at h; exact h
def V.cells (v : V) : Value := .agg #[.int .i64 v.k, .int .i64 v.n, .int .i64 v.b]
theorem load_lr {h : AHeap} {m : Nat} {M : MM} {F : Nat → Prop} {c : Int} {p a : V} {ok : Bool} (x : MemH h m M F) (hs : small M) (hc : in64 c) (hp : p.ok) (hl : lr M c p = (a, ok)) :
    DC Try.prog 11 [.pointer (some ⟨m, 0, none⟩), .int .i64 c, .agg #[.int .i64 p.k, .int .i64 p.n, .int .i64 p.b]] h (fun v h1 => v = .tuple #[.agg #[.int .i64 a.k, .int .i64 a.n, .int .i64 a.b], .bool ok] ∧ MemH h1 m M F ∧ Eff nof h h1) := by
  obtain ⟨bs, ps, fs, x⟩ := x
  refine DC.mono (f := 11) (load_ok x hs hc hp) ?_
  rintro v h1 ⟨e, hr⟩
  have := loadR_eq hr
  rw [hl] at this
  exact ⟨this, ⟨bs, ps, fs, x.keep (fun b hb => e.get b (fun q => q) (x.ok b hb).2) e.next e.ro⟩, e⟩
theorem store_yes {h : AHeap} {m : Nat} {M M' : MM} {F : Nat → Prop} {c : Int} {p v : V} (x : MemH h m M F) (hs : small M) (hc : in64 c) (hp : p.ok) (ha : storeM M c p v = some M') :
    DC Try.prog 10 [.pointer (some ⟨m, 0, none⟩), .int .i64 c, .agg #[.int .i64 p.k, .int .i64 p.n, .int .i64 p.b], .agg #[.int .i64 v.k, .int .i64 v.n, .int .i64 v.b]] h (fun r h1 => r = .bool true ∧ MutR h m M' F h1) := by
  obtain ⟨bs, ps, fs, x⟩ := x
  refine (store_ok x hs hc hp).mono ?_
  intro r h1 hr
  unfold StoreR at hr
  rw [ha] at hr
  exact hr
theorem storeM_some {M M' : MM} {c : Int} {p v : V} (h : storeM M c p v = some M') : ∃ i B, right M c p = some i ∧ M[i]? = some B ∧ M' = M.set i (storeB B p.n.toNat (norm v) c.toNat) ∧ ((norm v).k = 2 → c = 8) := by
  unfold storeM at h
  split at h
  · cases h
  · rename_i hk
    split at h
    · cases h
    · rename_i i hi
      simp only [Option.map_eq_some_iff] at h
      obtain ⟨B, hB, e⟩ := h
      exact ⟨i, B, hi, hB, e.symm, fun q => by
        by_cases e : c = 8
        · exact e
        · exact absurd ⟨q, e⟩ hk⟩
theorem small_store {M M' : MM} {c : Int} {p v : V} (hs : small M) (h : storeM M c p v = some M') : small M' := by
  obtain ⟨i, B, _, hB, rfl, _⟩ := storeM_some h
  exact small_set hs (hs i B hB)
theorem idx_set {M : MM} {i : Nat} {B B' : MB} (hB : M[i]? = some B) (hf : B'.freed = B.freed) (n : Int) : idx (M.set i B') n = idx M n := by
  unfold idx
  rw [List.length_set]
  by_cases hn : 1 ≤ n ∧ n ≤ (M.length : Int)
  · rw [if_pos hn, if_pos hn]
    by_cases e : i = n.toNat - 1
    · rw [← e, hB, List.getElem?_set_self (by omega)]
      simp only [hf]
    · rw [List.getElem?_set_ne e]
  · rw [if_neg hn, if_neg hn]
theorem right_set {M : MM} {i : Nat} {B B' : MB} (hB : M[i]? = some B) (hf : B'.freed = B.freed) (hz : B'.size = B.size) (c : Int) (p : V) : right (M.set i B') c p = right M c p := by
  unfold right
  rw [idx_set hB hf]
  split
  · cases hi : idx M p.b with
    | none => rfl
    | some j =>
      simp only
      by_cases e : i = j
      · subst e
        have hlt : i < M.length := by
          rcases Nat.lt_or_ge i M.length with a | a
          · exact a
          · rw [List.getElem?_eq_none a] at hB; cases hB
        rw [hB, List.getElem?_set_self hlt]
        simp only [hz]
      · rw [List.getElem?_set_ne e]
  · rfl
theorem loadV_congr {f g : Nat → Cl} {n : Nat} {c : Int} (h1 : 1 ≤ c.toNat) (h : ∀ k, k < c.toNat → f (n + k) = g (n + k)) : loadV f n c = loadV g n c := by
  have hn : ∀ k, k ≤ c.toNat → numF f n k = numF g n k := by
    intro k
    induction k with
    | zero => intro _; rfl
    | succ k ih => intro hk; simp only [numF, ih (by omega), h k (by omega)]
  have hb : ∀ k, k ≤ c.toNat → numsF f n k = numsF g n k := by
    intro k
    induction k with
    | zero => intro _; rfl
    | succ k ih => intro hk; simp only [numsF, ih (by omega), h k (by omega)]
  have h0 : f n = g n := h 0 (by omega)
  have hp : ∀ k, k ≤ c.toNat → partsF f n c k = partsF g n c k := by
    intro k
    induction k with
    | zero => intro _; rfl
    | succ k ih => intro hk; simp only [partsF, ih (by omega), h k (by omega), h0]
  unfold loadV
  rw [hn _ (Nat.le_refl _), hb _ (Nat.le_refl _), hp _ (Nat.le_refl _), h0]
section
variable {M M' : MM} {c w : Int} {p q v : V} (hst : storeM M c p v = some M')
include hst
theorem lr_ok : (lr M' w q).2 = (lr M w q).2 := by
  obtain ⟨i, B, hi, hB, rfl, _⟩ := storeM_some hst
  unfold lr loadM
  rw [right_set (B' := storeB B p.n.toNat (norm v) c.toNat) hB rfl rfl]
  cases hr : right M w q with
  | none => rfl
  | some j =>
    obtain ⟨_, _, _, C, hC, _⟩ := right_some hr
    simp only [hC, Option.map_some]
    by_cases e : i = j
    · subst e
      have hlt : i < M.length := by
        rcases Nat.lt_or_ge i M.length with a | a
        · exact a
        · rw [List.getElem?_eq_none a] at hB; cases hB
      rw [List.getElem?_set_self hlt]; rfl
    · rw [List.getElem?_set_ne e, hC]; rfl
theorem st_right : p.k = 2 ∧ (c = 1 ∨ c = 4 ∨ c = 8) ∧ 0 ≤ p.n ∧ ∃ (i : Nat) (B : MB), M[i]? = some B ∧ p.n ≤ B.size - c := by
  obtain ⟨i, B, hi, hB, _, _⟩ := storeM_some hst
  obtain ⟨h1, h2, _, B', hB', h3, h4, _⟩ := right_some hi
  exact ⟨h1, h2, h3, i, B', hB', h4⟩
/-- Elsewhere all is as it was. -/
theorem lr_apart (ha : q.b ≠ p.b ∨ (lr M w q).2 = false ∨ p.n + c ≤ q.n ∨ q.n + w ≤ p.n) : (lr M' w q).1 = (lr M w q).1 := by
  obtain ⟨i, B, hi, hB, rfl, _⟩ := storeM_some hst
  obtain ⟨_, hc, hib, _, _, hp0, _⟩ := right_some hi
  have hlt : i < M.length := by
    rcases Nat.lt_or_ge i M.length with a | a
    · exact a
    · rw [List.getElem?_eq_none a] at hB; cases hB
  unfold lr loadM at ha ⊢
  rw [right_set (B' := storeB B p.n.toNat (norm v) c.toNat) hB rfl rfl]
  cases hr : right M w q with
  | none => rfl
  | some j =>
    obtain ⟨_, hw, hjb, C, hC, hq0, _⟩ := right_some hr
    rw [hr] at ha
    simp only [hC, Option.map_some] at ha ⊢
    by_cases e : i = j
    · subst e
      rw [hB] at hC; cases hC
      have e1 := (idx_some hib).1
      have e2 := (idx_some hjb).1
      rw [List.getElem?_set_self hlt]
      simp only [Option.map_some]
      refine loadV_congr (by rcases hw with rfl | rfl | rfl <;> decide) (fun k hk => ?_)
      show (if _ then _ else _) = _
      rw [if_neg]
      rcases ha with h | h | h | h
      · exact absurd (e2.trans e1.symm) h
      · cases h
      · omega
      · omega
    · rw [List.getElem?_set_ne e, hC]; rfl
/-- And there is what was stored. -/
theorem lr_got : ∃ f : Nat → Cl, lr M' c p = (loadV f p.n.toNat c, true) ∧ (∀ k, k < c.toNat → f (p.n.toNat + k) = cellOf (norm v) k) ∧ ((norm v).k = 2 → c = 8) := by
  obtain ⟨i, B, hi, hB, rfl, h8⟩ := storeM_some hst
  have hlt : i < M.length := by
    rcases Nat.lt_or_ge i M.length with a | a
    · exact a
    · rw [List.getElem?_eq_none a] at hB; cases hB
  refine ⟨(storeB B p.n.toNat (norm v) c.toNat).byte, ?_, fun k hk => ?_, h8⟩
  · unfold lr loadM
    rw [right_set (B' := storeB B p.n.toNat (norm v) c.toNat) hB rfl rfl, hi]
    simp only [List.getElem?_set_self hlt, Option.map_some]
  · show (if _ then _ else _) = _
    rw [if_pos (by omega), Nat.add_sub_cancel_left]
end
/-- What is loaded where a value was stored. -/
theorem got_ptr {f : Nat → Cl} {n : Nat} {v : V} (h2 : v.k = 2) (hf : ∀ k, k < 8 → f (n + k) = cellOf v k) : loadV f n 8 = v := by
  have hc : ∀ k, k < 8 → f (n + k) = ⟨2, IntKind.wrap .u8 k, v⟩ := fun k hk => by
    rw [hf k hk]; unfold cellOf; rw [if_neg (by omega), if_pos h2]
  have h0 : f n = ⟨2, IntKind.wrap .u8 ((0 : Nat) : Int), v⟩ := hc 0 (by decide)
  unfold loadV
  have e1 : numsF f n 8 = false := by
    simp only [numsF, hc 7 (by decide)]; simp
  have e2 : partsF f n 8 8 = true := by
    simp only [partsF, hc 7 (by decide), hc 6 (by decide), hc 5 (by decide), hc 4 (by decide), hc 3 (by decide), hc 2 (by decide), hc 1 (by decide), hc 0 (by decide), h0]
    simp only [decide_true, Bool.and_true, Bool.true_and]
    decide
  show (if numsF f n 8 = true then _ else if partsF f n 8 8 = true then _ else _) = _
  rw [e1, if_neg (by decide), if_pos e2, h0]
theorem got_unk {f : Nat → Cl} {n : Nat} {c : Int} (hc : 1 ≤ c.toNat) (hf : ∀ k, k < c.toNat → f (n + k) = cellOf v0 k) : loadV f n c = v0 := by
  have hu : ∀ k, k < c.toNat → f (n + k) = unk := fun k hk => by rw [hf k hk]; rfl
  unfold loadV
  rw [if_neg (by rw [nums_unk hu hc]; decide), if_neg (by rw [parts_unk hu hc]; decide)]
theorem got_int8 {f : Nat → Cl} {n : Nat} {x : Int} (hx : in64 x) (hf : ∀ k, k < 8 → f (n + k) = cellOf ⟨1, x, 0⟩ k) : loadV f n 8 = ⟨1, x, 0⟩ :=
  load8 hx (fun j hj => by rw [hf j hj, cellOf_int x hj])
theorem got_int4 {f : Nat → Cl} {n : Nat} {x : Int} (hf : ∀ k, k < 4 → f (n + k) = cellOf ⟨1, x, 0⟩ k) : loadV f n 4 = ⟨1, extZ x 32, 0⟩ :=
  load4l (fun j hj => by rw [hf j hj, cellOf_int x (by omega)])
theorem got_int1 {f : Nat → Cl} {n : Nat} {x : Int} (hf : ∀ k, k < 1 → f (n + k) = cellOf ⟨1, x, 0⟩ k) : loadV f n 1 = ⟨1, extZ x 8, 0⟩ := by
  have := load1 (n := x) (j := 0) (f := f) (a := n) (by decide) (by have := hf 0 (by decide); rw [Nat.add_zero] at this; rw [this, cellOf_int x (by decide)])
  rw [this]
  simp
end Go.Mem
