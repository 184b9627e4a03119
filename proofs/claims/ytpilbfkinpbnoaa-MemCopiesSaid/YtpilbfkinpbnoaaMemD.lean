/-
  MEMORY: sizes; a block freed, or made 0.
-/
import Derived.Test.YtpilbfkinpbnoaaMemB1
import Derived.Test.YtpilbfkinpbnoaaMemB2
import Derived.Test.YtpilbfkinpbnoaaMemAw
namespace Go.Mem
open Go.Ai Go.Proofs
set_option linter.unusedVariables false
set_option linter.unusedSimpArgs false
section
variable {h : AHeap} {m : Nat} {bs : Value} {ps : List Nat} {fs : Nat → Nat → Prop} {M : MM} {F : Nat → Prop}
theorem live_ok (x : MemO h m bs ps fs M F) : DC Try.prog 17 [.pointer (some ⟨m, 0, none⟩)] h (fun v h1 => v = .int .i64 (live M) ∧ h1 = h) := by
  apply W_Live_ok
  unfold W_Live
  have hm := x.hm
  simp only [axt_20, axt_21, opt_some, optH_some, nb_cons, nb_nil, CD_true, CD_false, GD_tt, GD_ff, GD_tf, GD_ft, GD_un, pk_true, pk_false, nck_ptr, rv_one, rv_two, b_lss, b_leq, b_gtr, b_geq, b_eql, b_neq, b_add, b_sub, b_mul, b_quo, b_rem, b_shl, b_shr, b_and, b_or, b_xor, b_andNot, u_not, u_neg, nob_bool, nob_int, nob_string, nob_ptr, nob_slice, nob_map, nob_func, nob_nilf, nob_iface, nob_nili, nob_agg, nob_tuple, cok_bool, cok_int, cok_string, cok_ptr, cok_slice, cok_map, cok_func, nobot_nil, nobot_cons, onb_none, onb_some, cond_true, cond_false, abound_none, abound_int, Option.bind_some, Option.bind_none, nth, nw, Value.cells, BK, List.getElem?_cons_zero, List.getElem?_cons_succ, List.toList_toArray, Nat.zero_add, Nat.add_zero, List.length_cons, List.length_nil, List.length_replicate, List.length_map, List.length_set, List.all_cons, List.all_nil, setMany, List.set_cons_zero, List.set_cons_succ, List.drop_zero, List.take_zero, List.take_succ_cons, List.drop_succ_cons, List.take_nil, List.drop_nil, if_true, if_false, Bool.and_true, Bool.true_and, Nat.reduceAdd, Nat.reduceLeDiff, Nat.reduceMul, Nat.reduceMod, Nat.reduceDiv, Nat.reduceSub, Nat.reduceEqDiff, Nat.lt_irrefl, Int.reduceEq, Int.reduceLT, Int.reduceLE, Int.reduceAdd, Int.reduceSub, Int.reduceMul, Int.reduceNeg, Int.reduceToNat, and_true, true_and, Nat.le_refl, dec_t, dec_f, nxt_push, nxt_set, ro_pushk, ro_setk, next_lock, ro_lock, get_lock, get_push_self, get_push_eq, get_push_lt, get_set_self, get_set_ne, ne_eq, lt_add1, lt_add, sto, ldn, ld1, not_false_eq_true, not_true_eq_false, Bool.not_true, Bool.not_false, Bool.and_false, Bool.false_and, beq_self_eq_true, al_3, fa_56_1, hm]
theorem blocks_ok (x : MemO h m bs ps fs M F) : DC Try.prog 18 [.pointer (some ⟨m, 0, none⟩)] h (fun v h1 => v = .int .i64 M.length ∧ h1 = h) := by
  apply W_Blocks_ok
  unfold W_Blocks
  have hm := x.hm
  rcases x.hb with ⟨rfl, rfl⟩ | ⟨bb, c, rfl, _⟩
  · simp only [axt_20, axt_21, opt_some, optH_some, nb_cons, nb_nil, CD_true, CD_false, GD_tt, GD_ff, GD_tf, GD_ft, GD_un, pk_true, pk_false, nck_ptr, rv_one, rv_two, b_lss, b_leq, b_gtr, b_geq, b_eql, b_neq, b_add, b_sub, b_mul, b_quo, b_rem, b_shl, b_shr, b_and, b_or, b_xor, b_andNot, u_not, u_neg, nob_bool, nob_int, nob_string, nob_ptr, nob_slice, nob_map, nob_func, nob_nilf, nob_iface, nob_nili, nob_agg, nob_tuple, cok_bool, cok_int, cok_string, cok_ptr, cok_slice, cok_map, cok_func, nobot_nil, nobot_cons, onb_none, onb_some, cond_true, cond_false, abound_none, abound_int, Option.bind_some, Option.bind_none, nth, nw, Value.cells, BK, List.getElem?_cons_zero, List.getElem?_cons_succ, List.toList_toArray, Nat.zero_add, Nat.add_zero, List.length_cons, List.length_nil, List.length_replicate, List.length_map, List.length_set, List.all_cons, List.all_nil, setMany, List.set_cons_zero, List.set_cons_succ, List.drop_zero, List.take_zero, List.take_succ_cons, List.drop_succ_cons, List.take_nil, List.drop_nil, if_true, if_false, Bool.and_true, Bool.true_and, Nat.reduceAdd, Nat.reduceLeDiff, Nat.reduceMul, Nat.reduceMod, Nat.reduceDiv, Nat.reduceSub, Nat.reduceEqDiff, Nat.lt_irrefl, Int.reduceEq, Int.reduceLT, Int.reduceLE, Int.reduceAdd, Int.reduceSub, Int.reduceMul, Int.reduceNeg, Int.reduceToNat, and_true, true_and, Nat.le_refl, dec_t, dec_f, nxt_push, nxt_set, ro_pushk, ro_setk, next_lock, ro_lock, get_lock, get_push_self, get_push_eq, get_push_lt, get_set_self, get_set_ne, ne_eq, lt_add1, lt_add, sto, ldn, ld1, not_false_eq_true, not_true_eq_false, Bool.not_true, Bool.not_false, Bool.and_false, Bool.false_and, beq_self_eq_true, al_54, fa_56_0, len_54, hm]
  · simp only [axt_20, axt_21, opt_some, optH_some, nb_cons, nb_nil, CD_true, CD_false, GD_tt, GD_ff, GD_tf, GD_ft, GD_un, pk_true, pk_false, nck_ptr, rv_one, rv_two, b_lss, b_leq, b_gtr, b_geq, b_eql, b_neq, b_add, b_sub, b_mul, b_quo, b_rem, b_shl, b_shr, b_and, b_or, b_xor, b_andNot, u_not, u_neg, nob_bool, nob_int, nob_string, nob_ptr, nob_slice, nob_map, nob_func, nob_nilf, nob_iface, nob_nili, nob_agg, nob_tuple, cok_bool, cok_int, cok_string, cok_ptr, cok_slice, cok_map, cok_func, nobot_nil, nobot_cons, onb_none, onb_some, cond_true, cond_false, abound_none, abound_int, Option.bind_some, Option.bind_none, nth, nw, Value.cells, BK, List.getElem?_cons_zero, List.getElem?_cons_succ, List.toList_toArray, Nat.zero_add, Nat.add_zero, List.length_cons, List.length_nil, List.length_replicate, List.length_map, List.length_set, List.all_cons, List.all_nil, setMany, List.set_cons_zero, List.set_cons_succ, List.drop_zero, List.take_zero, List.take_succ_cons, List.drop_succ_cons, List.take_nil, List.drop_nil, if_true, if_false, Bool.and_true, Bool.true_and, Nat.reduceAdd, Nat.reduceLeDiff, Nat.reduceMul, Nat.reduceMod, Nat.reduceDiv, Nat.reduceSub, Nat.reduceEqDiff, Nat.lt_irrefl, Int.reduceEq, Int.reduceLT, Int.reduceLE, Int.reduceAdd, Int.reduceSub, Int.reduceMul, Int.reduceNeg, Int.reduceToNat, and_true, true_and, Nat.le_refl, dec_t, dec_f, nxt_push, nxt_set, ro_pushk, ro_setk, next_lock, ro_lock, get_lock, get_push_self, get_push_eq, get_push_lt, get_set_self, get_set_ne, ne_eq, lt_add1, lt_add, sto, ldn, ld1, not_false_eq_true, not_true_eq_false, Bool.not_true, Bool.not_false, Bool.and_false, Bool.false_and, beq_self_eq_true, al_54, fa_56_0, len_54, hm]
def sizeV (M : MM) (n : Int) : Value := match (idx M n).bind fun i => M[i]? with
  | some B => .tuple #[.int .i64 B.size, .bool true]
  | none => .tuple #[.int .i64 0, .bool false]
theorem idx_block (x : MemO h m bs ps fs M F) {n : Int} {i : Nat} (hi : idx M n = some i) : n = i + 1 ∧ i < M.length ∧ ∃ q B pg, ps[i]? = some q ∧ M[i]? = some B ∧ B.freed = false ∧ h.get q = some (.cells [.int .i64 B.size, pg, .bool B.freed] 60) ∧ fs i q ∧ PagesH h pg B (fs i) := by
  obtain ⟨hn, B, hB, hf⟩ := idx_some hi
  have hlt : i < M.length := by
    rcases Nat.lt_or_ge i M.length with a | a
    · exact a
    · rw [List.getElem?_eq_none a] at hB; cases hB
  obtain ⟨q, hq⟩ : ∃ q, ps[i]? = some q := ⟨_, List.getElem?_eq_getElem (by rw [x.len]; exact hlt)⟩
  obtain ⟨pg, hbk, fq, hpg⟩ := x.blk i q B hq hB
  exact ⟨hn, hlt, q, B, pg, hq, hB, hf, hbk, fq, hpg⟩
theorem size_ok (x : MemO h m bs ps fs M F) {n : Int} (hn : n < 9223372036854775808) : DC Try.prog 20 [.pointer (some ⟨m, 0, none⟩), .int .i64 n] h (fun v h1 => v = sizeV M n ∧ h1 = h) := by
  apply W_Size_ok
  unfold W_Size
  refine callV_of (by kernel_rfl) rfl (at_ok x hn) ?_
  rintro v h1 ⟨rfl, rfl⟩
  cases hi : idx M n with
  | none =>
    simp only [axt_20, axt_21, opt_some, optH_some, nb_cons, nb_nil, CD_true, CD_false, GD_tt, GD_ff, GD_tf, GD_ft, GD_un, pk_true, pk_false, nck_ptr, rv_one, rv_two, b_lss, b_leq, b_gtr, b_geq, b_eql, b_neq, b_add, b_sub, b_mul, b_quo, b_rem, b_shl, b_shr, b_and, b_or, b_xor, b_andNot, u_not, u_neg, nob_bool, nob_int, nob_string, nob_ptr, nob_slice, nob_map, nob_func, nob_nilf, nob_iface, nob_nili, nob_agg, nob_tuple, cok_bool, cok_int, cok_string, cok_ptr, cok_slice, cok_map, cok_func, nobot_nil, nobot_cons, onb_none, onb_some, cond_true, cond_false, abound_none, abound_int, Option.bind_some, Option.bind_none, nth, nw, Value.cells, BK, List.getElem?_cons_zero, List.getElem?_cons_succ, List.toList_toArray, Nat.zero_add, Nat.add_zero, List.length_cons, List.length_nil, List.length_replicate, List.length_map, List.length_set, List.all_cons, List.all_nil, setMany, List.set_cons_zero, List.set_cons_succ, List.drop_zero, List.take_zero, List.take_succ_cons, List.drop_succ_cons, List.take_nil, List.drop_nil, if_true, if_false, Bool.and_true, Bool.true_and, Nat.reduceAdd, Nat.reduceLeDiff, Nat.reduceMul, Nat.reduceMod, Nat.reduceDiv, Nat.reduceSub, Nat.reduceEqDiff, Nat.lt_irrefl, Int.reduceEq, Int.reduceLT, Int.reduceLE, Int.reduceAdd, Int.reduceSub, Int.reduceMul, Int.reduceNeg, Int.reduceToNat, and_true, true_and, Nat.le_refl, dec_t, dec_f, nxt_push, nxt_set, ro_pushk, ro_setk, next_lock, ro_lock, get_lock, get_push_self, get_push_eq, get_push_lt, get_set_self, get_set_ne, ne_eq, lt_add1, lt_add, sto, ldn, ld1, not_false_eq_true, not_true_eq_false, Bool.not_true, Bool.not_false, Bool.and_false, Bool.false_and, beq_self_eq_true, al_3, eql0_57, eql_57, fa_60_0, Option.bind_none, gptr]
    unfold sizeV
    simp only [hi, Option.bind_none, and_self]
  | some i =>
    obtain ⟨_, _, q, B, pg, hq, hB, _, hbk, _⟩ := idx_block x hi
    simp only [axt_20, axt_21, opt_some, optH_some, nb_cons, nb_nil, CD_true, CD_false, GD_tt, GD_ff, GD_tf, GD_ft, GD_un, pk_true, pk_false, nck_ptr, rv_one, rv_two, b_lss, b_leq, b_gtr, b_geq, b_eql, b_neq, b_add, b_sub, b_mul, b_quo, b_rem, b_shl, b_shr, b_and, b_or, b_xor, b_andNot, u_not, u_neg, nob_bool, nob_int, nob_string, nob_ptr, nob_slice, nob_map, nob_func, nob_nilf, nob_iface, nob_nili, nob_agg, nob_tuple, cok_bool, cok_int, cok_string, cok_ptr, cok_slice, cok_map, cok_func, nobot_nil, nobot_cons, onb_none, onb_some, cond_true, cond_false, abound_none, abound_int, Option.bind_some, Option.bind_none, nth, nw, Value.cells, BK, List.getElem?_cons_zero, List.getElem?_cons_succ, List.toList_toArray, Nat.zero_add, Nat.add_zero, List.length_cons, List.length_nil, List.length_replicate, List.length_map, List.length_set, List.all_cons, List.all_nil, setMany, List.set_cons_zero, List.set_cons_succ, List.drop_zero, List.take_zero, List.take_succ_cons, List.drop_succ_cons, List.take_nil, List.drop_nil, if_true, if_false, Bool.and_true, Bool.true_and, Nat.reduceAdd, Nat.reduceLeDiff, Nat.reduceMul, Nat.reduceMod, Nat.reduceDiv, Nat.reduceSub, Nat.reduceEqDiff, Nat.lt_irrefl, Int.reduceEq, Int.reduceLT, Int.reduceLE, Int.reduceAdd, Int.reduceSub, Int.reduceMul, Int.reduceNeg, Int.reduceToNat, and_true, true_and, Nat.le_refl, dec_t, dec_f, nxt_push, nxt_set, ro_pushk, ro_setk, next_lock, ro_lock, get_lock, get_push_self, get_push_eq, get_push_lt, get_set_self, get_set_ne, ne_eq, lt_add1, lt_add, sto, ldn, ld1, not_false_eq_true, not_true_eq_false, Bool.not_true, Bool.not_false, Bool.and_false, Bool.false_and, beq_self_eq_true, al_3, eql0_57, eql_57, fa_60_0, Option.bind_some, gptr, hq, hbk]
    unfold sizeV
    simp only [hi, Option.bind_some, hB, and_self]
/-- One block for another, which is new. -/
theorem MemO.swap (x : MemO h m bs ps fs M F) {h1 : AHeap} {i p bb c : Nat} {B : MB} (hbs : bs = .slice (some ⟨bb, 0, none⟩) M.length c) (hi : i < M.length) (eff : Eff F h h1) (hp : h.next ≤ p ∧ p < h1.next)
    (e1 : h1.get m = some (.cells [bs, .int .i64 (live (M.set i B))] 56)) (e2 : h1.get bb = some (.cells ((ps.set i p).map fun p => .pointer (some ⟨p, 0, none⟩)) 57))
    (e3 : h1.get p = some (.cells [.int .i64 B.size, .slice none 0 0, .bool B.freed] 60)) (hu : ∀ k, B.byte k = unk) (e4 : ∀ b, F b → b ≠ m → b ≠ bb → h1.get b = h.get b) :
    MemO h1 m bs (ps.set i p) (fun k b => if k = i then b = p else fs k b) (M.set i B) (fun b => F b ∨ b = p) := by
  have hnew : ∀ b, h.next ≤ b → F b → False := fun b hl hb => by have := (x.ok b hb).2; omega
  have hlp := x.len
  have hbb : F bb ∧ c ≠ 0 ∧ ∀ i, ¬ fs i bb := by
    rcases x.hb with ⟨rfl, _⟩ | ⟨bb', c', r, r1, r2, _, r4⟩
    · cases hi
    · rw [hbs] at r; cases r; exact ⟨r2, r1, r4⟩
  refine ⟨e1, .inl x.fm, by simp [hlp], ?_, ?_, ?_, ?_, ?_, ?_⟩
  · refine .inr ⟨bb, c, by rw [hbs, List.length_set], hbb.2.1, .inl hbb.1, e2, fun k hk => ?_⟩
    split at hk
    · exact hnew bb (by rw [hk]; exact hp.1) hbb.1
    · exact hbb.2.2 k hk
  · intro k hk
    split at hk
    · exact hnew m (by rw [hk]; exact hp.1) x.fm
    · exact x.nm k hk
  · intro k q C hq hC
    by_cases e : k = i
    · subst e
      rw [List.getElem?_set_self (by omega)] at hq hC
      cases hq; cases hC
      simp only [if_true]
      exact ⟨_, e3, rfl, .empty rfl hu⟩
    · rw [List.getElem?_set_ne (fun z => e z.symm)] at hq hC
      simp only [if_neg e]
      exact (x.blk k q C hq hC).keep (fun b hb => e4 b (x.sub k b hb) (fun z => by subst z; exact x.nm k hb) (fun z => by subst z; exact hbb.2.2 k hb))
  · intro a b z ha hz
    split at ha <;> split at hz
    · rename_i e1 e2; rw [e1, e2]
    · exact (hnew z (by rw [ha]; exact hp.1) (x.sub b z hz)).elim
    · exact (hnew z (by rw [hz]; exact hp.1) (x.sub a z ha)).elim
    · exact x.dis a b z ha hz
  · intro k b hk
    split at hk
    · exact .inr hk
    · exact .inl (x.sub k b hk)
  · intro b hb
    have n1 := eff.next
    have n2 := eff.ro
    have o1 := x.ok m x.fm
    rcases hb with hb | hb
    · have := x.ok b hb; omega
    · omega
theorem live_free {M : MM} {i : Nat} {B B' : MB} (h : M[i]? = some B) (hf : B.freed = false) (hf' : B'.freed = true) : live (M.set i B') + 1 = live M := by
  unfold live
  induction M generalizing i with
  | nil => cases h
  | cons A M ih =>
    cases i with
    | zero => simp at h; subst h; simp [hf, hf', List.filter_cons]
    | succ i => simp at h; simp only [List.set_cons_succ, List.filter_cons]; split <;> simp [← ih h]
def gone (B : MB) : MB := ⟨B.size, true, fun _ => unk⟩
def freeM (M : MM) (n : Int) : Option MM := (idx M n).bind fun i => (M[i]?).map fun B => M.set i (gone B)
def FreeR (h : AHeap) (m : Nat) (M : MM) (F : Nat → Prop) (n : Int) (r : Value) (h1 : AHeap) : Prop := match freeM M n with
  | none => r = .bool false ∧ h1 = h
  | some M' => r = .bool true ∧ MutR h m M' F h1
theorem free_ok (x : MemO h m bs ps fs M F) (hL : M.length ≤ 100000) {n : Int} (hn : n < 9223372036854775808) : DC Try.prog 16 [.pointer (some ⟨m, 0, none⟩), .int .i64 n] h (FreeR h m M F n) := by
  apply DC_wf; intro hwf; have hro := hwf.2
  apply W_Free_ok
  unfold W_Free
  refine callV_of (by kernel_rfl) rfl (at_ok x hn) ?_
  rintro v h1 ⟨rfl, rfl⟩
  cases hi : idx M n with
  | none =>
    simp only [axt_20, axt_21, opt_some, optH_some, nb_cons, nb_nil, CD_true, CD_false, GD_tt, GD_ff, GD_tf, GD_ft, GD_un, pk_true, pk_false, nck_ptr, rv_one, rv_two, b_lss, b_leq, b_gtr, b_geq, b_eql, b_neq, b_add, b_sub, b_mul, b_quo, b_rem, b_shl, b_shr, b_and, b_or, b_xor, b_andNot, u_not, u_neg, nob_bool, nob_int, nob_string, nob_ptr, nob_slice, nob_map, nob_func, nob_nilf, nob_iface, nob_nili, nob_agg, nob_tuple, cok_bool, cok_int, cok_string, cok_ptr, cok_slice, cok_map, cok_func, nobot_nil, nobot_cons, onb_none, onb_some, cond_true, cond_false, abound_none, abound_int, Option.bind_some, Option.bind_none, nth, nw, Value.cells, BK, List.getElem?_cons_zero, List.getElem?_cons_succ, List.toList_toArray, Nat.zero_add, Nat.add_zero, List.length_cons, List.length_nil, List.length_replicate, List.length_map, List.length_set, List.all_cons, List.all_nil, setMany, List.set_cons_zero, List.set_cons_succ, List.drop_zero, List.take_zero, List.take_succ_cons, List.drop_succ_cons, List.take_nil, List.drop_nil, if_true, if_false, Bool.and_true, Bool.true_and, Nat.reduceAdd, Nat.reduceLeDiff, Nat.reduceMul, Nat.reduceMod, Nat.reduceDiv, Nat.reduceSub, Nat.reduceEqDiff, Nat.lt_irrefl, Int.reduceEq, Int.reduceLT, Int.reduceLE, Int.reduceAdd, Int.reduceSub, Int.reduceMul, Int.reduceNeg, Int.reduceToNat, and_true, true_and, Nat.le_refl, dec_t, dec_f, nxt_push, nxt_set, ro_pushk, ro_setk, next_lock, ro_lock, get_lock, get_push_self, get_push_eq, get_push_lt, get_set_self, get_set_ne, ne_eq, lt_add1, lt_add, sto, ldn, ld1, not_false_eq_true, not_true_eq_false, Bool.not_true, Bool.not_false, Bool.and_false, Bool.false_and, beq_self_eq_true, al_3, al_54, as_3, as_57, bd_60_0_2, eql0_57, eql_57, fa_56_0, fa_56_1, fa_60_0, ix_54, Option.bind_none, gptr]
    unfold FreeR freeM
    simp only [hi, Option.bind_none, and_self]
  | some i =>
    obtain ⟨hni, hlt, q, B, pg, hq, hB, hf, hbk, fq, _⟩ := idx_block x hi
    have hfm : freeM M n = some (M.set i (gone B)) := by unfold freeM; rw [hi]; simp [hB]
    rcases x.hb with ⟨rfl, _⟩ | ⟨bb, c, hbs, hc, fb, hbb, nb⟩
    · cases hlt
    have hm := x.hm
    have hw : IntKind.wrap .i64 (n - 1) = (i : Int) := by rw [w64 (by omega) (by omega)]; omega
    have hc1 : 0 ≤ (i : Int) ∧ (i : Int) < (M.length : Int) := by omega
    have okm := x.ok m x.fm
    have okb := x.ok bb fb
    have hbm : ¬ bb = m := by intro e; subst e; rw [hbb] at hm; simp at hm
    have hmb : ¬ m = bb := fun e => hbm e.symm
    have hb0 : ¬ bb = h1.next := by omega
    have hm0 : ¬ m = h1.next := by omega
    have hi1 : i + 1 ≤ ps.length := by rw [x.len]; omega
    have hlv := live_free (B' := gone B) hB hf rfl
    have hl := live_le M
    have hll : ((live M : Nat) : Int) - 1 = ((live (M.set i (gone B)) : Nat) : Int) := by omega
    have hlw : IntKind.wrap .i64 (((live M : Nat) : Int) - 1) = ((live (M.set i (gone B)) : Nat) : Int) := by rw [hll]; exact w64 (by omega) (by omega)
    have hset : ∀ v : Value, setMany (ps.map fun p => Value.pointer (some ⟨p, 0, none⟩)) i [v] = (ps.map fun p => Value.pointer (some ⟨p, 0, none⟩)).set i v := fun v => rfl
    rw [hbs] at hm
    simp only [axt_20, axt_21, opt_some, optH_some, nb_cons, nb_nil, CD_true, CD_false, GD_tt, GD_ff, GD_tf, GD_ft, GD_un, pk_true, pk_false, nck_ptr, rv_one, rv_two, b_lss, b_leq, b_gtr, b_geq, b_eql, b_neq, b_add, b_sub, b_mul, b_quo, b_rem, b_shl, b_shr, b_and, b_or, b_xor, b_andNot, u_not, u_neg, nob_bool, nob_int, nob_string, nob_ptr, nob_slice, nob_map, nob_func, nob_nilf, nob_iface, nob_nili, nob_agg, nob_tuple, cok_bool, cok_int, cok_string, cok_ptr, cok_slice, cok_map, cok_func, nobot_nil, nobot_cons, onb_none, onb_some, cond_true, cond_false, abound_none, abound_int, Option.bind_some, Option.bind_none, nth, nw, Value.cells, BK, List.getElem?_cons_zero, List.getElem?_cons_succ, List.toList_toArray, Nat.zero_add, Nat.add_zero, List.length_cons, List.length_nil, List.length_replicate, List.length_map, List.length_set, List.all_cons, List.all_nil, setMany, List.set_cons_zero, List.set_cons_succ, List.drop_zero, List.take_zero, List.take_succ_cons, List.drop_succ_cons, List.take_nil, List.drop_nil, if_true, if_false, Bool.and_true, Bool.true_and, Nat.reduceAdd, Nat.reduceLeDiff, Nat.reduceMul, Nat.reduceMod, Nat.reduceDiv, Nat.reduceSub, Nat.reduceEqDiff, Nat.lt_irrefl, Int.reduceEq, Int.reduceLT, Int.reduceLE, Int.reduceAdd, Int.reduceSub, Int.reduceMul, Int.reduceNeg, Int.reduceToNat, and_true, true_and, Nat.le_refl, dec_t, dec_f, nxt_push, nxt_set, ro_pushk, ro_setk, next_lock, ro_lock, get_lock, get_push_self, get_push_eq, get_push_lt, get_set_self, get_set_ne, ne_eq, lt_add1, lt_add, sto, ldn, ld1, not_false_eq_true, not_true_eq_false, Bool.not_true, Bool.not_false, Bool.and_false, Bool.false_and, beq_self_eq_true, al_3, al_54, as_3, as_57, bd_60_0_2, eql0_57, eql_57, fa_56_0, fa_56_1, fa_60_0, ix_54, Option.bind_some, gptr, hq, hbk, hm, hw, hc1, hbb, Int.toNat_natCast, Nat.mul_one, okb, okm, hm0, hb0, hbm, hmb, hi1, hlw]
    unfold FreeR
    rw [hfm]
    have eff : Eff F h1 (((h1.push (.cells [.int .i64 B.size, .slice none 0 0, .bool true] 60)).set bb (some (.cells ((ps.map fun p => Value.pointer (some ⟨p, 0, none⟩)).set i (.pointer (some ⟨h1.next, 0, none⟩))) 57))).set m
        (some (.cells [.slice (some ⟨bb, 0, none⟩) M.length c, .int .i64 (live (M.set i (gone B)))] 56))) := (((Eff.refl _ _).push _).set (.inl fb) _).set (.inl x.fm) _
    refine ⟨rfl, _, ⟨_, _, _, x.swap (p := h1.next) (B := gone B) hbs hlt eff ⟨Nat.le_refl _, ?_⟩ ?_ ?_ ?_ (fun _ => rfl) ?_⟩, eff, fun b hb => ?_⟩
    · simp only [nxt_set, nxt_push]; omega
    · rw [get_set_self, hbs]
    · rw [get_set_ne hbm, get_set_self, List.map_set]
    · have n1 : ¬ h1.next = m := fun e => hm0 e.symm
      have n2 : ¬ h1.next = bb := fun e => hb0 e.symm
      rw [get_set_ne n1, get_set_ne n2, get_push_self]
      rfl
    · intro b hb b1 b2
      have := x.ok b hb
      rw [get_set_ne b1, get_set_ne b2, get_push_lt this.2]
    · rcases hb with hb | hb
      · exact .inl hb
      · exact .inr (by omega)
/-! ### All bytes 0 -/
def zc : Cl := ⟨1, 0, v0⟩
def zeroB (B : MB) (k : Nat) : MB := { B with byte := fun a => if a < k then zc else B.byte a }
theorem zeroB_zero (B : MB) : zeroB B 0 = B := by
  unfold zeroB
  congr 1
theorem zeroB_succ (B : MB) (k : Nat) : { zeroB B k with byte := upd (zeroB B k).byte k zc } = zeroB B (k + 1) := by
  unfold zeroB upd
  simp only [MB.mk.injEq, true_and]
  funext a
  by_cases e : a = k
  · subst e; rw [if_pos rfl, if_pos (by omega)]
  · rw [if_neg e]
    by_cases e2 : a < k
    · rw [if_pos e2, if_pos (by omega)]
    · rw [if_neg e2, if_neg (by omega)]
def zeroM (M : MM) (n : Int) : Option MM := (idx M n).bind fun i => (M[i]?).map fun B => M.set i (zeroB B B.size)
def ZeroR (h : AHeap) (m : Nat) (M : MM) (F : Nat → Prop) (n : Int) (r : Value) (h1 : AHeap) : Prop := match zeroM M n with
  | none => r = .bool false ∧ h1 = h
  | some M' => r = .bool true ∧ MutR h m M' F h1
def ZeroI (h : AHeap) (m : Nat) (bs : Value) (ps : List Nat) (M : MM) (F : Nat → Prop) (i : Nat) (B : MB) (n : Nat) (vs : List Value) (h' : AHeap) : Prop :=
  ∃ k fs F', k ≤ B.size ∧ n = B.size - k ∧ vs = [.int .i64 k] ∧ MemO h' m bs ps fs (M.set i (zeroB B k)) F' ∧ Eff F h h' ∧ ∀ b, F' b → F b ∨ h.next ≤ b
theorem set_again {M : MM} {i : Nat} {A B : MB} : (M.set i A).set i B = M.set i B := by simp
theorem zero_ok (x : MemO h m bs ps fs M F) (hs : small M) {n : Int} (hn : n < 9223372036854775808) : DC Try.prog 15 [.pointer (some ⟨m, 0, none⟩), .int .i64 n] h (ZeroR h m M F n) := by
  apply DC_wf; intro hwf; have hro := hwf.2
  apply W_Zero_ok
  unfold W_Zero
  refine callV_of (by kernel_rfl) rfl (at_ok x hn) ?_
  rintro v h1 ⟨rfl, rfl⟩
  cases hi : idx M n with
  | none =>
    simp only [axt_20, axt_21, opt_some, optH_some, nb_cons, nb_nil, CD_true, CD_false, GD_tt, GD_ff, GD_tf, GD_ft, GD_un, pk_true, pk_false, nck_ptr, rv_one, rv_two, b_lss, b_leq, b_gtr, b_geq, b_eql, b_neq, b_add, b_sub, b_mul, b_quo, b_rem, b_shl, b_shr, b_and, b_or, b_xor, b_andNot, u_not, u_neg, nob_bool, nob_int, nob_string, nob_ptr, nob_slice, nob_map, nob_func, nob_nilf, nob_iface, nob_nili, nob_agg, nob_tuple, cok_bool, cok_int, cok_string, cok_ptr, cok_slice, cok_map, cok_func, nobot_nil, nobot_cons, onb_none, onb_some, cond_true, cond_false, abound_none, abound_int, Option.bind_some, Option.bind_none, nth, nw, Value.cells, BK, List.getElem?_cons_zero, List.getElem?_cons_succ, List.toList_toArray, Nat.zero_add, Nat.add_zero, List.length_cons, List.length_nil, List.length_replicate, List.length_map, List.length_set, List.all_cons, List.all_nil, setMany, List.set_cons_zero, List.set_cons_succ, List.drop_zero, List.take_zero, List.take_succ_cons, List.drop_succ_cons, List.take_nil, List.drop_nil, if_true, if_false, Bool.and_true, Bool.true_and, Nat.reduceAdd, Nat.reduceLeDiff, Nat.reduceMul, Nat.reduceMod, Nat.reduceDiv, Nat.reduceSub, Nat.reduceEqDiff, Nat.lt_irrefl, Int.reduceEq, Int.reduceLT, Int.reduceLE, Int.reduceAdd, Int.reduceSub, Int.reduceMul, Int.reduceNeg, Int.reduceToNat, and_true, true_and, Nat.le_refl, dec_t, dec_f, nxt_push, nxt_set, ro_pushk, ro_setk, next_lock, ro_lock, get_lock, get_push_self, get_push_eq, get_push_lt, get_set_self, get_set_ne, ne_eq, lt_add1, lt_add, sto, ldn, ld1, not_false_eq_true, not_true_eq_false, Bool.not_true, Bool.not_false, Bool.and_false, Bool.false_and, beq_self_eq_true, al_3, as_65, bd_65_0, eql0_57, eql_57, fa_60_0, ix_81, Option.bind_none, gptr]
    unfold ZeroR zeroM
    simp only [hi, Option.bind_none, and_self]
  | some i =>
    obtain ⟨hni, hlt, q, B, pg, hq, hB, hf, hbk, fq, _⟩ := idx_block x hi
    have hfm : zeroM M n = some (M.set i (zeroB B B.size)) := by unfold zeroM; rw [hi]; simp [hB]
    have hz := hs i B hB
    simp only [axt_20, axt_21, opt_some, optH_some, nb_cons, nb_nil, CD_true, CD_false, GD_tt, GD_ff, GD_tf, GD_ft, GD_un, pk_true, pk_false, nck_ptr, rv_one, rv_two, b_lss, b_leq, b_gtr, b_geq, b_eql, b_neq, b_add, b_sub, b_mul, b_quo, b_rem, b_shl, b_shr, b_and, b_or, b_xor, b_andNot, u_not, u_neg, nob_bool, nob_int, nob_string, nob_ptr, nob_slice, nob_map, nob_func, nob_nilf, nob_iface, nob_nili, nob_agg, nob_tuple, cok_bool, cok_int, cok_string, cok_ptr, cok_slice, cok_map, cok_func, nobot_nil, nobot_cons, onb_none, onb_some, cond_true, cond_false, abound_none, abound_int, Option.bind_some, Option.bind_none, nth, nw, Value.cells, BK, List.getElem?_cons_zero, List.getElem?_cons_succ, List.toList_toArray, Nat.zero_add, Nat.add_zero, List.length_cons, List.length_nil, List.length_replicate, List.length_map, List.length_set, List.all_cons, List.all_nil, setMany, List.set_cons_zero, List.set_cons_succ, List.drop_zero, List.take_zero, List.take_succ_cons, List.drop_succ_cons, List.take_nil, List.drop_nil, if_true, if_false, Bool.and_true, Bool.true_and, Nat.reduceAdd, Nat.reduceLeDiff, Nat.reduceMul, Nat.reduceMod, Nat.reduceDiv, Nat.reduceSub, Nat.reduceEqDiff, Nat.lt_irrefl, Int.reduceEq, Int.reduceLT, Int.reduceLE, Int.reduceAdd, Int.reduceSub, Int.reduceMul, Int.reduceNeg, Int.reduceToNat, and_true, true_and, Nat.le_refl, dec_t, dec_f, nxt_push, nxt_set, ro_pushk, ro_setk, next_lock, ro_lock, get_lock, get_push_self, get_push_eq, get_push_lt, get_set_self, get_set_ne, ne_eq, lt_add1, lt_add, sto, ldn, ld1, not_false_eq_true, not_true_eq_false, Bool.not_true, Bool.not_false, Bool.and_false, Bool.false_and, beq_self_eq_true, al_3, as_65, bd_65_0, eql0_57, eql_57, fa_60_0, ix_81, Option.bind_some, gptr, hq, hbk]
    refine LP_of (ZeroI h1 m bs ps M F i B) B.size ⟨0, fs, F, by omega, rfl, rfl, by rw [zeroB_zero, set_same hB]; exact x, .refl _ _, fun b hb => .inl hb⟩ ?_
    rintro n' vs h2 ⟨k, fs2, F2, hk, rfl, rfl, y, e2, s2⟩
    have hmi : (M.set i (zeroB B k))[i]? = some (zeroB B k) := List.getElem?_set_self hlt
    obtain ⟨pg2, hbk2, fq2, hpg2⟩ := y.blk i q _ hq hmi
    have hzs : (zeroB B k).size = B.size := rfl
    have hzf : (zeroB B k).freed = B.freed := rfl
    by_cases hki : k < B.size
    · have hki' : (k : Int) < (B.size : Int) := by omega
      have hmd := made_w hbk2 hpg2 fq2 (fun b hb => y.ok b (y.sub i b hb)) (by rw [e2.ro]; have := e2.next; omega) (a := k) (by omega) (by omega) (by omega)
      simp only [axt_20, axt_21, opt_some, optH_some, nb_cons, nb_nil, CD_true, CD_false, GD_tt, GD_ff, GD_tf, GD_ft, GD_un, pk_true, pk_false, nck_ptr, rv_one, rv_two, b_lss, b_leq, b_gtr, b_geq, b_eql, b_neq, b_add, b_sub, b_mul, b_quo, b_rem, b_shl, b_shr, b_and, b_or, b_xor, b_andNot, u_not, u_neg, nob_bool, nob_int, nob_string, nob_ptr, nob_slice, nob_map, nob_func, nob_nilf, nob_iface, nob_nili, nob_agg, nob_tuple, cok_bool, cok_int, cok_string, cok_ptr, cok_slice, cok_map, cok_func, nobot_nil, nobot_cons, onb_none, onb_some, cond_true, cond_false, abound_none, abound_int, Option.bind_some, Option.bind_none, nth, nw, Value.cells, BK, List.getElem?_cons_zero, List.getElem?_cons_succ, List.toList_toArray, Nat.zero_add, Nat.add_zero, List.length_cons, List.length_nil, List.length_replicate, List.length_map, List.length_set, List.all_cons, List.all_nil, setMany, List.set_cons_zero, List.set_cons_succ, List.drop_zero, List.take_zero, List.take_succ_cons, List.drop_succ_cons, List.take_nil, List.drop_nil, if_true, if_false, Bool.and_true, Bool.true_and, Nat.reduceAdd, Nat.reduceLeDiff, Nat.reduceMul, Nat.reduceMod, Nat.reduceDiv, Nat.reduceSub, Nat.reduceEqDiff, Nat.lt_irrefl, Int.reduceEq, Int.reduceLT, Int.reduceLE, Int.reduceAdd, Int.reduceSub, Int.reduceMul, Int.reduceNeg, Int.reduceToNat, and_true, true_and, Nat.le_refl, dec_t, dec_f, nxt_push, nxt_set, ro_pushk, ro_setk, next_lock, ro_lock, get_lock, get_push_self, get_push_eq, get_push_lt, get_set_self, get_set_ne, ne_eq, lt_add1, lt_add, sto, ldn, ld1, not_false_eq_true, not_true_eq_false, Bool.not_true, Bool.not_false, Bool.and_false, Bool.false_and, beq_self_eq_true, al_3, as_65, bd_65_0, eql0_57, eql_57, fa_60_0, ix_81, hki']
      refine callV_of (by kernel_rfl) rfl hmd ?_
      rintro v h3 ⟨g, pq, cq, gs, F3, rfl, hbk3, hfull, hgs, fp3, ef3, hsub3, hok3⟩
      rw [Int.toNat_natCast] at hgs
      obtain ⟨cs, hcs, hle, hput⟩ := hfull.put hgs
      have hput' := hput zc
      have hr1 : (k : Int).tmod 64 = ((k % 64 : Nat) : Int) := by rw [Int.tmod_eq_emod_of_nonneg (by omega)]; omega
      have hb1 : 0 ≤ ((k % 64 : Nat) : Int) ∧ ((k % 64 : Nat) : Int) < 64 := by omega
      have fg := (hfull.hg _ g hgs).1
      have okg := (hok3 g fg).1
      have hw2 : IntKind.wrap .i64 ((k : Int) + 1) = ((k + 1 : Nat) : Int) := by rw [w64 (by omega) (by omega)]; omega
      simp only [axt_20, axt_21, opt_some, optH_some, nb_cons, nb_nil, CD_true, CD_false, GD_tt, GD_ff, GD_tf, GD_ft, GD_un, pk_true, pk_false, nck_ptr, rv_one, rv_two, b_lss, b_leq, b_gtr, b_geq, b_eql, b_neq, b_add, b_sub, b_mul, b_quo, b_rem, b_shl, b_shr, b_and, b_or, b_xor, b_andNot, u_not, u_neg, nob_bool, nob_int, nob_string, nob_ptr, nob_slice, nob_map, nob_func, nob_nilf, nob_iface, nob_nili, nob_agg, nob_tuple, cok_bool, cok_int, cok_string, cok_ptr, cok_slice, cok_map, cok_func, nobot_nil, nobot_cons, onb_none, onb_some, cond_true, cond_false, abound_none, abound_int, Option.bind_some, Option.bind_none, nth, nw, Value.cells, BK, List.getElem?_cons_zero, List.getElem?_cons_succ, List.toList_toArray, Nat.zero_add, Nat.add_zero, List.length_cons, List.length_nil, List.length_replicate, List.length_map, List.length_set, List.all_cons, List.all_nil, setMany, List.set_cons_zero, List.set_cons_succ, List.drop_zero, List.take_zero, List.take_succ_cons, List.drop_succ_cons, List.take_nil, List.drop_nil, if_true, if_false, Bool.and_true, Bool.true_and, Nat.reduceAdd, Nat.reduceLeDiff, Nat.reduceMul, Nat.reduceMod, Nat.reduceDiv, Nat.reduceSub, Nat.reduceEqDiff, Nat.lt_irrefl, Int.reduceEq, Int.reduceLT, Int.reduceLE, Int.reduceAdd, Int.reduceSub, Int.reduceMul, Int.reduceNeg, Int.reduceToNat, and_true, true_and, Nat.le_refl, dec_t, dec_f, nxt_push, nxt_set, ro_pushk, ro_setk, next_lock, ro_lock, get_lock, get_push_self, get_push_eq, get_push_lt, get_set_self, get_set_ne, ne_eq, lt_add1, lt_add, sto, ldn, ld1, not_false_eq_true, not_true_eq_false, Bool.not_true, Bool.not_false, Bool.and_false, Bool.false_and, beq_self_eq_true, al_3, as_65, bd_65_0, eql0_57, eql_57, fa_60_0, ix_81, gptr, hr1, hb1, Int.toNat_natCast, hcs, hle, okg, hw2]
      have hne : q ≠ g := by intro e; subst e; rw [hcs] at hbk3; simp at hbk3
      generalize hH : h3.set g _ = H
      have hfull2 : FullH H pq gs (zeroB B (k + 1)) F3 := by
        rw [← hH, ← zeroB_succ]; exact hput'
      have ef4 : Eff (fs2 i) h2 H := by
        rw [← hH]; exact ef3.set (hsub3 g fg) _
      have hbk4 : H.get q = some (.cells [.int .i64 B.size, .slice (some ⟨pq, 0, none⟩) gs.length cq, .bool B.freed] 60) := by
        rw [← hH, get_set_ne hne]; exact hbk3
      have hok4 : ∀ b, F3 b → H.ro ≤ b ∧ b < H.next := by
        rw [← hH]; exact hok3
      have z := y.upd hq hmi (B' := zeroB B (k + 1)) rfl ef4 ⟨_, hbk4, fp3, .full pq cq gs rfl hfull2⟩ hsub3 hok4
      rw [set_again] at z
      have hcl : ∀ b, fs2 i b → F b ∨ h1.next ≤ b := fun b hb => s2 b (y.sub i b hb)
      refine ⟨B.size - (k + 1), by omega, k + 1, _, _, by omega, rfl, rfl, z, e2.more ef4 hcl, fun b hb => ?_⟩
      rcases hb with hb | hb
      · exact s2 b hb
      · rcases hsub3 b hb with q | q
        · exact hcl b q
        · exact .inr (by have := e2.next; omega)
    · have hkb : k = B.size := by omega
      subst hkb
      have hki' : ¬ (B.size : Int) < (B.size : Int) := by omega
      simp only [axt_20, axt_21, opt_some, optH_some, nb_cons, nb_nil, CD_true, CD_false, GD_tt, GD_ff, GD_tf, GD_ft, GD_un, pk_true, pk_false, nck_ptr, rv_one, rv_two, b_lss, b_leq, b_gtr, b_geq, b_eql, b_neq, b_add, b_sub, b_mul, b_quo, b_rem, b_shl, b_shr, b_and, b_or, b_xor, b_andNot, u_not, u_neg, nob_bool, nob_int, nob_string, nob_ptr, nob_slice, nob_map, nob_func, nob_nilf, nob_iface, nob_nili, nob_agg, nob_tuple, cok_bool, cok_int, cok_string, cok_ptr, cok_slice, cok_map, cok_func, nobot_nil, nobot_cons, onb_none, onb_some, cond_true, cond_false, abound_none, abound_int, Option.bind_some, Option.bind_none, nth, nw, Value.cells, BK, List.getElem?_cons_zero, List.getElem?_cons_succ, List.toList_toArray, Nat.zero_add, Nat.add_zero, List.length_cons, List.length_nil, List.length_replicate, List.length_map, List.length_set, List.all_cons, List.all_nil, setMany, List.set_cons_zero, List.set_cons_succ, List.drop_zero, List.take_zero, List.take_succ_cons, List.drop_succ_cons, List.take_nil, List.drop_nil, if_true, if_false, Bool.and_true, Bool.true_and, Nat.reduceAdd, Nat.reduceLeDiff, Nat.reduceMul, Nat.reduceMod, Nat.reduceDiv, Nat.reduceSub, Nat.reduceEqDiff, Nat.lt_irrefl, Int.reduceEq, Int.reduceLT, Int.reduceLE, Int.reduceAdd, Int.reduceSub, Int.reduceMul, Int.reduceNeg, Int.reduceToNat, and_true, true_and, Nat.le_refl, dec_t, dec_f, nxt_push, nxt_set, ro_pushk, ro_setk, next_lock, ro_lock, get_lock, get_push_self, get_push_eq, get_push_lt, get_set_self, get_set_ne, ne_eq, lt_add1, lt_add, sto, ldn, ld1, not_false_eq_true, not_true_eq_false, Bool.not_true, Bool.not_false, Bool.and_false, Bool.false_and, beq_self_eq_true, al_3, as_65, bd_65_0, eql0_57, eql_57, fa_60_0, ix_81, hki']
      unfold ZeroR
      rw [hfm]
      exact ⟨rfl, _, ⟨_, _, _, y⟩, e2, s2⟩
end
end Go.Mem
namespace Go.Mem
open Go.Ai Go.Proofs
set_option linter.unusedVariables false
set_option linter.unusedSimpArgs false
set_option linter.unusedSectionVars false
def isT (v : Value) (_ : AHeap) : Prop := v = .bool true
/-- A slice of numbers. -/
def SliceI (h : AHeap) (sv : Value) (zs : List Int) : Prop := (sv = .slice none 0 0 ∧ zs = []) ∨ ∃ b off, sv = .slice (some ⟨b, off, none⟩) zs.length 0 ∧ (zs ≠ [] → ∃ c t, b < h.next ∧ h.get b = some (.cells c t) ∧ ∀ (i : Nat) z, zs[i]? = some z → c[off + i]? = some (.int .i64 z))
section
variable {h : AHeap} {sv : Value} {zs : List Int}
theorem SliceI.nob (S : SliceI h sv zs) : isBot sv = false := by
  rcases S with ⟨rfl, _⟩ | ⟨b, off, rfl, _⟩ <;> rfl
theorem SliceI.len (S : SliceI h sv zs) (h' : AHeap) : abuiltin Try.prog .len [41] 3 [sv] h' = some (.int .i64 zs.length, h') := by
  rcases S with ⟨rfl, rfl⟩ | ⟨b, off, rfl, _⟩
  · simp only [al_2, al_24, al_3, as_24, az_24, fa_24_1, ix_41, len_41, neq_4, List.length_nil]
  · simp only [al_2, al_24, al_3, as_24, az_24, fa_24_1, ix_41, len_41, neq_4]
theorem SliceI.at (S : SliceI h sv zs) {i : Nat} {z : Int} (hz : zs[i]? = some z) : ∃ a, aindex Try.prog 41 sv (.int .i64 i) = some a ∧ isBot a = false ∧ ∀ h', Eff nof h h' → aload Try.prog 3 a h' = some (.int .i64 z) := by
  rcases S with ⟨rfl, rfl⟩ | ⟨b, off, rfl, hc⟩
  · cases hz
  · have hlt : i < zs.length := by
      rcases Nat.lt_or_ge i zs.length with a | a
      · exact a
      · rw [List.getElem?_eq_none a] at hz; cases hz
    obtain ⟨c, t, hb, hg, hat⟩ := hc (by intro e; subst e; cases hz)
    have h1 : 0 ≤ (i : Int) ∧ (i : Int) < (zs.length : Int) := by omega
    refine ⟨.pointer (some ⟨b, off + i, none⟩), by simp only [axt_20, axt_21, opt_some, optH_some, nb_cons, nb_nil, CD_true, CD_false, GD_tt, GD_ff, GD_tf, GD_ft, GD_un, pk_true, pk_false, nck_ptr, rv_one, rv_two, b_lss, b_leq, b_gtr, b_geq, b_eql, b_neq, b_add, b_sub, b_mul, b_quo, b_rem, b_shl, b_shr, b_and, b_or, b_xor, b_andNot, u_not, u_neg, nob_bool, nob_int, nob_string, nob_ptr, nob_slice, nob_map, nob_func, nob_nilf, nob_iface, nob_nili, nob_agg, nob_tuple, cok_bool, cok_int, cok_string, cok_ptr, cok_slice, cok_map, cok_func, nobot_nil, nobot_cons, onb_none, onb_some, cond_true, cond_false, abound_none, abound_int, Option.bind_some, Option.bind_none, nth, nw, Value.cells, BK, List.getElem?_cons_zero, List.getElem?_cons_succ, List.toList_toArray, Nat.zero_add, Nat.add_zero, List.length_cons, List.length_nil, List.length_replicate, List.length_map, List.length_set, List.all_cons, List.all_nil, setMany, List.set_cons_zero, List.set_cons_succ, List.drop_zero, List.take_zero, List.take_succ_cons, List.drop_succ_cons, List.take_nil, List.drop_nil, if_true, if_false, Bool.and_true, Bool.true_and, Nat.reduceAdd, Nat.reduceLeDiff, Nat.reduceMul, Nat.reduceMod, Nat.reduceDiv, Nat.reduceSub, Nat.reduceEqDiff, Nat.lt_irrefl, Int.reduceEq, Int.reduceLT, Int.reduceLE, Int.reduceAdd, Int.reduceSub, Int.reduceMul, Int.reduceNeg, Int.reduceToNat, and_true, true_and, Nat.le_refl, dec_t, dec_f, nxt_push, nxt_set, ro_pushk, ro_setk, next_lock, ro_lock, get_lock, get_push_self, get_push_eq, get_push_lt, get_set_self, get_set_ne, ne_eq, lt_add1, lt_add, sto, ldn, ld1, not_false_eq_true, not_true_eq_false, Bool.not_true, Bool.not_false, Bool.and_false, Bool.false_and, beq_self_eq_true, al_2, al_24, al_3, as_24, az_24, fa_24_1, ix_41, len_41, neq_4, h1, Int.toNat_natCast, Nat.mul_one], rfl, fun h' e => ?_⟩
    have hg' : h'.get b = some (.cells c t) := by rw [e.get b (fun q => q) hb]; exact hg
    simp only [axt_20, axt_21, opt_some, optH_some, nb_cons, nb_nil, CD_true, CD_false, GD_tt, GD_ff, GD_tf, GD_ft, GD_un, pk_true, pk_false, nck_ptr, rv_one, rv_two, b_lss, b_leq, b_gtr, b_geq, b_eql, b_neq, b_add, b_sub, b_mul, b_quo, b_rem, b_shl, b_shr, b_and, b_or, b_xor, b_andNot, u_not, u_neg, nob_bool, nob_int, nob_string, nob_ptr, nob_slice, nob_map, nob_func, nob_nilf, nob_iface, nob_nili, nob_agg, nob_tuple, cok_bool, cok_int, cok_string, cok_ptr, cok_slice, cok_map, cok_func, nobot_nil, nobot_cons, onb_none, onb_some, cond_true, cond_false, abound_none, abound_int, Option.bind_some, Option.bind_none, nth, nw, Value.cells, BK, List.getElem?_cons_zero, List.getElem?_cons_succ, List.toList_toArray, Nat.zero_add, Nat.add_zero, List.length_cons, List.length_nil, List.length_replicate, List.length_map, List.length_set, List.all_cons, List.all_nil, setMany, List.set_cons_zero, List.set_cons_succ, List.drop_zero, List.take_zero, List.take_succ_cons, List.drop_succ_cons, List.take_nil, List.drop_nil, if_true, if_false, Bool.and_true, Bool.true_and, Nat.reduceAdd, Nat.reduceLeDiff, Nat.reduceMul, Nat.reduceMod, Nat.reduceDiv, Nat.reduceSub, Nat.reduceEqDiff, Nat.lt_irrefl, Int.reduceEq, Int.reduceLT, Int.reduceLE, Int.reduceAdd, Int.reduceSub, Int.reduceMul, Int.reduceNeg, Int.reduceToNat, and_true, true_and, Nat.le_refl, dec_t, dec_f, nxt_push, nxt_set, ro_pushk, ro_setk, next_lock, ro_lock, get_lock, get_push_self, get_push_eq, get_push_lt, get_set_self, get_set_ne, ne_eq, lt_add1, lt_add, sto, ldn, ld1, not_false_eq_true, not_true_eq_false, Bool.not_true, Bool.not_false, Bool.and_false, Bool.false_and, beq_self_eq_true, al_2, al_24, al_3, as_24, az_24, fa_24_1, ix_41, len_41, neq_4, hg', hat i z hz]
end
theorem mask_k (x : Int) (k : Nat) (hk : k ≤ 62) : ((BitVec.ofInt 64 x &&& BitVec.ofInt 64 (2 ^ k - 1)).toNat : Int) = x % 2 ^ k := by
  have h1 : (2 : Nat) ^ k ≤ 2 ^ 62 := Nat.pow_le_pow_right (by decide) hk
  have h2 : (0 : Nat) < 2 ^ k := Nat.pow_pos (by decide)
  have h3 : ((2 : Int) ^ k) = ((2 ^ k : Nat) : Int) := by simp
  have h5 : ∃ m, 18446744073709551616 = (2 : Nat) ^ k * m := ⟨2 ^ (64 - k), by rw [← Nat.pow_add, show k + (64 - k) = 64 by omega]⟩
  have h4 : bits (2 ^ k - 1) = 2 ^ k - 1 := by unfold bits; rw [h3]; omega
  rw [BitVec.toNat_and, toNat_ofInt64, toNat_ofInt64, h4, Nat.and_two_pow_sub_one_eq_mod]
  unfold bits
  obtain ⟨m, hm⟩ := h5
  rw [h3]
  have : (18446744073709551616 : Int) = ((2 ^ k : Nat) : Int) * (m : Int) := by rw [← Int.natCast_mul, ← hm]; rfl
  rw [this]
  have h6 : 0 ≤ x % (((2 ^ k : Nat) : Int) * (m : Int)) := Int.emod_nonneg _ (by rw [← this]; decide)
  rw [Int.natCast_emod, Int.toNat_of_nonneg h6, Int.emod_emod_of_dvd _ ⟨(m : Int), rfl⟩]
theorem and63 (x : Int) : IntKind.wrap .i64 ((BitVec.ofInt 64 x &&& BitVec.ofInt 64 63).toNat) = x % 64 := by
  have := mask_k x 6 (by decide)
  rw [show ((2 : Int) ^ 6 - 1) = 63 by decide, show ((2 : Int) ^ 6) = 64 by decide] at this
  rw [this, w64 (by omega) (by omega)]
theorem and1023 (x : Int) : IntKind.wrap .i64 ((BitVec.ofInt 64 x &&& BitVec.ofInt 64 1023).toNat) = x % 1024 := by
  have := mask_k x 10 (by decide)
  rw [show ((2 : Int) ^ 10 - 1) = 1023 by decide, show ((2 : Int) ^ 10) = 1024 by decide] at this
  rw [this, w64 (by omega) (by omega)]
/-! ### Blocks of zeroes -/
def blk (z : Int) : MB := zeroB (fresh (z % 64)) (z % 64).toNat
theorem blk_size (z : Int) : (blk z).size = (z % 64).toNat := rfl
theorem blk_freed (z : Int) : (blk z).freed = false := rfl
theorem idx_of {M : MM} {i : Nat} {B : MB} (h : M[i]? = some B) (hf : B.freed = false) : idx M ((i : Int) + 1) = some i := by
  have hlt : i < M.length := by
    rcases Nat.lt_or_ge i M.length with a | a
    · exact a
    · rw [List.getElem?_eq_none a] at h; cases h
  unfold idx
  rw [if_pos (by omega), show ((i : Int) + 1).toNat - 1 = i by omega, h]
  simp [hf]
theorem idx_gone {M : MM} {i : Nat} {B : MB} (h : M[i]? = some B) (hf : B.freed = true) : idx M ((i : Int) + 1) = none := by
  have hlt : i < M.length := by
    rcases Nat.lt_or_ge i M.length with a | a
    · exact a
    · rw [List.getElem?_eq_none a] at h; cases h
  unfold idx
  rw [if_pos (by omega), show ((i : Int) + 1).toNat - 1 = i by omega, h]
  simp [hf]
theorem small_blk (zs : List Int) : small (zs.map blk) := fun i B h => by
  simp only [List.getElem?_map, Option.map_eq_some_iff] at h
  obtain ⟨z, _, rfl⟩ := h
  rw [blk_size]; omega
theorem small_app {M : MM} {B : MB} (h : small M) (hb : B.size < 2147483648) : small (M ++ [B]) := fun i C hC => by
  rcases Nat.lt_or_ge i M.length with a | a
  · rw [List.getElem?_append_left a] at hC; exact h i C hC
  · rw [List.getElem?_append_right a] at hC
    have e : i - M.length = 0 := by
      rcases Nat.eq_zero_or_pos (i - M.length) with q | q
      · exact q
      · rw [List.getElem?_eq_none (by simp; omega)] at hC; cases hC
    rw [e] at hC
    simp at hC; subst hC; exact hb
theorem small_set {M : MM} {i : Nat} {B : MB} (h : small M) (hb : B.size < 2147483648) : small (M.set i B) := fun j C hC => by
  by_cases e : i = j
  · subst e
    rcases Nat.lt_or_ge i M.length with a | a
    · rw [List.getElem?_set_self a] at hC; cases hC; exact hb
    · rw [List.getElem?_eq_none (by simpa using a)] at hC; cases hC
  · rw [List.getElem?_set_ne e] at hC; exact h j C hC
theorem live_all (zs : List Int) : live (zs.map blk) = zs.length := by
  unfold live
  rw [List.filter_eq_self.2, List.length_map]
  intro B hB
  simp only [List.mem_map] at hB
  obtain ⟨z, _, rfl⟩ := hB
  rfl
theorem zeroM_last (M : MM) (n : Int) : zeroM (M ++ [fresh n]) ((M.length : Int) + 1) = some (M ++ [zeroB (fresh n) n.toNat]) := by
  have h : (M ++ [fresh n])[M.length]? = some (fresh n) := by simp
  unfold zeroM
  rw [idx_of h rfl]
  simp only [Option.bind_some, h, Option.map_some]
  congr 1
  rw [List.set_append_right _ _ (Nat.le_refl _)]
  simp
  rfl
theorem take_more {zs : List Int} {i : Nat} {z : Int} (h : zs[i]? = some z) : (zs.take i).map blk ++ [blk z] = (zs.take (i + 1)).map blk := by
  rw [List.take_add_one, h]; simp
/-- The blocks behind the free. -/
def after (zs : List Int) (k : Nat) (z : Int) : MM := (zs.map blk).set k (gone (blk z))
section
variable {zs : List Int} {k : Nat} {z : Int} (hk : zs[k]? = some z)
include hk
theorem k_lt : k < zs.length := by
  rcases Nat.lt_or_ge k zs.length with a | a
  · exact a
  · rw [List.getElem?_eq_none a] at hk; cases hk
theorem after_k : (after zs k z)[k]? = some (gone (blk z)) := by
  unfold after; rw [List.getElem?_set_self (by simpa using k_lt hk)]
theorem after_ne {i : Nat} (h : i ≠ k) : (after zs k z)[i]? = (zs[i]?).map blk := by
  unfold after; rw [List.getElem?_set_ne (fun e => h e.symm)]; simp
theorem idx_k : idx (after zs k z) ((k : Int) + 1) = none := idx_gone (after_k hk) rfl
theorem idx_i {i : Nat} {y : Int} (h : i ≠ k) (hi : zs[i]? = some y) : idx (after zs k z) ((i : Int) + 1) = some i := idx_of (B := blk y) (by rw [after_ne hk h, hi]; rfl) rfl
theorem freeM_1 : freeM (zs.map blk) ((k : Int) + 1) = some (after zs k z) := by
  have h : (zs.map blk)[k]? = some (blk z) := by simp [hk]
  unfold freeM
  rw [idx_of h rfl]
  simp only [Option.bind_some, h, Option.map_some]; rfl
theorem freeM_2 : freeM (after zs k z) ((k : Int) + 1) = none := by unfold freeM; rw [idx_k hk]; rfl
theorem zeroM_2 : zeroM (after zs k z) ((k : Int) + 1) = none := by unfold zeroM; rw [idx_k hk]; rfl
theorem live_2 : ((live (after zs k z) : Nat) : Int) = (zs.length : Int) - 1 := by
  have h : (zs.map blk)[k]? = some (blk z) := by simp [hk]
  have := live_free (B' := gone (blk z)) h rfl rfl
  rw [live_all] at this
  unfold after
  omega
theorem len_2 : (after zs k z).length = zs.length := by unfold after; simp
theorem right_2 {c n : Int} : right (after zs k z) c ⟨2, n, (k : Int) + 1⟩ = none := by
  unfold right
  split
  · simp only [idx_k hk]
  · rfl
theorem sizeV_k : sizeV (after zs k z) ((k : Int) + 1) = .tuple #[.int .i64 0, .bool false] := by
  unfold sizeV; rw [idx_k hk]; rfl
theorem sizeV_i {i : Nat} {y : Int} (h : i ≠ k) (hi : zs[i]? = some y) : sizeV (after zs k z) ((i : Int) + 1) = .tuple #[.int .i64 (y % 64), .bool true] := by
  unfold sizeV
  rw [idx_i hk h hi]
  simp only [Option.bind_some, after_ne hk h, hi, Option.map_some, blk_size]
  rw [show (((y % 64).toNat : Nat) : Int) = y % 64 by omega]
theorem load_k : loadM (after zs k z) 1 ⟨2, 0, (k : Int) + 1⟩ = none := by unfold loadM; rw [right_2 hk]
theorem load_i0 {i : Nat} {y : Int} (h : i ≠ k) (hi : zs[i]? = some y) (h0 : ¬ 0 < y % 64) : loadM (after zs k z) 1 ⟨2, 0, (i : Int) + 1⟩ = none := by
  unfold loadM
  rw [right_no (i := i) (B := blk y) (idx_i hk h hi) (by rw [after_ne hk h, hi]; rfl) (by rw [blk_size]; omega)]
theorem load_i1 {i : Nat} {y : Int} (h : i ≠ k) (hi : zs[i]? = some y) (h0 : 0 < y % 64) : loadM (after zs k z) 1 ⟨2, 0, (i : Int) + 1⟩ = some ⟨1, 0, 0⟩ := by
  unfold loadM
  have hB : (after zs k z)[i]? = some (blk y) := by rw [after_ne hk h, hi]; rfl
  rw [right_yes (i := i) (B := blk y) rfl (.inl rfl) (idx_i hk h hi) hB (by rw [blk_size]; simp only; refine ⟨by omega, by omega, by decide⟩)]
  simp only [hB, Option.map_some]
  congr 1
  have h2 : (blk y).byte 0 = zc := by
    show (if 0 < (y % 64).toNat then zc else _) = zc
    rw [if_pos (by omega)]
  unfold loadV
  have e1 : numsF (blk y).byte 0 1 = true := by simp [numsF, h2, zc]
  have e2 : numF (blk y).byte 0 1 = 0 := by simp only [numF, Nat.add_zero, h2]; decide
  show (if numsF (blk y).byte 0 1 = true then _ else _) = _
  rw [if_pos e1]
  simp only [Int.reduceToNat, e2]
  decide
end
end Go.Mem
namespace Go.Mem
open Go.Ai Go.Proofs
set_option linter.unusedVariables false
set_option linter.unusedSimpArgs false
theorem load_yes {h : AHeap} {m : Nat} {M : MM} {F : Nat → Prop} {c : Int} {p a : V} (x : MemH h m M F) (hs : small M) (hc : in64 c) (hp : p.ok) (ha : loadM M c p = some a) :
    DC Try.prog 11 [.pointer (some ⟨m, 0, none⟩), .int .i64 c, p.val] h (fun v h1 => v = .tuple #[a.val, .bool true] ∧ MemH h1 m M F ∧ Eff nof h h1) := by
  obtain ⟨bs, ps, fs, x⟩ := x
  refine (load_ok x hs hc hp).mono ?_
  rintro v h1 ⟨e, hr⟩
  unfold LoadR at hr
  rw [ha] at hr
  exact ⟨hr, ⟨bs, ps, fs, x.keep (fun b hb => e.get b (fun q => q) (x.ok b hb).2) e.next e.ro⟩, e⟩
theorem load_no {h : AHeap} {m : Nat} {M : MM} {F : Nat → Prop} {c : Int} {p : V} (x : MemH h m M F) (hs : small M) (hc : in64 c) (hp : p.ok) (ha : loadM M c p = none) :
    DC Try.prog 11 [.pointer (some ⟨m, 0, none⟩), .int .i64 c, p.val] h (fun v h1 => v = .tuple #[v0.val, .bool false] ∧ MemH h1 m M F ∧ Eff nof h h1) := by
  obtain ⟨bs, ps, fs, x⟩ := x
  refine (load_ok x hs hc hp).mono ?_
  rintro v h1 ⟨e, hr⟩
  unfold LoadR at hr
  rw [ha] at hr
  exact ⟨hr, ⟨bs, ps, fs, x.keep (fun b hb => e.get b (fun q => q) (x.ok b hb).2) e.next e.ro⟩, e⟩
theorem store_no {h : AHeap} {m : Nat} {M : MM} {F : Nat → Prop} {c : Int} {p v : V} (x : MemH h m M F) (hs : small M) (hc : in64 c) (hp : p.ok) (ha : storeM M c p v = none) :
    DC Try.prog 10 [.pointer (some ⟨m, 0, none⟩), .int .i64 c, p.val, v.val] h (fun r h1 => r = .bool false ∧ MutR h m M F h1) := by
  obtain ⟨bs, ps, fs, x⟩ := x
  refine (store_ok x hs hc hp).mono ?_
  intro r h1 hr
  unfold StoreR at hr
  rw [ha] at hr
  exact hr
/-- A memory of blocks laid behind H. -/
def Own (H : AHeap) (F : Nat → Prop) (h' : AHeap) : Prop := Eff nof H h' ∧ ∀ b, F b → H.next ≤ b
theorem Own.mut {H h1 h2 : AHeap} {m : Nat} {M : MM} {F : Nat → Prop} (o : Own H F h1) (x : MutR h1 m M F h2) : ∃ F', MemH h2 m M F' ∧ Own H F' h2 := by
  obtain ⟨F', y, e, s⟩ := x
  have n1 := o.1.next
  refine ⟨F', y, o.1.more e (fun b hb => .inr (o.2 b hb)), fun b hb => ?_⟩
  rcases s b hb with q | q
  · exact o.2 b q
  · omega
theorem Own.eff {H h1 h2 : AHeap} {F : Nat → Prop} (o : Own H F h1) (e : Eff nof h1 h2) : Own H F h2 := ⟨o.1.trans e, o.2⟩
theorem MemH.effn {h h' : AHeap} {m : Nat} {M : MM} {F : Nat → Prop} (x : MemH h m M F) (e : Eff nof h h') : MemH h' m M F := x.eff e (fun b _ q => q)
end Go.Mem
