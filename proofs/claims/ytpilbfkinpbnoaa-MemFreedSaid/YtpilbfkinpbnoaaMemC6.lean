/-
  MEMORY: new ones, and blocks more.
-/
import Derived.Test.YtpilbfkinpbnoaaMemC5
namespace Go.Mem
open Go.Ai Go.Proofs
set_option linter.unusedVariables false
set_option linter.unusedSimpArgs false
theorem new_ok (h : AHeap) : DC Try.prog 8 [] h (fun v h1 => v = .pointer (some ⟨h.next, 0, none⟩) ∧ MemH h1 h.next [] (fun b => b = h.next) ∧ Eff nof h h1) := by
  apply DC_wf; intro hwf; have hro := hwf.2
  apply W_New_ok
  unfold W_New
  simp only [axt_20, axt_21, opt_some, optH_some, nb_cons, nb_nil, CD_true, CD_false, GD_tt, GD_ff, GD_tf, GD_ft, GD_un, pk_true, pk_false, nck_ptr, rv_one, rv_two, b_lss, b_leq, b_gtr, b_geq, b_eql, b_neq, b_add, b_sub, b_mul, b_quo, b_rem, b_shl, b_shr, b_and, b_or, b_xor, b_andNot, u_not, u_neg, nob_bool, nob_int, nob_string, nob_ptr, nob_slice, nob_map, nob_func, nob_nilf, nob_iface, nob_nili, nob_agg, nob_tuple, cok_bool, cok_int, cok_string, cok_ptr, cok_slice, cok_map, cok_func, nobot_nil, nobot_cons, onb_none, onb_some, cond_true, cond_false, abound_none, abound_int, Option.bind_some, Option.bind_none, nth, nw, Value.cells, BK, List.getElem?_cons_zero, List.getElem?_cons_succ, List.toList_toArray, Nat.zero_add, Nat.add_zero, List.length_cons, List.length_nil, List.length_replicate, List.length_map, List.length_set, List.all_cons, List.all_nil, setMany, List.set_cons_zero, List.set_cons_succ, List.drop_zero, List.take_zero, List.take_succ_cons, List.drop_succ_cons, List.take_nil, List.drop_nil, if_true, if_false, Bool.and_true, Bool.true_and, Nat.reduceAdd, Nat.reduceLeDiff, Nat.reduceMul, Nat.reduceMod, Nat.reduceDiv, Nat.reduceSub, Nat.reduceEqDiff, Nat.lt_irrefl, Int.reduceEq, Int.reduceLT, Int.reduceLE, Int.reduceAdd, Int.reduceSub, Int.reduceMul, Int.reduceNeg, Int.reduceToNat, and_true, true_and, Nat.le_refl, dec_t, dec_f, nxt_push, nxt_set, ro_pushk, ro_setk, next_lock, ro_lock, get_lock, get_push_self, get_push_eq, get_push_lt, get_set_self, get_set_ne, ne_eq, lt_add1, lt_add, sto, ldn, ld1, not_false_eq_true, not_true_eq_false, Bool.not_true, Bool.not_false, Bool.and_false, Bool.false_and, beq_self_eq_true, bd_56_]
  refine ⟨⟨_, [], fun _ _ => False, ⟨get_push_self, rfl, rfl, .inl ⟨rfl, rfl⟩, fun _ e => e, fun i p B hp => by simp at hp, fun i j b e => e.elim, fun i b e => e.elim, fun b hb => ?_⟩⟩, (Eff.refl _ _).push _⟩
  subst hb
  simp only [ro_pushk, nxt_push]; omega
theorem cap_ne (c n : Nat) : capafter c n ≠ 0 := by
  unfold capafter
  split
  · cases Nat.ble n _ <;> simp
  · simp
theorem live_le (M : MM) : live M ≤ M.length := List.length_filter_le _ _
theorem live_add (M : MM) (B : MB) (hf : B.freed = false) : live (M ++ [B]) = live M + 1 := by simp [live, hf]
def fresh (n : Int) : MB := ⟨n.toNat, false, fun _ => unk⟩
def allocM (M : MM) (n : Int) : MM × Int × Int := if n < 0 ∨ 65536 < n then (M, 0, 1) else if 100000 ≤ M.length then (M, 0, 2) else (M ++ [fresh n], M.length + 1, 0)
def AllocR (h : AHeap) (m : Nat) (M : MM) (F : Nat → Prop) (n : Int) (r : Value) (h1 : AHeap) : Prop := r = .tuple #[.int .i64 (allocM M n).2.1, .int .i64 (allocM M n).2.2] ∧ MutR h m (allocM M n).1 F h1
section
variable {h : AHeap} {m : Nat} {bs : Value} {ps : List Nat} {fs : Nat → Nat → Prop} {M : MM} {F : Nat → Prop}
/-- A block more: blocks of its own, an array that holds all. -/
theorem MemO.grow (x : MemO h m bs ps fs M F) {h1 : AHeap} {B : MB} {p q c : Nat} (hf : B.freed = false) (eff : Eff F h h1) (hp : h.next ≤ p ∧ p < h1.next) (hq : h.next ≤ q ∧ q < h1.next) (hpq : p ≠ q) (hro : h.ro ≤ h.next)
    (e1 : h1.get m = some (.cells [.slice (some ⟨q, 0, none⟩) (M.length + 1) c, .int .i64 (live M + 1 : Nat)] 56)) (hc : c ≠ 0) (e2 : h1.get q = some (.cells ((ps.map fun p => .pointer (some ⟨p, 0, none⟩)) ++ [.pointer (some ⟨p, 0, none⟩)]) 57))
    (e3 : h1.get p = some (.cells [.int .i64 B.size, .slice none 0 0, .bool B.freed] 60)) (e4 : ∀ b, F b → b ≠ m → (∀ c, bs ≠ .slice (some ⟨b, 0, none⟩) M.length c) → h1.get b = h.get b) (hu : ∀ k, B.byte k = unk) :
    MemO h1 m (.slice (some ⟨q, 0, none⟩) (M.length + 1) c) (ps ++ [p]) (fun i b => if i = M.length then b = p else fs i b) (M ++ [B]) (fun b => F b ∨ b = p ∨ b = q) := by
  have hnew : ∀ b, h.next ≤ b → F b → False := fun b hl hb => by have := (x.ok b hb).2; omega
  have hlp := x.len
  refine ⟨by rw [live_add M B hf]; exact e1, .inl x.fm, by simp [x.len], ?_, ?_, ?_, ?_, ?_, ?_⟩
  · refine .inr ⟨q, c, by simp, hc, .inr (.inr rfl), by rw [e2]; simp, fun i hi => ?_⟩
    split at hi
    · exact hpq hi.symm
    · exact hnew q hq.1 (x.sub i q hi)
  · intro i hi
    split at hi
    · subst hi; exact hnew m hp.1 x.fm
    · exact x.nm i hi
  · intro i p' B' hp' hB'
    by_cases e : i = M.length
    · subst e
      rw [← hlp] at hp'
      rw [List.getElem?_append_right (Nat.le_refl _), Nat.sub_self] at hp' hB'
      simp at hp' hB'
      subst hp' hB'
      simp only [if_true]
      exact ⟨_, e3, rfl, .empty rfl hu⟩
    · have hlt : i < M.length := by
        rcases Nat.lt_or_ge i M.length with a | a
        · exact a
        · rw [List.getElem?_eq_none (by simp; omega)] at hB'; cases hB'
      rw [List.getElem?_append_left (by omega)] at hp' hB'
      simp only [if_neg e]
      refine (x.blk i p' B' hp' hB').keep (fun b hb => e4 b (x.sub i b hb) (fun q => ?_) (fun c q => ?_))
      · subst q; exact x.nm i hb
      · rcases x.hb with ⟨rfl, _⟩ | ⟨bb, c', r, _, _, _, r5⟩
        · cases hlt
        · rw [r] at q; cases q; exact r5 i hb
  · intro i j b hi hj
    split at hi <;> split at hj
    · rename_i a1 a2; rw [a1, a2]
    · exact (hnew b (by rw [hi]; exact hp.1) (x.sub j b hj)).elim
    · exact (hnew b (by rw [hj]; exact hp.1) (x.sub i b hi)).elim
    · exact x.dis i j b hi hj
  · intro i b hi
    split at hi
    · exact .inr (.inl hi)
    · exact .inl (x.sub i b hi)
  · intro b hb
    have n1 := eff.next
    have n2 := eff.ro
    rcases hb with hb | hb | hb
    · have := x.ok b hb; omega
    · omega
    · omega
theorem alloc_ok (x : MemO h m bs ps fs M F) (n : Int) :
    DC Try.prog 9 [.pointer (some ⟨m, 0, none⟩), .int .i64 n] h (AllocR h m M F n) := by
  apply DC_wf; intro hwf; have hro := hwf.2
  apply W_Alloc_ok
  unfold W_Alloc
  have hm0 : MutR h m M F h := ⟨F, ⟨bs, ps, fs, x⟩, .refl _ _, fun b hb => .inl hb⟩
  have hbad : n < 0 ∨ 65536 < n → AllocR h m M F n (.tuple #[.int .i64 0, .int .i64 1]) h := fun e => by
    unfold AllocR allocM; rw [if_pos e]; exact ⟨rfl, hm0⟩
  by_cases h1 : n < 0
  · simp only [axt_20, axt_21, opt_some, optH_some, nb_cons, nb_nil, CD_true, CD_false, GD_tt, GD_ff, GD_tf, GD_ft, GD_un, pk_true, pk_false, nck_ptr, rv_one, rv_two, b_lss, b_leq, b_gtr, b_geq, b_eql, b_neq, b_add, b_sub, b_mul, b_quo, b_rem, b_shl, b_shr, b_and, b_or, b_xor, b_andNot, u_not, u_neg, nob_bool, nob_int, nob_string, nob_ptr, nob_slice, nob_map, nob_func, nob_nilf, nob_iface, nob_nili, nob_agg, nob_tuple, cok_bool, cok_int, cok_string, cok_ptr, cok_slice, cok_map, cok_func, nobot_nil, nobot_cons, onb_none, onb_some, cond_true, cond_false, abound_none, abound_int, Option.bind_some, Option.bind_none, nth, nw, Value.cells, BK, List.getElem?_cons_zero, List.getElem?_cons_succ, List.toList_toArray, Nat.zero_add, Nat.add_zero, List.length_cons, List.length_nil, List.length_replicate, List.length_map, List.length_set, List.all_cons, List.all_nil, setMany, List.set_cons_zero, List.set_cons_succ, List.drop_zero, List.take_zero, List.take_succ_cons, List.drop_succ_cons, List.take_nil, List.drop_nil, if_true, if_false, Bool.and_true, Bool.true_and, Nat.reduceAdd, Nat.reduceLeDiff, Nat.reduceMul, Nat.reduceMod, Nat.reduceDiv, Nat.reduceSub, Nat.reduceEqDiff, Nat.lt_irrefl, Int.reduceEq, Int.reduceLT, Int.reduceLE, Int.reduceAdd, Int.reduceSub, Int.reduceMul, Int.reduceNeg, Int.reduceToNat, and_true, true_and, Nat.le_refl, dec_t, dec_f, nxt_push, nxt_set, ro_pushk, ro_setk, next_lock, ro_lock, get_lock, get_push_self, get_push_eq, get_push_lt, get_set_self, get_set_ne, ne_eq, lt_add1, lt_add, sto, ldn, ld1, not_false_eq_true, not_true_eq_false, Bool.not_true, Bool.not_false, Bool.and_false, Bool.false_and, beq_self_eq_true, al_3, al_54, ap_54, as_3, as_54, bd_60_0, bs_54_1_0, co_57, fa_56_0, fa_56_1, len_54, h1]
    exact hbad (.inl h1)
  by_cases h2 : 65536 < n
  · simp only [axt_20, axt_21, opt_some, optH_some, nb_cons, nb_nil, CD_true, CD_false, GD_tt, GD_ff, GD_tf, GD_ft, GD_un, pk_true, pk_false, nck_ptr, rv_one, rv_two, b_lss, b_leq, b_gtr, b_geq, b_eql, b_neq, b_add, b_sub, b_mul, b_quo, b_rem, b_shl, b_shr, b_and, b_or, b_xor, b_andNot, u_not, u_neg, nob_bool, nob_int, nob_string, nob_ptr, nob_slice, nob_map, nob_func, nob_nilf, nob_iface, nob_nili, nob_agg, nob_tuple, cok_bool, cok_int, cok_string, cok_ptr, cok_slice, cok_map, cok_func, nobot_nil, nobot_cons, onb_none, onb_some, cond_true, cond_false, abound_none, abound_int, Option.bind_some, Option.bind_none, nth, nw, Value.cells, BK, List.getElem?_cons_zero, List.getElem?_cons_succ, List.toList_toArray, Nat.zero_add, Nat.add_zero, List.length_cons, List.length_nil, List.length_replicate, List.length_map, List.length_set, List.all_cons, List.all_nil, setMany, List.set_cons_zero, List.set_cons_succ, List.drop_zero, List.take_zero, List.take_succ_cons, List.drop_succ_cons, List.take_nil, List.drop_nil, if_true, if_false, Bool.and_true, Bool.true_and, Nat.reduceAdd, Nat.reduceLeDiff, Nat.reduceMul, Nat.reduceMod, Nat.reduceDiv, Nat.reduceSub, Nat.reduceEqDiff, Nat.lt_irrefl, Int.reduceEq, Int.reduceLT, Int.reduceLE, Int.reduceAdd, Int.reduceSub, Int.reduceMul, Int.reduceNeg, Int.reduceToNat, and_true, true_and, Nat.le_refl, dec_t, dec_f, nxt_push, nxt_set, ro_pushk, ro_setk, next_lock, ro_lock, get_lock, get_push_self, get_push_eq, get_push_lt, get_set_self, get_set_ne, ne_eq, lt_add1, lt_add, sto, ldn, ld1, not_false_eq_true, not_true_eq_false, Bool.not_true, Bool.not_false, Bool.and_false, Bool.false_and, beq_self_eq_true, al_3, al_54, ap_54, as_3, as_54, bd_60_0, bs_54_1_0, co_57, fa_56_0, fa_56_1, len_54, h1, h2]
    exact hbad (.inr h2)
  have hm := x.hm
  have hln : ∀ n c, abuiltin Try.prog .len [54] 3 [.slice n M.length c] h = some (.int .i64 M.length, h) := fun _ _ => by simp only [al_3, al_54, ap_54, as_3, as_54, bd_60_0, bs_54_1_0, co_57, fa_56_0, fa_56_1, len_54]
  by_cases h3 : 100000 ≤ (M.length : Int)
  · have : AllocR h m M F n (.tuple #[.int .i64 0, .int .i64 2]) h := by
      unfold AllocR allocM; rw [if_neg (by omega), if_pos (by omega)]; exact ⟨rfl, hm0⟩
    rcases x.hb with ⟨e1, rfl⟩ | ⟨bb, c, rfl, hc, fb, hbb, _⟩
    · rw [e1] at h3; simp at h3
    · simp only [axt_20, axt_21, opt_some, optH_some, nb_cons, nb_nil, CD_true, CD_false, GD_tt, GD_ff, GD_tf, GD_ft, GD_un, pk_true, pk_false, nck_ptr, rv_one, rv_two, b_lss, b_leq, b_gtr, b_geq, b_eql, b_neq, b_add, b_sub, b_mul, b_quo, b_rem, b_shl, b_shr, b_and, b_or, b_xor, b_andNot, u_not, u_neg, nob_bool, nob_int, nob_string, nob_ptr, nob_slice, nob_map, nob_func, nob_nilf, nob_iface, nob_nili, nob_agg, nob_tuple, cok_bool, cok_int, cok_string, cok_ptr, cok_slice, cok_map, cok_func, nobot_nil, nobot_cons, onb_none, onb_some, cond_true, cond_false, abound_none, abound_int, Option.bind_some, Option.bind_none, nth, nw, Value.cells, BK, List.getElem?_cons_zero, List.getElem?_cons_succ, List.toList_toArray, Nat.zero_add, Nat.add_zero, List.length_cons, List.length_nil, List.length_replicate, List.length_map, List.length_set, List.all_cons, List.all_nil, setMany, List.set_cons_zero, List.set_cons_succ, List.drop_zero, List.take_zero, List.take_succ_cons, List.drop_succ_cons, List.take_nil, List.drop_nil, if_true, if_false, Bool.and_true, Bool.true_and, Nat.reduceAdd, Nat.reduceLeDiff, Nat.reduceMul, Nat.reduceMod, Nat.reduceDiv, Nat.reduceSub, Nat.reduceEqDiff, Nat.lt_irrefl, Int.reduceEq, Int.reduceLT, Int.reduceLE, Int.reduceAdd, Int.reduceSub, Int.reduceMul, Int.reduceNeg, Int.reduceToNat, and_true, true_and, Nat.le_refl, dec_t, dec_f, nxt_push, nxt_set, ro_pushk, ro_setk, next_lock, ro_lock, get_lock, get_push_self, get_push_eq, get_push_lt, get_set_self, get_set_ne, ne_eq, lt_add1, lt_add, sto, ldn, ld1, not_false_eq_true, not_true_eq_false, Bool.not_true, Bool.not_false, Bool.and_false, Bool.false_and, beq_self_eq_true, al_3, al_54, ap_54, as_3, as_54, bd_60_0, bs_54_1_0, co_57, fa_56_0, fa_56_1, len_54, h1, h2, hm, h3]
      exact this
  have hal : allocM M n = (M ++ [fresh n], (M.length : Int) + 1, 0) := by unfold allocM; rw [if_neg (by omega), if_neg (by omega)]
  have okm := x.ok m x.fm
  have hl := live_le M
  have hmn : ¬ m = h.next := by omega
  have hmn1 : ¬ m = h.next + 1 := by omega
  have hmn2 : ¬ m = h.next + 1 + 1 := by omega
  have hw1 : IntKind.wrap .i64 ((live M : Int) + 1) = ((live M + 1 : Nat) : Int) := by rw [w64 (by omega) (by omega)]; omega
  have hn0 : ((n.toNat : Nat) : Int) = n := by omega
  have hmn2' : ¬ h.next + 1 + 1 = m := by omega
  have hmn' : ¬ h.next = m := by omega
  have hm2 : m < h.next + 1 + 1 := by omega
  have hm3 : m < h.next + 1 + 1 + 1 := by omega
  have hnb : ∀ p v e, (h.push (.cells v e)).push (.cells [.pointer (some ⟨h.next, 0, none⟩)] 57) = p → firstc p 1 1 (.slice (some ⟨h.next + 1, 0, none⟩) 1 3) = some [.pointer (some ⟨h.next, 0, none⟩)] := fun p v e hp => by
    subst hp
    have : (((h.push (.cells v e)).push (.cells [.pointer (some ⟨h.next, 0, none⟩)] 57)).get (h.next + 1)) = some (.cells [.pointer (some ⟨h.next, 0, none⟩)] 57) := get_push_eq rfl
    simp only [firstc, this]
    rfl
  have hap := fun v h' hh => ap_54 54 v (.slice (some ⟨h.next + 1, 0, none⟩) 1 3) 1 [.pointer (some ⟨h.next, 0, none⟩)] h' rfl (hnb h' [.int .i64 n, .slice none 0 0, .bool false] 60 hh) rfl rfl
  unfold AllocR
  rw [hal]
  rcases x.hb with ⟨rfl, rfl⟩ | ⟨bb, c, rfl, hc, fb, hbb, hfb⟩
  · have hps : ps = [] := List.length_eq_zero_iff.1 x.len
    have h30 : ¬ (100000 : Int) ≤ ((0 : Nat) : Int) := by decide
    have hle : h.ro ≤ m := okm.1
    have hw0 : IntKind.wrap .i64 ((live [] : Int) + 1) = ((live [] + 1 : Nat) : Int) := rfl
    simp only [axt_20, axt_21, opt_some, optH_some, nb_cons, nb_nil, CD_true, CD_false, GD_tt, GD_ff, GD_tf, GD_ft, GD_un, pk_true, pk_false, nck_ptr, rv_one, rv_two, b_lss, b_leq, b_gtr, b_geq, b_eql, b_neq, b_add, b_sub, b_mul, b_quo, b_rem, b_shl, b_shr, b_and, b_or, b_xor, b_andNot, u_not, u_neg, nob_bool, nob_int, nob_string, nob_ptr, nob_slice, nob_map, nob_func, nob_nilf, nob_iface, nob_nili, nob_agg, nob_tuple, cok_bool, cok_int, cok_string, cok_ptr, cok_slice, cok_map, cok_func, nobot_nil, nobot_cons, onb_none, onb_some, cond_true, cond_false, abound_none, abound_int, Option.bind_some, Option.bind_none, nth, nw, Value.cells, BK, List.getElem?_cons_zero, List.getElem?_cons_succ, List.toList_toArray, Nat.zero_add, Nat.add_zero, List.length_cons, List.length_nil, List.length_replicate, List.length_map, List.length_set, List.all_cons, List.all_nil, setMany, List.set_cons_zero, List.set_cons_succ, List.drop_zero, List.take_zero, List.take_succ_cons, List.drop_succ_cons, List.take_nil, List.drop_nil, if_true, if_false, Bool.and_true, Bool.true_and, Nat.reduceAdd, Nat.reduceLeDiff, Nat.reduceMul, Nat.reduceMod, Nat.reduceDiv, Nat.reduceSub, Nat.reduceEqDiff, Nat.lt_irrefl, Int.reduceEq, Int.reduceLT, Int.reduceLE, Int.reduceAdd, Int.reduceSub, Int.reduceMul, Int.reduceNeg, Int.reduceToNat, and_true, true_and, Nat.le_refl, dec_t, dec_f, nxt_push, nxt_set, ro_pushk, ro_setk, next_lock, ro_lock, get_lock, get_push_self, get_push_eq, get_push_lt, get_set_self, get_set_ne, ne_eq, lt_add1, lt_add, sto, ldn, ld1, not_false_eq_true, not_true_eq_false, Bool.not_true, Bool.not_false, Bool.and_false, Bool.false_and, beq_self_eq_true, al_3, al_54, ap_54, as_3, as_54, bd_60_0, bs_54_1_0, co_57, fa_56_0, fa_56_1, len_54, h1, h2, h30, hm, hap, app2, Nat.reducePow, okm, hm2, hm3, hmn, hmn1, hmn2, hw0, List.length_nil]
    refine ⟨rfl, _, ⟨_, _, _, x.grow (p := h.next) (q := h.next + 1 + 1) (B := fresh n) rfl (((((((Eff.refl F h).push _).push _).push _).set (.inl x.fm) _).set (.inl x.fm) _)) ?_ ?_ (by omega) hro get_set_self (by simp) ?_ ?_ ?_ (fun _ => rfl)⟩, (((((((Eff.refl F h).push _).push _).push _).set (.inl x.fm) _).set (.inl x.fm) _)), fun b hb => ?_⟩
    · simp only [nxt_set, nxt_push]; omega
    · simp only [nxt_set, nxt_push]; omega
    · rw [get_set_ne hmn2', get_set_ne hmn2', get_push_eq (by simp only [nxt_push])]; rw [hps]; rfl
    · rw [get_set_ne hmn', get_set_ne hmn', get_push_lt (by simp only [nxt_set, nxt_push]; omega)]
      rw [get_push_lt (by simp only [nxt_push]; omega), get_push_self]
      show some (AObj.cells [.int .i64 n, _, _] 60) = some (AObj.cells [.int .i64 ((n.toNat : Nat) : Int), _, _] 60)
      rw [hn0]
      rfl
    · intro b hb hbm1 hbb1
      have hlt := (x.ok b hb).2
      rw [get_set_ne hbm1, get_set_ne hbm1, get_push_lt (by simp only [nxt_set, nxt_push]; omega)]
      rw [get_push_lt (by simp only [nxt_push]; omega), get_push_lt hlt]
    · rcases hb with hb | hb | hb
      · exact .inl hb
      · exact .inr (by omega)
      · exact .inr (by omega)
  · have okb := x.ok bb fb
    have hroom : roomFor c (M.length + 1) 8 = true := by
      unfold roomFor
      cases Nat.beq c 2 <;> simp only [cond_true, cond_false, Nat.ble_eq] <;> omega
    have hlp : M.length ≤ ps.length := by rw [x.len]; omega
    have hbm : ¬ bb = m := by intro e; subst e; rw [hbb] at hm; simp at hm
    have hmb : ¬ m = bb := fun e => hbm e.symm
    have hb0 : ¬ bb = h.next := by omega
    have hb2 : ¬ bb = h.next + 1 + 1 := by omega
    have hz : List.take M.length (List.map (fun p => Value.pointer (some ⟨p, 0, none⟩)) ps) = List.map (fun p => Value.pointer (some ⟨p, 0, none⟩)) ps := List.take_of_length_le (by simp [x.len])
    simp only [axt_20, axt_21, opt_some, optH_some, nb_cons, nb_nil, CD_true, CD_false, GD_tt, GD_ff, GD_tf, GD_ft, GD_un, pk_true, pk_false, nck_ptr, rv_one, rv_two, b_lss, b_leq, b_gtr, b_geq, b_eql, b_neq, b_add, b_sub, b_mul, b_quo, b_rem, b_shl, b_shr, b_and, b_or, b_xor, b_andNot, u_not, u_neg, nob_bool, nob_int, nob_string, nob_ptr, nob_slice, nob_map, nob_func, nob_nilf, nob_iface, nob_nili, nob_agg, nob_tuple, cok_bool, cok_int, cok_string, cok_ptr, cok_slice, cok_map, cok_func, nobot_nil, nobot_cons, onb_none, onb_some, cond_true, cond_false, abound_none, abound_int, Option.bind_some, Option.bind_none, nth, nw, Value.cells, BK, List.getElem?_cons_zero, List.getElem?_cons_succ, List.toList_toArray, Nat.zero_add, Nat.add_zero, List.length_cons, List.length_nil, List.length_replicate, List.length_map, List.length_set, List.all_cons, List.all_nil, setMany, List.set_cons_zero, List.set_cons_succ, List.drop_zero, List.take_zero, List.take_succ_cons, List.drop_succ_cons, List.take_nil, List.drop_nil, if_true, if_false, Bool.and_true, Bool.true_and, Nat.reduceAdd, Nat.reduceLeDiff, Nat.reduceMul, Nat.reduceMod, Nat.reduceDiv, Nat.reduceSub, Nat.reduceEqDiff, Nat.lt_irrefl, Int.reduceEq, Int.reduceLT, Int.reduceLE, Int.reduceAdd, Int.reduceSub, Int.reduceMul, Int.reduceNeg, Int.reduceToNat, and_true, true_and, Nat.le_refl, dec_t, dec_f, nxt_push, nxt_set, ro_pushk, ro_setk, next_lock, ro_lock, get_lock, get_push_self, get_push_eq, get_push_lt, get_set_self, get_set_ne, ne_eq, lt_add1, lt_add, sto, ldn, ld1, not_false_eq_true, not_true_eq_false, Bool.not_true, Bool.not_false, Bool.and_false, Bool.false_and, beq_self_eq_true, al_3, al_54, ap_54, as_3, as_54, bd_60_0, bs_54_1_0, co_57, fa_56_0, fa_56_1, len_54, h1, h2, h3, hm, hap, app2, hmn, hmn1, hmn2, okb, okm, hbb, hroom, hlp, Nat.mul_one, hc, hmb, hm2, hm3, hz, hw1]
    refine ⟨rfl, _, ⟨_, _, _, x.grow (p := h.next) (q := h.next + 1 + 1) (B := fresh n) rfl (((((((Eff.refl F h).push _).push _).set (.inl fb) _).push _).set (.inl x.fm) _).set (.inl x.fm) _) ?_ ?_ (by omega) hro get_set_self (cap_ne _ _) ?_ ?_ ?_ (fun _ => rfl)⟩, (((((((Eff.refl F h).push _).push _).set (.inl fb) _).push _).set (.inl x.fm) _).set (.inl x.fm) _), fun b hb => ?_⟩
    · simp only [nxt_set, nxt_push]; omega
    · simp only [nxt_set, nxt_push]; omega
    · rw [get_set_ne hmn2', get_set_ne hmn2', get_push_eq (by simp only [nxt_set, nxt_push])]
    · have : ¬ h.next = bb := fun e => hb0 e.symm
      rw [get_set_ne hmn', get_set_ne hmn', get_push_lt (by simp only [nxt_set, nxt_push]; omega)]
      rw [get_set_ne this]
      rw [get_push_lt (by simp only [nxt_push]; omega), get_push_self]
      show some (AObj.cells [.int .i64 n, _, _] 60) = some (AObj.cells [.int .i64 ((n.toNat : Nat) : Int), _, _] 60)
      rw [hn0]
      rfl
    · intro b hb hbm1 hbb1
      have hlt := (x.ok b hb).2
      rw [get_set_ne hbm1, get_set_ne hbm1, get_push_lt (by simp only [nxt_set, nxt_push]; omega)]
      rw [get_set_ne (fun e => hbb1 c (by rw [e]))]
      rw [get_push_lt (by simp only [nxt_push]; omega), get_push_lt hlt]
    · rcases hb with hb | hb | hb
      · exact .inl hb
      · exact .inr (by omega)
      · exact .inr (by omega)
end
end Go.Mem
