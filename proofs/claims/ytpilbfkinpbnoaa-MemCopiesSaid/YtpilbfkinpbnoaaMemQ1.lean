/-
  THE DOCUMENT'S OWN MEMORY: that it holds together; nothing more is asked of it.
-/
import Derived.Test.YtpilbfkinpbnoaaMemA1
import Derived.Test.YtpilbfkinpbnoaaMemW2
namespace Go.Mem
open Go.Ai Go.Proofs
set_option linter.unusedVariables false
set_option linter.unusedSimpArgs false
def flat2 : List (Value × Bool) → List Value
  | [] => []
  | r :: rs => r.1 :: .bool r.2 :: flat2 rs
theorem flat_len (rs : List (Value × Bool)) : (flat2 rs).length = rs.length * 2 := by
  induction rs with
  | nil => rfl
  | cons r rs ih => simp only [flat2, List.length_cons, ih]; omega
theorem flat_app (a b : List (Value × Bool)) : flat2 (a ++ b) = flat2 a ++ flat2 b := by
  induction a with
  | nil => rfl
  | cons r a ih => simp only [List.cons_append, flat2, ih]
theorem flat_0 {rs : List (Value × Bool)} {i : Nat} {r : Value × Bool} (h : rs[i]? = some r) : (flat2 rs)[i * 2]? = some r.1 := by
  induction rs generalizing i with
  | nil => cases h
  | cons a rs ih =>
    cases i with
    | zero => simp at h; subst h; rfl
    | succ i =>
      simp at h
      rw [show (i + 1) * 2 = i * 2 + 1 + 1 by omega]
      simp only [flat2, List.getElem?_cons_succ]
      exact ih h
theorem flat_1 {rs : List (Value × Bool)} {i : Nat} {r : Value × Bool} (h : rs[i]? = some r) : (flat2 rs)[i * 2 + 1]? = some (.bool r.2) := by
  induction rs generalizing i with
  | nil => cases h
  | cons a rs ih =>
    cases i with
    | zero => simp at h; subst h; rfl
    | succ i =>
      simp at h
      rw [show (i + 1) * 2 + 1 = (i * 2 + 1) + 1 + 1 by omega]
      simp only [flat2, List.getElem?_cons_succ]
      exact ih h
theorem flat_set {rs : List (Value × Bool)} {i : Nat} {r : Value × Bool} (h : rs[i]? = some r) (b : Bool) : (flat2 rs).set (i * 2 + 1) (.bool b) = flat2 (rs.set i (r.1, b)) := by
  induction rs generalizing i with
  | nil => cases h
  | cons a rs ih =>
    cases i with
    | zero => simp at h; subst h; rfl
    | succ i =>
      simp at h
      rw [show (i + 1) * 2 + 1 = (i * 2 + 1) + 1 + 1 by omega]
      simp only [flat2, List.set_cons_succ]
      rw [ih h]
/-- What its blocks are. -/
def RowR (h : AHeap) (F : Nat → Prop) (r : Value × Bool) : Prop := ∃ q n c cs, r.1 = .slice (some ⟨q, 0, none⟩) n c ∧ F q ∧ h.get q = some (.cells cs 3) ∧ cs.length = n ∧ n ≤ 65536
structure RefO (h : AHeap) (w : Nat) (ls pv : Value) (rs : List (Value × Bool)) (N : Nat) (F : Nat → Prop) : Prop where
  hw : h.get w = some (.cells [ls, pv] 74)
  fw : F w
  len : rs.length ≤ N
  hL : (rs = [] ∧ ls = .slice none 0 0) ∨ ∃ bb c, ls = .slice (some ⟨bb, 0, none⟩) rs.length c ∧ c ≠ 0 ∧ F bb ∧ h.get bb = some (.cells (flat2 rs) 86)
  rows : ∀ (i : Nat) r, rs[i]? = some r → RowR h F r
  hp : pv = .slice none 0 0 ∨ ∃ pb np c cs, pv = .slice (some ⟨pb, 0, none⟩) np c ∧ c ≠ 0 ∧ F pb ∧ h.get pb = some (.cells cs 24) ∧ cs.length = np * 3 ∧ np ≤ N
  ok : ∀ b, F b → h.ro ≤ b ∧ b < h.next
def RefH (h : AHeap) (w N : Nat) (F : Nat → Prop) : Prop := ∃ ls pv rs, RefO h w ls pv rs N F
theorem RefO.keep {h h' : AHeap} {w N : Nat} {ls pv : Value} {rs : List (Value × Bool)} {F : Nat → Prop} (x : RefO h w ls pv rs N F) (e : ∀ b, F b → h'.get b = h.get b) (hn : h.next ≤ h'.next) (hr : h'.ro = h.ro) : RefO h' w ls pv rs N F :=
  ⟨(e w x.fw).trans x.hw, x.fw, x.len, by
    rcases x.hL with a | ⟨bb, c, a1, a2, a3, a4⟩
    · exact .inl a
    · exact .inr ⟨bb, c, a1, a2, a3, (e bb a3).trans a4⟩, fun i r hr => by
      obtain ⟨q, n, c, cs, a1, a2, a3, a4⟩ := x.rows i r hr
      exact ⟨q, n, c, cs, a1, a2, (e q a2).trans a3, a4⟩, by
    rcases x.hp with a | ⟨pb, np, c, cs, a1, a2, a3, a4, a5⟩
    · exact .inl a
    · exact .inr ⟨pb, np, c, cs, a1, a2, a3, (e pb a3).trans a4, a5⟩, fun b hb => by have := x.ok b hb; omega⟩
theorem RefH.effn {h h' : AHeap} {w N : Nat} {F : Nat → Prop} (x : RefH h w N F) (e : Eff nof h h') : RefH h' w N F := by
  obtain ⟨ls, pv, rs, x⟩ := x
  exact ⟨ls, pv, rs, x.keep (fun b hb => e.get b (fun q => q) (x.ok b hb).2) e.next e.ro⟩
theorem RefH.eff {h h' : AHeap} {w N : Nat} {F G : Nat → Prop} (x : RefH h w N F) (e : Eff G h h') (hd : ∀ b, F b → ¬ G b) : RefH h' w N F := by
  obtain ⟨ls, pv, rs, x⟩ := x
  exact ⟨ls, pv, rs, x.keep (fun b hb => e.get b (hd b hb) (x.ok b hb).2) e.next e.ro⟩
theorem RefO.up {h : AHeap} {w N N' : Nat} {ls pv : Value} {rs : List (Value × Bool)} {F : Nat → Prop} (x : RefO h w ls pv rs N F) (hN : N ≤ N') : RefO h w ls pv rs N' F :=
  ⟨x.hw, x.fw, by have := x.len; omega, x.hL, x.rows, by
    rcases x.hp with a | ⟨pb, np, c, cs, a1, a2, a3, a4, a5, a6⟩
    · exact .inl a
    · exact .inr ⟨pb, np, c, cs, a1, a2, a3, a4, a5, by omega⟩, x.ok⟩
/-- What a call leaves: it holds together still. -/
def RefR (h : AHeap) (w N : Nat) (F : Nat → Prop) (h1 : AHeap) : Prop := ∃ F', RefH h1 w (N + 1) F' ∧ Eff F h h1 ∧ ∀ b, F' b → F b ∨ h.next ≤ b
theorem RefO.same {h : AHeap} {w N : Nat} {ls pv : Value} {rs : List (Value × Bool)} {F : Nat → Prop} (x : RefO h w ls pv rs N F) : RefR h w N F h := ⟨F, ⟨ls, pv, rs, x.up (Nat.le_succ _)⟩, .refl _ _, fun b hb => .inl hb⟩
def isR (rs : List (Value × Bool)) (n : Int) : Option Nat := if 1 ≤ n ∧ n ≤ rs.length then (match rs[n.toNat - 1]? with
  | some r => if r.2 = true then none else some (n.toNat - 1)
  | none => none) else none
theorem isR_some {rs : List (Value × Bool)} {n : Int} {i : Nat} (h : isR rs n = some i) : n = i + 1 ∧ ∃ r, rs[i]? = some r ∧ r.2 = false := by
  unfold isR at h
  split at h
  case isFalse => cases h
  rename_i hn
  split at h
  case h_2 => cases h
  rename_i r hr
  split at h
  case isTrue => cases h
  rename_i hf
  simp only [Option.some.injEq] at h
  subst h
  exact ⟨by omega, r, hr, by simpa using hf⟩
section
variable {h : AHeap} {w N : Nat} {ls pv : Value} {rs : List (Value × Bool)} {F : Nat → Prop}
theorem RefO.nob (x : RefO h w ls pv rs N F) : isBot ls = false ∧ isBot pv = false := by
  constructor
  · rcases x.hL with ⟨_, rfl⟩ | ⟨_, _, rfl, _⟩ <;> rfl
  · rcases x.hp with rfl | ⟨_, _, _, _, rfl, _⟩ <;> rfl
theorem refIs_ok (x : RefO h w ls pv rs N F) (hN : N ≤ 1000) {n : Int} (hn : in64 n) : DC Try.prog 37 [.pointer (some ⟨w, 0, none⟩), .int .i64 n] h (fun v h1 => v = .bool (isR rs n).isSome ∧ h1 = h) := by
  apply X_refIs_ok
  unfold X_refIs
  have hw := x.hw
  have hlen := x.len
  by_cases h1 : 1 ≤ n
  · rcases x.hL with ⟨rfl, rfl⟩ | ⟨bb, c, rfl, hc, fb, hbb⟩
    · have h2 : ¬ n ≤ ((0 : Nat) : Int) := by omega
      have e : isR [] n = none := by unfold isR; rw [if_neg (fun q => h2 q.2)]
      simp -implicitDefEqProofs only [axt_20, axt_21, opt_some, optH_some, nb_cons, nb_nil, CD_true, CD_false, GD_tt, GD_ff, GD_tf, GD_ft, GD_un, pk_true, pk_false, nck_ptr, rv_one, rv_two, b_lss, b_leq, b_gtr, b_geq, b_eql, b_neq, b_add, b_sub, b_mul, b_quo, b_rem, b_shl, b_shr, b_and, b_or, b_xor, b_andNot, u_not, u_neg, nob_bool, nob_int, nob_string, nob_ptr, nob_slice, nob_map, nob_func, nob_nilf, nob_iface, nob_nili, nob_agg, nob_tuple, cok_bool, cok_int, cok_string, cok_ptr, cok_slice, cok_map, cok_func, nobot_nil, nobot_cons, onb_none, onb_some, cond_true, cond_false, abound_none, abound_int, Option.bind_some, Option.bind_none, nth, ↓nw, Value.cells, ↓BK, List.getElem?_cons_zero, List.getElem?_cons_succ, List.toList_toArray, Nat.zero_add, Nat.add_zero, List.length_cons, List.length_nil, List.length_replicate, List.length_map, List.length_set, List.all_cons, List.all_nil, setMany, List.set_cons_zero, List.set_cons_succ, List.drop_zero, List.take_zero, List.take_succ_cons, List.drop_succ_cons, List.take_nil, List.drop_nil, if_true, if_false, Bool.and_true, Bool.true_and, Nat.reduceAdd, Nat.reduceLeDiff, Nat.reduceMul, Nat.reduceMod, Nat.reduceDiv, Nat.reduceSub, Nat.reduceEqDiff, Nat.lt_irrefl, Int.reduceEq, Int.reduceLT, Int.reduceLE, Int.reduceAdd, Int.reduceSub, Int.reduceMul, Int.reduceNeg, Int.reduceToNat, and_true, true_and, Nat.le_refl, dec_t, dec_f, nxt_push, nxt_set, ro_pushk, ro_setk, next_lock, ro_lock, get_lock, get_push_self, get_push_eq, get_push_lt, get_set_self, get_set_ne, ne_eq, lt_add1, lt_add, sto, ldn, ld1, not_false_eq_true, not_true_eq_false, Bool.not_true, Bool.not_false, Bool.and_false, Bool.false_and, beq_self_eq_true, al_4, al_71, fa_74_0, fa_86_1, ix_71, len_71, X_refIs_1, X_refIs_2, X_refIs_3, X_refIs_4, X_refIs_5, X_refIs_6, X_refIs_7, X_refIs_8, h1, hw, h2, e, Option.isSome_none]
    · by_cases h2 : n ≤ (rs.length : Int)
      · obtain ⟨i, rfl⟩ : ∃ i : Nat, n = (i : Int) + 1 := ⟨(n - 1).toNat, by omega⟩
        obtain ⟨r, hr⟩ : ∃ r, rs[i]? = some r := ⟨_, List.getElem?_eq_getElem (by omega)⟩
        have hwr : IntKind.wrap .i64 ((i : Int) + 1 - 1) = (i : Int) := by rw [w64 (by omega) (by omega)]; omega
        have hc1 : 0 ≤ (i : Int) ∧ (i : Int) < (rs.length : Int) := by omega
        have hf := flat_1 hr
        have e : (isR rs ((i : Int) + 1)).isSome = !r.2 := by
          unfold isR
          rw [if_pos ⟨h1, h2⟩, show ((i : Int) + 1).toNat - 1 = i by omega, hr]
          cases hr2 : r.2 <;> simp [hr2]
        simp -implicitDefEqProofs only [axt_20, axt_21, opt_some, optH_some, nb_cons, nb_nil, CD_true, CD_false, GD_tt, GD_ff, GD_tf, GD_ft, GD_un, pk_true, pk_false, nck_ptr, rv_one, rv_two, b_lss, b_leq, b_gtr, b_geq, b_eql, b_neq, b_add, b_sub, b_mul, b_quo, b_rem, b_shl, b_shr, b_and, b_or, b_xor, b_andNot, u_not, u_neg, nob_bool, nob_int, nob_string, nob_ptr, nob_slice, nob_map, nob_func, nob_nilf, nob_iface, nob_nili, nob_agg, nob_tuple, cok_bool, cok_int, cok_string, cok_ptr, cok_slice, cok_map, cok_func, nobot_nil, nobot_cons, onb_none, onb_some, cond_true, cond_false, abound_none, abound_int, Option.bind_some, Option.bind_none, nth, ↓nw, Value.cells, ↓BK, List.getElem?_cons_zero, List.getElem?_cons_succ, List.toList_toArray, Nat.zero_add, Nat.add_zero, List.length_cons, List.length_nil, List.length_replicate, List.length_map, List.length_set, List.all_cons, List.all_nil, setMany, List.set_cons_zero, List.set_cons_succ, List.drop_zero, List.take_zero, List.take_succ_cons, List.drop_succ_cons, List.take_nil, List.drop_nil, if_true, if_false, Bool.and_true, Bool.true_and, Nat.reduceAdd, Nat.reduceLeDiff, Nat.reduceMul, Nat.reduceMod, Nat.reduceDiv, Nat.reduceSub, Nat.reduceEqDiff, Nat.lt_irrefl, Int.reduceEq, Int.reduceLT, Int.reduceLE, Int.reduceAdd, Int.reduceSub, Int.reduceMul, Int.reduceNeg, Int.reduceToNat, and_true, true_and, Nat.le_refl, dec_t, dec_f, nxt_push, nxt_set, ro_pushk, ro_setk, next_lock, ro_lock, get_lock, get_push_self, get_push_eq, get_push_lt, get_set_self, get_set_ne, ne_eq, lt_add1, lt_add, sto, ldn, ld1, not_false_eq_true, not_true_eq_false, Bool.not_true, Bool.not_false, Bool.and_false, Bool.false_and, beq_self_eq_true, al_4, al_71, fa_74_0, fa_86_1, ix_71, len_71, X_refIs_1, X_refIs_2, X_refIs_3, X_refIs_4, X_refIs_5, X_refIs_6, X_refIs_7, X_refIs_8, h1, hw, h2, hwr, hc1, Int.toNat_natCast, hbb, hf, e]
      · have e : isR rs n = none := by unfold isR; rw [if_neg (fun q => h2 q.2)]
        simp -implicitDefEqProofs only [axt_20, axt_21, opt_some, optH_some, nb_cons, nb_nil, CD_true, CD_false, GD_tt, GD_ff, GD_tf, GD_ft, GD_un, pk_true, pk_false, nck_ptr, rv_one, rv_two, b_lss, b_leq, b_gtr, b_geq, b_eql, b_neq, b_add, b_sub, b_mul, b_quo, b_rem, b_shl, b_shr, b_and, b_or, b_xor, b_andNot, u_not, u_neg, nob_bool, nob_int, nob_string, nob_ptr, nob_slice, nob_map, nob_func, nob_nilf, nob_iface, nob_nili, nob_agg, nob_tuple, cok_bool, cok_int, cok_string, cok_ptr, cok_slice, cok_map, cok_func, nobot_nil, nobot_cons, onb_none, onb_some, cond_true, cond_false, abound_none, abound_int, Option.bind_some, Option.bind_none, nth, ↓nw, Value.cells, ↓BK, List.getElem?_cons_zero, List.getElem?_cons_succ, List.toList_toArray, Nat.zero_add, Nat.add_zero, List.length_cons, List.length_nil, List.length_replicate, List.length_map, List.length_set, List.all_cons, List.all_nil, setMany, List.set_cons_zero, List.set_cons_succ, List.drop_zero, List.take_zero, List.take_succ_cons, List.drop_succ_cons, List.take_nil, List.drop_nil, if_true, if_false, Bool.and_true, Bool.true_and, Nat.reduceAdd, Nat.reduceLeDiff, Nat.reduceMul, Nat.reduceMod, Nat.reduceDiv, Nat.reduceSub, Nat.reduceEqDiff, Nat.lt_irrefl, Int.reduceEq, Int.reduceLT, Int.reduceLE, Int.reduceAdd, Int.reduceSub, Int.reduceMul, Int.reduceNeg, Int.reduceToNat, and_true, true_and, Nat.le_refl, dec_t, dec_f, nxt_push, nxt_set, ro_pushk, ro_setk, next_lock, ro_lock, get_lock, get_push_self, get_push_eq, get_push_lt, get_set_self, get_set_ne, ne_eq, lt_add1, lt_add, sto, ldn, ld1, not_false_eq_true, not_true_eq_false, Bool.not_true, Bool.not_false, Bool.and_false, Bool.false_and, beq_self_eq_true, al_4, al_71, fa_74_0, fa_86_1, ix_71, len_71, X_refIs_1, X_refIs_2, X_refIs_3, X_refIs_4, X_refIs_5, X_refIs_6, X_refIs_7, X_refIs_8, h1, hw, h2, e, Option.isSome_none]
  · have e : isR rs n = none := by unfold isR; rw [if_neg (fun q => h1 q.1)]
    simp -implicitDefEqProofs only [axt_20, axt_21, opt_some, optH_some, nb_cons, nb_nil, CD_true, CD_false, GD_tt, GD_ff, GD_tf, GD_ft, GD_un, pk_true, pk_false, nck_ptr, rv_one, rv_two, b_lss, b_leq, b_gtr, b_geq, b_eql, b_neq, b_add, b_sub, b_mul, b_quo, b_rem, b_shl, b_shr, b_and, b_or, b_xor, b_andNot, u_not, u_neg, nob_bool, nob_int, nob_string, nob_ptr, nob_slice, nob_map, nob_func, nob_nilf, nob_iface, nob_nili, nob_agg, nob_tuple, cok_bool, cok_int, cok_string, cok_ptr, cok_slice, cok_map, cok_func, nobot_nil, nobot_cons, onb_none, onb_some, cond_true, cond_false, abound_none, abound_int, Option.bind_some, Option.bind_none, nth, ↓nw, Value.cells, ↓BK, List.getElem?_cons_zero, List.getElem?_cons_succ, List.toList_toArray, Nat.zero_add, Nat.add_zero, List.length_cons, List.length_nil, List.length_replicate, List.length_map, List.length_set, List.all_cons, List.all_nil, setMany, List.set_cons_zero, List.set_cons_succ, List.drop_zero, List.take_zero, List.take_succ_cons, List.drop_succ_cons, List.take_nil, List.drop_nil, if_true, if_false, Bool.and_true, Bool.true_and, Nat.reduceAdd, Nat.reduceLeDiff, Nat.reduceMul, Nat.reduceMod, Nat.reduceDiv, Nat.reduceSub, Nat.reduceEqDiff, Nat.lt_irrefl, Int.reduceEq, Int.reduceLT, Int.reduceLE, Int.reduceAdd, Int.reduceSub, Int.reduceMul, Int.reduceNeg, Int.reduceToNat, and_true, true_and, Nat.le_refl, dec_t, dec_f, nxt_push, nxt_set, ro_pushk, ro_setk, next_lock, ro_lock, get_lock, get_push_self, get_push_eq, get_push_lt, get_set_self, get_set_ne, ne_eq, lt_add1, lt_add, sto, ldn, ld1, not_false_eq_true, not_true_eq_false, Bool.not_true, Bool.not_false, Bool.and_false, Bool.false_and, beq_self_eq_true, al_4, al_71, fa_74_0, fa_86_1, ix_71, len_71, X_refIs_1, X_refIs_2, X_refIs_3, X_refIs_4, X_refIs_5, X_refIs_6, X_refIs_7, X_refIs_8, h1, e, Option.isSome_none]
theorem refFree_ok (x : RefO h w ls pv rs N F) (hN : N ≤ 1000) {n : Int} (hn : in64 n) : DC Try.prog 30 [.pointer (some ⟨w, 0, none⟩), .int .i64 n] h (fun v h1 => RefR h w N F h1) := by
  apply X_refFree_ok
  unfold X_refFree
  refine callV_of (by kernel_rfl) rfl (refIs_ok x hN hn) ?_
  rintro v h1 ⟨rfl, rfl⟩
  cases hi : isR rs n with
  | none =>
    simp -implicitDefEqProofs only [axt_20, axt_21, opt_some, optH_some, nb_cons, nb_nil, CD_true, CD_false, GD_tt, GD_ff, GD_tf, GD_ft, GD_un, pk_true, pk_false, nck_ptr, rv_one, rv_two, b_lss, b_leq, b_gtr, b_geq, b_eql, b_neq, b_add, b_sub, b_mul, b_quo, b_rem, b_shl, b_shr, b_and, b_or, b_xor, b_andNot, u_not, u_neg, nob_bool, nob_int, nob_string, nob_ptr, nob_slice, nob_map, nob_func, nob_nilf, nob_iface, nob_nili, nob_agg, nob_tuple, cok_bool, cok_int, cok_string, cok_ptr, cok_slice, cok_map, cok_func, nobot_nil, nobot_cons, onb_none, onb_some, cond_true, cond_false, abound_none, abound_int, Option.bind_some, Option.bind_none, nth, ↓nw, Value.cells, ↓BK, List.getElem?_cons_zero, List.getElem?_cons_succ, List.toList_toArray, Nat.zero_add, Nat.add_zero, List.length_cons, List.length_nil, List.length_replicate, List.length_map, List.length_set, List.all_cons, List.all_nil, setMany, List.set_cons_zero, List.set_cons_succ, List.drop_zero, List.take_zero, List.take_succ_cons, List.drop_succ_cons, List.take_nil, List.drop_nil, if_true, if_false, Bool.and_true, Bool.true_and, Nat.reduceAdd, Nat.reduceLeDiff, Nat.reduceMul, Nat.reduceMod, Nat.reduceDiv, Nat.reduceSub, Nat.reduceEqDiff, Nat.lt_irrefl, Int.reduceEq, Int.reduceLT, Int.reduceLE, Int.reduceAdd, Int.reduceSub, Int.reduceMul, Int.reduceNeg, Int.reduceToNat, and_true, true_and, Nat.le_refl, dec_t, dec_f, nxt_push, nxt_set, ro_pushk, ro_setk, next_lock, ro_lock, get_lock, get_push_self, get_push_eq, get_push_lt, get_set_self, get_set_ne, ne_eq, lt_add1, lt_add, sto, ldn, ld1, not_false_eq_true, not_true_eq_false, Bool.not_true, Bool.not_false, Bool.and_false, Bool.false_and, beq_self_eq_true, al_71, as_4, fa_74_0, fa_86_1, ix_71, X_refFree_1, Option.isSome_none]
    exact x.same
  | some i =>
    obtain ⟨rfl, r, hr, hf⟩ := isR_some hi
    have hw := x.hw
    have hlen := x.len
    rcases x.hL with ⟨rfl, _⟩ | ⟨bb, c, rfl, hc, fb, hbb⟩
    · cases hr
    have hlt : i < rs.length := by
      rcases Nat.lt_or_ge i rs.length with a | a
      · exact a
      · rw [List.getElem?_eq_none a] at hr; cases hr
    have hwr : IntKind.wrap .i64 ((i : Int) + 1 - 1) = (i : Int) := by rw [w64 (by omega) (by omega)]; omega
    have hc1 : 0 ≤ (i : Int) ∧ (i : Int) < (rs.length : Int) := by omega
    have okb := (x.ok bb fb).1
    have hfl : i * 2 + 1 + 1 ≤ (flat2 rs).length := by rw [flat_len]; omega
    have hset := flat_set hr true
    simp -implicitDefEqProofs only [axt_20, axt_21, opt_some, optH_some, nb_cons, nb_nil, CD_true, CD_false, GD_tt, GD_ff, GD_tf, GD_ft, GD_un, pk_true, pk_false, nck_ptr, rv_one, rv_two, b_lss, b_leq, b_gtr, b_geq, b_eql, b_neq, b_add, b_sub, b_mul, b_quo, b_rem, b_shl, b_shr, b_and, b_or, b_xor, b_andNot, u_not, u_neg, nob_bool, nob_int, nob_string, nob_ptr, nob_slice, nob_map, nob_func, nob_nilf, nob_iface, nob_nili, nob_agg, nob_tuple, cok_bool, cok_int, cok_string, cok_ptr, cok_slice, cok_map, cok_func, nobot_nil, nobot_cons, onb_none, onb_some, cond_true, cond_false, abound_none, abound_int, Option.bind_some, Option.bind_none, nth, ↓nw, Value.cells, ↓BK, List.getElem?_cons_zero, List.getElem?_cons_succ, List.toList_toArray, Nat.zero_add, Nat.add_zero, List.length_cons, List.length_nil, List.length_replicate, List.length_map, List.length_set, List.all_cons, List.all_nil, setMany, List.set_cons_zero, List.set_cons_succ, List.drop_zero, List.take_zero, List.take_succ_cons, List.drop_succ_cons, List.take_nil, List.drop_nil, if_true, if_false, Bool.and_true, Bool.true_and, Nat.reduceAdd, Nat.reduceLeDiff, Nat.reduceMul, Nat.reduceMod, Nat.reduceDiv, Nat.reduceSub, Nat.reduceEqDiff, Nat.lt_irrefl, Int.reduceEq, Int.reduceLT, Int.reduceLE, Int.reduceAdd, Int.reduceSub, Int.reduceMul, Int.reduceNeg, Int.reduceToNat, and_true, true_and, Nat.le_refl, dec_t, dec_f, nxt_push, nxt_set, ro_pushk, ro_setk, next_lock, ro_lock, get_lock, get_push_self, get_push_eq, get_push_lt, get_set_self, get_set_ne, ne_eq, lt_add1, lt_add, sto, ldn, ld1, not_false_eq_true, not_true_eq_false, Bool.not_true, Bool.not_false, Bool.and_false, Bool.false_and, beq_self_eq_true, al_71, as_4, fa_74_0, fa_86_1, ix_71, X_refFree_1, Option.isSome_some, hw, hwr, hc1, Int.toNat_natCast, hbb, okb, hfl, hset]
    have hbw : ¬ w = bb := by intro e; subst e; rw [hbb] at hw; simp at hw
    refine ⟨F, ⟨.slice (some ⟨bb, 0, none⟩) rs.length c, pv, rs.set i (r.1, true), ?_, x.fw, by simp; omega, .inr ⟨bb, c, by simp, hc, fb, get_set_self⟩, fun k r' hr' => ?_, ?_, x.ok⟩, (Eff.refl _ _).set (.inl fb) _, fun b hb => .inl hb⟩
    · rw [get_set_ne hbw]; exact hw
    · have : RowR h1 F r' := by
        by_cases e : i = k
        · subst e
          rw [List.getElem?_set_self hlt] at hr'
          cases hr'
          obtain ⟨q, n, c, cs, a⟩ := x.rows i r hr
          exact ⟨q, n, c, cs, a⟩
        · rw [List.getElem?_set_ne e] at hr'; exact x.rows k r' hr'
      obtain ⟨q, n, c', cs, a1, a2, a3, a4⟩ := this
      refine ⟨q, n, c', cs, a1, a2, ?_, a4⟩
      rw [get_set_ne (by intro e; subst e; rw [hbb] at a3; simp at a3)]; exact a3
    · rcases x.hp with a | ⟨pb, np, c', cs, a1, a2, a3, a4, a5, a6⟩
      · exact .inl a
      · exact .inr ⟨pb, np, c', cs, a1, a2, a3, by rw [get_set_ne (by intro e; subst e; rw [hbb] at a4; simp at a4)]; exact a4, a5, by omega⟩
/-- Bytes written. -/
theorem RefO.write (x : RefO h w ls pv rs N F) {q : Nat} {cs cs' : List Value} (fq : F q) (hq : h.get q = some (.cells cs 3)) (hl : cs'.length = cs.length) : RefO (h.set q (some (.cells cs' 3))) w ls pv rs N F := by
  have ne : ∀ {b t c}, h.get b = some (.cells c t) → t ≠ 3 → b ≠ q := fun hb ht e => by subst e; rw [hq] at hb; simp at hb; exact ht hb.2.symm
  refine ⟨by rw [get_set_ne (ne x.hw (by decide))]; exact x.hw, x.fw, x.len, ?_, fun i r hr => ?_, ?_, x.ok⟩
  · rcases x.hL with a | ⟨bb, c, a1, a2, a3, a4⟩
    · exact .inl a
    · exact .inr ⟨bb, c, a1, a2, a3, by rw [get_set_ne (ne a4 (by decide))]; exact a4⟩
  · obtain ⟨q', n, c, cs0, a1, a2, a3, a4, a5⟩ := x.rows i r hr
    by_cases e : q' = q
    · subst e
      rw [hq] at a3; cases a3
      exact ⟨q', n, c, cs', a1, a2, get_set_self, by rw [hl, a4], a5⟩
    · exact ⟨q', n, c, cs0, a1, a2, by rw [get_set_ne e]; exact a3, a4, a5⟩
  · rcases x.hp with a | ⟨pb, np, c, cs0, a1, a2, a3, a4, a5⟩
    · exact .inl a
    · exact .inr ⟨pb, np, c, cs0, a1, a2, a3, by rw [get_set_ne (ne a4 (by decide))]; exact a4, a5⟩
def RzI (h : AHeap) (w : Nat) (ls pv : Value) (rs : List (Value × Bool)) (N : Nat) (F : Nat → Prop) (q L : Nat) (n : Nat) (vs : List Value) (h' : AHeap) : Prop :=
  ∃ k cs, k ≤ L ∧ n = L - k ∧ vs = [.int .i64 k] ∧ RefO h' w ls pv rs N F ∧ h'.get q = some (.cells cs 3) ∧ cs.length = L ∧ Eff F h h'
theorem refZero_ok (x : RefO h w ls pv rs N F) (hN : N ≤ 1000) {n : Int} (hn : in64 n) : DC Try.prog 32 [.pointer (some ⟨w, 0, none⟩), .int .i64 n] h (fun v h1 => RefR h w N F h1) := by
  apply X_refZero_ok
  unfold X_refZero
  refine callV_of (by kernel_rfl) rfl (refIs_ok x hN hn) ?_
  rintro v h1 ⟨rfl, rfl⟩
  cases hi : isR rs n with
  | none =>
    simp -implicitDefEqProofs only [axt_20, axt_21, opt_some, optH_some, nb_cons, nb_nil, CD_true, CD_false, GD_tt, GD_ff, GD_tf, GD_ft, GD_un, pk_true, pk_false, nck_ptr, rv_one, rv_two, b_lss, b_leq, b_gtr, b_geq, b_eql, b_neq, b_add, b_sub, b_mul, b_quo, b_rem, b_shl, b_shr, b_and, b_or, b_xor, b_andNot, u_not, u_neg, nob_bool, nob_int, nob_string, nob_ptr, nob_slice, nob_map, nob_func, nob_nilf, nob_iface, nob_nili, nob_agg, nob_tuple, cok_bool, cok_int, cok_string, cok_ptr, cok_slice, cok_map, cok_func, nobot_nil, nobot_cons, onb_none, onb_some, cond_true, cond_false, abound_none, abound_int, Option.bind_some, Option.bind_none, nth, ↓nw, Value.cells, ↓BK, List.getElem?_cons_zero, List.getElem?_cons_succ, List.toList_toArray, Nat.zero_add, Nat.add_zero, List.length_cons, List.length_nil, List.length_replicate, List.length_map, List.length_set, List.all_cons, List.all_nil, setMany, List.set_cons_zero, List.set_cons_succ, List.drop_zero, List.take_zero, List.take_succ_cons, List.drop_succ_cons, List.take_nil, List.drop_nil, if_true, if_false, Bool.and_true, Bool.true_and, Nat.reduceAdd, Nat.reduceLeDiff, Nat.reduceMul, Nat.reduceMod, Nat.reduceDiv, Nat.reduceSub, Nat.reduceEqDiff, Nat.lt_irrefl, Int.reduceEq, Int.reduceLT, Int.reduceLE, Int.reduceAdd, Int.reduceSub, Int.reduceMul, Int.reduceNeg, Int.reduceToNat, and_true, true_and, Nat.le_refl, dec_t, dec_f, nxt_push, nxt_set, ro_pushk, ro_setk, next_lock, ro_lock, get_lock, get_push_self, get_push_eq, get_push_lt, get_set_self, get_set_ne, ne_eq, lt_add1, lt_add, sto, ldn, ld1, not_false_eq_true, not_true_eq_false, Bool.not_true, Bool.not_false, Bool.and_false, Bool.false_and, beq_self_eq_true, al_41, al_71, as_3, fa_74_0, fa_86_0, ix_41, ix_71, len_41, X_refZero_1, X_refZero_2, X_refZero_3, Option.isSome_none]
    exact x.same
  | some i =>
    obtain ⟨rfl, r, hr, hf⟩ := isR_some hi
    have hw := x.hw
    have hlen := x.len
    have hx := x
    rcases x.hL with ⟨rfl, _⟩ | ⟨bb, c, rfl, hc, fb, hbb⟩
    · cases hr
    have hlt : i < rs.length := by
      rcases Nat.lt_or_ge i rs.length with a | a
      · exact a
      · rw [List.getElem?_eq_none a] at hr; cases hr
    have hwr : IntKind.wrap .i64 ((i : Int) + 1 - 1) = (i : Int) := by rw [w64 (by omega) (by omega)]; omega
    have hc1 : 0 ≤ (i : Int) ∧ (i : Int) < (rs.length : Int) := by omega
    obtain ⟨q, L, cq, cs, a1, fq, a3, a4, a5⟩ := x.rows i r hr
    have hf0 := flat_0 hr
    rw [a1] at hf0
    simp -implicitDefEqProofs only [axt_20, axt_21, opt_some, optH_some, nb_cons, nb_nil, CD_true, CD_false, GD_tt, GD_ff, GD_tf, GD_ft, GD_un, pk_true, pk_false, nck_ptr, rv_one, rv_two, b_lss, b_leq, b_gtr, b_geq, b_eql, b_neq, b_add, b_sub, b_mul, b_quo, b_rem, b_shl, b_shr, b_and, b_or, b_xor, b_andNot, u_not, u_neg, nob_bool, nob_int, nob_string, nob_ptr, nob_slice, nob_map, nob_func, nob_nilf, nob_iface, nob_nili, nob_agg, nob_tuple, cok_bool, cok_int, cok_string, cok_ptr, cok_slice, cok_map, cok_func, nobot_nil, nobot_cons, onb_none, onb_some, cond_true, cond_false, abound_none, abound_int, Option.bind_some, Option.bind_none, nth, ↓nw, Value.cells, ↓BK, List.getElem?_cons_zero, List.getElem?_cons_succ, List.toList_toArray, Nat.zero_add, Nat.add_zero, List.length_cons, List.length_nil, List.length_replicate, List.length_map, List.length_set, List.all_cons, List.all_nil, setMany, List.set_cons_zero, List.set_cons_succ, List.drop_zero, List.take_zero, List.take_succ_cons, List.drop_succ_cons, List.take_nil, List.drop_nil, if_true, if_false, Bool.and_true, Bool.true_and, Nat.reduceAdd, Nat.reduceLeDiff, Nat.reduceMul, Nat.reduceMod, Nat.reduceDiv, Nat.reduceSub, Nat.reduceEqDiff, Nat.lt_irrefl, Int.reduceEq, Int.reduceLT, Int.reduceLE, Int.reduceAdd, Int.reduceSub, Int.reduceMul, Int.reduceNeg, Int.reduceToNat, and_true, true_and, Nat.le_refl, dec_t, dec_f, nxt_push, nxt_set, ro_pushk, ro_setk, next_lock, ro_lock, get_lock, get_push_self, get_push_eq, get_push_lt, get_set_self, get_set_ne, ne_eq, lt_add1, lt_add, sto, ldn, ld1, not_false_eq_true, not_true_eq_false, Bool.not_true, Bool.not_false, Bool.and_false, Bool.false_and, beq_self_eq_true, al_41, al_71, as_3, fa_74_0, fa_86_0, ix_41, ix_71, len_41, X_refZero_1, X_refZero_2, X_refZero_3, Option.isSome_some, hw, hwr, hc1, Int.toNat_natCast, hbb, hf0]
    refine LP_of (RzI h1 w (.slice (some ⟨bb, 0, none⟩) rs.length c) pv rs N F q L) L ⟨0, cs, Nat.zero_le _, rfl, rfl, hx, a3, a4, .refl _ _⟩ ?_
    rintro n vs h' ⟨k, cs', hk, rfl, rfl, y, hq, hl, e⟩
    by_cases hkl : k < L
    · have hk1 : (k : Int) < (L : Int) := by omega
      have hk2 : 0 ≤ (k : Int) ∧ (k : Int) < (L : Int) := by omega
      have hk3 : k + 1 ≤ cs'.length := by omega
      have okq := (y.ok q fq).1
      have hw1 : IntKind.wrap .i64 ((k : Int) + 1) = ((k + 1 : Nat) : Int) := by rw [w64 (by omega) (by omega)]; omega
      simp -implicitDefEqProofs only [axt_20, axt_21, opt_some, optH_some, nb_cons, nb_nil, CD_true, CD_false, GD_tt, GD_ff, GD_tf, GD_ft, GD_un, pk_true, pk_false, nck_ptr, rv_one, rv_two, b_lss, b_leq, b_gtr, b_geq, b_eql, b_neq, b_add, b_sub, b_mul, b_quo, b_rem, b_shl, b_shr, b_and, b_or, b_xor, b_andNot, u_not, u_neg, nob_bool, nob_int, nob_string, nob_ptr, nob_slice, nob_map, nob_func, nob_nilf, nob_iface, nob_nili, nob_agg, nob_tuple, cok_bool, cok_int, cok_string, cok_ptr, cok_slice, cok_map, cok_func, nobot_nil, nobot_cons, onb_none, onb_some, cond_true, cond_false, abound_none, abound_int, Option.bind_some, Option.bind_none, nth, ↓nw, Value.cells, ↓BK, List.getElem?_cons_zero, List.getElem?_cons_succ, List.toList_toArray, Nat.zero_add, Nat.add_zero, List.length_cons, List.length_nil, List.length_replicate, List.length_map, List.length_set, List.all_cons, List.all_nil, setMany, List.set_cons_zero, List.set_cons_succ, List.drop_zero, List.take_zero, List.take_succ_cons, List.drop_succ_cons, List.take_nil, List.drop_nil, if_true, if_false, Bool.and_true, Bool.true_and, Nat.reduceAdd, Nat.reduceLeDiff, Nat.reduceMul, Nat.reduceMod, Nat.reduceDiv, Nat.reduceSub, Nat.reduceEqDiff, Nat.lt_irrefl, Int.reduceEq, Int.reduceLT, Int.reduceLE, Int.reduceAdd, Int.reduceSub, Int.reduceMul, Int.reduceNeg, Int.reduceToNat, and_true, true_and, Nat.le_refl, dec_t, dec_f, nxt_push, nxt_set, ro_pushk, ro_setk, next_lock, ro_lock, get_lock, get_push_self, get_push_eq, get_push_lt, get_set_self, get_set_ne, ne_eq, lt_add1, lt_add, sto, ldn, ld1, not_false_eq_true, not_true_eq_false, Bool.not_true, Bool.not_false, Bool.and_false, Bool.false_and, beq_self_eq_true, al_41, al_71, as_3, fa_74_0, fa_86_0, ix_41, ix_71, len_41, X_refZero_1, X_refZero_2, X_refZero_3, hk1, hk2, Int.toNat_natCast, Nat.mul_one, hq, hk3, okq, hw1]
      exact ⟨L - (k + 1), by omega, k + 1, _, by omega, rfl, rfl, y.write fq hq (by simp), get_set_self, by simp [hl], e.set (.inl fq) _⟩
    · have hk1 : ¬ (k : Int) < (L : Int) := by omega
      simp -implicitDefEqProofs only [axt_20, axt_21, opt_some, optH_some, nb_cons, nb_nil, CD_true, CD_false, GD_tt, GD_ff, GD_tf, GD_ft, GD_un, pk_true, pk_false, nck_ptr, rv_one, rv_two, b_lss, b_leq, b_gtr, b_geq, b_eql, b_neq, b_add, b_sub, b_mul, b_quo, b_rem, b_shl, b_shr, b_and, b_or, b_xor, b_andNot, u_not, u_neg, nob_bool, nob_int, nob_string, nob_ptr, nob_slice, nob_map, nob_func, nob_nilf, nob_iface, nob_nili, nob_agg, nob_tuple, cok_bool, cok_int, cok_string, cok_ptr, cok_slice, cok_map, cok_func, nobot_nil, nobot_cons, onb_none, onb_some, cond_true, cond_false, abound_none, abound_int, Option.bind_some, Option.bind_none, nth, ↓nw, Value.cells, ↓BK, List.getElem?_cons_zero, List.getElem?_cons_succ, List.toList_toArray, Nat.zero_add, Nat.add_zero, List.length_cons, List.length_nil, List.length_replicate, List.length_map, List.length_set, List.all_cons, List.all_nil, setMany, List.set_cons_zero, List.set_cons_succ, List.drop_zero, List.take_zero, List.take_succ_cons, List.drop_succ_cons, List.take_nil, List.drop_nil, if_true, if_false, Bool.and_true, Bool.true_and, Nat.reduceAdd, Nat.reduceLeDiff, Nat.reduceMul, Nat.reduceMod, Nat.reduceDiv, Nat.reduceSub, Nat.reduceEqDiff, Nat.lt_irrefl, Int.reduceEq, Int.reduceLT, Int.reduceLE, Int.reduceAdd, Int.reduceSub, Int.reduceMul, Int.reduceNeg, Int.reduceToNat, and_true, true_and, Nat.le_refl, dec_t, dec_f, nxt_push, nxt_set, ro_pushk, ro_setk, next_lock, ro_lock, get_lock, get_push_self, get_push_eq, get_push_lt, get_set_self, get_set_ne, ne_eq, lt_add1, lt_add, sto, ldn, ld1, not_false_eq_true, not_true_eq_false, Bool.not_true, Bool.not_false, Bool.and_false, Bool.false_and, beq_self_eq_true, al_41, al_71, as_3, fa_74_0, fa_86_0, ix_41, ix_71, len_41, X_refZero_1, X_refZero_2, X_refZero_3, hk1]
      exact ⟨F, ⟨_, _, _, y.up (Nat.le_succ _)⟩, e, fun b hb => .inl hb⟩
end
end Go.Mem
