/-
  MEMORY: stores.
-/
import Derived.Test.YtpilbfkinpbnoaaMemC4
namespace Go.Mem
open Go.Ai Go.Proofs
set_option linter.unusedVariables false
set_option linter.unusedSimpArgs false
theorem Eff.more {F G : Nat → Prop} {a b c : AHeap} (x : Eff F a b) (y : Eff G b c) (hg : ∀ i, G i → F i ∨ a.next ≤ i) : Eff F a c :=
  ⟨Nat.le_trans x.next y.next, y.ro.trans x.ro, fun i hi hlt => by
    have hn : ¬ G i := fun e => by
      rcases hg i e with q | q
      · exact hi q
      · omega
    rw [y.get i hn (Nat.lt_of_lt_of_le hlt x.next), x.get i hi hlt]⟩
theorem CD_j {b : Bool} {A B : (List Value → AHeap → Prop) → Prop} {J : List Value → AHeap → Prop} {vs : List Value} {x y : AHeap} (hA : ∀ j, A j = j vs x) (hB : ∀ j, B j = j vs y) (hJ : J vs (if b = true then x else y)) : CD (.bool b) A B J := by
  cases b
  · rw [CD_false, hB]; simpa using hJ
  · rw [CD_true, hA]; simpa using hJ
theorem get_setMany (vs : List Value) : ∀ (cs : List Value) (o i : Nat), o + vs.length ≤ cs.length → (setMany cs o vs)[i]? = if o ≤ i ∧ i < o + vs.length then vs[i - o]? else cs[i]? := by
  induction vs with
  | nil => intro cs o i _; rw [if_neg (by simp)]; rfl
  | cons v vs ih =>
    intro cs o i h
    simp only [List.length_cons] at h ⊢
    unfold setMany
    rw [ih (cs.set o v) (o + 1) i (by rw [List.length_set]; omega)]
    by_cases h1 : o + 1 ≤ i ∧ i < o + 1 + vs.length
    · rw [if_pos h1, if_pos (by omega), show i - o = i - (o + 1) + 1 by omega, List.getElem?_cons_succ]
    · rw [if_neg h1]
      by_cases h2 : i = o
      · subst h2; rw [if_pos (by omega), List.getElem?_set_self (by omega)]; simp
      · rw [if_neg (by omega), List.getElem?_set_ne (by omega)]
def upd (f : Nat → Cl) (a : Nat) (c : Cl) : Nat → Cl := fun k => if k = a then c else f k
/-- A byte is written. -/
theorem FullH.put {h : AHeap} {q : Nat} {gs : List (Option Nat)} {B : MB} {F : Nat → Prop} (x : FullH h q gs B F) {a g : Nat} (hg : gs[a / 64]? = some (some g)) :
    ∃ cs, h.get g = some (.cells cs 81) ∧ a % 64 * 5 + 5 ≤ cs.length ∧ ∀ c : Cl, FullH (h.set g (some (.cells (setMany cs (a % 64 * 5) c.vals) 81))) q gs { B with byte := upd B.byte a c } F := by
  obtain ⟨hl, fq, hq, hgs, hn, hd, ht⟩ := x
  obtain ⟨fg, cs, hc, hlen, hcs⟩ := hgs _ g hg
  refine ⟨cs, hc, by omega, fun c => ⟨hl, fq, ?_, fun j g' hj => ⟨(hgs j g' hj).1, ?_⟩, fun j hj k hk => ?_, hd, fun k hk => ?_⟩⟩
  · rw [get_set_ne (by intro e; subst e; rw [hq] at hc; simp at hc), hq]
  · by_cases e : g' = g
    · subst e
      have ej : j = a / 64 := hd j _ g' hj hg
      subst ej
      refine ⟨_, get_set_self, by rw [length_setMany, hlen], fun k j hk hj => ?_⟩
      have vlen : c.vals.length = 5 := rfl
      rw [get_setMany _ _ _ _ (by rw [vlen]; omega), vlen]
      show _ = (upd B.byte a c (64 * (a / 64) + k)).vals[j]?
      unfold upd
      by_cases ek : k = a % 64
      · rw [if_pos (by omega), if_pos (by omega), show k * 5 + j - a % 64 * 5 = j by omega]
      · rw [if_neg (by omega), if_neg (by omega)]; exact hcs k j hk hj
    · have ej : j ≠ a / 64 := by intro ej; subst ej; rw [hg] at hj; cases hj; exact e rfl
      obtain ⟨cs', hc', hlen', hcs'⟩ := (hgs j g' hj).2
      refine ⟨cs', by rw [get_set_ne e, hc'], hlen', fun k j' hk hj' => ?_⟩
      rw [hcs' k j' hk hj']
      show _ = (upd B.byte a c (64 * j + k)).vals[j']?
      unfold upd
      rw [if_neg (by omega)]
  · show upd B.byte a c (64 * j + k) = unk
    unfold upd
    rw [if_neg (by intro e; have : j = a / 64 := by omega
                   subst this; rw [hg] at hj; cases hj)]
    exact hn j hj k hk
  · show upd B.byte a c k = unk
    have hlt : a / 64 < gs.length := by
      rcases Nat.lt_or_ge (a / 64) gs.length with e | e
      · exact e
      · rw [List.getElem?_eq_none e] at hg; cases hg
    unfold upd
    rw [if_neg (by omega)]
    exact ht k hk
/-! ### What a store comes to -/
def norm (v : V) : V := if goodV v = true then v else v0
def cellOf (v : V) (k : Nat) : Cl := if v.k = 1 then ⟨1, IntKind.wrap .u8 (v.n.fdiv (2 ^ (8 * k))), v0⟩ else if v.k = 2 then ⟨2, IntKind.wrap .u8 k, v⟩ else unk
def storeB (B : MB) (n : Nat) (v : V) (c : Nat) : MB := { B with byte := fun a => if n ≤ a ∧ a < n + c then cellOf v (a - n) else B.byte a }
theorem storeB_zero (B : MB) (n : Nat) (v : V) : storeB B n v 0 = B := by
  unfold storeB
  congr 1
  funext a
  rw [if_neg (by omega)]
theorem storeB_succ (B : MB) (n : Nat) (v : V) (c : Nat) : { storeB B n v c with byte := upd (storeB B n v c).byte (n + c) (cellOf v c) } = storeB B n v (c + 1) := by
  unfold storeB upd
  simp only [MB.mk.injEq, true_and]
  funext a
  by_cases e : a = n + c
  · subst e; rw [if_pos rfl, if_pos (by omega), show n + c - n = c by omega]
  · rw [if_neg e]
    by_cases e2 : n ≤ a ∧ a < n + c
    · rw [if_pos e2, if_pos (by omega)]
    · rw [if_neg e2, if_neg (by omega)]
/-- What is stored where, if it may be. -/
def storeM (M : MM) (c : Int) (p v : V) : Option MM := if (norm v).k = 2 ∧ c ≠ 8 then none else match right M c p with
  | none => none
  | some i => (M[i]?).map fun B => M.set i (storeB B p.n.toNat (norm v) c.toNat)
/-- A memory is turned into another. -/
def MutR (h : AHeap) (m : Nat) (M' : MM) (F : Nat → Prop) (h1 : AHeap) : Prop := ∃ F', MemH h1 m M' F' ∧ Eff F h h1 ∧ ∀ b, F' b → F b ∨ h.next ≤ b
def StoreR (h : AHeap) (m : Nat) (M : MM) (F : Nat → Prop) (c : Int) (p v : V) (r : Value) (h1 : AHeap) : Prop := match storeM M c p v with
  | none => r = .bool false ∧ MutR h m M F h1
  | some M' => r = .bool true ∧ MutR h m M' F h1
section
variable {h : AHeap} {m : Nat} {bs : Value} {ps : List Nat} {fs : Nat → Nat → Prop} {M : MM} {F : Nat → Prop} {c : Int} {p v : V}
def StoreI (h : AHeap) (q g : Nat) (gs : List (Option Nat)) (B : MB) (n : Nat) (v : V) (c : Int) (F : Nat → Prop) (m : Nat) (vs : List Value) (h' : AHeap) : Prop :=
  ∃ k, k ≤ c.toNat ∧ m = c.toNat - k ∧ vs = [.int .i64 k] ∧ Eff (fun b => b = g) h h' ∧ FullH h' q gs (storeB B n v k) F
theorem store_ok (x : MemO h m bs ps fs M F) (hs : small M) (hc : in64 c) (hp : p.ok) :
    DC Try.prog 10 [.pointer (some ⟨m, 0, none⟩), .int .i64 c, p.val, v.val] h (StoreR h m M F c p v) := by
  apply DC_wf; intro hwf; have hro := hwf.2
  apply W_Store_ok
  unfold W_Store
  have e1 : p.val = .agg #[.int .i64 p.k, .int .i64 p.n, .int .i64 p.b] := rfl
  have e2 : v.val = .agg #[.int .i64 v.k, .int .i64 v.n, .int .i64 v.b] := rfl
  rw [e1, e2]
  simp only [axt_20, axt_21, opt_some, optH_some, nb_cons, nb_nil, CD_true, CD_false, GD_tt, GD_ff, GD_tf, GD_ft, GD_un, pk_true, pk_false, nck_ptr, rv_one, rv_two, b_lss, b_leq, b_gtr, b_geq, b_eql, b_neq, b_add, b_sub, b_mul, b_quo, b_rem, b_shl, b_shr, b_and, b_or, b_xor, b_andNot, u_not, u_neg, nob_bool, nob_int, nob_string, nob_ptr, nob_slice, nob_map, nob_func, nob_nilf, nob_iface, nob_nili, nob_agg, nob_tuple, cok_bool, cok_int, cok_string, cok_ptr, cok_slice, cok_map, cok_func, nobot_nil, nobot_cons, onb_none, onb_some, cond_true, cond_false, abound_none, abound_int, Option.bind_some, Option.bind_none, nth, nw, Value.cells, BK, List.getElem?_cons_zero, List.getElem?_cons_succ, List.toList_toArray, Nat.zero_add, Nat.add_zero, List.length_cons, List.length_nil, List.length_replicate, List.length_map, List.length_set, List.all_cons, List.all_nil, setMany, List.set_cons_zero, List.set_cons_succ, List.drop_zero, List.take_zero, List.take_succ_cons, List.drop_succ_cons, List.take_nil, List.drop_nil, if_true, if_false, Bool.and_true, Bool.true_and, Nat.reduceAdd, Nat.reduceLeDiff, Nat.reduceMul, Nat.reduceMod, Nat.reduceDiv, Nat.reduceSub, Nat.reduceEqDiff, Nat.lt_irrefl, Int.reduceEq, Int.reduceLT, Int.reduceLE, Int.reduceAdd, Int.reduceSub, Int.reduceMul, Int.reduceNeg, Int.reduceToNat, and_true, true_and, Nat.le_refl, dec_t, dec_f, nxt_push, nxt_set, ro_pushk, ro_setk, next_lock, ro_lock, get_lock, get_push_self, get_push_eq, get_push_lt, get_set_self, get_set_ne, ne_eq, lt_add1, lt_add, sto, ldn, ld1, not_false_eq_true, not_true_eq_false, Bool.not_true, Bool.not_false, Bool.and_false, Bool.false_and, beq_self_eq_true, al_2, al_24, al_3, as_24, as_65, bd_24_, bd_65_, bd_65_0_1, bd_65_0_1_2, cv_2_5, cv_3_5, fa_24_0, fa_24_1, ix_61, len_61]
  rw [← e2]
  refine callV_q (by kernel_rfl) rfl (good_q v _) ?_
  simp only [axt_20, axt_21, opt_some, optH_some, nb_cons, nb_nil, CD_true, CD_false, GD_tt, GD_ff, GD_tf, GD_ft, GD_un, pk_true, pk_false, nck_ptr, rv_one, rv_two, b_lss, b_leq, b_gtr, b_geq, b_eql, b_neq, b_add, b_sub, b_mul, b_quo, b_rem, b_shl, b_shr, b_and, b_or, b_xor, b_andNot, u_not, u_neg, nob_bool, nob_int, nob_string, nob_ptr, nob_slice, nob_map, nob_func, nob_nilf, nob_iface, nob_nili, nob_agg, nob_tuple, cok_bool, cok_int, cok_string, cok_ptr, cok_slice, cok_map, cok_func, nobot_nil, nobot_cons, onb_none, onb_some, cond_true, cond_false, abound_none, abound_int, Option.bind_some, Option.bind_none, nth, nw, Value.cells, BK, List.getElem?_cons_zero, List.getElem?_cons_succ, List.toList_toArray, Nat.zero_add, Nat.add_zero, List.length_cons, List.length_nil, List.length_replicate, List.length_map, List.length_set, List.all_cons, List.all_nil, setMany, List.set_cons_zero, List.set_cons_succ, List.drop_zero, List.take_zero, List.take_succ_cons, List.drop_succ_cons, List.take_nil, List.drop_nil, if_true, if_false, Bool.and_true, Bool.true_and, Nat.reduceAdd, Nat.reduceLeDiff, Nat.reduceMul, Nat.reduceMod, Nat.reduceDiv, Nat.reduceSub, Nat.reduceEqDiff, Nat.lt_irrefl, Int.reduceEq, Int.reduceLT, Int.reduceLE, Int.reduceAdd, Int.reduceSub, Int.reduceMul, Int.reduceNeg, Int.reduceToNat, and_true, true_and, Nat.le_refl, dec_t, dec_f, nxt_push, nxt_set, ro_pushk, ro_setk, next_lock, ro_lock, get_lock, get_push_self, get_push_eq, get_push_lt, get_set_self, get_set_ne, ne_eq, lt_add1, lt_add, sto, ldn, ld1, not_false_eq_true, not_true_eq_false, Bool.not_true, Bool.not_false, Bool.and_false, Bool.false_and, beq_self_eq_true, al_2, al_24, al_3, as_24, as_65, bd_24_, bd_65_, bd_65_0_1, bd_65_0_1_2, cv_2_5, cv_3_5, fa_24_0, fa_24_1, ix_61, len_61]
  refine CD_j (vs := []) (x := ((h.push (.cells [.int .i64 p.k, .int .i64 p.n, .int .i64 p.b] 24)).push (.cells [.int .i64 v.k, .int .i64 v.n, .int .i64 v.b] 24)).set (h.next + 1) (some (.cells [.int .i64 0, .int .i64 0, .int .i64 0] 24)))
    (y := (h.push (.cells [.int .i64 p.k, .int .i64 p.n, .int .i64 p.b] 24)).push (.cells [.int .i64 v.k, .int .i64 v.n, .int .i64 v.b] 24)) ?_ ?_ ?_
  · intro j
    have : h.ro ≤ h.next + 1 := by omega
    simp only [axt_20, axt_21, opt_some, optH_some, nb_cons, nb_nil, CD_true, CD_false, GD_tt, GD_ff, GD_tf, GD_ft, GD_un, pk_true, pk_false, nck_ptr, rv_one, rv_two, b_lss, b_leq, b_gtr, b_geq, b_eql, b_neq, b_add, b_sub, b_mul, b_quo, b_rem, b_shl, b_shr, b_and, b_or, b_xor, b_andNot, u_not, u_neg, nob_bool, nob_int, nob_string, nob_ptr, nob_slice, nob_map, nob_func, nob_nilf, nob_iface, nob_nili, nob_agg, nob_tuple, cok_bool, cok_int, cok_string, cok_ptr, cok_slice, cok_map, cok_func, nobot_nil, nobot_cons, onb_none, onb_some, cond_true, cond_false, abound_none, abound_int, Option.bind_some, Option.bind_none, nth, nw, Value.cells, BK, List.getElem?_cons_zero, List.getElem?_cons_succ, List.toList_toArray, Nat.zero_add, Nat.add_zero, List.length_cons, List.length_nil, List.length_replicate, List.length_map, List.length_set, List.all_cons, List.all_nil, setMany, List.set_cons_zero, List.set_cons_succ, List.drop_zero, List.take_zero, List.take_succ_cons, List.drop_succ_cons, List.take_nil, List.drop_nil, if_true, if_false, Bool.and_true, Bool.true_and, Nat.reduceAdd, Nat.reduceLeDiff, Nat.reduceMul, Nat.reduceMod, Nat.reduceDiv, Nat.reduceSub, Nat.reduceEqDiff, Nat.lt_irrefl, Int.reduceEq, Int.reduceLT, Int.reduceLE, Int.reduceAdd, Int.reduceSub, Int.reduceMul, Int.reduceNeg, Int.reduceToNat, and_true, true_and, Nat.le_refl, dec_t, dec_f, nxt_push, nxt_set, ro_pushk, ro_setk, next_lock, ro_lock, get_lock, get_push_self, get_push_eq, get_push_lt, get_set_self, get_set_ne, ne_eq, lt_add1, lt_add, sto, ldn, ld1, not_false_eq_true, not_true_eq_false, Bool.not_true, Bool.not_false, Bool.and_false, Bool.false_and, beq_self_eq_true, al_2, al_24, al_3, as_24, as_65, bd_24_, bd_65_, bd_65_0_1, bd_65_0_1_2, cv_2_5, cv_3_5, fa_24_0, fa_24_1, ix_61, len_61, this]
  · intro j; rfl
  generalize hH : (if (!goodV v) = true then ((h.push (.cells [.int .i64 p.k, .int .i64 p.n, .int .i64 p.b] 24)).push (.cells [.int .i64 v.k, .int .i64 v.n, .int .i64 v.b] 24)).set (h.next + 1) (some (.cells [.int .i64 0, .int .i64 0, .int .i64 0] 24)) else
    (h.push (.cells [.int .i64 p.k, .int .i64 p.n, .int .i64 p.b] 24)).push (.cells [.int .i64 v.k, .int .i64 v.n, .int .i64 v.b] 24)) = H
  have eff : Eff nof h H := by
    subst hH
    split
    · exact (((Eff.refl _ _).push _).push _).set (.inr (by omega)) _
    · exact ((Eff.refl _ _).push _).push _
  have hx : H.get (h.next + 1) = some (.cells [.int .i64 (norm v).k, .int .i64 (norm v).n, .int .i64 (norm v).b] 24) := by
    subst hH
    unfold norm
    cases goodV v
    · simp only [Bool.not_false, if_true]; rw [if_neg (by simp)]; exact get_set_self
    · simp only [Bool.not_true, if_true]; rw [if_neg (by simp)]; exact get_push_eq rfl
  have hp1 : H.get h.next = some (.cells [.int .i64 p.k, .int .i64 p.n, .int .i64 p.b] 24) := by
    have : ¬ h.next = h.next + 1 := by omega
    have h3 : ((h.push (.cells [.int .i64 p.k, .int .i64 p.n, .int .i64 p.b] 24)).push (.cells [.int .i64 v.k, .int .i64 v.n, .int .i64 v.b] 24)).get h.next = some (.cells [.int .i64 p.k, .int .i64 p.n, .int .i64 p.b] 24) := by
      rw [get_push_lt (by simp only [nxt_push]; omega), get_push_self]
    subst hH
    split
    · rw [get_set_ne this, h3]
    · exact h3
  have hnx : H.next = h.next + 2 := by
    subst hH
    cases goodV v <;> simp [nxt_push, nxt_set]
  clear hH
  have hsm : storeM M c p v = if (norm v).k = 2 ∧ c ≠ 8 then none else match right M c p with
    | none => none
    | some i => (M[i]?).map fun B => M.set i (storeB B p.n.toNat (norm v) c.toNat) := rfl
  generalize norm v = w at hx hsm
  have x1 : MemO H m bs ps fs M F := x.keep (fun b hb => eff.get b (fun e => e) (x.ok b hb).2) eff.next eff.ro
  have hro1 : H.ro ≤ H.next := by rw [hnx, eff.ro]; omega
  have hm0 : ∀ {h1}, Eff nof H h1 → MutR h m M F h1 := fun e3 => ⟨F, ⟨bs, ps, fs, x1.keep (fun b hb => e3.get b (fun e => e) (x1.ok b hb).2) e3.next e3.ro⟩, (eff.trans e3).mono (fun _ q => q.elim), fun b hb => .inl hb⟩
  by_cases hbad : w.k = 2 ∧ c ≠ 8
  · rw [if_pos hbad] at hsm
    have h1 := hbad.1
    have h2 : ¬ c = 8 := hbad.2
    simp only [axt_20, axt_21, opt_some, optH_some, nb_cons, nb_nil, CD_true, CD_false, GD_tt, GD_ff, GD_tf, GD_ft, GD_un, pk_true, pk_false, nck_ptr, rv_one, rv_two, b_lss, b_leq, b_gtr, b_geq, b_eql, b_neq, b_add, b_sub, b_mul, b_quo, b_rem, b_shl, b_shr, b_and, b_or, b_xor, b_andNot, u_not, u_neg, nob_bool, nob_int, nob_string, nob_ptr, nob_slice, nob_map, nob_func, nob_nilf, nob_iface, nob_nili, nob_agg, nob_tuple, cok_bool, cok_int, cok_string, cok_ptr, cok_slice, cok_map, cok_func, nobot_nil, nobot_cons, onb_none, onb_some, cond_true, cond_false, abound_none, abound_int, Option.bind_some, Option.bind_none, nth, nw, Value.cells, BK, List.getElem?_cons_zero, List.getElem?_cons_succ, List.toList_toArray, Nat.zero_add, Nat.add_zero, List.length_cons, List.length_nil, List.length_replicate, List.length_map, List.length_set, List.all_cons, List.all_nil, setMany, List.set_cons_zero, List.set_cons_succ, List.drop_zero, List.take_zero, List.take_succ_cons, List.drop_succ_cons, List.take_nil, List.drop_nil, if_true, if_false, Bool.and_true, Bool.true_and, Nat.reduceAdd, Nat.reduceLeDiff, Nat.reduceMul, Nat.reduceMod, Nat.reduceDiv, Nat.reduceSub, Nat.reduceEqDiff, Nat.lt_irrefl, Int.reduceEq, Int.reduceLT, Int.reduceLE, Int.reduceAdd, Int.reduceSub, Int.reduceMul, Int.reduceNeg, Int.reduceToNat, and_true, true_and, Nat.le_refl, dec_t, dec_f, nxt_push, nxt_set, ro_pushk, ro_setk, next_lock, ro_lock, get_lock, get_push_self, get_push_eq, get_push_lt, get_set_self, get_set_ne, ne_eq, lt_add1, lt_add, sto, ldn, ld1, not_false_eq_true, not_true_eq_false, Bool.not_true, Bool.not_false, Bool.and_false, Bool.false_and, beq_self_eq_true, al_2, al_24, al_3, as_24, as_65, bd_24_, bd_65_, bd_65_0_1, bd_65_0_1_2, cv_2_5, cv_3_5, fa_24_0, fa_24_1, ix_61, len_61, hx, hp1, h1, h2]
    unfold StoreR
    rw [hsm]
    exact ⟨rfl, hm0 (.refl _ _)⟩
  rw [if_neg hbad] at hsm
  have hac := access_w (c := c) (p := p) hro1 x1 hs hc hp
  rw [e1] at hac
  have hways : (w.k = 2 ∧ c = 8) ∨ ¬ w.k = 2 := by
    by_cases e : w.k = 2
    · by_cases e3 : c = 8
      · exact .inl ⟨e, e3⟩
      · exact (hbad ⟨e, e3⟩).elim
    · exact .inr e
  have hall : ∀ r h1, AccW H m M F c p r h1 → (∃ ok, r = .tuple #[.slice none 0 0, .bool ok] ∧ ok = false ∧ StoreR h m M F c p v (.bool false) h1) ∨ ∃ g, r = .tuple #[.slice (some ⟨g, p.n.toNat % 64 * 5, none⟩) c.toNat 0, .bool true] ∧ ∃ q gs B G, StoreI h1 q g gs B p.n.toNat w c G c.toNat [.int .i64 0] h1 ∧ 0 ≤ c ∧
      (∀ k, k < c.toNat → gs[(p.n.toNat + k) / 64]? = some (some g) ∧ (p.n.toNat + k) % 64 * 5 = p.n.toNat % 64 * 5 + k * 5) ∧ c ≤ 8 ∧ H.ro ≤ g ∧ h1.ro = H.ro ∧ (∀ h2, Eff (fun b => b = g) h1 h2 → h2.get (h.next + 1) = some (.cells [.int .i64 w.k, .int .i64 w.n, .int .i64 w.b] 24)) ∧
      ∀ h2, StoreI h1 q g gs B p.n.toNat w c G 0 [.int .i64 c.toNat] h2 → StoreR h m M F c p v (.bool true) h2 := by
    intro r h1 hr
    unfold AccW at hr
    cases e : right M c p with
    | none =>
      rw [e] at hr
      obtain ⟨rfl, e3⟩ := hr
      refine .inl ⟨_, rfl, rfl, ?_⟩
      rw [e] at hsm
      unfold StoreR
      rw [hsm]
      exact ⟨rfl, hm0 e3⟩
    | some i =>
      rw [e] at hr hsm
      obtain ⟨g, bs1, ps1, fs1, F1, q, qp, cq, gs, B, hB, rfl, x2, hq, hb, fq, full, hgs, ef, hsub⟩ := hr
      obtain ⟨hk, hcc, hi, B', hB', hn0, hn1, hn2⟩ := right_some e
      rw [hB] at hB'; cases hB'
      have fg := (full.hg _ g hgs).1
      refine .inr ⟨g, rfl, q, gs, B, fs1 i, ⟨0, by omega, by omega, rfl, .refl _ _, by rw [storeB_zero]; exact full⟩, by omega, fun k hk => ?_, by omega, by have := (x2.ok g (x2.sub i g fg)).1; have := ef.ro; omega, ef.ro, fun h2 e2 => ?_, fun h2 hst => ?_⟩
      · have hal : p.n.toNat % 64 + c.toNat ≤ 64 := by
          rw [Int.tmod_eq_emod_of_nonneg hn0] at hn2
          rcases hcc with rfl | rfl | rfl <;> omega
        exact ⟨by rw [show (p.n.toNat + k) / 64 = p.n.toNat / 64 by omega]; exact hgs, by omega⟩
      · have n1 : h.next + 1 ≠ g := by
          intro en
          rcases hsub g (x2.sub i g fg) with h3 | h3
          · have := (x.ok g h3).2; omega
          · omega
        rw [e2.get _ n1 (by have := ef.next; omega), ef.get _ (fun h3 => by have := (x.ok _ h3).2; omega) (by omega), hx]
      · obtain ⟨k, hk1, hk2, hk3, e2, full2⟩ := hst
        have hkc : k = c.toNat := by simp at hk3; omega
        subst hkc
        have hne : qp ≠ g := by
          intro en; subst en
          obtain ⟨cs, hc1, _⟩ := (full.hg _ qp hgs).2
          rw [hb] at hc1; simp at hc1
        have hb2 : h2.get qp = some (.cells [.int .i64 B.size, .slice (some ⟨q, 0, none⟩) gs.length cq, .bool B.freed] 60) := by rw [e2.get _ hne (x2.ok qp (x2.sub i qp fq)).2, hb]
        have y := x2.upd hq hB (B' := storeB B p.n.toNat w c.toNat) rfl (e2.mono (fun b (hb : b = g) => by rw [hb]; exact fg)) ⟨_, hb2, fq, .full q cq gs rfl full2⟩ (fun b hb => .inl hb) (fun b hb => by have := x2.ok b (x2.sub i b hb); have := e2.next; have := e2.ro; omega)
        unfold StoreR
        rw [hsm]
        simp only [hB, Option.map_some]
        have hsub2 : ∀ b, F1 b → F b ∨ h.next ≤ b := fun b hb => by
          rcases hsub b hb with q | q
          · exact .inl q
          · exact .inr (by omega)
        refine ⟨trivial, _, ⟨_, _, _, y⟩, ((eff.mono (fun _ q => q.elim)).trans ef).more e2 (fun b (hb : b = g) => by rw [hb]; exact hsub2 g (x2.sub i g fg)), fun b hb => ?_⟩
        rcases hb with hb | hb
        · exact hsub2 b hb
        · exact hsub2 b (x2.sub i b hb)
  rcases hways with ⟨w2, c8⟩ | w2
  · have d8 : decide (c = 8) = true := dec_t c8
    simp only [axt_20, axt_21, opt_some, optH_some, nb_cons, nb_nil, CD_true, CD_false, GD_tt, GD_ff, GD_tf, GD_ft, GD_un, pk_true, pk_false, nck_ptr, rv_one, rv_two, b_lss, b_leq, b_gtr, b_geq, b_eql, b_neq, b_add, b_sub, b_mul, b_quo, b_rem, b_shl, b_shr, b_and, b_or, b_xor, b_andNot, u_not, u_neg, nob_bool, nob_int, nob_string, nob_ptr, nob_slice, nob_map, nob_func, nob_nilf, nob_iface, nob_nili, nob_agg, nob_tuple, cok_bool, cok_int, cok_string, cok_ptr, cok_slice, cok_map, cok_func, nobot_nil, nobot_cons, onb_none, onb_some, cond_true, cond_false, abound_none, abound_int, Option.bind_some, Option.bind_none, nth, nw, Value.cells, BK, List.getElem?_cons_zero, List.getElem?_cons_succ, List.toList_toArray, Nat.zero_add, Nat.add_zero, List.length_cons, List.length_nil, List.length_replicate, List.length_map, List.length_set, List.all_cons, List.all_nil, setMany, List.set_cons_zero, List.set_cons_succ, List.drop_zero, List.take_zero, List.take_succ_cons, List.drop_succ_cons, List.take_nil, List.drop_nil, if_true, if_false, Bool.and_true, Bool.true_and, Nat.reduceAdd, Nat.reduceLeDiff, Nat.reduceMul, Nat.reduceMod, Nat.reduceDiv, Nat.reduceSub, Nat.reduceEqDiff, Nat.lt_irrefl, Int.reduceEq, Int.reduceLT, Int.reduceLE, Int.reduceAdd, Int.reduceSub, Int.reduceMul, Int.reduceNeg, Int.reduceToNat, and_true, true_and, Nat.le_refl, dec_t, dec_f, nxt_push, nxt_set, ro_pushk, ro_setk, next_lock, ro_lock, get_lock, get_push_self, get_push_eq, get_push_lt, get_set_self, get_set_ne, ne_eq, lt_add1, lt_add, sto, ldn, ld1, not_false_eq_true, not_true_eq_false, Bool.not_true, Bool.not_false, Bool.and_false, Bool.false_and, beq_self_eq_true, al_2, al_24, al_3, as_24, as_65, bd_24_, bd_65_, bd_65_0_1, bd_65_0_1_2, cv_2_5, cv_3_5, fa_24_0, fa_24_1, ix_61, len_61, hx, hp1, w2, d8]
    refine callV_of (by kernel_rfl) rfl hac ?_
    intro r h1 hr
    rcases hall r h1 hr with ⟨_, rfl, rfl, hf⟩ | ⟨g, rfl, q, gs, B, G, hI, hc0, hk, hc8, hgr, hr1, hbx, hend⟩
    · simp only [axt_20, axt_21, opt_some, optH_some, nb_cons, nb_nil, CD_true, CD_false, GD_tt, GD_ff, GD_tf, GD_ft, GD_un, pk_true, pk_false, nck_ptr, rv_one, rv_two, b_lss, b_leq, b_gtr, b_geq, b_eql, b_neq, b_add, b_sub, b_mul, b_quo, b_rem, b_shl, b_shr, b_and, b_or, b_xor, b_andNot, u_not, u_neg, nob_bool, nob_int, nob_string, nob_ptr, nob_slice, nob_map, nob_func, nob_nilf, nob_iface, nob_nili, nob_agg, nob_tuple, cok_bool, cok_int, cok_string, cok_ptr, cok_slice, cok_map, cok_func, nobot_nil, nobot_cons, onb_none, onb_some, cond_true, cond_false, abound_none, abound_int, Option.bind_some, Option.bind_none, nth, nw, Value.cells, BK, List.getElem?_cons_zero, List.getElem?_cons_succ, List.toList_toArray, Nat.zero_add, Nat.add_zero, List.length_cons, List.length_nil, List.length_replicate, List.length_map, List.length_set, List.all_cons, List.all_nil, setMany, List.set_cons_zero, List.set_cons_succ, List.drop_zero, List.take_zero, List.take_succ_cons, List.drop_succ_cons, List.take_nil, List.drop_nil, if_true, if_false, Bool.and_true, Bool.true_and, Nat.reduceAdd, Nat.reduceLeDiff, Nat.reduceMul, Nat.reduceMod, Nat.reduceDiv, Nat.reduceSub, Nat.reduceEqDiff, Nat.lt_irrefl, Int.reduceEq, Int.reduceLT, Int.reduceLE, Int.reduceAdd, Int.reduceSub, Int.reduceMul, Int.reduceNeg, Int.reduceToNat, and_true, true_and, Nat.le_refl, dec_t, dec_f, nxt_push, nxt_set, ro_pushk, ro_setk, next_lock, ro_lock, get_lock, get_push_self, get_push_eq, get_push_lt, get_set_self, get_set_ne, ne_eq, lt_add1, lt_add, sto, ldn, ld1, not_false_eq_true, not_true_eq_false, Bool.not_true, Bool.not_false, Bool.and_false, Bool.false_and, beq_self_eq_true, al_2, al_24, al_3, as_24, as_65, bd_24_, bd_65_, bd_65_0_1, bd_65_0_1_2, cv_2_5, cv_3_5, fa_24_0, fa_24_1, ix_61, len_61]
      exact hf
    · simp only [axt_20, axt_21, opt_some, optH_some, nb_cons, nb_nil, CD_true, CD_false, GD_tt, GD_ff, GD_tf, GD_ft, GD_un, pk_true, pk_false, nck_ptr, rv_one, rv_two, b_lss, b_leq, b_gtr, b_geq, b_eql, b_neq, b_add, b_sub, b_mul, b_quo, b_rem, b_shl, b_shr, b_and, b_or, b_xor, b_andNot, u_not, u_neg, nob_bool, nob_int, nob_string, nob_ptr, nob_slice, nob_map, nob_func, nob_nilf, nob_iface, nob_nili, nob_agg, nob_tuple, cok_bool, cok_int, cok_string, cok_ptr, cok_slice, cok_map, cok_func, nobot_nil, nobot_cons, onb_none, onb_some, cond_true, cond_false, abound_none, abound_int, Option.bind_some, Option.bind_none, nth, nw, Value.cells, BK, List.getElem?_cons_zero, List.getElem?_cons_succ, List.toList_toArray, Nat.zero_add, Nat.add_zero, List.length_cons, List.length_nil, List.length_replicate, List.length_map, List.length_set, List.all_cons, List.all_nil, setMany, List.set_cons_zero, List.set_cons_succ, List.drop_zero, List.take_zero, List.take_succ_cons, List.drop_succ_cons, List.take_nil, List.drop_nil, if_true, if_false, Bool.and_true, Bool.true_and, Nat.reduceAdd, Nat.reduceLeDiff, Nat.reduceMul, Nat.reduceMod, Nat.reduceDiv, Nat.reduceSub, Nat.reduceEqDiff, Nat.lt_irrefl, Int.reduceEq, Int.reduceLT, Int.reduceLE, Int.reduceAdd, Int.reduceSub, Int.reduceMul, Int.reduceNeg, Int.reduceToNat, and_true, true_and, Nat.le_refl, dec_t, dec_f, nxt_push, nxt_set, ro_pushk, ro_setk, next_lock, ro_lock, get_lock, get_push_self, get_push_eq, get_push_lt, get_set_self, get_set_ne, ne_eq, lt_add1, lt_add, sto, ldn, ld1, not_false_eq_true, not_true_eq_false, Bool.not_true, Bool.not_false, Bool.and_false, Bool.false_and, beq_self_eq_true, al_2, al_24, al_3, as_24, as_65, bd_24_, bd_65_, bd_65_0_1, bd_65_0_1_2, cv_2_5, cv_3_5, fa_24_0, fa_24_1, ix_61, len_61]
      refine LP_of (StoreI h1 q g gs B p.n.toNat w c G) c.toNat hI ?_
      rintro n vs h2 ⟨k, hk1, rfl, rfl, ef2, full2⟩
      by_cases hlt : k < c.toNat
      · have hki : (k : Int) < (c.toNat : Int) := by omega
        obtain ⟨hgk, hok⟩ := hk k hlt
        obtain ⟨cs, hcs, hle, hput⟩ := full2.put hgk
        have hput' := hput (cellOf w k)
        rw [hok] at hle hput'
        have hbx2 := hbx h2 ef2
        have hr2 : h2.ro ≤ g := by rw [ef2.ro, hr1]; exact hgr
        have hb1 : 0 ≤ (k : Int) ∧ (k : Int) < (c.toNat : Int) := by omega
        have hw1 : IntKind.wrap .i64 (8 * (k : Int)) = ((8 * k : Nat) : Int) := by rw [w64 (by omega) (by omega)]; omega
        have hw2 : IntKind.wrap .i64 ((k : Int) + 1) = ((k + 1 : Nat) : Int) := by rw [w64 (by omega) (by omega)]; omega
        have hk0 : 0 ≤ ((8 * k : Nat) : Int) := by omega
        have hmin : min (8 * k) IntKind.i64.bits = 8 * k := by show min (8 * k) 64 = _; omega
        have hnext : ∀ h3, h3 = h2.set g (some (.cells (setMany cs (p.n.toNat % 64 * 5 + k * 5) (cellOf w k).vals) 81)) → ∃ m, m < c.toNat - k ∧ StoreI h1 q g gs B p.n.toNat w c G m [.int .i64 ((k + 1 : Nat) : Int)] h3 := fun h3 e3 =>
          ⟨c.toNat - (k + 1), by omega, k + 1, by omega, rfl, rfl, by rw [e3]; exact ef2.set (.inl rfl) _, by rw [e3]; have := hput'; unfold upd at this; rw [← storeB_succ]; exact this⟩
        simp only [axt_20, axt_21, opt_some, optH_some, nb_cons, nb_nil, CD_true, CD_false, GD_tt, GD_ff, GD_tf, GD_ft, GD_un, pk_true, pk_false, nck_ptr, rv_one, rv_two, b_lss, b_leq, b_gtr, b_geq, b_eql, b_neq, b_add, b_sub, b_mul, b_quo, b_rem, b_shl, b_shr, b_and, b_or, b_xor, b_andNot, u_not, u_neg, nob_bool, nob_int, nob_string, nob_ptr, nob_slice, nob_map, nob_func, nob_nilf, nob_iface, nob_nili, nob_agg, nob_tuple, cok_bool, cok_int, cok_string, cok_ptr, cok_slice, cok_map, cok_func, nobot_nil, nobot_cons, onb_none, onb_some, cond_true, cond_false, abound_none, abound_int, Option.bind_some, Option.bind_none, nth, nw, Value.cells, BK, List.getElem?_cons_zero, List.getElem?_cons_succ, List.toList_toArray, Nat.zero_add, Nat.add_zero, List.length_cons, List.length_nil, List.length_replicate, List.length_map, List.length_set, List.all_cons, List.all_nil, setMany, List.set_cons_zero, List.set_cons_succ, List.drop_zero, List.take_zero, List.take_succ_cons, List.drop_succ_cons, List.take_nil, List.drop_nil, if_true, if_false, Bool.and_true, Bool.true_and, Nat.reduceAdd, Nat.reduceLeDiff, Nat.reduceMul, Nat.reduceMod, Nat.reduceDiv, Nat.reduceSub, Nat.reduceEqDiff, Nat.lt_irrefl, Int.reduceEq, Int.reduceLT, Int.reduceLE, Int.reduceAdd, Int.reduceSub, Int.reduceMul, Int.reduceNeg, Int.reduceToNat, and_true, true_and, Nat.le_refl, dec_t, dec_f, nxt_push, nxt_set, ro_pushk, ro_setk, next_lock, ro_lock, get_lock, get_push_self, get_push_eq, get_push_lt, get_set_self, get_set_ne, ne_eq, lt_add1, lt_add, sto, ldn, ld1, not_false_eq_true, not_true_eq_false, Bool.not_true, Bool.not_false, Bool.and_false, Bool.false_and, beq_self_eq_true, al_2, al_24, al_3, as_24, as_65, bd_24_, bd_65_, bd_65_0_1, bd_65_0_1_2, cv_2_5, cv_3_5, fa_24_0, fa_24_1, ix_61, len_61, hki, hbx2, hcs, hr2, hb1, hle, hw1, hw2, hk0, hmin, Int.toNat_natCast, w2]
        refine hnext _ ?_
        unfold cellOf Cl.vals
        simp only [w2, setMany, v0, unk, if_true, if_false, Int.reduceEq]
      · have hkc : k = c.toNat := by omega
        subst hkc
        have hki : ¬ (c.toNat : Int) < (c.toNat : Int) := by omega
        simp only [axt_20, axt_21, opt_some, optH_some, nb_cons, nb_nil, CD_true, CD_false, GD_tt, GD_ff, GD_tf, GD_ft, GD_un, pk_true, pk_false, nck_ptr, rv_one, rv_two, b_lss, b_leq, b_gtr, b_geq, b_eql, b_neq, b_add, b_sub, b_mul, b_quo, b_rem, b_shl, b_shr, b_and, b_or, b_xor, b_andNot, u_not, u_neg, nob_bool, nob_int, nob_string, nob_ptr, nob_slice, nob_map, nob_func, nob_nilf, nob_iface, nob_nili, nob_agg, nob_tuple, cok_bool, cok_int, cok_string, cok_ptr, cok_slice, cok_map, cok_func, nobot_nil, nobot_cons, onb_none, onb_some, cond_true, cond_false, abound_none, abound_int, Option.bind_some, Option.bind_none, nth, nw, Value.cells, BK, List.getElem?_cons_zero, List.getElem?_cons_succ, List.toList_toArray, Nat.zero_add, Nat.add_zero, List.length_cons, List.length_nil, List.length_replicate, List.length_map, List.length_set, List.all_cons, List.all_nil, setMany, List.set_cons_zero, List.set_cons_succ, List.drop_zero, List.take_zero, List.take_succ_cons, List.drop_succ_cons, List.take_nil, List.drop_nil, if_true, if_false, Bool.and_true, Bool.true_and, Nat.reduceAdd, Nat.reduceLeDiff, Nat.reduceMul, Nat.reduceMod, Nat.reduceDiv, Nat.reduceSub, Nat.reduceEqDiff, Nat.lt_irrefl, Int.reduceEq, Int.reduceLT, Int.reduceLE, Int.reduceAdd, Int.reduceSub, Int.reduceMul, Int.reduceNeg, Int.reduceToNat, and_true, true_and, Nat.le_refl, dec_t, dec_f, nxt_push, nxt_set, ro_pushk, ro_setk, next_lock, ro_lock, get_lock, get_push_self, get_push_eq, get_push_lt, get_set_self, get_set_ne, ne_eq, lt_add1, lt_add, sto, ldn, ld1, not_false_eq_true, not_true_eq_false, Bool.not_true, Bool.not_false, Bool.and_false, Bool.false_and, beq_self_eq_true, al_2, al_24, al_3, as_24, as_65, bd_24_, bd_65_, bd_65_0_1, bd_65_0_1_2, cv_2_5, cv_3_5, fa_24_0, fa_24_1, ix_61, len_61, hki]
        exact hend h2 ⟨c.toNat, by omega, by omega, rfl, ef2, full2⟩
  · simp only [axt_20, axt_21, opt_some, optH_some, nb_cons, nb_nil, CD_true, CD_false, GD_tt, GD_ff, GD_tf, GD_ft, GD_un, pk_true, pk_false, nck_ptr, rv_one, rv_two, b_lss, b_leq, b_gtr, b_geq, b_eql, b_neq, b_add, b_sub, b_mul, b_quo, b_rem, b_shl, b_shr, b_and, b_or, b_xor, b_andNot, u_not, u_neg, nob_bool, nob_int, nob_string, nob_ptr, nob_slice, nob_map, nob_func, nob_nilf, nob_iface, nob_nili, nob_agg, nob_tuple, cok_bool, cok_int, cok_string, cok_ptr, cok_slice, cok_map, cok_func, nobot_nil, nobot_cons, onb_none, onb_some, cond_true, cond_false, abound_none, abound_int, Option.bind_some, Option.bind_none, nth, nw, Value.cells, BK, List.getElem?_cons_zero, List.getElem?_cons_succ, List.toList_toArray, Nat.zero_add, Nat.add_zero, List.length_cons, List.length_nil, List.length_replicate, List.length_map, List.length_set, List.all_cons, List.all_nil, setMany, List.set_cons_zero, List.set_cons_succ, List.drop_zero, List.take_zero, List.take_succ_cons, List.drop_succ_cons, List.take_nil, List.drop_nil, if_true, if_false, Bool.and_true, Bool.true_and, Nat.reduceAdd, Nat.reduceLeDiff, Nat.reduceMul, Nat.reduceMod, Nat.reduceDiv, Nat.reduceSub, Nat.reduceEqDiff, Nat.lt_irrefl, Int.reduceEq, Int.reduceLT, Int.reduceLE, Int.reduceAdd, Int.reduceSub, Int.reduceMul, Int.reduceNeg, Int.reduceToNat, and_true, true_and, Nat.le_refl, dec_t, dec_f, nxt_push, nxt_set, ro_pushk, ro_setk, next_lock, ro_lock, get_lock, get_push_self, get_push_eq, get_push_lt, get_set_self, get_set_ne, ne_eq, lt_add1, lt_add, sto, ldn, ld1, not_false_eq_true, not_true_eq_false, Bool.not_true, Bool.not_false, Bool.and_false, Bool.false_and, beq_self_eq_true, al_2, al_24, al_3, as_24, as_65, bd_24_, bd_65_, bd_65_0_1, bd_65_0_1_2, cv_2_5, cv_3_5, fa_24_0, fa_24_1, ix_61, len_61, hx, hp1, w2]
    refine callV_of (by kernel_rfl) rfl hac ?_
    intro r h1 hr
    rcases hall r h1 hr with ⟨_, rfl, rfl, hf⟩ | ⟨g, rfl, q, gs, B, G, hI, hc0, hk, hc8, hgr, hr1, hbx, hend⟩
    · simp only [axt_20, axt_21, opt_some, optH_some, nb_cons, nb_nil, CD_true, CD_false, GD_tt, GD_ff, GD_tf, GD_ft, GD_un, pk_true, pk_false, nck_ptr, rv_one, rv_two, b_lss, b_leq, b_gtr, b_geq, b_eql, b_neq, b_add, b_sub, b_mul, b_quo, b_rem, b_shl, b_shr, b_and, b_or, b_xor, b_andNot, u_not, u_neg, nob_bool, nob_int, nob_string, nob_ptr, nob_slice, nob_map, nob_func, nob_nilf, nob_iface, nob_nili, nob_agg, nob_tuple, cok_bool, cok_int, cok_string, cok_ptr, cok_slice, cok_map, cok_func, nobot_nil, nobot_cons, onb_none, onb_some, cond_true, cond_false, abound_none, abound_int, Option.bind_some, Option.bind_none, nth, nw, Value.cells, BK, List.getElem?_cons_zero, List.getElem?_cons_succ, List.toList_toArray, Nat.zero_add, Nat.add_zero, List.length_cons, List.length_nil, List.length_replicate, List.length_map, List.length_set, List.all_cons, List.all_nil, setMany, List.set_cons_zero, List.set_cons_succ, List.drop_zero, List.take_zero, List.take_succ_cons, List.drop_succ_cons, List.take_nil, List.drop_nil, if_true, if_false, Bool.and_true, Bool.true_and, Nat.reduceAdd, Nat.reduceLeDiff, Nat.reduceMul, Nat.reduceMod, Nat.reduceDiv, Nat.reduceSub, Nat.reduceEqDiff, Nat.lt_irrefl, Int.reduceEq, Int.reduceLT, Int.reduceLE, Int.reduceAdd, Int.reduceSub, Int.reduceMul, Int.reduceNeg, Int.reduceToNat, and_true, true_and, Nat.le_refl, dec_t, dec_f, nxt_push, nxt_set, ro_pushk, ro_setk, next_lock, ro_lock, get_lock, get_push_self, get_push_eq, get_push_lt, get_set_self, get_set_ne, ne_eq, lt_add1, lt_add, sto, ldn, ld1, not_false_eq_true, not_true_eq_false, Bool.not_true, Bool.not_false, Bool.and_false, Bool.false_and, beq_self_eq_true, al_2, al_24, al_3, as_24, as_65, bd_24_, bd_65_, bd_65_0_1, bd_65_0_1_2, cv_2_5, cv_3_5, fa_24_0, fa_24_1, ix_61, len_61]
      exact hf
    · simp only [axt_20, axt_21, opt_some, optH_some, nb_cons, nb_nil, CD_true, CD_false, GD_tt, GD_ff, GD_tf, GD_ft, GD_un, pk_true, pk_false, nck_ptr, rv_one, rv_two, b_lss, b_leq, b_gtr, b_geq, b_eql, b_neq, b_add, b_sub, b_mul, b_quo, b_rem, b_shl, b_shr, b_and, b_or, b_xor, b_andNot, u_not, u_neg, nob_bool, nob_int, nob_string, nob_ptr, nob_slice, nob_map, nob_func, nob_nilf, nob_iface, nob_nili, nob_agg, nob_tuple, cok_bool, cok_int, cok_string, cok_ptr, cok_slice, cok_map, cok_func, nobot_nil, nobot_cons, onb_none, onb_some, cond_true, cond_false, abound_none, abound_int, Option.bind_some, Option.bind_none, nth, nw, Value.cells, BK, List.getElem?_cons_zero, List.getElem?_cons_succ, List.toList_toArray, Nat.zero_add, Nat.add_zero, List.length_cons, List.length_nil, List.length_replicate, List.length_map, List.length_set, List.all_cons, List.all_nil, setMany, List.set_cons_zero, List.set_cons_succ, List.drop_zero, List.take_zero, List.take_succ_cons, List.drop_succ_cons, List.take_nil, List.drop_nil, if_true, if_false, Bool.and_true, Bool.true_and, Nat.reduceAdd, Nat.reduceLeDiff, Nat.reduceMul, Nat.reduceMod, Nat.reduceDiv, Nat.reduceSub, Nat.reduceEqDiff, Nat.lt_irrefl, Int.reduceEq, Int.reduceLT, Int.reduceLE, Int.reduceAdd, Int.reduceSub, Int.reduceMul, Int.reduceNeg, Int.reduceToNat, and_true, true_and, Nat.le_refl, dec_t, dec_f, nxt_push, nxt_set, ro_pushk, ro_setk, next_lock, ro_lock, get_lock, get_push_self, get_push_eq, get_push_lt, get_set_self, get_set_ne, ne_eq, lt_add1, lt_add, sto, ldn, ld1, not_false_eq_true, not_true_eq_false, Bool.not_true, Bool.not_false, Bool.and_false, Bool.false_and, beq_self_eq_true, al_2, al_24, al_3, as_24, as_65, bd_24_, bd_65_, bd_65_0_1, bd_65_0_1_2, cv_2_5, cv_3_5, fa_24_0, fa_24_1, ix_61, len_61]
      refine LP_of (StoreI h1 q g gs B p.n.toNat w c G) c.toNat hI ?_
      rintro n vs h2 ⟨k, hk1, rfl, rfl, ef2, full2⟩
      by_cases hlt : k < c.toNat
      · have hki : (k : Int) < (c.toNat : Int) := by omega
        obtain ⟨hgk, hok⟩ := hk k hlt
        obtain ⟨cs, hcs, hle, hput⟩ := full2.put hgk
        have hput' := hput (cellOf w k)
        rw [hok] at hle hput'
        have hbx2 := hbx h2 ef2
        have hr2 : h2.ro ≤ g := by rw [ef2.ro, hr1]; exact hgr
        have hb1 : 0 ≤ (k : Int) ∧ (k : Int) < (c.toNat : Int) := by omega
        have hw1 : IntKind.wrap .i64 (8 * (k : Int)) = ((8 * k : Nat) : Int) := by rw [w64 (by omega) (by omega)]; omega
        have hw2 : IntKind.wrap .i64 ((k : Int) + 1) = ((k + 1 : Nat) : Int) := by rw [w64 (by omega) (by omega)]; omega
        have hk0 : 0 ≤ ((8 * k : Nat) : Int) := by omega
        have hmin : min (8 * k) IntKind.i64.bits = 8 * k := by show min (8 * k) 64 = _; omega
        have hnext : ∀ h3, h3 = h2.set g (some (.cells (setMany cs (p.n.toNat % 64 * 5 + k * 5) (cellOf w k).vals) 81)) → ∃ m, m < c.toNat - k ∧ StoreI h1 q g gs B p.n.toNat w c G m [.int .i64 ((k + 1 : Nat) : Int)] h3 := fun h3 e3 =>
          ⟨c.toNat - (k + 1), by omega, k + 1, by omega, rfl, rfl, by rw [e3]; exact ef2.set (.inl rfl) _, by rw [e3]; have := hput'; unfold upd at this; rw [← storeB_succ]; exact this⟩
        by_cases w1 : w.k = 1
        · simp only [axt_20, axt_21, opt_some, optH_some, nb_cons, nb_nil, CD_true, CD_false, GD_tt, GD_ff, GD_tf, GD_ft, GD_un, pk_true, pk_false, nck_ptr, rv_one, rv_two, b_lss, b_leq, b_gtr, b_geq, b_eql, b_neq, b_add, b_sub, b_mul, b_quo, b_rem, b_shl, b_shr, b_and, b_or, b_xor, b_andNot, u_not, u_neg, nob_bool, nob_int, nob_string, nob_ptr, nob_slice, nob_map, nob_func, nob_nilf, nob_iface, nob_nili, nob_agg, nob_tuple, cok_bool, cok_int, cok_string, cok_ptr, cok_slice, cok_map, cok_func, nobot_nil, nobot_cons, onb_none, onb_some, cond_true, cond_false, abound_none, abound_int, Option.bind_some, Option.bind_none, nth, nw, Value.cells, BK, List.getElem?_cons_zero, List.getElem?_cons_succ, List.toList_toArray, Nat.zero_add, Nat.add_zero, List.length_cons, List.length_nil, List.length_replicate, List.length_map, List.length_set, List.all_cons, List.all_nil, setMany, List.set_cons_zero, List.set_cons_succ, List.drop_zero, List.take_zero, List.take_succ_cons, List.drop_succ_cons, List.take_nil, List.drop_nil, if_true, if_false, Bool.and_true, Bool.true_and, Nat.reduceAdd, Nat.reduceLeDiff, Nat.reduceMul, Nat.reduceMod, Nat.reduceDiv, Nat.reduceSub, Nat.reduceEqDiff, Nat.lt_irrefl, Int.reduceEq, Int.reduceLT, Int.reduceLE, Int.reduceAdd, Int.reduceSub, Int.reduceMul, Int.reduceNeg, Int.reduceToNat, and_true, true_and, Nat.le_refl, dec_t, dec_f, nxt_push, nxt_set, ro_pushk, ro_setk, next_lock, ro_lock, get_lock, get_push_self, get_push_eq, get_push_lt, get_set_self, get_set_ne, ne_eq, lt_add1, lt_add, sto, ldn, ld1, not_false_eq_true, not_true_eq_false, Bool.not_true, Bool.not_false, Bool.and_false, Bool.false_and, beq_self_eq_true, al_2, al_24, al_3, as_24, as_65, bd_24_, bd_65_, bd_65_0_1, bd_65_0_1_2, cv_2_5, cv_3_5, fa_24_0, fa_24_1, ix_61, len_61, hki, hbx2, hcs, hr2, hb1, hle, hw1, hw2, hk0, hmin, Int.toNat_natCast, w1]
          refine hnext _ ?_
          unfold cellOf Cl.vals
          simp only [w1, setMany, v0, unk, if_true, if_false, Int.reduceEq]
        · simp only [axt_20, axt_21, opt_some, optH_some, nb_cons, nb_nil, CD_true, CD_false, GD_tt, GD_ff, GD_tf, GD_ft, GD_un, pk_true, pk_false, nck_ptr, rv_one, rv_two, b_lss, b_leq, b_gtr, b_geq, b_eql, b_neq, b_add, b_sub, b_mul, b_quo, b_rem, b_shl, b_shr, b_and, b_or, b_xor, b_andNot, u_not, u_neg, nob_bool, nob_int, nob_string, nob_ptr, nob_slice, nob_map, nob_func, nob_nilf, nob_iface, nob_nili, nob_agg, nob_tuple, cok_bool, cok_int, cok_string, cok_ptr, cok_slice, cok_map, cok_func, nobot_nil, nobot_cons, onb_none, onb_some, cond_true, cond_false, abound_none, abound_int, Option.bind_some, Option.bind_none, nth, nw, Value.cells, BK, List.getElem?_cons_zero, List.getElem?_cons_succ, List.toList_toArray, Nat.zero_add, Nat.add_zero, List.length_cons, List.length_nil, List.length_replicate, List.length_map, List.length_set, List.all_cons, List.all_nil, setMany, List.set_cons_zero, List.set_cons_succ, List.drop_zero, List.take_zero, List.take_succ_cons, List.drop_succ_cons, List.take_nil, List.drop_nil, if_true, if_false, Bool.and_true, Bool.true_and, Nat.reduceAdd, Nat.reduceLeDiff, Nat.reduceMul, Nat.reduceMod, Nat.reduceDiv, Nat.reduceSub, Nat.reduceEqDiff, Nat.lt_irrefl, Int.reduceEq, Int.reduceLT, Int.reduceLE, Int.reduceAdd, Int.reduceSub, Int.reduceMul, Int.reduceNeg, Int.reduceToNat, and_true, true_and, Nat.le_refl, dec_t, dec_f, nxt_push, nxt_set, ro_pushk, ro_setk, next_lock, ro_lock, get_lock, get_push_self, get_push_eq, get_push_lt, get_set_self, get_set_ne, ne_eq, lt_add1, lt_add, sto, ldn, ld1, not_false_eq_true, not_true_eq_false, Bool.not_true, Bool.not_false, Bool.and_false, Bool.false_and, beq_self_eq_true, al_2, al_24, al_3, as_24, as_65, bd_24_, bd_65_, bd_65_0_1, bd_65_0_1_2, cv_2_5, cv_3_5, fa_24_0, fa_24_1, ix_61, len_61, hki, hbx2, hcs, hr2, hb1, hle, hw1, hw2, hk0, hmin, Int.toNat_natCast, w1, w2]
          refine hnext _ ?_
          unfold cellOf Cl.vals
          simp only [w1, w2, setMany, v0, unk, if_true, if_false, Int.reduceEq]
      · have hkc : k = c.toNat := by omega
        subst hkc
        have hki : ¬ (c.toNat : Int) < (c.toNat : Int) := by omega
        simp only [axt_20, axt_21, opt_some, optH_some, nb_cons, nb_nil, CD_true, CD_false, GD_tt, GD_ff, GD_tf, GD_ft, GD_un, pk_true, pk_false, nck_ptr, rv_one, rv_two, b_lss, b_leq, b_gtr, b_geq, b_eql, b_neq, b_add, b_sub, b_mul, b_quo, b_rem, b_shl, b_shr, b_and, b_or, b_xor, b_andNot, u_not, u_neg, nob_bool, nob_int, nob_string, nob_ptr, nob_slice, nob_map, nob_func, nob_nilf, nob_iface, nob_nili, nob_agg, nob_tuple, cok_bool, cok_int, cok_string, cok_ptr, cok_slice, cok_map, cok_func, nobot_nil, nobot_cons, onb_none, onb_some, cond_true, cond_false, abound_none, abound_int, Option.bind_some, Option.bind_none, nth, nw, Value.cells, BK, List.getElem?_cons_zero, List.getElem?_cons_succ, List.toList_toArray, Nat.zero_add, Nat.add_zero, List.length_cons, List.length_nil, List.length_replicate, List.length_map, List.length_set, List.all_cons, List.all_nil, setMany, List.set_cons_zero, List.set_cons_succ, List.drop_zero, List.take_zero, List.take_succ_cons, List.drop_succ_cons, List.take_nil, List.drop_nil, if_true, if_false, Bool.and_true, Bool.true_and, Nat.reduceAdd, Nat.reduceLeDiff, Nat.reduceMul, Nat.reduceMod, Nat.reduceDiv, Nat.reduceSub, Nat.reduceEqDiff, Nat.lt_irrefl, Int.reduceEq, Int.reduceLT, Int.reduceLE, Int.reduceAdd, Int.reduceSub, Int.reduceMul, Int.reduceNeg, Int.reduceToNat, and_true, true_and, Nat.le_refl, dec_t, dec_f, nxt_push, nxt_set, ro_pushk, ro_setk, next_lock, ro_lock, get_lock, get_push_self, get_push_eq, get_push_lt, get_set_self, get_set_ne, ne_eq, lt_add1, lt_add, sto, ldn, ld1, not_false_eq_true, not_true_eq_false, Bool.not_true, Bool.not_false, Bool.and_false, Bool.false_and, beq_self_eq_true, al_2, al_24, al_3, as_24, as_65, bd_24_, bd_65_, bd_65_0_1, bd_65_0_1_2, cv_2_5, cv_3_5, fa_24_0, fa_24_1, ix_61, len_61, hki]
        exact hend h2 ⟨c.toNat, by omega, by omega, rfl, ef2, full2⟩
end
end Go.Mem
