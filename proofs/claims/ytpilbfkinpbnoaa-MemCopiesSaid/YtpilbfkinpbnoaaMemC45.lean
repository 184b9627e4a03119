/-
  MEMORY: loads.
-/
import Derived.Test.YtpilbfkinpbnoaaMemC3
namespace Go.Mem
open Go.Ai Go.Proofs
set_option linter.unusedVariables false
set_option linter.unusedSimpArgs false
/-- Bytes put together, the lowest first. -/
def numF (f : Nat → Cl) (n : Nat) : Nat → Int
  | 0 => 0
  | k + 1 => IntKind.wrap .u64 ((BitVec.ofInt 64 (numF f n k) ||| BitVec.ofInt 64 (IntKind.wrap .u64 (IntKind.wrap .u64 (f (n + k)).n * 2 ^ (8 * k)))).toNat)
def numsF (f : Nat → Cl) (n : Nat) : Nat → Bool
  | 0 => true
  | k + 1 => numsF f n k && decide ((f (n + k)).k = 1)
def partsF (f : Nat → Cl) (n : Nat) (c : Int) : Nat → Bool
  | 0 => decide (c = 8)
  | k + 1 => partsF f n c k && decide ((f (n + k)).k = 2) && decide (IntKind.wrap .i64 (f (n + k)).n = k) && decide ((f (n + k)).p = (f n).p)
def loadV (f : Nat → Cl) (n : Nat) (c : Int) : V :=
  if numsF f n c.toNat = true then ⟨1, if c = 8 then IntKind.wrap .i64 (numF f n c.toNat) else if c = 4 then IntKind.wrap .i64 (IntKind.wrap .i32 (numF f n c.toNat)) else IntKind.wrap .i64 (IntKind.wrap .i8 (numF f n c.toNat)), 0⟩
  else if partsF f n c c.toNat = true then (f n).p else v0
def loadM (M : MM) (c : Int) (p : V) : Option V := match right M c p with
  | none => none
  | some i => (M[i]?).map fun B => loadV B.byte p.n.toNat c
def LoadR (M : MM) (c : Int) (p : V) (v : Value) : Prop := match loadM M c p with
  | none => v = .tuple #[v0.val, .bool false]
  | some a => v = .tuple #[a.val, .bool true]
theorem take_vals {cs : List Value} {o : Nat} {c : Cl} (h : ∀ j, j < 5 → cs[o + j]? = c.vals[j]?) : (cs.drop o).take 5 = c.vals := by
  apply List.ext_getElem?
  intro j
  by_cases hj : j < 5
  · rw [List.getElem?_take_of_lt hj, List.getElem?_drop]; exact h j hj
  · rw [List.getElem?_eq_none (by simp; omega), List.getElem?_eq_none (by show 5 ≤ j; omega)]
theorem take_p {cs : List Value} {o : Nat} {c : Cl} (h : ∀ j, j < 5 → cs[o + j]? = c.vals[j]?) : (cs.drop (o + 2)).take 3 = [.int .i64 c.p.k, .int .i64 c.p.n, .int .i64 c.p.b] := by
  have := congrArg (List.drop 2) (take_vals h)
  rw [List.drop_take, List.drop_drop] at this
  exact this
theorem veq (a b : V) : ((a.k == b.k) && ((a.n == b.n) && (a.b == b.b))) = decide (a = b) := by
  obtain ⟨a1, a2, a3⟩ := a
  obtain ⟨b1, b2, b3⟩ := b
  rw [Bool.eq_iff_iff]
  simp
theorem nums_unk {f : Nat → Cl} {n c : Nat} (h : ∀ k, k < c → f (n + k) = unk) (h1 : 1 ≤ c) : numsF f n c = false := by
  cases c with
  | zero => omega
  | succ c => unfold numsF; rw [h c (by omega)]; simp [unk]
theorem parts_unk {f : Nat → Cl} {n c : Nat} {d : Int} (h : ∀ k, k < c → f (n + k) = unk) (h1 : 1 ≤ c) : partsF f n d c = false := by
  cases c with
  | zero => omega
  | succ c => unfold partsF; rw [h c (by omega)]; simp [unk]
section
variable {h : AHeap} {m : Nat} {bs : Value} {ps : List Nat} {fs : Nat → Nat → Prop} {M : MM} {F : Nat → Prop} {c : Int} {p : V}
def LoadI (h : AHeap) (f : Nat → Cl) (n : Nat) (c : Int) (m : Nat) (vs : List Value) (h' : AHeap) : Prop :=
  ∃ k, k ≤ c.toNat ∧ m = c.toNat - k ∧ vs = [.int .u64 (numF f n k), .bool (numsF f n k), .bool (partsF f n c k), .int .i64 k] ∧ Eff nof h h'
theorem load_ok (x : MemO h m bs ps fs M F) (hs : small M) (hc : in64 c) (hp : p.ok) :
    DC Try.prog 11 [.pointer (some ⟨m, 0, none⟩), .int .i64 c, p.val] h (fun v h1 => Eff nof h h1 ∧ LoadR M c p v) := by
  apply DC_wf; intro hwf; have hro := hwf.2
  apply W_Load_ok
  unfold W_Load
  have e1 : p.val = .agg #[.int .i64 p.k, .int .i64 p.n, .int .i64 p.b] := rfl
  have eff : Eff nof h ((h.push (.cells [.int .i64 p.k, .int .i64 p.n, .int .i64 p.b] 24)).push (.cells [.int .i64 0, .int .i64 0, .int .i64 0] 24)) := ((Eff.refl _ _).push _).push _
  have x1 : MemO ((h.push (.cells [.int .i64 p.k, .int .i64 p.n, .int .i64 p.b] 24)).push (.cells [.int .i64 0, .int .i64 0, .int .i64 0] 24)) m bs ps fs M F :=
    x.keep (fun b hb => eff.get b (fun e => e) (x.ok b hb).2) eff.next eff.ro
  have hac := access_r (c := c) (p := p) x1 hs hc hp
  rw [e1]
  simp only [axt_20, axt_21, opt_some, optH_some, nb_cons, nb_nil, CD_true, CD_false, GD_tt, GD_ff, GD_tf, GD_ft, GD_un, pk_true, pk_false, nck_ptr, rv_one, rv_two, b_lss, b_leq, b_gtr, b_geq, b_eql, b_neq, b_add, b_sub, b_mul, b_quo, b_rem, b_shl, b_shr, b_and, b_or, b_xor, b_andNot, u_not, u_neg, nob_bool, nob_int, nob_string, nob_ptr, nob_slice, nob_map, nob_func, nob_nilf, nob_iface, nob_nili, nob_agg, nob_tuple, cok_bool, cok_int, cok_string, cok_ptr, cok_slice, cok_map, cok_func, nobot_nil, nobot_cons, onb_none, onb_some, cond_true, cond_false, abound_none, abound_int, Option.bind_some, Option.bind_none, nth, nw, Value.cells, BK, List.getElem?_cons_zero, List.getElem?_cons_succ, List.toList_toArray, Nat.zero_add, Nat.add_zero, List.length_cons, List.length_nil, List.length_replicate, List.length_map, List.length_set, List.all_cons, List.all_nil, setMany, List.set_cons_zero, List.set_cons_succ, List.drop_zero, List.take_zero, List.take_succ_cons, List.drop_succ_cons, List.take_nil, List.drop_nil, if_true, if_false, Bool.and_true, Bool.true_and, Nat.reduceAdd, Nat.reduceLeDiff, Nat.reduceMul, Nat.reduceMod, Nat.reduceDiv, Nat.reduceSub, Nat.reduceEqDiff, Nat.lt_irrefl, Int.reduceEq, Int.reduceLT, Int.reduceLE, Int.reduceAdd, Int.reduceSub, Int.reduceMul, Int.reduceNeg, Int.reduceToNat, and_true, true_and, Nat.le_refl, dec_t, dec_f, nxt_push, nxt_set, ro_pushk, ro_setk, next_lock, ro_lock, get_lock, get_push_self, get_push_eq, get_push_lt, get_set_self, get_set_ne, ne_eq, lt_add1, lt_add, sto, ldn, ld1, not_false_eq_true, not_true_eq_false, Bool.not_true, Bool.not_false, Bool.and_false, Bool.false_and, beq_self_eq_true, al_24, al_5, al_65, as_24, as_65, az_24, az_65, bd_24_, cv_21_2, cv_5_3, cv_5_66, cv_66_2, cv_66_21, cv_66_67, cv_67_2, eql0_61, eql_24, eql_61, fa_65_0, fa_65_1, fa_65_2, ix_61, len_61]
  rw [e1] at hac
  refine callV_of (by kernel_rfl) rfl hac ?_
  rintro v h1 ⟨ef, hr⟩
  have hl : h1.get (h.next + 1) = some (.cells [.int .i64 0, .int .i64 0, .int .i64 0] 24) := by
    rw [ef.get _ (fun e => e) (by simp only [nxt_push]; omega)]
    exact get_push_eq (by simp only [nxt_push])
  have hr1 : h1.ro ≤ h.next + 1 := by rw [ef.ro]; simp only [ro_pushk]; omega
  have hpost : ∀ a, loadM M c p = some a → LoadR M c p (.tuple #[.agg #[.int .i64 a.k, .int .i64 a.n, .int .i64 a.b], .bool true]) := fun a ha => by unfold LoadR; rw [ha]; rfl
  cases e : right M c p with
  | none =>
    rw [e] at hr
    subst hr
    simp only [axt_20, axt_21, opt_some, optH_some, nb_cons, nb_nil, CD_true, CD_false, GD_tt, GD_ff, GD_tf, GD_ft, GD_un, pk_true, pk_false, nck_ptr, rv_one, rv_two, b_lss, b_leq, b_gtr, b_geq, b_eql, b_neq, b_add, b_sub, b_mul, b_quo, b_rem, b_shl, b_shr, b_and, b_or, b_xor, b_andNot, u_not, u_neg, nob_bool, nob_int, nob_string, nob_ptr, nob_slice, nob_map, nob_func, nob_nilf, nob_iface, nob_nili, nob_agg, nob_tuple, cok_bool, cok_int, cok_string, cok_ptr, cok_slice, cok_map, cok_func, nobot_nil, nobot_cons, onb_none, onb_some, cond_true, cond_false, abound_none, abound_int, Option.bind_some, Option.bind_none, nth, nw, Value.cells, BK, List.getElem?_cons_zero, List.getElem?_cons_succ, List.toList_toArray, Nat.zero_add, Nat.add_zero, List.length_cons, List.length_nil, List.length_replicate, List.length_map, List.length_set, List.all_cons, List.all_nil, setMany, List.set_cons_zero, List.set_cons_succ, List.drop_zero, List.take_zero, List.take_succ_cons, List.drop_succ_cons, List.take_nil, List.drop_nil, if_true, if_false, Bool.and_true, Bool.true_and, Nat.reduceAdd, Nat.reduceLeDiff, Nat.reduceMul, Nat.reduceMod, Nat.reduceDiv, Nat.reduceSub, Nat.reduceEqDiff, Nat.lt_irrefl, Int.reduceEq, Int.reduceLT, Int.reduceLE, Int.reduceAdd, Int.reduceSub, Int.reduceMul, Int.reduceNeg, Int.reduceToNat, and_true, true_and, Nat.le_refl, dec_t, dec_f, nxt_push, nxt_set, ro_pushk, ro_setk, next_lock, ro_lock, get_lock, get_push_self, get_push_eq, get_push_lt, get_set_self, get_set_ne, ne_eq, lt_add1, lt_add, sto, ldn, ld1, not_false_eq_true, not_true_eq_false, Bool.not_true, Bool.not_false, Bool.and_false, Bool.false_and, beq_self_eq_true, al_24, al_5, al_65, as_24, as_65, az_24, az_65, bd_24_, cv_21_2, cv_5_3, cv_5_66, cv_66_2, cv_66_21, cv_66_67, cv_67_2, eql0_61, eql_24, eql_61, fa_65_0, fa_65_1, fa_65_2, ix_61, len_61, hl, hr1]
    exact ⟨(eff.trans ef).set (.inr (by omega)) _, by unfold LoadR loadM; rw [e]; rfl⟩
  | some i =>
    rw [e] at hr
    obtain ⟨s, rfl, hcell⟩ := hr
    obtain ⟨hk, hcc, hi, B, hB, hn0, hn1, hn2⟩ := right_some e
    have hlm : loadM M c p = some (loadV B.byte p.n.toNat c) := by unfold loadM; rw [e]; simp only [hB]; rfl
    have hc1 : 1 ≤ c.toNat ∧ c.toNat ≤ 8 := by omega
    rcases hcell B hB with ⟨rfl, hu⟩ | ⟨g, off, cs, cp, rfl, fg, hg, hlen, hoff, hcs⟩
    · simp only [axt_20, axt_21, opt_some, optH_some, nb_cons, nb_nil, CD_true, CD_false, GD_tt, GD_ff, GD_tf, GD_ft, GD_un, pk_true, pk_false, nck_ptr, rv_one, rv_two, b_lss, b_leq, b_gtr, b_geq, b_eql, b_neq, b_add, b_sub, b_mul, b_quo, b_rem, b_shl, b_shr, b_and, b_or, b_xor, b_andNot, u_not, u_neg, nob_bool, nob_int, nob_string, nob_ptr, nob_slice, nob_map, nob_func, nob_nilf, nob_iface, nob_nili, nob_agg, nob_tuple, cok_bool, cok_int, cok_string, cok_ptr, cok_slice, cok_map, cok_func, nobot_nil, nobot_cons, onb_none, onb_some, cond_true, cond_false, abound_none, abound_int, Option.bind_some, Option.bind_none, nth, nw, Value.cells, BK, List.getElem?_cons_zero, List.getElem?_cons_succ, List.toList_toArray, Nat.zero_add, Nat.add_zero, List.length_cons, List.length_nil, List.length_replicate, List.length_map, List.length_set, List.all_cons, List.all_nil, setMany, List.set_cons_zero, List.set_cons_succ, List.drop_zero, List.take_zero, List.take_succ_cons, List.drop_succ_cons, List.take_nil, List.drop_nil, if_true, if_false, Bool.and_true, Bool.true_and, Nat.reduceAdd, Nat.reduceLeDiff, Nat.reduceMul, Nat.reduceMod, Nat.reduceDiv, Nat.reduceSub, Nat.reduceEqDiff, Nat.lt_irrefl, Int.reduceEq, Int.reduceLT, Int.reduceLE, Int.reduceAdd, Int.reduceSub, Int.reduceMul, Int.reduceNeg, Int.reduceToNat, and_true, true_and, Nat.le_refl, dec_t, dec_f, nxt_push, nxt_set, ro_pushk, ro_setk, next_lock, ro_lock, get_lock, get_push_self, get_push_eq, get_push_lt, get_set_self, get_set_ne, ne_eq, lt_add1, lt_add, sto, ldn, ld1, not_false_eq_true, not_true_eq_false, Bool.not_true, Bool.not_false, Bool.and_false, Bool.false_and, beq_self_eq_true, al_24, al_5, al_65, as_24, as_65, az_24, az_65, bd_24_, cv_21_2, cv_5_3, cv_5_66, cv_66_2, cv_66_21, cv_66_67, cv_67_2, eql0_61, eql_24, eql_61, fa_65_0, fa_65_1, fa_65_2, ix_61, len_61, hl, hr1]
      refine ⟨(eff.trans ef).set (.inr (by omega)) _, ?_⟩
      have : loadV B.byte p.n.toNat c = v0 := by
        unfold loadV; rw [nums_unk hu hc1.1, parts_unk hu hc1.1]; rfl
      rw [this] at hlm
      exact hpost _ hlm
    · simp only [axt_20, axt_21, opt_some, optH_some, nb_cons, nb_nil, CD_true, CD_false, GD_tt, GD_ff, GD_tf, GD_ft, GD_un, pk_true, pk_false, nck_ptr, rv_one, rv_two, b_lss, b_leq, b_gtr, b_geq, b_eql, b_neq, b_add, b_sub, b_mul, b_quo, b_rem, b_shl, b_shr, b_and, b_or, b_xor, b_andNot, u_not, u_neg, nob_bool, nob_int, nob_string, nob_ptr, nob_slice, nob_map, nob_func, nob_nilf, nob_iface, nob_nili, nob_agg, nob_tuple, cok_bool, cok_int, cok_string, cok_ptr, cok_slice, cok_map, cok_func, nobot_nil, nobot_cons, onb_none, onb_some, cond_true, cond_false, abound_none, abound_int, Option.bind_some, Option.bind_none, nth, nw, Value.cells, BK, List.getElem?_cons_zero, List.getElem?_cons_succ, List.toList_toArray, Nat.zero_add, Nat.add_zero, List.length_cons, List.length_nil, List.length_replicate, List.length_map, List.length_set, List.all_cons, List.all_nil, setMany, List.set_cons_zero, List.set_cons_succ, List.drop_zero, List.take_zero, List.take_succ_cons, List.drop_succ_cons, List.take_nil, List.drop_nil, if_true, if_false, Bool.and_true, Bool.true_and, Nat.reduceAdd, Nat.reduceLeDiff, Nat.reduceMul, Nat.reduceMod, Nat.reduceDiv, Nat.reduceSub, Nat.reduceEqDiff, Nat.lt_irrefl, Int.reduceEq, Int.reduceLT, Int.reduceLE, Int.reduceAdd, Int.reduceSub, Int.reduceMul, Int.reduceNeg, Int.reduceToNat, and_true, true_and, Nat.le_refl, dec_t, dec_f, nxt_push, nxt_set, ro_pushk, ro_setk, next_lock, ro_lock, get_lock, get_push_self, get_push_eq, get_push_lt, get_set_self, get_set_ne, ne_eq, lt_add1, lt_add, sto, ldn, ld1, not_false_eq_true, not_true_eq_false, Bool.not_true, Bool.not_false, Bool.and_false, Bool.false_and, beq_self_eq_true, al_24, al_5, al_65, as_24, as_65, az_24, az_65, bd_24_, cv_21_2, cv_5_3, cv_5_66, cv_66_2, cv_66_21, cv_66_67, cv_67_2, eql0_61, eql_24, eql_61, fa_65_0, fa_65_1, fa_65_2, ix_61, len_61, hl, hr1]
      refine LP_of (LoadI h1 B.byte p.n.toNat c) c.toNat ⟨0, by omega, by omega, rfl, .refl _ _⟩ ?_
      rintro n vs h2 ⟨k, hk1, rfl, rfl, ef2⟩
      have hg2 : h2.get g = some (.cells cs 81) := by rw [ef2.get g (fun e => e) (by have := (x.ok g fg).2; have := ef.next; have := eff.next; omega), hg]
      by_cases hlt : k < c.toNat
      · have hki : (k : Int) < (c.toNat : Int) := by omega
        have hcel := take_vals (hcs k · hlt)
        have hc0 := take_vals (hcs 0 · (by omega))
        have hb1 : 0 ≤ (k : Int) ∧ (k : Int) < (c.toNat : Int) := by omega
        have hb2 : off + k * 5 + 5 ≤ cs.length := by omega
        have hb3 : off + 5 ≤ cs.length := by omega
        have hb4 : 0 ≤ (0 : Int) ∧ (0 : Int) < (c.toNat : Int) := by omega
        have hw1 : IntKind.wrap .i64 (8 * (k : Int)) = ((8 * k : Nat) : Int) := by rw [w64 (by omega) (by omega)]; omega
        have hw2 : IntKind.wrap .i64 ((k : Int) + 1) = ((k + 1 : Nat) : Int) := by rw [w64 (by omega) (by omega)]; omega
        have hr2 : h2.ro ≤ h2.next := by have := ef2.ro; have := ef2.next; have := ef.next; simp only [nxt_push] at this; omega
        have hk0 : 0 ≤ ((8 * k : Nat) : Int) := by omega
        have hmin : min (8 * k) IntKind.u64.bits = 8 * k := by show min (8 * k) 64 = _; omega
        have hnext : ∀ {a b d h3}, Eff nof h2 h3 → a = numF B.byte p.n.toNat (k + 1) → b = numsF B.byte p.n.toNat (k + 1) → d = partsF B.byte p.n.toNat c (k + 1) → ∃ m, m < c.toNat - k ∧ LoadI h1 B.byte p.n.toNat c m [.int .u64 a, .bool b, .bool d, .int .i64 ((k + 1 : Nat) : Int)] h3 := fun ef3 ea eb ed =>
          ⟨c.toNat - (k + 1), by omega, k + 1, by omega, rfl, by rw [ea, eb, ed], ef2.trans ef3⟩
        have hefn : ∀ l l', Eff nof h2 ((h2.push (.cells l 65)).set h2.next (some (.cells l' 65))) := fun l l' => ((Eff.refl _ _).push _).set (.inr (Nat.le_refl _)) _
        have hgn : ∀ l l', ((h2.push (.cells l 65)).set h2.next (some (.cells l' 65))).get g = some (.cells cs 81) := fun l l' => by rw [(hefn l l').get g (fun e => e) (by have := (x.ok g fg).2; have := ef.next; have := eff.next; have := ef2.next; omega), hg2]
        simp only [Cl.vals] at hcel hc0
        have hp3 : (cs.drop (off + 2)).take 3 = [.int .i64 (B.byte p.n.toNat).p.k, .int .i64 (B.byte p.n.toNat).p.n, .int .i64 (B.byte p.n.toNat).p.b] := take_p (fun j hj => by simpa using hcs 0 j (by omega) hj)
        have hb5 : off + 2 + 3 ≤ cs.length := by omega
        cases hP : partsF B.byte p.n.toNat c k with
        | false =>
          cases hN : numsF B.byte p.n.toNat k
          all_goals
            simp only [axt_20, axt_21, opt_some, optH_some, nb_cons, nb_nil, CD_true, CD_false, GD_tt, GD_ff, GD_tf, GD_ft, GD_un, pk_true, pk_false, nck_ptr, rv_one, rv_two, b_lss, b_leq, b_gtr, b_geq, b_eql, b_neq, b_add, b_sub, b_mul, b_quo, b_rem, b_shl, b_shr, b_and, b_or, b_xor, b_andNot, u_not, u_neg, nob_bool, nob_int, nob_string, nob_ptr, nob_slice, nob_map, nob_func, nob_nilf, nob_iface, nob_nili, nob_agg, nob_tuple, cok_bool, cok_int, cok_string, cok_ptr, cok_slice, cok_map, cok_func, nobot_nil, nobot_cons, onb_none, onb_some, cond_true, cond_false, abound_none, abound_int, Option.bind_some, Option.bind_none, nth, nw, Value.cells, BK, List.getElem?_cons_zero, List.getElem?_cons_succ, List.toList_toArray, Nat.zero_add, Nat.add_zero, List.length_cons, List.length_nil, List.length_replicate, List.length_map, List.length_set, List.all_cons, List.all_nil, setMany, List.set_cons_zero, List.set_cons_succ, List.drop_zero, List.take_zero, List.take_succ_cons, List.drop_succ_cons, List.take_nil, List.drop_nil, if_true, if_false, Bool.and_true, Bool.true_and, Nat.reduceAdd, Nat.reduceLeDiff, Nat.reduceMul, Nat.reduceMod, Nat.reduceDiv, Nat.reduceSub, Nat.reduceEqDiff, Nat.lt_irrefl, Int.reduceEq, Int.reduceLT, Int.reduceLE, Int.reduceAdd, Int.reduceSub, Int.reduceMul, Int.reduceNeg, Int.reduceToNat, and_true, true_and, Nat.le_refl, dec_t, dec_f, nxt_push, nxt_set, ro_pushk, ro_setk, next_lock, ro_lock, get_lock, get_push_self, get_push_eq, get_push_lt, get_set_self, get_set_ne, ne_eq, lt_add1, lt_add, sto, ldn, ld1, not_false_eq_true, not_true_eq_false, Bool.not_true, Bool.not_false, Bool.and_false, Bool.false_and, beq_self_eq_true, al_24, al_5, al_65, as_24, as_65, az_24, az_65, bd_24_, cv_21_2, cv_5_3, cv_5_66, cv_66_2, cv_66_21, cv_66_67, cv_67_2, eql0_61, eql_24, eql_61, fa_65_0, fa_65_1, fa_65_2, ix_61, len_61, hki, hg2, hb1, hb2, hb3, hb4, hcel, hc0, hw1, hw2, Int.toNat_natCast, hr2, hk0, hgn, hmin, hN, hP]
            refine hnext (hefn _ _) rfl ?_ ?_
            · simp [numsF, hN]
            · simp [partsF, hP]
        | true =>
          by_cases hk2 : (B.byte (p.n.toNat + k)).k = 2
          · by_cases hkk : IntKind.wrap .i64 (B.byte (p.n.toNat + k)).n = (k : Int)
            · cases hN : numsF B.byte p.n.toNat k
              all_goals
                simp only [axt_20, axt_21, opt_some, optH_some, nb_cons, nb_nil, CD_true, CD_false, GD_tt, GD_ff, GD_tf, GD_ft, GD_un, pk_true, pk_false, nck_ptr, rv_one, rv_two, b_lss, b_leq, b_gtr, b_geq, b_eql, b_neq, b_add, b_sub, b_mul, b_quo, b_rem, b_shl, b_shr, b_and, b_or, b_xor, b_andNot, u_not, u_neg, nob_bool, nob_int, nob_string, nob_ptr, nob_slice, nob_map, nob_func, nob_nilf, nob_iface, nob_nili, nob_agg, nob_tuple, cok_bool, cok_int, cok_string, cok_ptr, cok_slice, cok_map, cok_func, nobot_nil, nobot_cons, onb_none, onb_some, cond_true, cond_false, abound_none, abound_int, Option.bind_some, Option.bind_none, nth, nw, Value.cells, BK, List.getElem?_cons_zero, List.getElem?_cons_succ, List.toList_toArray, Nat.zero_add, Nat.add_zero, List.length_cons, List.length_nil, List.length_replicate, List.length_map, List.length_set, List.all_cons, List.all_nil, setMany, List.set_cons_zero, List.set_cons_succ, List.drop_zero, List.take_zero, List.take_succ_cons, List.drop_succ_cons, List.take_nil, List.drop_nil, if_true, if_false, Bool.and_true, Bool.true_and, Nat.reduceAdd, Nat.reduceLeDiff, Nat.reduceMul, Nat.reduceMod, Nat.reduceDiv, Nat.reduceSub, Nat.reduceEqDiff, Nat.lt_irrefl, Int.reduceEq, Int.reduceLT, Int.reduceLE, Int.reduceAdd, Int.reduceSub, Int.reduceMul, Int.reduceNeg, Int.reduceToNat, and_true, true_and, Nat.le_refl, dec_t, dec_f, nxt_push, nxt_set, ro_pushk, ro_setk, next_lock, ro_lock, get_lock, get_push_self, get_push_eq, get_push_lt, get_set_self, get_set_ne, ne_eq, lt_add1, lt_add, sto, ldn, ld1, not_false_eq_true, not_true_eq_false, Bool.not_true, Bool.not_false, Bool.and_false, Bool.false_and, beq_self_eq_true, al_24, al_5, al_65, as_24, as_65, az_24, az_65, bd_24_, cv_21_2, cv_5_3, cv_5_66, cv_66_2, cv_66_21, cv_66_67, cv_67_2, eql0_61, eql_24, eql_61, fa_65_0, fa_65_1, fa_65_2, ix_61, len_61, hki, hg2, hb1, hb2, hb3, hb4, hb5, hp3, hcel, hc0, hw1, hw2, Int.toNat_natCast, hr2, hk0, hgn, hmin, hk2, hkk, hN, hP]
                refine hnext (hefn _ _) rfl ?_ ?_
                · simp [numsF, hN, hk2]
                · simp only [partsF, hP, hk2, hkk, veq, Bool.true_and, decide_true]
            · cases hN : numsF B.byte p.n.toNat k
              all_goals
                simp only [axt_20, axt_21, opt_some, optH_some, nb_cons, nb_nil, CD_true, CD_false, GD_tt, GD_ff, GD_tf, GD_ft, GD_un, pk_true, pk_false, nck_ptr, rv_one, rv_two, b_lss, b_leq, b_gtr, b_geq, b_eql, b_neq, b_add, b_sub, b_mul, b_quo, b_rem, b_shl, b_shr, b_and, b_or, b_xor, b_andNot, u_not, u_neg, nob_bool, nob_int, nob_string, nob_ptr, nob_slice, nob_map, nob_func, nob_nilf, nob_iface, nob_nili, nob_agg, nob_tuple, cok_bool, cok_int, cok_string, cok_ptr, cok_slice, cok_map, cok_func, nobot_nil, nobot_cons, onb_none, onb_some, cond_true, cond_false, abound_none, abound_int, Option.bind_some, Option.bind_none, nth, nw, Value.cells, BK, List.getElem?_cons_zero, List.getElem?_cons_succ, List.toList_toArray, Nat.zero_add, Nat.add_zero, List.length_cons, List.length_nil, List.length_replicate, List.length_map, List.length_set, List.all_cons, List.all_nil, setMany, List.set_cons_zero, List.set_cons_succ, List.drop_zero, List.take_zero, List.take_succ_cons, List.drop_succ_cons, List.take_nil, List.drop_nil, if_true, if_false, Bool.and_true, Bool.true_and, Nat.reduceAdd, Nat.reduceLeDiff, Nat.reduceMul, Nat.reduceMod, Nat.reduceDiv, Nat.reduceSub, Nat.reduceEqDiff, Nat.lt_irrefl, Int.reduceEq, Int.reduceLT, Int.reduceLE, Int.reduceAdd, Int.reduceSub, Int.reduceMul, Int.reduceNeg, Int.reduceToNat, and_true, true_and, Nat.le_refl, dec_t, dec_f, nxt_push, nxt_set, ro_pushk, ro_setk, next_lock, ro_lock, get_lock, get_push_self, get_push_eq, get_push_lt, get_set_self, get_set_ne, ne_eq, lt_add1, lt_add, sto, ldn, ld1, not_false_eq_true, not_true_eq_false, Bool.not_true, Bool.not_false, Bool.and_false, Bool.false_and, beq_self_eq_true, al_24, al_5, al_65, as_24, as_65, az_24, az_65, bd_24_, cv_21_2, cv_5_3, cv_5_66, cv_66_2, cv_66_21, cv_66_67, cv_67_2, eql0_61, eql_24, eql_61, fa_65_0, fa_65_1, fa_65_2, ix_61, len_61, hki, hg2, hb1, hb2, hb3, hb4, hcel, hc0, hw1, hw2, Int.toNat_natCast, hr2, hk0, hgn, hmin, hk2, hkk, hN, hP]
                refine hnext (hefn _ _) rfl ?_ ?_
                · simp [numsF, hN, hk2]
                · simp [partsF, hP, hk2, hkk]
          · cases hN : numsF B.byte p.n.toNat k
            all_goals
              simp only [axt_20, axt_21, opt_some, optH_some, nb_cons, nb_nil, CD_true, CD_false, GD_tt, GD_ff, GD_tf, GD_ft, GD_un, pk_true, pk_false, nck_ptr, rv_one, rv_two, b_lss, b_leq, b_gtr, b_geq, b_eql, b_neq, b_add, b_sub, b_mul, b_quo, b_rem, b_shl, b_shr, b_and, b_or, b_xor, b_andNot, u_not, u_neg, nob_bool, nob_int, nob_string, nob_ptr, nob_slice, nob_map, nob_func, nob_nilf, nob_iface, nob_nili, nob_agg, nob_tuple, cok_bool, cok_int, cok_string, cok_ptr, cok_slice, cok_map, cok_func, nobot_nil, nobot_cons, onb_none, onb_some, cond_true, cond_false, abound_none, abound_int, Option.bind_some, Option.bind_none, nth, nw, Value.cells, BK, List.getElem?_cons_zero, List.getElem?_cons_succ, List.toList_toArray, Nat.zero_add, Nat.add_zero, List.length_cons, List.length_nil, List.length_replicate, List.length_map, List.length_set, List.all_cons, List.all_nil, setMany, List.set_cons_zero, List.set_cons_succ, List.drop_zero, List.take_zero, List.take_succ_cons, List.drop_succ_cons, List.take_nil, List.drop_nil, if_true, if_false, Bool.and_true, Bool.true_and, Nat.reduceAdd, Nat.reduceLeDiff, Nat.reduceMul, Nat.reduceMod, Nat.reduceDiv, Nat.reduceSub, Nat.reduceEqDiff, Nat.lt_irrefl, Int.reduceEq, Int.reduceLT, Int.reduceLE, Int.reduceAdd, Int.reduceSub, Int.reduceMul, Int.reduceNeg, Int.reduceToNat, and_true, true_and, Nat.le_refl, dec_t, dec_f, nxt_push, nxt_set, ro_pushk, ro_setk, next_lock, ro_lock, get_lock, get_push_self, get_push_eq, get_push_lt, get_set_self, get_set_ne, ne_eq, lt_add1, lt_add, sto, ldn, ld1, not_false_eq_true, not_true_eq_false, Bool.not_true, Bool.not_false, Bool.and_false, Bool.false_and, beq_self_eq_true, al_24, al_5, al_65, as_24, as_65, az_24, az_65, bd_24_, cv_21_2, cv_5_3, cv_5_66, cv_66_2, cv_66_21, cv_66_67, cv_67_2, eql0_61, eql_24, eql_61, fa_65_0, fa_65_1, fa_65_2, ix_61, len_61, hki, hg2, hb1, hb2, hb3, hb4, hcel, hc0, hw1, hw2, Int.toNat_natCast, hr2, hk0, hgn, hmin, hk2, hN, hP]
              refine hnext (hefn _ _) rfl ?_ ?_
              · simp [numsF, hN]
              · simp [partsF, hP, hk2]
      · have hki : ¬ (k : Int) < (c.toNat : Int) := by omega
        have hkc : k = c.toNat := by omega
        subst hkc
        have hl2 : h2.get (h.next + 1) = some (.cells [.int .i64 0, .int .i64 0, .int .i64 0] 24) := by
          rw [ef2.get _ (fun e => e) (by have := ef.next; simp only [nxt_push] at this; omega), hl]
        have hr2 : h2.ro ≤ h.next + 1 := by rw [ef2.ro]; exact hr1
        have hof : ∀ n, DC Try.prog 26 [.int .i64 n] h2 (fun v h1 => v = V.val ⟨1, n, 0⟩ ∧ Eff nof h2 h1) := fun n => of_q n h2
        have hsl : ∀ h3, Eff nof h2 h3 → h3.get (h.next + 1) = some (.cells [.int .i64 0, .int .i64 0, .int .i64 0] 24) ∧ h3.ro ≤ h.next + 1 := fun h3 e3 =>
          ⟨by rw [e3.get _ (fun e => e) (by have := ef.next; have := ef2.next; simp only [nxt_push] at *; omega), hl2], by rw [e3.ro]; exact hr2⟩
        have hfin : ∀ {h3 a v}, Eff nof h2 h3 → loadV B.byte p.n.toNat c = a → Eff nof h (h3.set (h.next + 1) v) ∧ LoadR M c p (.tuple #[.agg #[.int .i64 a.k, .int .i64 a.n, .int .i64 a.b], .bool true]) := fun e3 ea =>
          ⟨(((eff.trans ef).trans ef2).trans e3).set (.inr (by omega)) _, hpost _ (by rw [hlm, ea])⟩
        cases hN : numsF B.byte p.n.toNat c.toNat with
        | true =>
          rcases hcc with rfl | rfl | rfl
          all_goals
            simp only [axt_20, axt_21, opt_some, optH_some, nb_cons, nb_nil, CD_true, CD_false, GD_tt, GD_ff, GD_tf, GD_ft, GD_un, pk_true, pk_false, nck_ptr, rv_one, rv_two, b_lss, b_leq, b_gtr, b_geq, b_eql, b_neq, b_add, b_sub, b_mul, b_quo, b_rem, b_shl, b_shr, b_and, b_or, b_xor, b_andNot, u_not, u_neg, nob_bool, nob_int, nob_string, nob_ptr, nob_slice, nob_map, nob_func, nob_nilf, nob_iface, nob_nili, nob_agg, nob_tuple, cok_bool, cok_int, cok_string, cok_ptr, cok_slice, cok_map, cok_func, nobot_nil, nobot_cons, onb_none, onb_some, cond_true, cond_false, abound_none, abound_int, Option.bind_some, Option.bind_none, nth, nw, Value.cells, BK, List.getElem?_cons_zero, List.getElem?_cons_succ, List.toList_toArray, Nat.zero_add, Nat.add_zero, List.length_cons, List.length_nil, List.length_replicate, List.length_map, List.length_set, List.all_cons, List.all_nil, setMany, List.set_cons_zero, List.set_cons_succ, List.drop_zero, List.take_zero, List.take_succ_cons, List.drop_succ_cons, List.take_nil, List.drop_nil, if_true, if_false, Bool.and_true, Bool.true_and, Nat.reduceAdd, Nat.reduceLeDiff, Nat.reduceMul, Nat.reduceMod, Nat.reduceDiv, Nat.reduceSub, Nat.reduceEqDiff, Nat.lt_irrefl, Int.reduceEq, Int.reduceLT, Int.reduceLE, Int.reduceAdd, Int.reduceSub, Int.reduceMul, Int.reduceNeg, Int.reduceToNat, and_true, true_and, Nat.le_refl, dec_t, dec_f, nxt_push, nxt_set, ro_pushk, ro_setk, next_lock, ro_lock, get_lock, get_push_self, get_push_eq, get_push_lt, get_set_self, get_set_ne, ne_eq, lt_add1, lt_add, sto, ldn, ld1, not_false_eq_true, not_true_eq_false, Bool.not_true, Bool.not_false, Bool.and_false, Bool.false_and, beq_self_eq_true, al_24, al_5, al_65, as_24, as_65, az_24, az_65, bd_24_, cv_21_2, cv_5_3, cv_5_66, cv_66_2, cv_66_21, cv_66_67, cv_67_2, eql0_61, eql_24, eql_61, fa_65_0, fa_65_1, fa_65_2, ix_61, len_61, hki, hN]
            refine callV_of (by kernel_rfl) rfl (hof _) ?_
            rintro v h3 ⟨rfl, e3⟩
            obtain ⟨g1, g2⟩ := hsl h3 e3
            simp only [axt_20, axt_21, opt_some, optH_some, nb_cons, nb_nil, CD_true, CD_false, GD_tt, GD_ff, GD_tf, GD_ft, GD_un, pk_true, pk_false, nck_ptr, rv_one, rv_two, b_lss, b_leq, b_gtr, b_geq, b_eql, b_neq, b_add, b_sub, b_mul, b_quo, b_rem, b_shl, b_shr, b_and, b_or, b_xor, b_andNot, u_not, u_neg, nob_bool, nob_int, nob_string, nob_ptr, nob_slice, nob_map, nob_func, nob_nilf, nob_iface, nob_nili, nob_agg, nob_tuple, cok_bool, cok_int, cok_string, cok_ptr, cok_slice, cok_map, cok_func, nobot_nil, nobot_cons, onb_none, onb_some, cond_true, cond_false, abound_none, abound_int, Option.bind_some, Option.bind_none, nth, nw, Value.cells, BK, List.getElem?_cons_zero, List.getElem?_cons_succ, List.toList_toArray, Nat.zero_add, Nat.add_zero, List.length_cons, List.length_nil, List.length_replicate, List.length_map, List.length_set, List.all_cons, List.all_nil, setMany, List.set_cons_zero, List.set_cons_succ, List.drop_zero, List.take_zero, List.take_succ_cons, List.drop_succ_cons, List.take_nil, List.drop_nil, if_true, if_false, Bool.and_true, Bool.true_and, Nat.reduceAdd, Nat.reduceLeDiff, Nat.reduceMul, Nat.reduceMod, Nat.reduceDiv, Nat.reduceSub, Nat.reduceEqDiff, Nat.lt_irrefl, Int.reduceEq, Int.reduceLT, Int.reduceLE, Int.reduceAdd, Int.reduceSub, Int.reduceMul, Int.reduceNeg, Int.reduceToNat, and_true, true_and, Nat.le_refl, dec_t, dec_f, nxt_push, nxt_set, ro_pushk, ro_setk, next_lock, ro_lock, get_lock, get_push_self, get_push_eq, get_push_lt, get_set_self, get_set_ne, ne_eq, lt_add1, lt_add, sto, ldn, ld1, not_false_eq_true, not_true_eq_false, Bool.not_true, Bool.not_false, Bool.and_false, Bool.false_and, beq_self_eq_true, al_24, al_5, al_65, as_24, as_65, az_24, az_65, bd_24_, cv_21_2, cv_5_3, cv_5_66, cv_66_2, cv_66_21, cv_66_67, cv_67_2, eql0_61, eql_24, eql_61, fa_65_0, fa_65_1, fa_65_2, ix_61, len_61, V.val, g1, g2]
            refine hfin (a := ⟨1, _, 0⟩) e3 ?_
            unfold loadV
            rw [if_pos hN]
            rfl
        | false =>
          cases hP : partsF B.byte p.n.toNat c c.toNat with
          | true =>
            have hp3 : (cs.drop (off + 2)).take 3 = [.int .i64 (B.byte p.n.toNat).p.k, .int .i64 (B.byte p.n.toNat).p.n, .int .i64 (B.byte p.n.toNat).p.b] := take_p (fun j hj => by simpa using hcs 0 j (by omega) hj)
            have hb5 : off + 2 + 3 ≤ cs.length := by omega
            have hb4 : 0 ≤ (0 : Int) ∧ (0 : Int) < (c.toNat : Int) := by omega
            have hgn : ∀ v, (h2.set (h.next + 1) v).get g = some (.cells cs 81) := fun v => by rw [get_set_ne (by have := (x.ok g fg).2; omega), hg2]
            · simp only [axt_20, axt_21, opt_some, optH_some, nb_cons, nb_nil, CD_true, CD_false, GD_tt, GD_ff, GD_tf, GD_ft, GD_un, pk_true, pk_false, nck_ptr, rv_one, rv_two, b_lss, b_leq, b_gtr, b_geq, b_eql, b_neq, b_add, b_sub, b_mul, b_quo, b_rem, b_shl, b_shr, b_and, b_or, b_xor, b_andNot, u_not, u_neg, nob_bool, nob_int, nob_string, nob_ptr, nob_slice, nob_map, nob_func, nob_nilf, nob_iface, nob_nili, nob_agg, nob_tuple, cok_bool, cok_int, cok_string, cok_ptr, cok_slice, cok_map, cok_func, nobot_nil, nobot_cons, onb_none, onb_some, cond_true, cond_false, abound_none, abound_int, Option.bind_some, Option.bind_none, nth, nw, Value.cells, BK, List.getElem?_cons_zero, List.getElem?_cons_succ, List.toList_toArray, Nat.zero_add, Nat.add_zero, List.length_cons, List.length_nil, List.length_replicate, List.length_map, List.length_set, List.all_cons, List.all_nil, setMany, List.set_cons_zero, List.set_cons_succ, List.drop_zero, List.take_zero, List.take_succ_cons, List.drop_succ_cons, List.take_nil, List.drop_nil, if_true, if_false, Bool.and_true, Bool.true_and, Nat.reduceAdd, Nat.reduceLeDiff, Nat.reduceMul, Nat.reduceMod, Nat.reduceDiv, Nat.reduceSub, Nat.reduceEqDiff, Nat.lt_irrefl, Int.reduceEq, Int.reduceLT, Int.reduceLE, Int.reduceAdd, Int.reduceSub, Int.reduceMul, Int.reduceNeg, Int.reduceToNat, and_true, true_and, Nat.le_refl, dec_t, dec_f, nxt_push, nxt_set, ro_pushk, ro_setk, next_lock, ro_lock, get_lock, get_push_self, get_push_eq, get_push_lt, get_set_self, get_set_ne, ne_eq, lt_add1, lt_add, sto, ldn, ld1, not_false_eq_true, not_true_eq_false, Bool.not_true, Bool.not_false, Bool.and_false, Bool.false_and, beq_self_eq_true, al_24, al_5, al_65, as_24, as_65, az_24, az_65, bd_24_, cv_21_2, cv_5_3, cv_5_66, cv_66_2, cv_66_21, cv_66_67, cv_67_2, eql0_61, eql_24, eql_61, fa_65_0, fa_65_1, fa_65_2, ix_61, len_61, hki, hN, hP, hl2, hr2, hp3, hb5, hb4, hg2]
              refine hfin (a := (B.byte p.n.toNat).p) (.refl _ _) ?_
              unfold loadV
              rw [hN, hP]
              rfl
          | false =>
            rcases hcc with rfl | rfl | rfl
            all_goals
              simp only [axt_20, axt_21, opt_some, optH_some, nb_cons, nb_nil, CD_true, CD_false, GD_tt, GD_ff, GD_tf, GD_ft, GD_un, pk_true, pk_false, nck_ptr, rv_one, rv_two, b_lss, b_leq, b_gtr, b_geq, b_eql, b_neq, b_add, b_sub, b_mul, b_quo, b_rem, b_shl, b_shr, b_and, b_or, b_xor, b_andNot, u_not, u_neg, nob_bool, nob_int, nob_string, nob_ptr, nob_slice, nob_map, nob_func, nob_nilf, nob_iface, nob_nili, nob_agg, nob_tuple, cok_bool, cok_int, cok_string, cok_ptr, cok_slice, cok_map, cok_func, nobot_nil, nobot_cons, onb_none, onb_some, cond_true, cond_false, abound_none, abound_int, Option.bind_some, Option.bind_none, nth, nw, Value.cells, BK, List.getElem?_cons_zero, List.getElem?_cons_succ, List.toList_toArray, Nat.zero_add, Nat.add_zero, List.length_cons, List.length_nil, List.length_replicate, List.length_map, List.length_set, List.all_cons, List.all_nil, setMany, List.set_cons_zero, List.set_cons_succ, List.drop_zero, List.take_zero, List.take_succ_cons, List.drop_succ_cons, List.take_nil, List.drop_nil, if_true, if_false, Bool.and_true, Bool.true_and, Nat.reduceAdd, Nat.reduceLeDiff, Nat.reduceMul, Nat.reduceMod, Nat.reduceDiv, Nat.reduceSub, Nat.reduceEqDiff, Nat.lt_irrefl, Int.reduceEq, Int.reduceLT, Int.reduceLE, Int.reduceAdd, Int.reduceSub, Int.reduceMul, Int.reduceNeg, Int.reduceToNat, and_true, true_and, Nat.le_refl, dec_t, dec_f, nxt_push, nxt_set, ro_pushk, ro_setk, next_lock, ro_lock, get_lock, get_push_self, get_push_eq, get_push_lt, get_set_self, get_set_ne, ne_eq, lt_add1, lt_add, sto, ldn, ld1, not_false_eq_true, not_true_eq_false, Bool.not_true, Bool.not_false, Bool.and_false, Bool.false_and, beq_self_eq_true, al_24, al_5, al_65, as_24, as_65, az_24, az_65, bd_24_, cv_21_2, cv_5_3, cv_5_66, cv_66_2, cv_66_21, cv_66_67, cv_67_2, eql0_61, eql_24, eql_61, fa_65_0, fa_65_1, fa_65_2, ix_61, len_61, hki, hN, hP, hl2, hr2]
              refine hfin (a := v0) (.refl _ _) ?_
              unfold loadV
              rw [hN, hP]
              rfl
end
end Go.Mem
namespace Go.Mem
open Go.Ai Go.Proofs
set_option linter.unusedVariables false
set_option linter.unusedSimpArgs false
theorem Eff.more {F G : Nat → Prop} {a b c : AHeap} (x : Eff F a b) (y : Eff G b c) (hg : ∀ i, G i → F i ∨ a.next ≤ i) : Eff F a c :=
  ⟨Nat.le_trans x.next y.next, y.ro.trans x.ro, fun i hi hlt => by
    have hn : ¬ G i := fun e => by
      rcases hg i e with q | q
      · exact hi q
      · omega
    rw [y.get i hn (Nat.lt_of_lt_of_le hlt x.next), x.get i hi hlt]⟩
theorem CD_j {b : Bool} {A B : (List Value → AHeap → Prop) → Prop} {J : List Value → AHeap → Prop} {vs : List Value} {x y : AHeap} (hA : ∀ j, A j = j vs x) (hB : ∀ j, B j = j vs y) (hJ : J vs (if b = true then x else y)) : CD (.bool b) A B J := by
  cases b
  · rw [CD_false, hB]; simpa using hJ
  · rw [CD_true, hA]; simpa using hJ
theorem get_setMany (vs : List Value) : ∀ (cs : List Value) (o i : Nat), o + vs.length ≤ cs.length → (setMany cs o vs)[i]? = if o ≤ i ∧ i < o + vs.length then vs[i - o]? else cs[i]? := by
  induction vs with
  | nil => intro cs o i _; rw [if_neg (by simp)]; rfl
  | cons v vs ih =>
    intro cs o i h
    simp only [List.length_cons] at h ⊢
    unfold setMany
    rw [ih (cs.set o v) (o + 1) i (by rw [List.length_set]; omega)]
    by_cases h1 : o + 1 ≤ i ∧ i < o + 1 + vs.length
    · rw [if_pos h1, if_pos (by omega), show i - o = i - (o + 1) + 1 by omega, List.getElem?_cons_succ]
    · rw [if_neg h1]
      by_cases h2 : i = o
      · subst h2; rw [if_pos (by omega), List.getElem?_set_self (by omega)]; simp
      · rw [if_neg (by omega), List.getElem?_set_ne (by omega)]
def upd (f : Nat → Cl) (a : Nat) (c : Cl) : Nat → Cl := fun k => if k = a then c else f k
/-- A byte is written. -/
theorem FullH.put {h : AHeap} {q : Nat} {gs : List (Option Nat)} {B : MB} {F : Nat → Prop} (x : FullH h q gs B F) {a g : Nat} (hg : gs[a / 64]? = some (some g)) :
    ∃ cs, h.get g = some (.cells cs 81) ∧ a % 64 * 5 + 5 ≤ cs.length ∧ ∀ c : Cl, FullH (h.set g (some (.cells (setMany cs (a % 64 * 5) c.vals) 81))) q gs { B with byte := upd B.byte a c } F := by
  obtain ⟨hl, fq, hq, hgs, hn, hd, ht⟩ := x
  obtain ⟨fg, cs, hc, hlen, hcs⟩ := hgs _ g hg
  refine ⟨cs, hc, by omega, fun c => ⟨hl, fq, ?_, fun j g' hj => ⟨(hgs j g' hj).1, ?_⟩, fun j hj k hk => ?_, hd, fun k hk => ?_⟩⟩
  · rw [get_set_ne (by intro e; subst e; rw [hq] at hc; simp at hc), hq]
  · by_cases e : g' = g
    · subst e
      have ej : j = a / 64 := hd j _ g' hj hg
      subst ej
      refine ⟨_, get_set_self, by rw [length_setMany, hlen], fun k j hk hj => ?_⟩
      have vlen : c.vals.length = 5 := rfl
      rw [get_setMany _ _ _ _ (by rw [vlen]; omega), vlen]
      show _ = (upd B.byte a c (64 * (a / 64) + k)).vals[j]?
      unfold upd
      by_cases ek : k = a % 64
      · rw [if_pos (by omega), if_pos (by omega), show k * 5 + j - a % 64 * 5 = j by omega]
      · rw [if_neg (by omega), if_neg (by omega)]; exact hcs k j hk hj
    · have ej : j ≠ a / 64 := by intro ej; subst ej; rw [hg] at hj; cases hj; exact e rfl
      obtain ⟨cs', hc', hlen', hcs'⟩ := (hgs j g' hj).2
      refine ⟨cs', by rw [get_set_ne e, hc'], hlen', fun k j' hk hj' => ?_⟩
      rw [hcs' k j' hk hj']
      show _ = (upd B.byte a c (64 * j + k)).vals[j']?
      unfold upd
      rw [if_neg (by omega)]
  · show upd B.byte a c (64 * j + k) = unk
    unfold upd
    rw [if_neg (by intro e; have : j = a / 64 := by omega
                   subst this; rw [hg] at hj; cases hj)]
    exact hn j hj k hk
  · show upd B.byte a c k = unk
    have hlt : a / 64 < gs.length := by
      rcases Nat.lt_or_ge (a / 64) gs.length with e | e
      · exact e
      · rw [List.getElem?_eq_none e] at hg; cases hg
    unfold upd
    rw [if_neg (by omega)]
    exact ht k hk
/-! ### What a store comes to -/
def norm (v : V) : V := if goodV v = true then v else v0
def cellOf (v : V) (k : Nat) : Cl := if v.k = 1 then ⟨1, IntKind.wrap .u8 (v.n.fdiv (2 ^ (8 * k))), v0⟩ else if v.k = 2 then ⟨2, IntKind.wrap .u8 k, v⟩ else unk
def storeB (B : MB) (n : Nat) (v : V) (c : Nat) : MB := { B with byte := fun a => if n ≤ a ∧ a < n + c then cellOf v (a - n) else B.byte a }
theorem storeB_zero (B : MB) (n : Nat) (v : V) : storeB B n v 0 = B := by
  unfold storeB
  congr 1
  funext a
  rw [if_neg (by omega)]
theorem storeB_succ (B : MB) (n : Nat) (v : V) (c : Nat) : { storeB B n v c with byte := upd (storeB B n v c).byte (n + c) (cellOf v c) } = storeB B n v (c + 1) := by
  unfold storeB upd
  simp only [MB.mk.injEq, true_and]
  funext a
  by_cases e : a = n + c
  · subst e; rw [if_pos rfl, if_pos (by omega), show n + c - n = c by omega]
  · rw [if_neg e]
    by_cases e2 : n ≤ a ∧ a < n + c
    · rw [if_pos e2, if_pos (by omega)]
    · rw [if_neg e2, if_neg (by omega)]
/-- What is stored where, if it may be. -/
def storeM (M : MM) (c : Int) (p v : V) : Option MM := if (norm v).k = 2 ∧ c ≠ 8 then none else match right M c p with
  | none => none
  | some i => (M[i]?).map fun B => M.set i (storeB B p.n.toNat (norm v) c.toNat)
/-- A memory is turned into another. -/
def MutR (h : AHeap) (m : Nat) (M' : MM) (F : Nat → Prop) (h1 : AHeap) : Prop := ∃ F', MemH h1 m M' F' ∧ Eff F h h1 ∧ ∀ b, F' b → F b ∨ h.next ≤ b
def StoreR (h : AHeap) (m : Nat) (M : MM) (F : Nat → Prop) (c : Int) (p v : V) (r : Value) (h1 : AHeap) : Prop := match storeM M c p v with
  | none => r = .bool false ∧ MutR h m M F h1
  | some M' => r = .bool true ∧ MutR h m M' F h1
section
variable {h : AHeap} {m : Nat} {bs : Value} {ps : List Nat} {fs : Nat → Nat → Prop} {M : MM} {F : Nat → Prop} {c : Int} {p v : V}
def StoreI (h : AHeap) (q g : Nat) (gs : List (Option Nat)) (B : MB) (n : Nat) (v : V) (c : Int) (F : Nat → Prop) (m : Nat) (vs : List Value) (h' : AHeap) : Prop :=
  ∃ k, k ≤ c.toNat ∧ m = c.toNat - k ∧ vs = [.int .i64 k] ∧ Eff (fun b => b = g) h h' ∧ FullH h' q gs (storeB B n v k) F
theorem store_ok (x : MemO h m bs ps fs M F) (hs : small M) (hc : in64 c) (hp : p.ok) :
    DC Try.prog 10 [.pointer (some ⟨m, 0, none⟩), .int .i64 c, p.val, v.val] h (StoreR h m M F c p v) := by
  apply DC_wf; intro hwf; have hro := hwf.2
  apply W_Store_ok
  unfold W_Store
  have e1 : p.val = .agg #[.int .i64 p.k, .int .i64 p.n, .int .i64 p.b] := rfl
  have e2 : v.val = .agg #[.int .i64 v.k, .int .i64 v.n, .int .i64 v.b] := rfl
  rw [e1, e2]
  simp only [axt_20, axt_21, opt_some, optH_some, nb_cons, nb_nil, CD_true, CD_false, GD_tt, GD_ff, GD_tf, GD_ft, GD_un, pk_true, pk_false, nck_ptr, rv_one, rv_two, b_lss, b_leq, b_gtr, b_geq, b_eql, b_neq, b_add, b_sub, b_mul, b_quo, b_rem, b_shl, b_shr, b_and, b_or, b_xor, b_andNot, u_not, u_neg, nob_bool, nob_int, nob_string, nob_ptr, nob_slice, nob_map, nob_func, nob_nilf, nob_iface, nob_nili, nob_agg, nob_tuple, cok_bool, cok_int, cok_string, cok_ptr, cok_slice, cok_map, cok_func, nobot_nil, nobot_cons, onb_none, onb_some, cond_true, cond_false, abound_none, abound_int, Option.bind_some, Option.bind_none, nth, nw, Value.cells, BK, List.getElem?_cons_zero, List.getElem?_cons_succ, List.toList_toArray, Nat.zero_add, Nat.add_zero, List.length_cons, List.length_nil, List.length_replicate, List.length_map, List.length_set, List.all_cons, List.all_nil, setMany, List.set_cons_zero, List.set_cons_succ, List.drop_zero, List.take_zero, List.take_succ_cons, List.drop_succ_cons, List.take_nil, List.drop_nil, if_true, if_false, Bool.and_true, Bool.true_and, Nat.reduceAdd, Nat.reduceLeDiff, Nat.reduceMul, Nat.reduceMod, Nat.reduceDiv, Nat.reduceSub, Nat.reduceEqDiff, Nat.lt_irrefl, Int.reduceEq, Int.reduceLT, Int.reduceLE, Int.reduceAdd, Int.reduceSub, Int.reduceMul, Int.reduceNeg, Int.reduceToNat, and_true, true_and, Nat.le_refl, dec_t, dec_f, nxt_push, nxt_set, ro_pushk, ro_setk, next_lock, ro_lock, get_lock, get_push_self, get_push_eq, get_push_lt, get_set_self, get_set_ne, ne_eq, lt_add1, lt_add, sto, ldn, ld1, not_false_eq_true, not_true_eq_false, Bool.not_true, Bool.not_false, Bool.and_false, Bool.false_and, beq_self_eq_true, al_2, al_24, al_3, as_24, as_65, bd_24_, bd_65_, bd_65_0_1, bd_65_0_1_2, cv_2_5, cv_3_5, fa_24_0, fa_24_1, ix_61, len_61]
  rw [← e2]
  refine callV_q (by kernel_rfl) rfl (good_q v _) ?_
  simp only [axt_20, axt_21, opt_some, optH_some, nb_cons, nb_nil, CD_true, CD_false, GD_tt, GD_ff, GD_tf, GD_ft, GD_un, pk_true, pk_false, nck_ptr, rv_one, rv_two, b_lss, b_leq, b_gtr, b_geq, b_eql, b_neq, b_add, b_sub, b_mul, b_quo, b_rem, b_shl, b_shr, b_and, b_or, b_xor, b_andNot, u_not, u_neg, nob_bool, nob_int, nob_string, nob_ptr, nob_slice, nob_map, nob_func, nob_nilf, nob_iface, nob_nili, nob_agg, nob_tuple, cok_bool, cok_int, cok_string, cok_ptr, cok_slice, cok_map, cok_func, nobot_nil, nobot_cons, onb_none, onb_some, cond_true, cond_false, abound_none, abound_int, Option.bind_some, Option.bind_none, nth, nw, Value.cells, BK, List.getElem?_cons_zero, List.getElem?_cons_succ, List.toList_toArray, Nat.zero_add, Nat.add_zero, List.length_cons, List.length_nil, List.length_replicate, List.length_map, List.length_set, List.all_cons, List.all_nil, setMany, List.set_cons_zero, List.set_cons_succ, List.drop_zero, List.take_zero, List.take_succ_cons, List.drop_succ_cons, List.take_nil, List.drop_nil, if_true, if_false, Bool.and_true, Bool.true_and, Nat.reduceAdd, Nat.reduceLeDiff, Nat.reduceMul, Nat.reduceMod, Nat.reduceDiv, Nat.reduceSub, Nat.reduceEqDiff, Nat.lt_irrefl, Int.reduceEq, Int.reduceLT, Int.reduceLE, Int.reduceAdd, Int.reduceSub, Int.reduceMul, Int.reduceNeg, Int.reduceToNat, and_true, true_and, Nat.le_refl, dec_t, dec_f, nxt_push, nxt_set, ro_pushk, ro_setk, next_lock, ro_lock, get_lock, get_push_self, get_push_eq, get_push_lt, get_set_self, get_set_ne, ne_eq, lt_add1, lt_add, sto, ldn, ld1, not_false_eq_true, not_true_eq_false, Bool.not_true, Bool.not_false, Bool.and_false, Bool.false_and, beq_self_eq_true, al_2, al_24, al_3, as_24, as_65, bd_24_, bd_65_, bd_65_0_1, bd_65_0_1_2, cv_2_5, cv_3_5, fa_24_0, fa_24_1, ix_61, len_61]
  refine CD_j (vs := []) (x := ((h.push (.cells [.int .i64 p.k, .int .i64 p.n, .int .i64 p.b] 24)).push (.cells [.int .i64 v.k, .int .i64 v.n, .int .i64 v.b] 24)).set (h.next + 1) (some (.cells [.int .i64 0, .int .i64 0, .int .i64 0] 24)))
    (y := (h.push (.cells [.int .i64 p.k, .int .i64 p.n, .int .i64 p.b] 24)).push (.cells [.int .i64 v.k, .int .i64 v.n, .int .i64 v.b] 24)) ?_ ?_ ?_
  · intro j
    have : h.ro ≤ h.next + 1 := by omega
    simp only [axt_20, axt_21, opt_some, optH_some, nb_cons, nb_nil, CD_true, CD_false, GD_tt, GD_ff, GD_tf, GD_ft, GD_un, pk_true, pk_false, nck_ptr, rv_one, rv_two, b_lss, b_leq, b_gtr, b_geq, b_eql, b_neq, b_add, b_sub, b_mul, b_quo, b_rem, b_shl, b_shr, b_and, b_or, b_xor, b_andNot, u_not, u_neg, nob_bool, nob_int, nob_string, nob_ptr, nob_slice, nob_map, nob_func, nob_nilf, nob_iface, nob_nili, nob_agg, nob_tuple, cok_bool, cok_int, cok_string, cok_ptr, cok_slice, cok_map, cok_func, nobot_nil, nobot_cons, onb_none, onb_some, cond_true, cond_false, abound_none, abound_int, Option.bind_some, Option.bind_none, nth, nw, Value.cells, BK, List.getElem?_cons_zero, List.getElem?_cons_succ, List.toList_toArray, Nat.zero_add, Nat.add_zero, List.length_cons, List.length_nil, List.length_replicate, List.length_map, List.length_set, List.all_cons, List.all_nil, setMany, List.set_cons_zero, List.set_cons_succ, List.drop_zero, List.take_zero, List.take_succ_cons, List.drop_succ_cons, List.take_nil, List.drop_nil, if_true, if_false, Bool.and_true, Bool.true_and, Nat.reduceAdd, Nat.reduceLeDiff, Nat.reduceMul, Nat.reduceMod, Nat.reduceDiv, Nat.reduceSub, Nat.reduceEqDiff, Nat.lt_irrefl, Int.reduceEq, Int.reduceLT, Int.reduceLE, Int.reduceAdd, Int.reduceSub, Int.reduceMul, Int.reduceNeg, Int.reduceToNat, and_true, true_and, Nat.le_refl, dec_t, dec_f, nxt_push, nxt_set, ro_pushk, ro_setk, next_lock, ro_lock, get_lock, get_push_self, get_push_eq, get_push_lt, get_set_self, get_set_ne, ne_eq, lt_add1, lt_add, sto, ldn, ld1, not_false_eq_true, not_true_eq_false, Bool.not_true, Bool.not_false, Bool.and_false, Bool.false_and, beq_self_eq_true, al_2, al_24, al_3, as_24, as_65, bd_24_, bd_65_, bd_65_0_1, bd_65_0_1_2, cv_2_5, cv_3_5, fa_24_0, fa_24_1, ix_61, len_61, this]
  · intro j; rfl
  generalize hH : (if (!goodV v) = true then ((h.push (.cells [.int .i64 p.k, .int .i64 p.n, .int .i64 p.b] 24)).push (.cells [.int .i64 v.k, .int .i64 v.n, .int .i64 v.b] 24)).set (h.next + 1) (some (.cells [.int .i64 0, .int .i64 0, .int .i64 0] 24)) else
    (h.push (.cells [.int .i64 p.k, .int .i64 p.n, .int .i64 p.b] 24)).push (.cells [.int .i64 v.k, .int .i64 v.n, .int .i64 v.b] 24)) = H
  have eff : Eff nof h H := by
    subst hH
    split
    · exact (((Eff.refl _ _).push _).push _).set (.inr (by omega)) _
    · exact ((Eff.refl _ _).push _).push _
  have hx : H.get (h.next + 1) = some (.cells [.int .i64 (norm v).k, .int .i64 (norm v).n, .int .i64 (norm v).b] 24) := by
    subst hH
    unfold norm
    cases goodV v
    · simp only [Bool.not_false, if_true]; rw [if_neg (by simp)]; exact get_set_self
    · simp only [Bool.not_true, if_true]; rw [if_neg (by simp)]; exact get_push_eq rfl
  have hp1 : H.get h.next = some (.cells [.int .i64 p.k, .int .i64 p.n, .int .i64 p.b] 24) := by
    have : ¬ h.next = h.next + 1 := by omega
    have h3 : ((h.push (.cells [.int .i64 p.k, .int .i64 p.n, .int .i64 p.b] 24)).push (.cells [.int .i64 v.k, .int .i64 v.n, .int .i64 v.b] 24)).get h.next = some (.cells [.int .i64 p.k, .int .i64 p.n, .int .i64 p.b] 24) := by
      rw [get_push_lt (by simp only [nxt_push]; omega), get_push_self]
    subst hH
    split
    · rw [get_set_ne this, h3]
    · exact h3
  have hnx : H.next = h.next + 2 := by
    subst hH
    cases goodV v <;> simp [nxt_push, nxt_set]
  clear hH
  have hsm : storeM M c p v = if (norm v).k = 2 ∧ c ≠ 8 then none else match right M c p with
    | none => none
    | some i => (M[i]?).map fun B => M.set i (storeB B p.n.toNat (norm v) c.toNat) := rfl
  generalize norm v = w at hx hsm
  have x1 : MemO H m bs ps fs M F := x.keep (fun b hb => eff.get b (fun e => e) (x.ok b hb).2) eff.next eff.ro
  have hro1 : H.ro ≤ H.next := by rw [hnx, eff.ro]; omega
  have hm0 : ∀ {h1}, Eff nof H h1 → MutR h m M F h1 := fun e3 => ⟨F, ⟨bs, ps, fs, x1.keep (fun b hb => e3.get b (fun e => e) (x1.ok b hb).2) e3.next e3.ro⟩, (eff.trans e3).mono (fun _ q => q.elim), fun b hb => .inl hb⟩
  by_cases hbad : w.k = 2 ∧ c ≠ 8
  · rw [if_pos hbad] at hsm
    have h1 := hbad.1
    have h2 : ¬ c = 8 := hbad.2
    simp only [axt_20, axt_21, opt_some, optH_some, nb_cons, nb_nil, CD_true, CD_false, GD_tt, GD_ff, GD_tf, GD_ft, GD_un, pk_true, pk_false, nck_ptr, rv_one, rv_two, b_lss, b_leq, b_gtr, b_geq, b_eql, b_neq, b_add, b_sub, b_mul, b_quo, b_rem, b_shl, b_shr, b_and, b_or, b_xor, b_andNot, u_not, u_neg, nob_bool, nob_int, nob_string, nob_ptr, nob_slice, nob_map, nob_func, nob_nilf, nob_iface, nob_nili, nob_agg, nob_tuple, cok_bool, cok_int, cok_string, cok_ptr, cok_slice, cok_map, cok_func, nobot_nil, nobot_cons, onb_none, onb_some, cond_true, cond_false, abound_none, abound_int, Option.bind_some, Option.bind_none, nth, nw, Value.cells, BK, List.getElem?_cons_zero, List.getElem?_cons_succ, List.toList_toArray, Nat.zero_add, Nat.add_zero, List.length_cons, List.length_nil, List.length_replicate, List.length_map, List.length_set, List.all_cons, List.all_nil, setMany, List.set_cons_zero, List.set_cons_succ, List.drop_zero, List.take_zero, List.take_succ_cons, List.drop_succ_cons, List.take_nil, List.drop_nil, if_true, if_false, Bool.and_true, Bool.true_and, Nat.reduceAdd, Nat.reduceLeDiff, Nat.reduceMul, Nat.reduceMod, Nat.reduceDiv, Nat.reduceSub, Nat.reduceEqDiff, Nat.lt_irrefl, Int.reduceEq, Int.reduceLT, Int.reduceLE, Int.reduceAdd, Int.reduceSub, Int.reduceMul, Int.reduceNeg, Int.reduceToNat, and_true, true_and, Nat.le_refl, dec_t, dec_f, nxt_push, nxt_set, ro_pushk, ro_setk, next_lock, ro_lock, get_lock, get_push_self, get_push_eq, get_push_lt, get_set_self, get_set_ne, ne_eq, lt_add1, lt_add, sto, ldn, ld1, not_false_eq_true, not_true_eq_false, Bool.not_true, Bool.not_false, Bool.and_false, Bool.false_and, beq_self_eq_true, al_2, al_24, al_3, as_24, as_65, bd_24_, bd_65_, bd_65_0_1, bd_65_0_1_2, cv_2_5, cv_3_5, fa_24_0, fa_24_1, ix_61, len_61, hx, hp1, h1, h2]
    unfold StoreR
    rw [hsm]
    exact ⟨rfl, hm0 (.refl _ _)⟩
  rw [if_neg hbad] at hsm
  have hac := access_w (c := c) (p := p) hro1 x1 hs hc hp
  rw [e1] at hac
  have hways : (w.k = 2 ∧ c = 8) ∨ ¬ w.k = 2 := by
    by_cases e : w.k = 2
    · by_cases e3 : c = 8
      · exact .inl ⟨e, e3⟩
      · exact (hbad ⟨e, e3⟩).elim
    · exact .inr e
  have hall : ∀ r h1, AccW H m M F c p r h1 → (∃ ok, r = .tuple #[.slice none 0 0, .bool ok] ∧ ok = false ∧ StoreR h m M F c p v (.bool false) h1) ∨ ∃ g, r = .tuple #[.slice (some ⟨g, p.n.toNat % 64 * 5, none⟩) c.toNat 0, .bool true] ∧ ∃ q gs B G, StoreI h1 q g gs B p.n.toNat w c G c.toNat [.int .i64 0] h1 ∧ 0 ≤ c ∧
      (∀ k, k < c.toNat → gs[(p.n.toNat + k) / 64]? = some (some g) ∧ (p.n.toNat + k) % 64 * 5 = p.n.toNat % 64 * 5 + k * 5) ∧ c ≤ 8 ∧ H.ro ≤ g ∧ h1.ro = H.ro ∧ (∀ h2, Eff (fun b => b = g) h1 h2 → h2.get (h.next + 1) = some (.cells [.int .i64 w.k, .int .i64 w.n, .int .i64 w.b] 24)) ∧
      ∀ h2, StoreI h1 q g gs B p.n.toNat w c G 0 [.int .i64 c.toNat] h2 → StoreR h m M F c p v (.bool true) h2 := by
    intro r h1 hr
    unfold AccW at hr
    cases e : right M c p with
    | none =>
      rw [e] at hr
      obtain ⟨rfl, e3⟩ := hr
      refine .inl ⟨_, rfl, rfl, ?_⟩
      rw [e] at hsm
      unfold StoreR
      rw [hsm]
      exact ⟨rfl, hm0 e3⟩
    | some i =>
      rw [e] at hr hsm
      obtain ⟨g, bs1, ps1, fs1, F1, q, qp, cq, gs, B, hB, rfl, x2, hq, hb, fq, full, hgs, ef, hsub⟩ := hr
      obtain ⟨hk, hcc, hi, B', hB', hn0, hn1, hn2⟩ := right_some e
      rw [hB] at hB'; cases hB'
      have fg := (full.hg _ g hgs).1
      refine .inr ⟨g, rfl, q, gs, B, fs1 i, ⟨0, by omega, by omega, rfl, .refl _ _, by rw [storeB_zero]; exact full⟩, by omega, fun k hk => ?_, by omega, by have := (x2.ok g (x2.sub i g fg)).1; have := ef.ro; omega, ef.ro, fun h2 e2 => ?_, fun h2 hst => ?_⟩
      · have hal : p.n.toNat % 64 + c.toNat ≤ 64 := by
          rw [Int.tmod_eq_emod_of_nonneg hn0] at hn2
          rcases hcc with rfl | rfl | rfl <;> omega
        exact ⟨by rw [show (p.n.toNat + k) / 64 = p.n.toNat / 64 by omega]; exact hgs, by omega⟩
      · have n1 : h.next + 1 ≠ g := by
          intro en
          rcases hsub g (x2.sub i g fg) with h3 | h3
          · have := (x.ok g h3).2; omega
          · omega
        rw [e2.get _ n1 (by have := ef.next; omega), ef.get _ (fun h3 => by have := (x.ok _ h3).2; omega) (by omega), hx]
      · obtain ⟨k, hk1, hk2, hk3, e2, full2⟩ := hst
        have hkc : k = c.toNat := by simp at hk3; omega
        subst hkc
        have hne : qp ≠ g := by
          intro en; subst en
          obtain ⟨cs, hc1, _⟩ := (full.hg _ qp hgs).2
          rw [hb] at hc1; simp at hc1
        have hb2 : h2.get qp = some (.cells [.int .i64 B.size, .slice (some ⟨q, 0, none⟩) gs.length cq, .bool B.freed] 60) := by rw [e2.get _ hne (x2.ok qp (x2.sub i qp fq)).2, hb]
        have y := x2.upd hq hB (B' := storeB B p.n.toNat w c.toNat) rfl (e2.mono (fun b (hb : b = g) => by rw [hb]; exact fg)) ⟨_, hb2, fq, .full q cq gs rfl full2⟩ (fun b hb => .inl hb) (fun b hb => by have := x2.ok b (x2.sub i b hb); have := e2.next; have := e2.ro; omega)
        unfold StoreR
        rw [hsm]
        simp only [hB, Option.map_some]
        have hsub2 : ∀ b, F1 b → F b ∨ h.next ≤ b := fun b hb => by
          rcases hsub b hb with q | q
          · exact .inl q
          · exact .inr (by omega)
        refine ⟨trivial, _, ⟨_, _, _, y⟩, ((eff.mono (fun _ q => q.elim)).trans ef).more e2 (fun b (hb : b = g) => by rw [hb]; exact hsub2 g (x2.sub i g fg)), fun b hb => ?_⟩
        rcases hb with hb | hb
        · exact hsub2 b hb
        · exact hsub2 b (x2.sub i b hb)
  rcases hways with ⟨w2, c8⟩ | w2
  · have d8 : decide (c = 8) = true := dec_t c8
    simp only [axt_20, axt_21, opt_some, optH_some, nb_cons, nb_nil, CD_true, CD_false, GD_tt, GD_ff, GD_tf, GD_ft, GD_un, pk_true, pk_false, nck_ptr, rv_one, rv_two, b_lss, b_leq, b_gtr, b_geq, b_eql, b_neq, b_add, b_sub, b_mul, b_quo, b_rem, b_shl, b_shr, b_and, b_or, b_xor, b_andNot, u_not, u_neg, nob_bool, nob_int, nob_string, nob_ptr, nob_slice, nob_map, nob_func, nob_nilf, nob_iface, nob_nili, nob_agg, nob_tuple, cok_bool, cok_int, cok_string, cok_ptr, cok_slice, cok_map, cok_func, nobot_nil, nobot_cons, onb_none, onb_some, cond_true, cond_false, abound_none, abound_int, Option.bind_some, Option.bind_none, nth, nw, Value.cells, BK, List.getElem?_cons_zero, List.getElem?_cons_succ, List.toList_toArray, Nat.zero_add, Nat.add_zero, List.length_cons, List.length_nil, List.length_replicate, List.length_map, List.length_set, List.all_cons, List.all_nil, setMany, List.set_cons_zero, List.set_cons_succ, List.drop_zero, List.take_zero, List.take_succ_cons, List.drop_succ_cons, List.take_nil, List.drop_nil, if_true, if_false, Bool.and_true, Bool.true_and, Nat.reduceAdd, Nat.reduceLeDiff, Nat.reduceMul, Nat.reduceMod, Nat.reduceDiv, Nat.reduceSub, Nat.reduceEqDiff, Nat.lt_irrefl, Int.reduceEq, Int.reduceLT, Int.reduceLE, Int.reduceAdd, Int.reduceSub, Int.reduceMul, Int.reduceNeg, Int.reduceToNat, and_true, true_and, Nat.le_refl, dec_t, dec_f, nxt_push, nxt_set, ro_pushk, ro_setk, next_lock, ro_lock, get_lock, get_push_self, get_push_eq, get_push_lt, get_set_self, get_set_ne, ne_eq, lt_add1, lt_add, sto, ldn, ld1, not_false_eq_true, not_true_eq_false, Bool.not_true, Bool.not_false, Bool.and_false, Bool.false_and, beq_self_eq_true, al_2, al_24, al_3, as_24, as_65, bd_24_, bd_65_, bd_65_0_1, bd_65_0_1_2, cv_2_5, cv_3_5, fa_24_0, fa_24_1, ix_61, len_61, hx, hp1, w2, d8]
    refine callV_of (by kernel_rfl) rfl hac ?_
    intro r h1 hr
    rcases hall r h1 hr with ⟨_, rfl, rfl, hf⟩ | ⟨g, rfl, q, gs, B, G, hI, hc0, hk, hc8, hgr, hr1, hbx, hend⟩
    · simp only [axt_20, axt_21, opt_some, optH_some, nb_cons, nb_nil, CD_true, CD_false, GD_tt, GD_ff, GD_tf, GD_ft, GD_un, pk_true, pk_false, nck_ptr, rv_one, rv_two, b_lss, b_leq, b_gtr, b_geq, b_eql, b_neq, b_add, b_sub, b_mul, b_quo, b_rem, b_shl, b_shr, b_and, b_or, b_xor, b_andNot, u_not, u_neg, nob_bool, nob_int, nob_string, nob_ptr, nob_slice, nob_map, nob_func, nob_nilf, nob_iface, nob_nili, nob_agg, nob_tuple, cok_bool, cok_int, cok_string, cok_ptr, cok_slice, cok_map, cok_func, nobot_nil, nobot_cons, onb_none, onb_some, cond_true, cond_false, abound_none, abound_int, Option.bind_some, Option.bind_none, nth, nw, Value.cells, BK, List.getElem?_cons_zero, List.getElem?_cons_succ, List.toList_toArray, Nat.zero_add, Nat.add_zero, List.length_cons, List.length_nil, List.length_replicate, List.length_map, List.length_set, List.all_cons, List.all_nil, setMany, List.set_cons_zero, List.set_cons_succ, List.drop_zero, List.take_zero, List.take_succ_cons, List.drop_succ_cons, List.take_nil, List.drop_nil, if_true, if_false, Bool.and_true, Bool.true_and, Nat.reduceAdd, Nat.reduceLeDiff, Nat.reduceMul, Nat.reduceMod, Nat.reduceDiv, Nat.reduceSub, Nat.reduceEqDiff, Nat.lt_irrefl, Int.reduceEq, Int.reduceLT, Int.reduceLE, Int.reduceAdd, Int.reduceSub, Int.reduceMul, Int.reduceNeg, Int.reduceToNat, and_true, true_and, Nat.le_refl, dec_t, dec_f, nxt_push, nxt_set, ro_pushk, ro_setk, next_lock, ro_lock, get_lock, get_push_self, get_push_eq, get_push_lt, get_set_self, get_set_ne, ne_eq, lt_add1, lt_add, sto, ldn, ld1, not_false_eq_true, not_true_eq_false, Bool.not_true, Bool.not_false, Bool.and_false, Bool.false_and, beq_self_eq_true, al_2, al_24, al_3, as_24, as_65, bd_24_, bd_65_, bd_65_0_1, bd_65_0_1_2, cv_2_5, cv_3_5, fa_24_0, fa_24_1, ix_61, len_61]
      exact hf
    · simp only [axt_20, axt_21, opt_some, optH_some, nb_cons, nb_nil, CD_true, CD_false, GD_tt, GD_ff, GD_tf, GD_ft, GD_un, pk_true, pk_false, nck_ptr, rv_one, rv_two, b_lss, b_leq, b_gtr, b_geq, b_eql, b_neq, b_add, b_sub, b_mul, b_quo, b_rem, b_shl, b_shr, b_and, b_or, b_xor, b_andNot, u_not, u_neg, nob_bool, nob_int, nob_string, nob_ptr, nob_slice, nob_map, nob_func, nob_nilf, nob_iface, nob_nili, nob_agg, nob_tuple, cok_bool, cok_int, cok_string, cok_ptr, cok_slice, cok_map, cok_func, nobot_nil, nobot_cons, onb_none, onb_some, cond_true, cond_false, abound_none, abound_int, Option.bind_some, Option.bind_none, nth, nw, Value.cells, BK, List.getElem?_cons_zero, List.getElem?_cons_succ, List.toList_toArray, Nat.zero_add, Nat.add_zero, List.length_cons, List.length_nil, List.length_replicate, List.length_map, List.length_set, List.all_cons, List.all_nil, setMany, List.set_cons_zero, List.set_cons_succ, List.drop_zero, List.take_zero, List.take_succ_cons, List.drop_succ_cons, List.take_nil, List.drop_nil, if_true, if_false, Bool.and_true, Bool.true_and, Nat.reduceAdd, Nat.reduceLeDiff, Nat.reduceMul, Nat.reduceMod, Nat.reduceDiv, Nat.reduceSub, Nat.reduceEqDiff, Nat.lt_irrefl, Int.reduceEq, Int.reduceLT, Int.reduceLE, Int.reduceAdd, Int.reduceSub, Int.reduceMul, Int.reduceNeg, Int.reduceToNat, and_true, true_and, Nat.le_refl, dec_t, dec_f, nxt_push, nxt_set, ro_pushk, ro_setk, next_lock, ro_lock, get_lock, get_push_self, get_push_eq, get_push_lt, get_set_self, get_set_ne, ne_eq, lt_add1, lt_add, sto, ldn, ld1, not_false_eq_true, not_true_eq_false, Bool.not_true, Bool.not_false, Bool.and_false, Bool.false_and, beq_self_eq_true, al_2, al_24, al_3, as_24, as_65, bd_24_, bd_65_, bd_65_0_1, bd_65_0_1_2, cv_2_5, cv_3_5, fa_24_0, fa_24_1, ix_61, len_61]
      refine LP_of (StoreI h1 q g gs B p.n.toNat w c G) c.toNat hI ?_
      rintro n vs h2 ⟨k, hk1, rfl, rfl, ef2, full2⟩
      by_cases hlt : k < c.toNat
      · have hki : (k : Int) < (c.toNat : Int) := by omega
        obtain ⟨hgk, hok⟩ := hk k hlt
        obtain ⟨cs, hcs, hle, hput⟩ := full2.put hgk
        have hput' := hput (cellOf w k)
        rw [hok] at hle hput'
        have hbx2 := hbx h2 ef2
        have hr2 : h2.ro ≤ g := by rw [ef2.ro, hr1]; exact hgr
        have hb1 : 0 ≤ (k : Int) ∧ (k : Int) < (c.toNat : Int) := by omega
        have hw1 : IntKind.wrap .i64 (8 * (k : Int)) = ((8 * k : Nat) : Int) := by rw [w64 (by omega) (by omega)]; omega
        have hw2 : IntKind.wrap .i64 ((k : Int) + 1) = ((k + 1 : Nat) : Int) := by rw [w64 (by omega) (by omega)]; omega
        have hk0 : 0 ≤ ((8 * k : Nat) : Int) := by omega
        have hmin : min (8 * k) IntKind.i64.bits = 8 * k := by show min (8 * k) 64 = _; omega
        have hnext : ∀ h3, h3 = h2.set g (some (.cells (setMany cs (p.n.toNat % 64 * 5 + k * 5) (cellOf w k).vals) 81)) → ∃ m, m < c.toNat - k ∧ StoreI h1 q g gs B p.n.toNat w c G m [.int .i64 ((k + 1 : Nat) : Int)] h3 := fun h3 e3 =>
          ⟨c.toNat - (k + 1), by omega, k + 1, by omega, rfl, rfl, by rw [e3]; exact ef2.set (.inl rfl) _, by rw [e3]; have := hput'; unfold upd at this; rw [← storeB_succ]; exact this⟩
        simp only [axt_20, axt_21, opt_some, optH_some, nb_cons, nb_nil, CD_true, CD_false, GD_tt, GD_ff, GD_tf, GD_ft, GD_un, pk_true, pk_false, nck_ptr, rv_one, rv_two, b_lss, b_leq, b_gtr, b_geq, b_eql, b_neq, b_add, b_sub, b_mul, b_quo, b_rem, b_shl, b_shr, b_and, b_or, b_xor, b_andNot, u_not, u_neg, nob_bool, nob_int, nob_string, nob_ptr, nob_slice, nob_map, nob_func, nob_nilf, nob_iface, nob_nili, nob_agg, nob_tuple, cok_bool, cok_int, cok_string, cok_ptr, cok_slice, cok_map, cok_func, nobot_nil, nobot_cons, onb_none, onb_some, cond_true, cond_false, abound_none, abound_int, Option.bind_some, Option.bind_none, nth, nw, Value.cells, BK, List.getElem?_cons_zero, List.getElem?_cons_succ, List.toList_toArray, Nat.zero_add, Nat.add_zero, List.length_cons, List.length_nil, List.length_replicate, List.length_map, List.length_set, List.all_cons, List.all_nil, setMany, List.set_cons_zero, List.set_cons_succ, List.drop_zero, List.take_zero, List.take_succ_cons, List.drop_succ_cons, List.take_nil, List.drop_nil, if_true, if_false, Bool.and_true, Bool.true_and, Nat.reduceAdd, Nat.reduceLeDiff, Nat.reduceMul, Nat.reduceMod, Nat.reduceDiv, Nat.reduceSub, Nat.reduceEqDiff, Nat.lt_irrefl, Int.reduceEq, Int.reduceLT, Int.reduceLE, Int.reduceAdd, Int.reduceSub, Int.reduceMul, Int.reduceNeg, Int.reduceToNat, and_true, true_and, Nat.le_refl, dec_t, dec_f, nxt_push, nxt_set, ro_pushk, ro_setk, next_lock, ro_lock, get_lock, get_push_self, get_push_eq, get_push_lt, get_set_self, get_set_ne, ne_eq, lt_add1, lt_add, sto, ldn, ld1, not_false_eq_true, not_true_eq_false, Bool.not_true, Bool.not_false, Bool.and_false, Bool.false_and, beq_self_eq_true, al_2, al_24, al_3, as_24, as_65, bd_24_, bd_65_, bd_65_0_1, bd_65_0_1_2, cv_2_5, cv_3_5, fa_24_0, fa_24_1, ix_61, len_61, hki, hbx2, hcs, hr2, hb1, hle, hw1, hw2, hk0, hmin, Int.toNat_natCast, w2]
        refine hnext _ ?_
        unfold cellOf Cl.vals
        simp only [w2, setMany, v0, unk, if_true, if_false, Int.reduceEq]
      · have hkc : k = c.toNat := by omega
        subst hkc
        have hki : ¬ (c.toNat : Int) < (c.toNat : Int) := by omega
        simp only [axt_20, axt_21, opt_some, optH_some, nb_cons, nb_nil, CD_true, CD_false, GD_tt, GD_ff, GD_tf, GD_ft, GD_un, pk_true, pk_false, nck_ptr, rv_one, rv_two, b_lss, b_leq, b_gtr, b_geq, b_eql, b_neq, b_add, b_sub, b_mul, b_quo, b_rem, b_shl, b_shr, b_and, b_or, b_xor, b_andNot, u_not, u_neg, nob_bool, nob_int, nob_string, nob_ptr, nob_slice, nob_map, nob_func, nob_nilf, nob_iface, nob_nili, nob_agg, nob_tuple, cok_bool, cok_int, cok_string, cok_ptr, cok_slice, cok_map, cok_func, nobot_nil, nobot_cons, onb_none, onb_some, cond_true, cond_false, abound_none, abound_int, Option.bind_some, Option.bind_none, nth, nw, Value.cells, BK, List.getElem?_cons_zero, List.getElem?_cons_succ, List.toList_toArray, Nat.zero_add, Nat.add_zero, List.length_cons, List.length_nil, List.length_replicate, List.length_map, List.length_set, List.all_cons, List.all_nil, setMany, List.set_cons_zero, List.set_cons_succ, List.drop_zero, List.take_zero, List.take_succ_cons, List.drop_succ_cons, List.take_nil, List.drop_nil, if_true, if_false, Bool.and_true, Bool.true_and, Nat.reduceAdd, Nat.reduceLeDiff, Nat.reduceMul, Nat.reduceMod, Nat.reduceDiv, Nat.reduceSub, Nat.reduceEqDiff, Nat.lt_irrefl, Int.reduceEq, Int.reduceLT, Int.reduceLE, Int.reduceAdd, Int.reduceSub, Int.reduceMul, Int.reduceNeg, Int.reduceToNat, and_true, true_and, Nat.le_refl, dec_t, dec_f, nxt_push, nxt_set, ro_pushk, ro_setk, next_lock, ro_lock, get_lock, get_push_self, get_push_eq, get_push_lt, get_set_self, get_set_ne, ne_eq, lt_add1, lt_add, sto, ldn, ld1, not_false_eq_true, not_true_eq_false, Bool.not_true, Bool.not_false, Bool.and_false, Bool.false_and, beq_self_eq_true, al_2, al_24, al_3, as_24, as_65, bd_24_, bd_65_, bd_65_0_1, bd_65_0_1_2, cv_2_5, cv_3_5, fa_24_0, fa_24_1, ix_61, len_61, hki]
        exact hend h2 ⟨c.toNat, by omega, by omega, rfl, ef2, full2⟩
  · simp only [axt_20, axt_21, opt_some, optH_some, nb_cons, nb_nil, CD_true, CD_false, GD_tt, GD_ff, GD_tf, GD_ft, GD_un, pk_true, pk_false, nck_ptr, rv_one, rv_two, b_lss, b_leq, b_gtr, b_geq, b_eql, b_neq, b_add, b_sub, b_mul, b_quo, b_rem, b_shl, b_shr, b_and, b_or, b_xor, b_andNot, u_not, u_neg, nob_bool, nob_int, nob_string, nob_ptr, nob_slice, nob_map, nob_func, nob_nilf, nob_iface, nob_nili, nob_agg, nob_tuple, cok_bool, cok_int, cok_string, cok_ptr, cok_slice, cok_map, cok_func, nobot_nil, nobot_cons, onb_none, onb_some, cond_true, cond_false, abound_none, abound_int, Option.bind_some, Option.bind_none, nth, nw, Value.cells, BK, List.getElem?_cons_zero, List.getElem?_cons_succ, List.toList_toArray, Nat.zero_add, Nat.add_zero, List.length_cons, List.length_nil, List.length_replicate, List.length_map, List.length_set, List.all_cons, List.all_nil, setMany, List.set_cons_zero, List.set_cons_succ, List.drop_zero, List.take_zero, List.take_succ_cons, List.drop_succ_cons, List.take_nil, List.drop_nil, if_true, if_false, Bool.and_true, Bool.true_and, Nat.reduceAdd, Nat.reduceLeDiff, Nat.reduceMul, Nat.reduceMod, Nat.reduceDiv, Nat.reduceSub, Nat.reduceEqDiff, Nat.lt_irrefl, Int.reduceEq, Int.reduceLT, Int.reduceLE, Int.reduceAdd, Int.reduceSub, Int.reduceMul, Int.reduceNeg, Int.reduceToNat, and_true, true_and, Nat.le_refl, dec_t, dec_f, nxt_push, nxt_set, ro_pushk, ro_setk, next_lock, ro_lock, get_lock, get_push_self, get_push_eq, get_push_lt, get_set_self, get_set_ne, ne_eq, lt_add1, lt_add, sto, ldn, ld1, not_false_eq_true, not_true_eq_false, Bool.not_true, Bool.not_false, Bool.and_false, Bool.false_and, beq_self_eq_true, al_2, al_24, al_3, as_24, as_65, bd_24_, bd_65_, bd_65_0_1, bd_65_0_1_2, cv_2_5, cv_3_5, fa_24_0, fa_24_1, ix_61, len_61, hx, hp1, w2]
    refine callV_of (by kernel_rfl) rfl hac ?_
    intro r h1 hr
    rcases hall r h1 hr with ⟨_, rfl, rfl, hf⟩ | ⟨g, rfl, q, gs, B, G, hI, hc0, hk, hc8, hgr, hr1, hbx, hend⟩
    · simp only [axt_20, axt_21, opt_some, optH_some, nb_cons, nb_nil, CD_true, CD_false, GD_tt, GD_ff, GD_tf, GD_ft, GD_un, pk_true, pk_false, nck_ptr, rv_one, rv_two, b_lss, b_leq, b_gtr, b_geq, b_eql, b_neq, b_add, b_sub, b_mul, b_quo, b_rem, b_shl, b_shr, b_and, b_or, b_xor, b_andNot, u_not, u_neg, nob_bool, nob_int, nob_string, nob_ptr, nob_slice, nob_map, nob_func, nob_nilf, nob_iface, nob_nili, nob_agg, nob_tuple, cok_bool, cok_int, cok_string, cok_ptr, cok_slice, cok_map, cok_func, nobot_nil, nobot_cons, onb_none, onb_some, cond_true, cond_false, abound_none, abound_int, Option.bind_some, Option.bind_none, nth, nw, Value.cells, BK, List.getElem?_cons_zero, List.getElem?_cons_succ, List.toList_toArray, Nat.zero_add, Nat.add_zero, List.length_cons, List.length_nil, List.length_replicate, List.length_map, List.length_set, List.all_cons, List.all_nil, setMany, List.set_cons_zero, List.set_cons_succ, List.drop_zero, List.take_zero, List.take_succ_cons, List.drop_succ_cons, List.take_nil, List.drop_nil, if_true, if_false, Bool.and_true, Bool.true_and, Nat.reduceAdd, Nat.reduceLeDiff, Nat.reduceMul, Nat.reduceMod, Nat.reduceDiv, Nat.reduceSub, Nat.reduceEqDiff, Nat.lt_irrefl, Int.reduceEq, Int.reduceLT, Int.reduceLE, Int.reduceAdd, Int.reduceSub, Int.reduceMul, Int.reduceNeg, Int.reduceToNat, and_true, true_and, Nat.le_refl, dec_t, dec_f, nxt_push, nxt_set, ro_pushk, ro_setk, next_lock, ro_lock, get_lock, get_push_self, get_push_eq, get_push_lt, get_set_self, get_set_ne, ne_eq, lt_add1, lt_add, sto, ldn, ld1, not_false_eq_true, not_true_eq_false, Bool.not_true, Bool.not_false, Bool.and_false, Bool.false_and, beq_self_eq_true, al_2, al_24, al_3, as_24, as_65, bd_24_, bd_65_, bd_65_0_1, bd_65_0_1_2, cv_2_5, cv_3_5, fa_24_0, fa_24_1, ix_61, len_61]
      exact hf
    · simp only [axt_20, axt_21, opt_some, optH_some, nb_cons, nb_nil, CD_true, CD_false, GD_tt, GD_ff, GD_tf, GD_ft, GD_un, pk_true, pk_false, nck_ptr, rv_one, rv_two, b_lss, b_leq, b_gtr, b_geq, b_eql, b_neq, b_add, b_sub, b_mul, b_quo, b_rem, b_shl, b_shr, b_and, b_or, b_xor, b_andNot, u_not, u_neg, nob_bool, nob_int, nob_string, nob_ptr, nob_slice, nob_map, nob_func, nob_nilf, nob_iface, nob_nili, nob_agg, nob_tuple, cok_bool, cok_int, cok_string, cok_ptr, cok_slice, cok_map, cok_func, nobot_nil, nobot_cons, onb_none, onb_some, cond_true, cond_false, abound_none, abound_int, Option.bind_some, Option.bind_none, nth, nw, Value.cells, BK, List.getElem?_cons_zero, List.getElem?_cons_succ, List.toList_toArray, Nat.zero_add, Nat.add_zero, List.length_cons, List.length_nil, List.length_replicate, List.length_map, List.length_set, List.all_cons, List.all_nil, setMany, List.set_cons_zero, List.set_cons_succ, List.drop_zero, List.take_zero, List.take_succ_cons, List.drop_succ_cons, List.take_nil, List.drop_nil, if_true, if_false, Bool.and_true, Bool.true_and, Nat.reduceAdd, Nat.reduceLeDiff, Nat.reduceMul, Nat.reduceMod, Nat.reduceDiv, Nat.reduceSub, Nat.reduceEqDiff, Nat.lt_irrefl, Int.reduceEq, Int.reduceLT, Int.reduceLE, Int.reduceAdd, Int.reduceSub, Int.reduceMul, Int.reduceNeg, Int.reduceToNat, and_true, true_and, Nat.le_refl, dec_t, dec_f, nxt_push, nxt_set, ro_pushk, ro_setk, next_lock, ro_lock, get_lock, get_push_self, get_push_eq, get_push_lt, get_set_self, get_set_ne, ne_eq, lt_add1, lt_add, sto, ldn, ld1, not_false_eq_true, not_true_eq_false, Bool.not_true, Bool.not_false, Bool.and_false, Bool.false_and, beq_self_eq_true, al_2, al_24, al_3, as_24, as_65, bd_24_, bd_65_, bd_65_0_1, bd_65_0_1_2, cv_2_5, cv_3_5, fa_24_0, fa_24_1, ix_61, len_61]
      refine LP_of (StoreI h1 q g gs B p.n.toNat w c G) c.toNat hI ?_
      rintro n vs h2 ⟨k, hk1, rfl, rfl, ef2, full2⟩
      by_cases hlt : k < c.toNat
      · have hki : (k : Int) < (c.toNat : Int) := by omega
        obtain ⟨hgk, hok⟩ := hk k hlt
        obtain ⟨cs, hcs, hle, hput⟩ := full2.put hgk
        have hput' := hput (cellOf w k)
        rw [hok] at hle hput'
        have hbx2 := hbx h2 ef2
        have hr2 : h2.ro ≤ g := by rw [ef2.ro, hr1]; exact hgr
        have hb1 : 0 ≤ (k : Int) ∧ (k : Int) < (c.toNat : Int) := by omega
        have hw1 : IntKind.wrap .i64 (8 * (k : Int)) = ((8 * k : Nat) : Int) := by rw [w64 (by omega) (by omega)]; omega
        have hw2 : IntKind.wrap .i64 ((k : Int) + 1) = ((k + 1 : Nat) : Int) := by rw [w64 (by omega) (by omega)]; omega
        have hk0 : 0 ≤ ((8 * k : Nat) : Int) := by omega
        have hmin : min (8 * k) IntKind.i64.bits = 8 * k := by show min (8 * k) 64 = _; omega
        have hnext : ∀ h3, h3 = h2.set g (some (.cells (setMany cs (p.n.toNat % 64 * 5 + k * 5) (cellOf w k).vals) 81)) → ∃ m, m < c.toNat - k ∧ StoreI h1 q g gs B p.n.toNat w c G m [.int .i64 ((k + 1 : Nat) : Int)] h3 := fun h3 e3 =>
          ⟨c.toNat - (k + 1), by omega, k + 1, by omega, rfl, rfl, by rw [e3]; exact ef2.set (.inl rfl) _, by rw [e3]; have := hput'; unfold upd at this; rw [← storeB_succ]; exact this⟩
        by_cases w1 : w.k = 1
        · simp only [axt_20, axt_21, opt_some, optH_some, nb_cons, nb_nil, CD_true, CD_false, GD_tt, GD_ff, GD_tf, GD_ft, GD_un, pk_true, pk_false, nck_ptr, rv_one, rv_two, b_lss, b_leq, b_gtr, b_geq, b_eql, b_neq, b_add, b_sub, b_mul, b_quo, b_rem, b_shl, b_shr, b_and, b_or, b_xor, b_andNot, u_not, u_neg, nob_bool, nob_int, nob_string, nob_ptr, nob_slice, nob_map, nob_func, nob_nilf, nob_iface, nob_nili, nob_agg, nob_tuple, cok_bool, cok_int, cok_string, cok_ptr, cok_slice, cok_map, cok_func, nobot_nil, nobot_cons, onb_none, onb_some, cond_true, cond_false, abound_none, abound_int, Option.bind_some, Option.bind_none, nth, nw, Value.cells, BK, List.getElem?_cons_zero, List.getElem?_cons_succ, List.toList_toArray, Nat.zero_add, Nat.add_zero, List.length_cons, List.length_nil, List.length_replicate, List.length_map, List.length_set, List.all_cons, List.all_nil, setMany, List.set_cons_zero, List.set_cons_succ, List.drop_zero, List.take_zero, List.take_succ_cons, List.drop_succ_cons, List.take_nil, List.drop_nil, if_true, if_false, Bool.and_true, Bool.true_and, Nat.reduceAdd, Nat.reduceLeDiff, Nat.reduceMul, Nat.reduceMod, Nat.reduceDiv, Nat.reduceSub, Nat.reduceEqDiff, Nat.lt_irrefl, Int.reduceEq, Int.reduceLT, Int.reduceLE, Int.reduceAdd, Int.reduceSub, Int.reduceMul, Int.reduceNeg, Int.reduceToNat, and_true, true_and, Nat.le_refl, dec_t, dec_f, nxt_push, nxt_set, ro_pushk, ro_setk, next_lock, ro_lock, get_lock, get_push_self, get_push_eq, get_push_lt, get_set_self, get_set_ne, ne_eq, lt_add1, lt_add, sto, ldn, ld1, not_false_eq_true, not_true_eq_false, Bool.not_true, Bool.not_false, Bool.and_false, Bool.false_and, beq_self_eq_true, al_2, al_24, al_3, as_24, as_65, bd_24_, bd_65_, bd_65_0_1, bd_65_0_1_2, cv_2_5, cv_3_5, fa_24_0, fa_24_1, ix_61, len_61, hki, hbx2, hcs, hr2, hb1, hle, hw1, hw2, hk0, hmin, Int.toNat_natCast, w1]
          refine hnext _ ?_
          unfold cellOf Cl.vals
          simp only [w1, setMany, v0, unk, if_true, if_false, Int.reduceEq]
        · simp only [axt_20, axt_21, opt_some, optH_some, nb_cons, nb_nil, CD_true, CD_false, GD_tt, GD_ff, GD_tf, GD_ft, GD_un, pk_true, pk_false, nck_ptr, rv_one, rv_two, b_lss, b_leq, b_gtr, b_geq, b_eql, b_neq, b_add, b_sub, b_mul, b_quo, b_rem, b_shl, b_shr, b_and, b_or, b_xor, b_andNot, u_not, u_neg, nob_bool, nob_int, nob_string, nob_ptr, nob_slice, nob_map, nob_func, nob_nilf, nob_iface, nob_nili, nob_agg, nob_tuple, cok_bool, cok_int, cok_string, cok_ptr, cok_slice, cok_map, cok_func, nobot_nil, nobot_cons, onb_none, onb_some, cond_true, cond_false, abound_none, abound_int, Option.bind_some, Option.bind_none, nth, nw, Value.cells, BK, List.getElem?_cons_zero, List.getElem?_cons_succ, List.toList_toArray, Nat.zero_add, Nat.add_zero, List.length_cons, List.length_nil, List.length_replicate, List.length_map, List.length_set, List.all_cons, List.all_nil, setMany, List.set_cons_zero, List.set_cons_succ, List.drop_zero, List.take_zero, List.take_succ_cons, List.drop_succ_cons, List.take_nil, List.drop_nil, if_true, if_false, Bool.and_true, Bool.true_and, Nat.reduceAdd, Nat.reduceLeDiff, Nat.reduceMul, Nat.reduceMod, Nat.reduceDiv, Nat.reduceSub, Nat.reduceEqDiff, Nat.lt_irrefl, Int.reduceEq, Int.reduceLT, Int.reduceLE, Int.reduceAdd, Int.reduceSub, Int.reduceMul, Int.reduceNeg, Int.reduceToNat, and_true, true_and, Nat.le_refl, dec_t, dec_f, nxt_push, nxt_set, ro_pushk, ro_setk, next_lock, ro_lock, get_lock, get_push_self, get_push_eq, get_push_lt, get_set_self, get_set_ne, ne_eq, lt_add1, lt_add, sto, ldn, ld1, not_false_eq_true, not_true_eq_false, Bool.not_true, Bool.not_false, Bool.and_false, Bool.false_and, beq_self_eq_true, al_2, al_24, al_3, as_24, as_65, bd_24_, bd_65_, bd_65_0_1, bd_65_0_1_2, cv_2_5, cv_3_5, fa_24_0, fa_24_1, ix_61, len_61, hki, hbx2, hcs, hr2, hb1, hle, hw1, hw2, hk0, hmin, Int.toNat_natCast, w1, w2]
          refine hnext _ ?_
          unfold cellOf Cl.vals
          simp only [w1, w2, setMany, v0, unk, if_true, if_false, Int.reduceEq]
      · have hkc : k = c.toNat := by omega
        subst hkc
        have hki : ¬ (c.toNat : Int) < (c.toNat : Int) := by omega
        simp only [axt_20, axt_21, opt_some, optH_some, nb_cons, nb_nil, CD_true, CD_false, GD_tt, GD_ff, GD_tf, GD_ft, GD_un, pk_true, pk_false, nck_ptr, rv_one, rv_two, b_lss, b_leq, b_gtr, b_geq, b_eql, b_neq, b_add, b_sub, b_mul, b_quo, b_rem, b_shl, b_shr, b_and, b_or, b_xor, b_andNot, u_not, u_neg, nob_bool, nob_int, nob_string, nob_ptr, nob_slice, nob_map, nob_func, nob_nilf, nob_iface, nob_nili, nob_agg, nob_tuple, cok_bool, cok_int, cok_string, cok_ptr, cok_slice, cok_map, cok_func, nobot_nil, nobot_cons, onb_none, onb_some, cond_true, cond_false, abound_none, abound_int, Option.bind_some, Option.bind_none, nth, nw, Value.cells, BK, List.getElem?_cons_zero, List.getElem?_cons_succ, List.toList_toArray, Nat.zero_add, Nat.add_zero, List.length_cons, List.length_nil, List.length_replicate, List.length_map, List.length_set, List.all_cons, List.all_nil, setMany, List.set_cons_zero, List.set_cons_succ, List.drop_zero, List.take_zero, List.take_succ_cons, List.drop_succ_cons, List.take_nil, List.drop_nil, if_true, if_false, Bool.and_true, Bool.true_and, Nat.reduceAdd, Nat.reduceLeDiff, Nat.reduceMul, Nat.reduceMod, Nat.reduceDiv, Nat.reduceSub, Nat.reduceEqDiff, Nat.lt_irrefl, Int.reduceEq, Int.reduceLT, Int.reduceLE, Int.reduceAdd, Int.reduceSub, Int.reduceMul, Int.reduceNeg, Int.reduceToNat, and_true, true_and, Nat.le_refl, dec_t, dec_f, nxt_push, nxt_set, ro_pushk, ro_setk, next_lock, ro_lock, get_lock, get_push_self, get_push_eq, get_push_lt, get_set_self, get_set_ne, ne_eq, lt_add1, lt_add, sto, ldn, ld1, not_false_eq_true, not_true_eq_false, Bool.not_true, Bool.not_false, Bool.and_false, Bool.false_and, beq_self_eq_true, al_2, al_24, al_3, as_24, as_65, bd_24_, bd_65_, bd_65_0_1, bd_65_0_1_2, cv_2_5, cv_3_5, fa_24_0, fa_24_1, ix_61, len_61, hki]
        exact hend h2 ⟨c.toNat, by omega, by omega, rfl, ef2, full2⟩
end
end Go.Mem
namespace Go.Mem
open Go.Ai Go.Proofs
set_option linter.unusedVariables false
set_option linter.unusedSimpArgs false
theorem new_ok (h : AHeap) : DC Try.prog 8 [] h (fun v h1 => v = .pointer (some ⟨h.next, 0, none⟩) ∧ MemH h1 h.next [] (fun b => b = h.next) ∧ Eff nof h h1) := by
  apply DC_wf; intro hwf; have hro := hwf.2
  apply W_New_ok
  unfold W_New
  simp only [axt_20, axt_21, opt_some, optH_some, nb_cons, nb_nil, CD_true, CD_false, GD_tt, GD_ff, GD_tf, GD_ft, GD_un, pk_true, pk_false, nck_ptr, rv_one, rv_two, b_lss, b_leq, b_gtr, b_geq, b_eql, b_neq, b_add, b_sub, b_mul, b_quo, b_rem, b_shl, b_shr, b_and, b_or, b_xor, b_andNot, u_not, u_neg, nob_bool, nob_int, nob_string, nob_ptr, nob_slice, nob_map, nob_func, nob_nilf, nob_iface, nob_nili, nob_agg, nob_tuple, cok_bool, cok_int, cok_string, cok_ptr, cok_slice, cok_map, cok_func, nobot_nil, nobot_cons, onb_none, onb_some, cond_true, cond_false, abound_none, abound_int, Option.bind_some, Option.bind_none, nth, nw, Value.cells, BK, List.getElem?_cons_zero, List.getElem?_cons_succ, List.toList_toArray, Nat.zero_add, Nat.add_zero, List.length_cons, List.length_nil, List.length_replicate, List.length_map, List.length_set, List.all_cons, List.all_nil, setMany, List.set_cons_zero, List.set_cons_succ, List.drop_zero, List.take_zero, List.take_succ_cons, List.drop_succ_cons, List.take_nil, List.drop_nil, if_true, if_false, Bool.and_true, Bool.true_and, Nat.reduceAdd, Nat.reduceLeDiff, Nat.reduceMul, Nat.reduceMod, Nat.reduceDiv, Nat.reduceSub, Nat.reduceEqDiff, Nat.lt_irrefl, Int.reduceEq, Int.reduceLT, Int.reduceLE, Int.reduceAdd, Int.reduceSub, Int.reduceMul, Int.reduceNeg, Int.reduceToNat, and_true, true_and, Nat.le_refl, dec_t, dec_f, nxt_push, nxt_set, ro_pushk, ro_setk, next_lock, ro_lock, get_lock, get_push_self, get_push_eq, get_push_lt, get_set_self, get_set_ne, ne_eq, lt_add1, lt_add, sto, ldn, ld1, not_false_eq_true, not_true_eq_false, Bool.not_true, Bool.not_false, Bool.and_false, Bool.false_and, beq_self_eq_true, bd_56_]
  refine ⟨⟨_, [], fun _ _ => False, ⟨get_push_self, rfl, rfl, .inl ⟨rfl, rfl⟩, fun _ e => e, fun i p B hp => by simp at hp, fun i j b e => e.elim, fun i b e => e.elim, fun b hb => ?_⟩⟩, (Eff.refl _ _).push _⟩
  subst hb
  simp only [ro_pushk, nxt_push]; omega
theorem cap_ne (c n : Nat) : capafter c n ≠ 0 := by
  unfold capafter
  split
  · cases Nat.ble n _ <;> simp
  · simp
theorem live_le (M : MM) : live M ≤ M.length := List.length_filter_le _ _
theorem live_add (M : MM) (B : MB) (hf : B.freed = false) : live (M ++ [B]) = live M + 1 := by simp [live, hf]
def fresh (n : Int) : MB := ⟨n.toNat, false, fun _ => unk⟩
def allocM (M : MM) (n : Int) : MM × Int × Int := if n < 0 ∨ 65536 < n then (M, 0, 1) else if 100000 ≤ M.length then (M, 0, 2) else (M ++ [fresh n], M.length + 1, 0)
def AllocR (h : AHeap) (m : Nat) (M : MM) (F : Nat → Prop) (n : Int) (r : Value) (h1 : AHeap) : Prop := r = .tuple #[.int .i64 (allocM M n).2.1, .int .i64 (allocM M n).2.2] ∧ MutR h m (allocM M n).1 F h1
section
variable {h : AHeap} {m : Nat} {bs : Value} {ps : List Nat} {fs : Nat → Nat → Prop} {M : MM} {F : Nat → Prop}
/-- A block more: blocks of its own, an array that holds all. -/
theorem MemO.grow (x : MemO h m bs ps fs M F) {h1 : AHeap} {B : MB} {p q c : Nat} (hf : B.freed = false) (eff : Eff F h h1) (hp : h.next ≤ p ∧ p < h1.next) (hq : h.next ≤ q ∧ q < h1.next) (hpq : p ≠ q) (hro : h.ro ≤ h.next)
    (e1 : h1.get m = some (.cells [.slice (some ⟨q, 0, none⟩) (M.length + 1) c, .int .i64 (live M + 1 : Nat)] 56)) (hc : c ≠ 0) (e2 : h1.get q = some (.cells ((ps.map fun p => .pointer (some ⟨p, 0, none⟩)) ++ [.pointer (some ⟨p, 0, none⟩)]) 57))
    (e3 : h1.get p = some (.cells [.int .i64 B.size, .slice none 0 0, .bool B.freed] 60)) (e4 : ∀ b, F b → b ≠ m → (∀ c, bs ≠ .slice (some ⟨b, 0, none⟩) M.length c) → h1.get b = h.get b) (hu : ∀ k, B.byte k = unk) :
    MemO h1 m (.slice (some ⟨q, 0, none⟩) (M.length + 1) c) (ps ++ [p]) (fun i b => if i = M.length then b = p else fs i b) (M ++ [B]) (fun b => F b ∨ b = p ∨ b = q) := by
  have hnew : ∀ b, h.next ≤ b → F b → False := fun b hl hb => by have := (x.ok b hb).2; omega
  have hlp := x.len
  refine ⟨by rw [live_add M B hf]; exact e1, .inl x.fm, by simp [x.len], ?_, ?_, ?_, ?_, ?_, ?_⟩
  · refine .inr ⟨q, c, by simp, hc, .inr (.inr rfl), by rw [e2]; simp, fun i hi => ?_⟩
    split at hi
    · exact hpq hi.symm
    · exact hnew q hq.1 (x.sub i q hi)
  · intro i hi
    split at hi
    · subst hi; exact hnew m hp.1 x.fm
    · exact x.nm i hi
  · intro i p' B' hp' hB'
    by_cases e : i = M.length
    · subst e
      rw [← hlp] at hp'
      rw [List.getElem?_append_right (Nat.le_refl _), Nat.sub_self] at hp' hB'
      simp at hp' hB'
      subst hp' hB'
      simp only [if_true]
      exact ⟨_, e3, rfl, .empty rfl hu⟩
    · have hlt : i < M.length := by
        rcases Nat.lt_or_ge i M.length with a | a
        · exact a
        · rw [List.getElem?_eq_none (by simp; omega)] at hB'; cases hB'
      rw [List.getElem?_append_left (by omega)] at hp' hB'
      simp only [if_neg e]
      refine (x.blk i p' B' hp' hB').keep (fun b hb => e4 b (x.sub i b hb) (fun q => ?_) (fun c q => ?_))
      · subst q; exact x.nm i hb
      · rcases x.hb with ⟨rfl, _⟩ | ⟨bb, c', r, _, _, _, r5⟩
        · cases hlt
        · rw [r] at q; cases q; exact r5 i hb
  · intro i j b hi hj
    split at hi <;> split at hj
    · rename_i a1 a2; rw [a1, a2]
    · exact (hnew b (by rw [hi]; exact hp.1) (x.sub j b hj)).elim
    · exact (hnew b (by rw [hj]; exact hp.1) (x.sub i b hi)).elim
    · exact x.dis i j b hi hj
  · intro i b hi
    split at hi
    · exact .inr (.inl hi)
    · exact .inl (x.sub i b hi)
  · intro b hb
    have n1 := eff.next
    have n2 := eff.ro
    rcases hb with hb | hb | hb
    · have := x.ok b hb; omega
    · omega
    · omega
theorem alloc_ok (x : MemO h m bs ps fs M F) (n : Int) :
    DC Try.prog 9 [.pointer (some ⟨m, 0, none⟩), .int .i64 n] h (AllocR h m M F n) := by
  apply DC_wf; intro hwf; have hro := hwf.2
  apply W_Alloc_ok
  unfold W_Alloc
  have hm0 : MutR h m M F h := ⟨F, ⟨bs, ps, fs, x⟩, .refl _ _, fun b hb => .inl hb⟩
  have hbad : n < 0 ∨ 65536 < n → AllocR h m M F n (.tuple #[.int .i64 0, .int .i64 1]) h := fun e => by
    unfold AllocR allocM; rw [if_pos e]; exact ⟨rfl, hm0⟩
  by_cases h1 : n < 0
  · simp only [axt_20, axt_21, opt_some, optH_some, nb_cons, nb_nil, CD_true, CD_false, GD_tt, GD_ff, GD_tf, GD_ft, GD_un, pk_true, pk_false, nck_ptr, rv_one, rv_two, b_lss, b_leq, b_gtr, b_geq, b_eql, b_neq, b_add, b_sub, b_mul, b_quo, b_rem, b_shl, b_shr, b_and, b_or, b_xor, b_andNot, u_not, u_neg, nob_bool, nob_int, nob_string, nob_ptr, nob_slice, nob_map, nob_func, nob_nilf, nob_iface, nob_nili, nob_agg, nob_tuple, cok_bool, cok_int, cok_string, cok_ptr, cok_slice, cok_map, cok_func, nobot_nil, nobot_cons, onb_none, onb_some, cond_true, cond_false, abound_none, abound_int, Option.bind_some, Option.bind_none, nth, nw, Value.cells, BK, List.getElem?_cons_zero, List.getElem?_cons_succ, List.toList_toArray, Nat.zero_add, Nat.add_zero, List.length_cons, List.length_nil, List.length_replicate, List.length_map, List.length_set, List.all_cons, List.all_nil, setMany, List.set_cons_zero, List.set_cons_succ, List.drop_zero, List.take_zero, List.take_succ_cons, List.drop_succ_cons, List.take_nil, List.drop_nil, if_true, if_false, Bool.and_true, Bool.true_and, Nat.reduceAdd, Nat.reduceLeDiff, Nat.reduceMul, Nat.reduceMod, Nat.reduceDiv, Nat.reduceSub, Nat.reduceEqDiff, Nat.lt_irrefl, Int.reduceEq, Int.reduceLT, Int.reduceLE, Int.reduceAdd, Int.reduceSub, Int.reduceMul, Int.reduceNeg, Int.reduceToNat, and_true, true_and, Nat.le_refl, dec_t, dec_f, nxt_push, nxt_set, ro_pushk, ro_setk, next_lock, ro_lock, get_lock, get_push_self, get_push_eq, get_push_lt, get_set_self, get_set_ne, ne_eq, lt_add1, lt_add, sto, ldn, ld1, not_false_eq_true, not_true_eq_false, Bool.not_true, Bool.not_false, Bool.and_false, Bool.false_and, beq_self_eq_true, al_3, al_54, ap_54, as_3, as_54, bd_60_0, bs_54_1_0, co_57, fa_56_0, fa_56_1, len_54, h1]
    exact hbad (.inl h1)
  by_cases h2 : 65536 < n
  · simp only [axt_20, axt_21, opt_some, optH_some, nb_cons, nb_nil, CD_true, CD_false, GD_tt, GD_ff, GD_tf, GD_ft, GD_un, pk_true, pk_false, nck_ptr, rv_one, rv_two, b_lss, b_leq, b_gtr, b_geq, b_eql, b_neq, b_add, b_sub, b_mul, b_quo, b_rem, b_shl, b_shr, b_and, b_or, b_xor, b_andNot, u_not, u_neg, nob_bool, nob_int, nob_string, nob_ptr, nob_slice, nob_map, nob_func, nob_nilf, nob_iface, nob_nili, nob_agg, nob_tuple, cok_bool, cok_int, cok_string, cok_ptr, cok_slice, cok_map, cok_func, nobot_nil, nobot_cons, onb_none, onb_some, cond_true, cond_false, abound_none, abound_int, Option.bind_some, Option.bind_none, nth, nw, Value.cells, BK, List.getElem?_cons_zero, List.getElem?_cons_succ, List.toList_toArray, Nat.zero_add, Nat.add_zero, List.length_cons, List.length_nil, List.length_replicate, List.length_map, List.length_set, List.all_cons, List.all_nil, setMany, List.set_cons_zero, List.set_cons_succ, List.drop_zero, List.take_zero, List.take_succ_cons, List.drop_succ_cons, List.take_nil, List.drop_nil, if_true, if_false, Bool.and_true, Bool.true_and, Nat.reduceAdd, Nat.reduceLeDiff, Nat.reduceMul, Nat.reduceMod, Nat.reduceDiv, Nat.reduceSub, Nat.reduceEqDiff, Nat.lt_irrefl, Int.reduceEq, Int.reduceLT, Int.reduceLE, Int.reduceAdd, Int.reduceSub, Int.reduceMul, Int.reduceNeg, Int.reduceToNat, and_true, true_and, Nat.le_refl, dec_t, dec_f, nxt_push, nxt_set, ro_pushk, ro_setk, next_lock, ro_lock, get_lock, get_push_self, get_push_eq, get_push_lt, get_set_self, get_set_ne, ne_eq, lt_add1, lt_add, sto, ldn, ld1, not_false_eq_true, not_true_eq_false, Bool.not_true, Bool.not_false, Bool.and_false, Bool.false_and, beq_self_eq_true, al_3, al_54, ap_54, as_3, as_54, bd_60_0, bs_54_1_0, co_57, fa_56_0, fa_56_1, len_54, h1, h2]
    exact hbad (.inr h2)
  have hm := x.hm
  have hln : ∀ n c, abuiltin Try.prog .len [54] 3 [.slice n M.length c] h = some (.int .i64 M.length, h) := fun _ _ => by simp only [al_3, al_54, ap_54, as_3, as_54, bd_60_0, bs_54_1_0, co_57, fa_56_0, fa_56_1, len_54]
  by_cases h3 : 100000 ≤ (M.length : Int)
  · have : AllocR h m M F n (.tuple #[.int .i64 0, .int .i64 2]) h := by
      unfold AllocR allocM; rw [if_neg (by omega), if_pos (by omega)]; exact ⟨rfl, hm0⟩
    rcases x.hb with ⟨e1, rfl⟩ | ⟨bb, c, rfl, hc, fb, hbb, _⟩
    · rw [e1] at h3; simp at h3
    · simp only [axt_20, axt_21, opt_some, optH_some, nb_cons, nb_nil, CD_true, CD_false, GD_tt, GD_ff, GD_tf, GD_ft, GD_un, pk_true, pk_false, nck_ptr, rv_one, rv_two, b_lss, b_leq, b_gtr, b_geq, b_eql, b_neq, b_add, b_sub, b_mul, b_quo, b_rem, b_shl, b_shr, b_and, b_or, b_xor, b_andNot, u_not, u_neg, nob_bool, nob_int, nob_string, nob_ptr, nob_slice, nob_map, nob_func, nob_nilf, nob_iface, nob_nili, nob_agg, nob_tuple, cok_bool, cok_int, cok_string, cok_ptr, cok_slice, cok_map, cok_func, nobot_nil, nobot_cons, onb_none, onb_some, cond_true, cond_false, abound_none, abound_int, Option.bind_some, Option.bind_none, nth, nw, Value.cells, BK, List.getElem?_cons_zero, List.getElem?_cons_succ, List.toList_toArray, Nat.zero_add, Nat.add_zero, List.length_cons, List.length_nil, List.length_replicate, List.length_map, List.length_set, List.all_cons, List.all_nil, setMany, List.set_cons_zero, List.set_cons_succ, List.drop_zero, List.take_zero, List.take_succ_cons, List.drop_succ_cons, List.take_nil, List.drop_nil, if_true, if_false, Bool.and_true, Bool.true_and, Nat.reduceAdd, Nat.reduceLeDiff, Nat.reduceMul, Nat.reduceMod, Nat.reduceDiv, Nat.reduceSub, Nat.reduceEqDiff, Nat.lt_irrefl, Int.reduceEq, Int.reduceLT, Int.reduceLE, Int.reduceAdd, Int.reduceSub, Int.reduceMul, Int.reduceNeg, Int.reduceToNat, and_true, true_and, Nat.le_refl, dec_t, dec_f, nxt_push, nxt_set, ro_pushk, ro_setk, next_lock, ro_lock, get_lock, get_push_self, get_push_eq, get_push_lt, get_set_self, get_set_ne, ne_eq, lt_add1, lt_add, sto, ldn, ld1, not_false_eq_true, not_true_eq_false, Bool.not_true, Bool.not_false, Bool.and_false, Bool.false_and, beq_self_eq_true, al_3, al_54, ap_54, as_3, as_54, bd_60_0, bs_54_1_0, co_57, fa_56_0, fa_56_1, len_54, h1, h2, hm, h3]
      exact this
  have hal : allocM M n = (M ++ [fresh n], (M.length : Int) + 1, 0) := by unfold allocM; rw [if_neg (by omega), if_neg (by omega)]
  have okm := x.ok m x.fm
  have hl := live_le M
  have hmn : ¬ m = h.next := by omega
  have hmn1 : ¬ m = h.next + 1 := by omega
  have hmn2 : ¬ m = h.next + 1 + 1 := by omega
  have hw1 : IntKind.wrap .i64 ((live M : Int) + 1) = ((live M + 1 : Nat) : Int) := by rw [w64 (by omega) (by omega)]; omega
  have hn0 : ((n.toNat : Nat) : Int) = n := by omega
  have hmn2' : ¬ h.next + 1 + 1 = m := by omega
  have hmn' : ¬ h.next = m := by omega
  have hm2 : m < h.next + 1 + 1 := by omega
  have hm3 : m < h.next + 1 + 1 + 1 := by omega
  have hnb : ∀ p v e, (h.push (.cells v e)).push (.cells [.pointer (some ⟨h.next, 0, none⟩)] 57) = p → firstc p 1 1 (.slice (some ⟨h.next + 1, 0, none⟩) 1 3) = some [.pointer (some ⟨h.next, 0, none⟩)] := fun p v e hp => by
    subst hp
    have : (((h.push (.cells v e)).push (.cells [.pointer (some ⟨h.next, 0, none⟩)] 57)).get (h.next + 1)) = some (.cells [.pointer (some ⟨h.next, 0, none⟩)] 57) := get_push_eq rfl
    simp only [firstc, this]
    rfl
  have hap := fun v h' hh => ap_54 54 v (.slice (some ⟨h.next + 1, 0, none⟩) 1 3) 1 [.pointer (some ⟨h.next, 0, none⟩)] h' rfl (hnb h' [.int .i64 n, .slice none 0 0, .bool false] 60 hh) rfl rfl
  unfold AllocR
  rw [hal]
  rcases x.hb with ⟨rfl, rfl⟩ | ⟨bb, c, rfl, hc, fb, hbb, hfb⟩
  · have hps : ps = [] := List.length_eq_zero_iff.1 x.len
    have h30 : ¬ (100000 : Int) ≤ ((0 : Nat) : Int) := by decide
    have hle : h.ro ≤ m := okm.1
    have hw0 : IntKind.wrap .i64 ((live [] : Int) + 1) = ((live [] + 1 : Nat) : Int) := rfl
    simp only [axt_20, axt_21, opt_some, optH_some, nb_cons, nb_nil, CD_true, CD_false, GD_tt, GD_ff, GD_tf, GD_ft, GD_un, pk_true, pk_false, nck_ptr, rv_one, rv_two, b_lss, b_leq, b_gtr, b_geq, b_eql, b_neq, b_add, b_sub, b_mul, b_quo, b_rem, b_shl, b_shr, b_and, b_or, b_xor, b_andNot, u_not, u_neg, nob_bool, nob_int, nob_string, nob_ptr, nob_slice, nob_map, nob_func, nob_nilf, nob_iface, nob_nili, nob_agg, nob_tuple, cok_bool, cok_int, cok_string, cok_ptr, cok_slice, cok_map, cok_func, nobot_nil, nobot_cons, onb_none, onb_some, cond_true, cond_false, abound_none, abound_int, Option.bind_some, Option.bind_none, nth, nw, Value.cells, BK, List.getElem?_cons_zero, List.getElem?_cons_succ, List.toList_toArray, Nat.zero_add, Nat.add_zero, List.length_cons, List.length_nil, List.length_replicate, List.length_map, List.length_set, List.all_cons, List.all_nil, setMany, List.set_cons_zero, List.set_cons_succ, List.drop_zero, List.take_zero, List.take_succ_cons, List.drop_succ_cons, List.take_nil, List.drop_nil, if_true, if_false, Bool.and_true, Bool.true_and, Nat.reduceAdd, Nat.reduceLeDiff, Nat.reduceMul, Nat.reduceMod, Nat.reduceDiv, Nat.reduceSub, Nat.reduceEqDiff, Nat.lt_irrefl, Int.reduceEq, Int.reduceLT, Int.reduceLE, Int.reduceAdd, Int.reduceSub, Int.reduceMul, Int.reduceNeg, Int.reduceToNat, and_true, true_and, Nat.le_refl, dec_t, dec_f, nxt_push, nxt_set, ro_pushk, ro_setk, next_lock, ro_lock, get_lock, get_push_self, get_push_eq, get_push_lt, get_set_self, get_set_ne, ne_eq, lt_add1, lt_add, sto, ldn, ld1, not_false_eq_true, not_true_eq_false, Bool.not_true, Bool.not_false, Bool.and_false, Bool.false_and, beq_self_eq_true, al_3, al_54, ap_54, as_3, as_54, bd_60_0, bs_54_1_0, co_57, fa_56_0, fa_56_1, len_54, h1, h2, h30, hm, hap, app2, Nat.reducePow, okm, hm2, hm3, hmn, hmn1, hmn2, hw0, List.length_nil]
    refine ⟨rfl, _, ⟨_, _, _, x.grow (p := h.next) (q := h.next + 1 + 1) (B := fresh n) rfl (((((((Eff.refl F h).push _).push _).push _).set (.inl x.fm) _).set (.inl x.fm) _)) ?_ ?_ (by omega) hro get_set_self (by simp) ?_ ?_ ?_ (fun _ => rfl)⟩, (((((((Eff.refl F h).push _).push _).push _).set (.inl x.fm) _).set (.inl x.fm) _)), fun b hb => ?_⟩
    · simp only [nxt_set, nxt_push]; omega
    · simp only [nxt_set, nxt_push]; omega
    · rw [get_set_ne hmn2', get_set_ne hmn2', get_push_eq (by simp only [nxt_push])]; rw [hps]; rfl
    · rw [get_set_ne hmn', get_set_ne hmn', get_push_lt (by simp only [nxt_set, nxt_push]; omega)]
      rw [get_push_lt (by simp only [nxt_push]; omega), get_push_self]
      show some (AObj.cells [.int .i64 n, _, _] 60) = some (AObj.cells [.int .i64 ((n.toNat : Nat) : Int), _, _] 60)
      rw [hn0]
      rfl
    · intro b hb hbm1 hbb1
      have hlt := (x.ok b hb).2
      rw [get_set_ne hbm1, get_set_ne hbm1, get_push_lt (by simp only [nxt_set, nxt_push]; omega)]
      rw [get_push_lt (by simp only [nxt_push]; omega), get_push_lt hlt]
    · rcases hb with hb | hb | hb
      · exact .inl hb
      · exact .inr (by omega)
      · exact .inr (by omega)
  · have okb := x.ok bb fb
    have hroom : roomFor c (M.length + 1) 8 = true := by
      unfold roomFor
      cases Nat.beq c 2 <;> simp only [cond_true, cond_false, Nat.ble_eq] <;> omega
    have hlp : M.length ≤ ps.length := by rw [x.len]; omega
    have hbm : ¬ bb = m := by intro e; subst e; rw [hbb] at hm; simp at hm
    have hmb : ¬ m = bb := fun e => hbm e.symm
    have hb0 : ¬ bb = h.next := by omega
    have hb2 : ¬ bb = h.next + 1 + 1 := by omega
    have hz : List.take M.length (List.map (fun p => Value.pointer (some ⟨p, 0, none⟩)) ps) = List.map (fun p => Value.pointer (some ⟨p, 0, none⟩)) ps := List.take_of_length_le (by simp [x.len])
    simp only [axt_20, axt_21, opt_some, optH_some, nb_cons, nb_nil, CD_true, CD_false, GD_tt, GD_ff, GD_tf, GD_ft, GD_un, pk_true, pk_false, nck_ptr, rv_one, rv_two, b_lss, b_leq, b_gtr, b_geq, b_eql, b_neq, b_add, b_sub, b_mul, b_quo, b_rem, b_shl, b_shr, b_and, b_or, b_xor, b_andNot, u_not, u_neg, nob_bool, nob_int, nob_string, nob_ptr, nob_slice, nob_map, nob_func, nob_nilf, nob_iface, nob_nili, nob_agg, nob_tuple, cok_bool, cok_int, cok_string, cok_ptr, cok_slice, cok_map, cok_func, nobot_nil, nobot_cons, onb_none, onb_some, cond_true, cond_false, abound_none, abound_int, Option.bind_some, Option.bind_none, nth, nw, Value.cells, BK, List.getElem?_cons_zero, List.getElem?_cons_succ, List.toList_toArray, Nat.zero_add, Nat.add_zero, List.length_cons, List.length_nil, List.length_replicate, List.length_map, List.length_set, List.all_cons, List.all_nil, setMany, List.set_cons_zero, List.set_cons_succ, List.drop_zero, List.take_zero, List.take_succ_cons, List.drop_succ_cons, List.take_nil, List.drop_nil, if_true, if_false, Bool.and_true, Bool.true_and, Nat.reduceAdd, Nat.reduceLeDiff, Nat.reduceMul, Nat.reduceMod, Nat.reduceDiv, Nat.reduceSub, Nat.reduceEqDiff, Nat.lt_irrefl, Int.reduceEq, Int.reduceLT, Int.reduceLE, Int.reduceAdd, Int.reduceSub, Int.reduceMul, Int.reduceNeg, Int.reduceToNat, and_true, true_and, Nat.le_refl, dec_t, dec_f, nxt_push, nxt_set, ro_pushk, ro_setk, next_lock, ro_lock, get_lock, get_push_self, get_push_eq, get_push_lt, get_set_self, get_set_ne, ne_eq, lt_add1, lt_add, sto, ldn, ld1, not_false_eq_true, not_true_eq_false, Bool.not_true, Bool.not_false, Bool.and_false, Bool.false_and, beq_self_eq_true, al_3, al_54, ap_54, as_3, as_54, bd_60_0, bs_54_1_0, co_57, fa_56_0, fa_56_1, len_54, h1, h2, h3, hm, hap, app2, hmn, hmn1, hmn2, okb, okm, hbb, hroom, hlp, Nat.mul_one, hc, hmb, hm2, hm3, hz, hw1]
    refine ⟨rfl, _, ⟨_, _, _, x.grow (p := h.next) (q := h.next + 1 + 1) (B := fresh n) rfl (((((((Eff.refl F h).push _).push _).set (.inl fb) _).push _).set (.inl x.fm) _).set (.inl x.fm) _) ?_ ?_ (by omega) hro get_set_self (cap_ne _ _) ?_ ?_ ?_ (fun _ => rfl)⟩, (((((((Eff.refl F h).push _).push _).set (.inl fb) _).push _).set (.inl x.fm) _).set (.inl x.fm) _), fun b hb => ?_⟩
    · simp only [nxt_set, nxt_push]; omega
    · simp only [nxt_set, nxt_push]; omega
    · rw [get_set_ne hmn2', get_set_ne hmn2', get_push_eq (by simp only [nxt_set, nxt_push])]
    · have : ¬ h.next = bb := fun e => hb0 e.symm
      rw [get_set_ne hmn', get_set_ne hmn', get_push_lt (by simp only [nxt_set, nxt_push]; omega)]
      rw [get_set_ne this]
      rw [get_push_lt (by simp only [nxt_push]; omega), get_push_self]
      show some (AObj.cells [.int .i64 n, _, _] 60) = some (AObj.cells [.int .i64 ((n.toNat : Nat) : Int), _, _] 60)
      rw [hn0]
      rfl
    · intro b hb hbm1 hbb1
      have hlt := (x.ok b hb).2
      rw [get_set_ne hbm1, get_set_ne hbm1, get_push_lt (by simp only [nxt_set, nxt_push]; omega)]
      rw [get_set_ne (fun e => hbb1 c (by rw [e]))]
      rw [get_push_lt (by simp only [nxt_push]; omega), get_push_lt hlt]
    · rcases hb with hb | hb | hb
      · exact .inl hb
      · exact .inr (by omega)
      · exact .inr (by omega)
end
end Go.Mem
