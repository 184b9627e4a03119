/-
  MEMORY: loads.
-/
import Derived.Test.YtpilbfkinpbnoaaMemC3
namespace Go.Mem
open Go.Ai Go.Proofs
set_option linter.unusedVariables false
set_option linter.unusedSimpArgs false
/-- Bytes put together, the lowest first. -/
def numF (f : Nat → Cl) (n : Nat) : Nat → Int
  | 0 => 0
  | k + 1 => IntKind.wrap .u64 ((BitVec.ofInt 64 (numF f n k) ||| BitVec.ofInt 64 (IntKind.wrap .u64 (IntKind.wrap .u64 (f (n + k)).n * 2 ^ (8 * k)))).toNat)
def numsF (f : Nat → Cl) (n : Nat) : Nat → Bool
  | 0 => true
  | k + 1 => numsF f n k && decide ((f (n + k)).k = 1)
def partsF (f : Nat → Cl) (n : Nat) (c : Int) : Nat → Bool
  | 0 => decide (c = 8)
  | k + 1 => partsF f n c k && decide ((f (n + k)).k = 2) && decide (IntKind.wrap .i64 (f (n + k)).n = k) && decide ((f (n + k)).p = (f n).p)
def loadV (f : Nat → Cl) (n : Nat) (c : Int) : V :=
  if numsF f n c.toNat = true then ⟨1, if c = 8 then IntKind.wrap .i64 (numF f n c.toNat) else if c = 4 then IntKind.wrap .i64 (IntKind.wrap .i32 (numF f n c.toNat)) else IntKind.wrap .i64 (IntKind.wrap .i8 (numF f n c.toNat)), 0⟩
  else if partsF f n c c.toNat = true then (f n).p else v0
def loadM (M : MM) (c : Int) (p : V) : Option V := match right M c p with
  | none => none
  | some i => (M[i]?).map fun B => loadV B.byte p.n.toNat c
def LoadR (M : MM) (c : Int) (p : V) (v : Value) : Prop := match loadM M c p with
  | none => v = .tuple #[v0.val, .bool false]
  | some a => v = .tuple #[a.val, .bool true]
theorem take_vals {cs : List Value} {o : Nat} {c : Cl} (h : ∀ j, j < 5 → cs[o + j]? = c.vals[j]?) : (cs.drop o).take 5 = c.vals := by
  apply List.ext_getElem?
  intro j
  by_cases hj : j < 5
  · rw [List.getElem?_take_of_lt hj, List.getElem?_drop]; exact h j hj
  · rw [List.getElem?_eq_none (by simp; omega), List.getElem?_eq_none (by show 5 ≤ j; omega)]
theorem take_p {cs : List Value} {o : Nat} {c : Cl} (h : ∀ j, j < 5 → cs[o + j]? = c.vals[j]?) : (cs.drop (o + 2)).take 3 = [.int .i64 c.p.k, .int .i64 c.p.n, .int .i64 c.p.b] := by
  have := congrArg (List.drop 2) (take_vals h)
  rw [List.drop_take, List.drop_drop] at this
  exact this
theorem veq (a b : V) : ((a.k == b.k) && ((a.n == b.n) && (a.b == b.b))) = decide (a = b) := by
  obtain ⟨a1, a2, a3⟩ := a
  obtain ⟨b1, b2, b3⟩ := b
  rw [Bool.eq_iff_iff]
  simp
theorem nums_unk {f : Nat → Cl} {n c : Nat} (h : ∀ k, k < c → f (n + k) = unk) (h1 : 1 ≤ c) : numsF f n c = false := by
  cases c with
  | zero => omega
  | succ c => unfold numsF; rw [h c (by omega)]; simp [unk]
theorem parts_unk {f : Nat → Cl} {n c : Nat} {d : Int} (h : ∀ k, k < c → f (n + k) = unk) (h1 : 1 ≤ c) : partsF f n d c = false := by
  cases c with
  | zero => omega
  | succ c => unfold partsF; rw [h c (by omega)]; simp [unk]
section
variable {h : AHeap} {m : Nat} {bs : Value} {ps : List Nat} {fs : Nat → Nat → Prop} {M : MM} {F : Nat → Prop} {c : Int} {p : V}
def LoadI (h : AHeap) (f : Nat → Cl) (n : Nat) (c : Int) (m : Nat) (vs : List Value) (h' : AHeap) : Prop :=
  ∃ k, k ≤ c.toNat ∧ m = c.toNat - k ∧ vs = [.int .u64 (numF f n k), .bool (numsF f n k), .bool (partsF f n c k), .int .i64 k] ∧ Eff nof h h'
theorem load_ok (x : MemO h m bs ps fs M F) (hs : small M) (hc : in64 c) (hp : p.ok) :
    DC Try.prog 11 [.pointer (some ⟨m, 0, none⟩), .int .i64 c, p.val] h (fun v h1 => Eff nof h h1 ∧ LoadR M c p v) := by
  apply DC_wf; intro hwf; have hro := hwf.2
  apply W_Load_ok
  unfold W_Load
  have e1 : p.val = .agg #[.int .i64 p.k, .int .i64 p.n, .int .i64 p.b] := rfl
  have eff : Eff nof h ((h.push (.cells [.int .i64 p.k, .int .i64 p.n, .int .i64 p.b] 24)).push (.cells [.int .i64 0, .int .i64 0, .int .i64 0] 24)) := ((Eff.refl _ _).push _).push _
  have x1 : MemO ((h.push (.cells [.int .i64 p.k, .int .i64 p.n, .int .i64 p.b] 24)).push (.cells [.int .i64 0, .int .i64 0, .int .i64 0] 24)) m bs ps fs M F :=
    x.keep (fun b hb => eff.get b (fun e => e) (x.ok b hb).2) eff.next eff.ro
  have hac := access_r (c := c) (p := p) x1 hs hc hp
  rw [e1]
  simp only [axt_20, axt_21, opt_some, optH_some, nb_cons, nb_nil, CD_true, CD_false, GD_tt, GD_ff, GD_tf, GD_ft, GD_un, pk_true, pk_false, nck_ptr, rv_one, rv_two, b_lss, b_leq, b_gtr, b_geq, b_eql, b_neq, b_add, b_sub, b_mul, b_quo, b_rem, b_shl, b_shr, b_and, b_or, b_xor, b_andNot, u_not, u_neg, nob_bool, nob_int, nob_string, nob_ptr, nob_slice, nob_map, nob_func, nob_nilf, nob_iface, nob_nili, nob_agg, nob_tuple, cok_bool, cok_int, cok_string, cok_ptr, cok_slice, cok_map, cok_func, nobot_nil, nobot_cons, onb_none, onb_some, cond_true, cond_false, abound_none, abound_int, Option.bind_some, Option.bind_none, nth, nw, Value.cells, BK, List.getElem?_cons_zero, List.getElem?_cons_succ, List.toList_toArray, Nat.zero_add, Nat.add_zero, List.length_cons, List.length_nil, List.length_replicate, List.length_map, List.length_set, List.all_cons, List.all_nil, setMany, List.set_cons_zero, List.set_cons_succ, List.drop_zero, List.take_zero, List.take_succ_cons, List.drop_succ_cons, List.take_nil, List.drop_nil, if_true, if_false, Bool.and_true, Bool.true_and, Nat.reduceAdd, Nat.reduceLeDiff, Nat.reduceMul, Nat.reduceMod, Nat.reduceDiv, Nat.reduceSub, Nat.reduceEqDiff, Nat.lt_irrefl, Int.reduceEq, Int.reduceLT, Int.reduceLE, Int.reduceAdd, Int.reduceSub, Int.reduceMul, Int.reduceNeg, Int.reduceToNat, and_true, true_and, Nat.le_refl, dec_t, dec_f, nxt_push, nxt_set, ro_pushk, ro_setk, next_lock, ro_lock, get_lock, get_push_self, get_push_eq, get_push_lt, get_set_self, get_set_ne, ne_eq, lt_add1, lt_add, sto, ldn, ld1, not_false_eq_true, not_true_eq_false, Bool.not_true, Bool.not_false, Bool.and_false, Bool.false_and, beq_self_eq_true, al_24, al_5, al_65, as_24, as_65, az_24, az_65, bd_24_, cv_21_2, cv_5_3, cv_5_66, cv_66_2, cv_66_21, cv_66_67, cv_67_2, eql0_61, eql_24, eql_61, fa_65_0, fa_65_1, fa_65_2, ix_61, len_61]
  rw [e1] at hac
  refine callV_of (by kernel_rfl) rfl hac ?_
  rintro v h1 ⟨ef, hr⟩
  have hl : h1.get (h.next + 1) = some (.cells [.int .i64 0, .int .i64 0, .int .i64 0] 24) := by
    rw [ef.get _ (fun e => e) (by simp only [nxt_push]; omega)]
    exact get_push_eq (by simp only [nxt_push])
  have hr1 : h1.ro ≤ h.next + 1 := by rw [ef.ro]; simp only [ro_pushk]; omega
  have hpost : ∀ a, loadM M c p = some a → LoadR M c p (.tuple #[.agg #[.int .i64 a.k, .int .i64 a.n, .int .i64 a.b], .bool true]) := fun a ha => by unfold LoadR; rw [ha]; rfl
  cases e : right M c p with
  | none =>
    rw [e] at hr
    subst hr
    simp only [axt_20, axt_21, opt_some, optH_some, nb_cons, nb_nil, CD_true, CD_false, GD_tt, GD_ff, GD_tf, GD_ft, GD_un, pk_true, pk_false, nck_ptr, rv_one, rv_two, b_lss, b_leq, b_gtr, b_geq, b_eql, b_neq, b_add, b_sub, b_mul, b_quo, b_rem, b_shl, b_shr, b_and, b_or, b_xor, b_andNot, u_not, u_neg, nob_bool, nob_int, nob_string, nob_ptr, nob_slice, nob_map, nob_func, nob_nilf, nob_iface, nob_nili, nob_agg, nob_tuple, cok_bool, cok_int, cok_string, cok_ptr, cok_slice, cok_map, cok_func, nobot_nil, nobot_cons, onb_none, onb_some, cond_true, cond_false, abound_none, abound_int, Option.bind_some, Option.bind_none, nth, nw, Value.cells, BK, List.getElem?_cons_zero, List.getElem?_cons_succ, List.toList_toArray, Nat.zero_add, Nat.add_zero, List.length_cons, List.length_nil, List.length_replicate, List.length_map, List.length_set, List.all_cons, List.all_nil, setMany, List.set_cons_zero, List.set_cons_succ, List.drop_zero, List.take_zero, List.take_succ_cons, List.drop_succ_cons, List.take_nil, List.drop_nil, if_true, if_false, Bool.and_true, Bool.true_and, Nat.reduceAdd, Nat.reduceLeDiff, Nat.reduceMul, Nat.reduceMod, Nat.reduceDiv, Nat.reduceSub, Nat.reduceEqDiff, Nat.lt_irrefl, Int.reduceEq, Int.reduceLT, Int.reduceLE, Int.reduceAdd, Int.reduceSub, Int.reduceMul, Int.reduceNeg, Int.reduceToNat, and_true, true_and, Nat.le_refl, dec_t, dec_f, nxt_push, nxt_set, ro_pushk, ro_setk, next_lock, ro_lock, get_lock, get_push_self, get_push_eq, get_push_lt, get_set_self, get_set_ne, ne_eq, lt_add1, lt_add, sto, ldn, ld1, not_false_eq_true, not_true_eq_false, Bool.not_true, Bool.not_false, Bool.and_false, Bool.false_and, beq_self_eq_true, al_24, al_5, al_65, as_24, as_65, az_24, az_65, bd_24_, cv_21_2, cv_5_3, cv_5_66, cv_66_2, cv_66_21, cv_66_67, cv_67_2, eql0_61, eql_24, eql_61, fa_65_0, fa_65_1, fa_65_2, ix_61, len_61, hl, hr1]
    exact ⟨(eff.trans ef).set (.inr (by omega)) _, by unfold LoadR loadM; rw [e]; rfl⟩
  | some i =>
    rw [e] at hr
    obtain ⟨s, rfl, hcell⟩ := hr
    obtain ⟨hk, hcc, hi, B, hB, hn0, hn1, hn2⟩ := right_some e
    have hlm : loadM M c p = some (loadV B.byte p.n.toNat c) := by unfold loadM; rw [e]; simp only [hB]; rfl
    have hc1 : 1 ≤ c.toNat ∧ c.toNat ≤ 8 := by omega
    rcases hcell B hB with ⟨rfl, hu⟩ | ⟨g, off, cs, cp, rfl, fg, hg, hlen, hoff, hcs⟩
    · simp only [axt_20, axt_21, opt_some, optH_some, nb_cons, nb_nil, CD_true, CD_false, GD_tt, GD_ff, GD_tf, GD_ft, GD_un, pk_true, pk_false, nck_ptr, rv_one, rv_two, b_lss, b_leq, b_gtr, b_geq, b_eql, b_neq, b_add, b_sub, b_mul, b_quo, b_rem, b_shl, b_shr, b_and, b_or, b_xor, b_andNot, u_not, u_neg, nob_bool, nob_int, nob_string, nob_ptr, nob_slice, nob_map, nob_func, nob_nilf, nob_iface, nob_nili, nob_agg, nob_tuple, cok_bool, cok_int, cok_string, cok_ptr, cok_slice, cok_map, cok_func, nobot_nil, nobot_cons, onb_none, onb_some, cond_true, cond_false, abound_none, abound_int, Option.bind_some, Option.bind_none, nth, nw, Value.cells, BK, List.getElem?_cons_zero, List.getElem?_cons_succ, List.toList_toArray, Nat.zero_add, Nat.add_zero, List.length_cons, List.length_nil, List.length_replicate, List.length_map, List.length_set, List.all_cons, List.all_nil, setMany, List.set_cons_zero, List.set_cons_succ, List.drop_zero, List.take_zero, List.take_succ_cons, List.drop_succ_cons, List.take_nil, List.drop_nil, if_true, if_false, Bool.and_true, Bool.true_and, Nat.reduceAdd, Nat.reduceLeDiff, Nat.reduceMul, Nat.reduceMod, Nat.reduceDiv, Nat.reduceSub, Nat.reduceEqDiff, Nat.lt_irrefl, Int.reduceEq, Int.reduceLT, Int.reduceLE, Int.reduceAdd, Int.reduceSub, Int.reduceMul, Int.reduceNeg, Int.reduceToNat, and_true, true_and, Nat.le_refl, dec_t, dec_f, nxt_push, nxt_set, ro_pushk, ro_setk, next_lock, ro_lock, get_lock, get_push_self, get_push_eq, get_push_lt, get_set_self, get_set_ne, ne_eq, lt_add1, lt_add, sto, ldn, ld1, not_false_eq_true, not_true_eq_false, Bool.not_true, Bool.not_false, Bool.and_false, Bool.false_and, beq_self_eq_true, al_24, al_5, al_65, as_24, as_65, az_24, az_65, bd_24_, cv_21_2, cv_5_3, cv_5_66, cv_66_2, cv_66_21, cv_66_67, cv_67_2, eql0_61, eql_24, eql_61, fa_65_0, fa_65_1, fa_65_2, ix_61, len_61, hl, hr1]
      refine ⟨(eff.trans ef).set (.inr (by omega)) _, ?_⟩
      have : loadV B.byte p.n.toNat c = v0 := by
        unfold loadV; rw [nums_unk hu hc1.1, parts_unk hu hc1.1]; rfl
      rw [this] at hlm
      exact hpost _ hlm
    · simp only [axt_20, axt_21, opt_some, optH_some, nb_cons, nb_nil, CD_true, CD_false, GD_tt, GD_ff, GD_tf, GD_ft, GD_un, pk_true, pk_false, nck_ptr, rv_one, rv_two, b_lss, b_leq, b_gtr, b_geq, b_eql, b_neq, b_add, b_sub, b_mul, b_quo, b_rem, b_shl, b_shr, b_and, b_or, b_xor, b_andNot, u_not, u_neg, nob_bool, nob_int, nob_string, nob_ptr, nob_slice, nob_map, nob_func, nob_nilf, nob_iface, nob_nili, nob_agg, nob_tuple, cok_bool, cok_int, cok_string, cok_ptr, cok_slice, cok_map, cok_func, nobot_nil, nobot_cons, onb_none, onb_some, cond_true, cond_false, abound_none, abound_int, Option.bind_some, Option.bind_none, nth, nw, Value.cells, BK, List.getElem?_cons_zero, List.getElem?_cons_succ, List.toList_toArray, Nat.zero_add, Nat.add_zero, List.length_cons, List.length_nil, List.length_replicate, List.length_map, List.length_set, List.all_cons, List.all_nil, setMany, List.set_cons_zero, List.set_cons_succ, List.drop_zero, List.take_zero, List.take_succ_cons, List.drop_succ_cons, List.take_nil, List.drop_nil, if_true, if_false, Bool.and_true, Bool.true_and, Nat.reduceAdd, Nat.reduceLeDiff, Nat.reduceMul, Nat.reduceMod, Nat.reduceDiv, Nat.reduceSub, Nat.reduceEqDiff, Nat.lt_irrefl, Int.reduceEq, Int.reduceLT, Int.reduceLE, Int.reduceAdd, Int.reduceSub, Int.reduceMul, Int.reduceNeg, Int.reduceToNat, and_true, true_and, Nat.le_refl, dec_t, dec_f, nxt_push, nxt_set, ro_pushk, ro_setk, next_lock, ro_lock, get_lock, get_push_self, get_push_eq, get_push_lt, get_set_self, get_set_ne, ne_eq, lt_add1, lt_add, sto, ldn, ld1, not_false_eq_true, not_true_eq_false, Bool.not_true, Bool.not_false, Bool.and_false, Bool.false_and, beq_self_eq_true, al_24, al_5, al_65, as_24, as_65, az_24, az_65, bd_24_, cv_21_2, cv_5_3, cv_5_66, cv_66_2, cv_66_21, cv_66_67, cv_67_2, eql0_61, eql_24, eql_61, fa_65_0, fa_65_1, fa_65_2, ix_61, len_61, hl, hr1]
      refine LP_of (LoadI h1 B.byte p.n.toNat c) c.toNat ⟨0, by omega, by omega, rfl, .refl _ _⟩ ?_
      rintro n vs h2 ⟨k, hk1, rfl, rfl, ef2⟩
      have hg2 : h2.get g = some (.cells cs 81) := by rw [ef2.get g (fun e => e) (by have := (x.ok g fg).2; have := ef.next; have := eff.next; omega), hg]
      by_cases hlt : k < c.toNat
      · have hki : (k : Int) < (c.toNat : Int) := by omega
        have hcel := take_vals (hcs k · hlt)
        have hc0 := take_vals (hcs 0 · (by omega))
        have hb1 : 0 ≤ (k : Int) ∧ (k : Int) < (c.toNat : Int) := by omega
        have hb2 : off + k * 5 + 5 ≤ cs.length := by omega
        have hb3 : off + 5 ≤ cs.length := by omega
        have hb4 : 0 ≤ (0 : Int) ∧ (0 : Int) < (c.toNat : Int) := by omega
        have hw1 : IntKind.wrap .i64 (8 * (k : Int)) = ((8 * k : Nat) : Int) := by rw [w64 (by omega) (by omega)]; omega
        have hw2 : IntKind.wrap .i64 ((k : Int) + 1) = ((k + 1 : Nat) : Int) := by rw [w64 (by omega) (by omega)]; omega
        have hr2 : h2.ro ≤ h2.next := by have := ef2.ro; have := ef2.next; have := ef.next; simp only [nxt_push] at this; omega
        have hk0 : 0 ≤ ((8 * k : Nat) : Int) := by omega
        have hmin : min (8 * k) IntKind.u64.bits = 8 * k := by show min (8 * k) 64 = _; omega
        have hnext : ∀ {a b d h3}, Eff nof h2 h3 → a = numF B.byte p.n.toNat (k + 1) → b = numsF B.byte p.n.toNat (k + 1) → d = partsF B.byte p.n.toNat c (k + 1) → ∃ m, m < c.toNat - k ∧ LoadI h1 B.byte p.n.toNat c m [.int .u64 a, .bool b, .bool d, .int .i64 ((k + 1 : Nat) : Int)] h3 := fun ef3 ea eb ed =>
          ⟨c.toNat - (k + 1), by omega, k + 1, by omega, rfl, by rw [ea, eb, ed], ef2.trans ef3⟩
        have hefn : ∀ l l', Eff nof h2 ((h2.push (.cells l 65)).set h2.next (some (.cells l' 65))) := fun l l' => ((Eff.refl _ _).push _).set (.inr (Nat.le_refl _)) _
        have hgn : ∀ l l', ((h2.push (.cells l 65)).set h2.next (some (.cells l' 65))).get g = some (.cells cs 81) := fun l l' => by rw [(hefn l l').get g (fun e => e) (by have := (x.ok g fg).2; have := ef.next; have := eff.next; have := ef2.next; omega), hg2]
        simp only [Cl.vals] at hcel hc0
        have hp3 : (cs.drop (off + 2)).take 3 = [.int .i64 (B.byte p.n.toNat).p.k, .int .i64 (B.byte p.n.toNat).p.n, .int .i64 (B.byte p.n.toNat).p.b] := take_p (fun j hj => by simpa using hcs 0 j (by omega) hj)
        have hb5 : off + 2 + 3 ≤ cs.length := by omega
        cases hP : partsF B.byte p.n.toNat c k with
        | false =>
          cases hN : numsF B.byte p.n.toNat k
          all_goals
            simp only [axt_20, axt_21, opt_some, optH_some, nb_cons, nb_nil, CD_true, CD_false, GD_tt, GD_ff, GD_tf, GD_ft, GD_un, pk_true, pk_false, nck_ptr, rv_one, rv_two, b_lss, b_leq, b_gtr, b_geq, b_eql, b_neq, b_add, b_sub, b_mul, b_quo, b_rem, b_shl, b_shr, b_and, b_or, b_xor, b_andNot, u_not, u_neg, nob_bool, nob_int, nob_string, nob_ptr, nob_slice, nob_map, nob_func, nob_nilf, nob_iface, nob_nili, nob_agg, nob_tuple, cok_bool, cok_int, cok_string, cok_ptr, cok_slice, cok_map, cok_func, nobot_nil, nobot_cons, onb_none, onb_some, cond_true, cond_false, abound_none, abound_int, Option.bind_some, Option.bind_none, nth, nw, Value.cells, BK, List.getElem?_cons_zero, List.getElem?_cons_succ, List.toList_toArray, Nat.zero_add, Nat.add_zero, List.length_cons, List.length_nil, List.length_replicate, List.length_map, List.length_set, List.all_cons, List.all_nil, setMany, List.set_cons_zero, List.set_cons_succ, List.drop_zero, List.take_zero, List.take_succ_cons, List.drop_succ_cons, List.take_nil, List.drop_nil, if_true, if_false, Bool.and_true, Bool.true_and, Nat.reduceAdd, Nat.reduceLeDiff, Nat.reduceMul, Nat.reduceMod, Nat.reduceDiv, Nat.reduceSub, Nat.reduceEqDiff, Nat.lt_irrefl, Int.reduceEq, Int.reduceLT, Int.reduceLE, Int.reduceAdd, Int.reduceSub, Int.reduceMul, Int.reduceNeg, Int.reduceToNat, and_true, true_and, Nat.le_refl, dec_t, dec_f, nxt_push, nxt_set, ro_pushk, ro_setk, next_lock, ro_lock, get_lock, get_push_self, get_push_eq, get_push_lt, get_set_self, get_set_ne, ne_eq, lt_add1, lt_add, sto, ldn, ld1, not_false_eq_true, not_true_eq_false, Bool.not_true, Bool.not_false, Bool.and_false, Bool.false_and, beq_self_eq_true, al_24, al_5, al_65, as_24, as_65, az_24, az_65, bd_24_, cv_21_2, cv_5_3, cv_5_66, cv_66_2, cv_66_21, cv_66_67, cv_67_2, eql0_61, eql_24, eql_61, fa_65_0, fa_65_1, fa_65_2, ix_61, len_61, hki, hg2, hb1, hb2, hb3, hb4, hcel, hc0, hw1, hw2, Int.toNat_natCast, hr2, hk0, hgn, hmin, hN, hP]
            refine hnext (hefn _ _) rfl ?_ ?_
            · simp [numsF, hN]
            · simp [partsF, hP]
        | true =>
          by_cases hk2 : (B.byte (p.n.toNat + k)).k = 2
          · by_cases hkk : IntKind.wrap .i64 (B.byte (p.n.toNat + k)).n = (k : Int)
            · cases hN : numsF B.byte p.n.toNat k
              all_goals
                simp only [axt_20, axt_21, opt_some, optH_some, nb_cons, nb_nil, CD_true, CD_false, GD_tt, GD_ff, GD_tf, GD_ft, GD_un, pk_true, pk_false, nck_ptr, rv_one, rv_two, b_lss, b_leq, b_gtr, b_geq, b_eql, b_neq, b_add, b_sub, b_mul, b_quo, b_rem, b_shl, b_shr, b_and, b_or, b_xor, b_andNot, u_not, u_neg, nob_bool, nob_int, nob_string, nob_ptr, nob_slice, nob_map, nob_func, nob_nilf, nob_iface, nob_nili, nob_agg, nob_tuple, cok_bool, cok_int, cok_string, cok_ptr, cok_slice, cok_map, cok_func, nobot_nil, nobot_cons, onb_none, onb_some, cond_true, cond_false, abound_none, abound_int, Option.bind_some, Option.bind_none, nth, nw, Value.cells, BK, List.getElem?_cons_zero, List.getElem?_cons_succ, List.toList_toArray, Nat.zero_add, Nat.add_zero, List.length_cons, List.length_nil, List.length_replicate, List.length_map, List.length_set, List.all_cons, List.all_nil, setMany, List.set_cons_zero, List.set_cons_succ, List.drop_zero, List.take_zero, List.take_succ_cons, List.drop_succ_cons, List.take_nil, List.drop_nil, if_true, if_false, Bool.and_true, Bool.true_and, Nat.reduceAdd, Nat.reduceLeDiff, Nat.reduceMul, Nat.reduceMod, Nat.reduceDiv, Nat.reduceSub, Nat.reduceEqDiff, Nat.lt_irrefl, Int.reduceEq, Int.reduceLT, Int.reduceLE, Int.reduceAdd, Int.reduceSub, Int.reduceMul, Int.reduceNeg, Int.reduceToNat, and_true, true_and, Nat.le_refl, dec_t, dec_f, nxt_push, nxt_set, ro_pushk, ro_setk, next_lock, ro_lock, get_lock, get_push_self, get_push_eq, get_push_lt, get_set_self, get_set_ne, ne_eq, lt_add1, lt_add, sto, ldn, ld1, not_false_eq_true, not_true_eq_false, Bool.not_true, Bool.not_false, Bool.and_false, Bool.false_and, beq_self_eq_true, al_24, al_5, al_65, as_24, as_65, az_24, az_65, bd_24_, cv_21_2, cv_5_3, cv_5_66, cv_66_2, cv_66_21, cv_66_67, cv_67_2, eql0_61, eql_24, eql_61, fa_65_0, fa_65_1, fa_65_2, ix_61, len_61, hki, hg2, hb1, hb2, hb3, hb4, hb5, hp3, hcel, hc0, hw1, hw2, Int.toNat_natCast, hr2, hk0, hgn, hmin, hk2, hkk, hN, hP]
                refine hnext (hefn _ _) rfl ?_ ?_
                · simp [numsF, hN, hk2]
                · simp only [partsF, hP, hk2, hkk, veq, Bool.true_and, decide_true]
            · cases hN : numsF B.byte p.n.toNat k
              all_goals
                simp only [axt_20, axt_21, opt_some, optH_some, nb_cons, nb_nil, CD_true, CD_false, GD_tt, GD_ff, GD_tf, GD_ft, GD_un, pk_true, pk_false, nck_ptr, rv_one, rv_two, b_lss, b_leq, b_gtr, b_geq, b_eql, b_neq, b_add, b_sub, b_mul, b_quo, b_rem, b_shl, b_shr, b_and, b_or, b_xor, b_andNot, u_not, u_neg, nob_bool, nob_int, nob_string, nob_ptr, nob_slice, nob_map, nob_func, nob_nilf, nob_iface, nob_nili, nob_agg, nob_tuple, cok_bool, cok_int, cok_string, cok_ptr, cok_slice, cok_map, cok_func, nobot_nil, nobot_cons, onb_none, onb_some, cond_true, cond_false, abound_none, abound_int, Option.bind_some, Option.bind_none, nth, nw, Value.cells, BK, List.getElem?_cons_zero, List.getElem?_cons_succ, List.toList_toArray, Nat.zero_add, Nat.add_zero, List.length_cons, List.length_nil, List.length_replicate, List.length_map, List.length_set, List.all_cons, List.all_nil, setMany, List.set_cons_zero, List.set_cons_succ, List.drop_zero, List.take_zero, List.take_succ_cons, List.drop_succ_cons, List.take_nil, List.drop_nil, if_true, if_false, Bool.and_true, Bool.true_and, Nat.reduceAdd, Nat.reduceLeDiff, Nat.reduceMul, Nat.reduceMod, Nat.reduceDiv, Nat.reduceSub, Nat.reduceEqDiff, Nat.lt_irrefl, Int.reduceEq, Int.reduceLT, Int.reduceLE, Int.reduceAdd, Int.reduceSub, Int.reduceMul, Int.reduceNeg, Int.reduceToNat, and_true, true_and, Nat.le_refl, dec_t, dec_f, nxt_push, nxt_set, ro_pushk, ro_setk, next_lock, ro_lock, get_lock, get_push_self, get_push_eq, get_push_lt, get_set_self, get_set_ne, ne_eq, lt_add1, lt_add, sto, ldn, ld1, not_false_eq_true, not_true_eq_false, Bool.not_true, Bool.not_false, Bool.and_false, Bool.false_and, beq_self_eq_true, al_24, al_5, al_65, as_24, as_65, az_24, az_65, bd_24_, cv_21_2, cv_5_3, cv_5_66, cv_66_2, cv_66_21, cv_66_67, cv_67_2, eql0_61, eql_24, eql_61, fa_65_0, fa_65_1, fa_65_2, ix_61, len_61, hki, hg2, hb1, hb2, hb3, hb4, hcel, hc0, hw1, hw2, Int.toNat_natCast, hr2, hk0, hgn, hmin, hk2, hkk, hN, hP]
                refine hnext (hefn _ _) rfl ?_ ?_
                · simp [numsF, hN, hk2]
                · simp [partsF, hP, hk2, hkk]
          · cases hN : numsF B.byte p.n.toNat k
            all_goals
              simp only [axt_20, axt_21, opt_some, optH_some, nb_cons, nb_nil, CD_true, CD_false, GD_tt, GD_ff, GD_tf, GD_ft, GD_un, pk_true, pk_false, nck_ptr, rv_one, rv_two, b_lss, b_leq, b_gtr, b_geq, b_eql, b_neq, b_add, b_sub, b_mul, b_quo, b_rem, b_shl, b_shr, b_and, b_or, b_xor, b_andNot, u_not, u_neg, nob_bool, nob_int, nob_string, nob_ptr, nob_slice, nob_map, nob_func, nob_nilf, nob_iface, nob_nili, nob_agg, nob_tuple, cok_bool, cok_int, cok_string, cok_ptr, cok_slice, cok_map, cok_func, nobot_nil, nobot_cons, onb_none, onb_some, cond_true, cond_false, abound_none, abound_int, Option.bind_some, Option.bind_none, nth, nw, Value.cells, BK, List.getElem?_cons_zero, List.getElem?_cons_succ, List.toList_toArray, Nat.zero_add, Nat.add_zero, List.length_cons, List.length_nil, List.length_replicate, List.length_map, List.length_set, List.all_cons, List.all_nil, setMany, List.set_cons_zero, List.set_cons_succ, List.drop_zero, List.take_zero, List.take_succ_cons, List.drop_succ_cons, List.take_nil, List.drop_nil, if_true, if_false, Bool.and_true, Bool.true_and, Nat.reduceAdd, Nat.reduceLeDiff, Nat.reduceMul, Nat.reduceMod, Nat.reduceDiv, Nat.reduceSub, Nat.reduceEqDiff, Nat.lt_irrefl, Int.reduceEq, Int.reduceLT, Int.reduceLE, Int.reduceAdd, Int.reduceSub, Int.reduceMul, Int.reduceNeg, Int.reduceToNat, and_true, true_and, Nat.le_refl, dec_t, dec_f, nxt_push, nxt_set, ro_pushk, ro_setk, next_lock, ro_lock, get_lock, get_push_self, get_push_eq, get_push_lt, get_set_self, get_set_ne, ne_eq, lt_add1, lt_add, sto, ldn, ld1, not_false_eq_true, not_true_eq_false, Bool.not_true, Bool.not_false, Bool.and_false, Bool.false_and, beq_self_eq_true, al_24, al_5, al_65, as_24, as_65, az_24, az_65, bd_24_, cv_21_2, cv_5_3, cv_5_66, cv_66_2, cv_66_21, cv_66_67, cv_67_2, eql0_61, eql_24, eql_61, fa_65_0, fa_65_1, fa_65_2, ix_61, len_61, hki, hg2, hb1, hb2, hb3, hb4, hcel, hc0, hw1, hw2, Int.toNat_natCast, hr2, hk0, hgn, hmin, hk2, hN, hP]
              refine hnext (hefn _ _) rfl ?_ ?_
              · simp [numsF, hN]
              · simp [partsF, hP, hk2]
      · have hki : ¬ (k : Int) < (c.toNat : Int) := by omega
        have hkc : k = c.toNat := by omega
        subst hkc
        have hl2 : h2.get (h.next + 1) = some (.cells [.int .i64 0, .int .i64 0, .int .i64 0] 24) := by
          rw [ef2.get _ (fun e => e) (by have := ef.next; simp only [nxt_push] at this; omega), hl]
        have hr2 : h2.ro ≤ h.next + 1 := by rw [ef2.ro]; exact hr1
        have hof : ∀ n, DC Try.prog 26 [.int .i64 n] h2 (fun v h1 => v = V.val ⟨1, n, 0⟩ ∧ Eff nof h2 h1) := fun n => of_q n h2
        have hsl : ∀ h3, Eff nof h2 h3 → h3.get (h.next + 1) = some (.cells [.int .i64 0, .int .i64 0, .int .i64 0] 24) ∧ h3.ro ≤ h.next + 1 := fun h3 e3 =>
          ⟨by rw [e3.get _ (fun e => e) (by have := ef.next; have := ef2.next; simp only [nxt_push] at *; omega), hl2], by rw [e3.ro]; exact hr2⟩
        have hfin : ∀ {h3 a v}, Eff nof h2 h3 → loadV B.byte p.n.toNat c = a → Eff nof h (h3.set (h.next + 1) v) ∧ LoadR M c p (.tuple #[.agg #[.int .i64 a.k, .int .i64 a.n, .int .i64 a.b], .bool true]) := fun e3 ea =>
          ⟨(((eff.trans ef).trans ef2).trans e3).set (.inr (by omega)) _, hpost _ (by rw [hlm, ea])⟩
        cases hN : numsF B.byte p.n.toNat c.toNat with
        | true =>
          rcases hcc with rfl | rfl | rfl
          all_goals
            simp only [axt_20, axt_21, opt_some, optH_some, nb_cons, nb_nil, CD_true, CD_false, GD_tt, GD_ff, GD_tf, GD_ft, GD_un, pk_true, pk_false, nck_ptr, rv_one, rv_two, b_lss, b_leq, b_gtr, b_geq, b_eql, b_neq, b_add, b_sub, b_mul, b_quo, b_rem, b_shl, b_shr, b_and, b_or, b_xor, b_andNot, u_not, u_neg, nob_bool, nob_int, nob_string, nob_ptr, nob_slice, nob_map, nob_func, nob_nilf, nob_iface, nob_nili, nob_agg, nob_tuple, cok_bool, cok_int, cok_string, cok_ptr, cok_slice, cok_map, cok_func, nobot_nil, nobot_cons, onb_none, onb_some, cond_true, cond_false, abound_none, abound_int, Option.bind_some, Option.bind_none, nth, nw, Value.cells, BK, List.getElem?_cons_zero, List.getElem?_cons_succ, List.toList_toArray, Nat.zero_add, Nat.add_zero, List.length_cons, List.length_nil, List.length_replicate, List.length_map, List.length_set, List.all_cons, List.all_nil, setMany, List.set_cons_zero, List.set_cons_succ, List.drop_zero, List.take_zero, List.take_succ_cons, List.drop_succ_cons, List.take_nil, List.drop_nil, if_true, if_false, Bool.and_true, Bool.true_and, Nat.reduceAdd, Nat.reduceLeDiff, Nat.reduceMul, Nat.reduceMod, Nat.reduceDiv, Nat.reduceSub, Nat.reduceEqDiff, Nat.lt_irrefl, Int.reduceEq, Int.reduceLT, Int.reduceLE, Int.reduceAdd, Int.reduceSub, Int.reduceMul, Int.reduceNeg, Int.reduceToNat, and_true, true_and, Nat.le_refl, dec_t, dec_f, nxt_push, nxt_set, ro_pushk, ro_setk, next_lock, ro_lock, get_lock, get_push_self, get_push_eq, get_push_lt, get_set_self, get_set_ne, ne_eq, lt_add1, lt_add, sto, ldn, ld1, not_false_eq_true, not_true_eq_false, Bool.not_true, Bool.not_false, Bool.and_false, Bool.false_and, beq_self_eq_true, al_24, al_5, al_65, as_24, as_65, az_24, az_65, bd_24_, cv_21_2, cv_5_3, cv_5_66, cv_66_2, cv_66_21, cv_66_67, cv_67_2, eql0_61, eql_24, eql_61, fa_65_0, fa_65_1, fa_65_2, ix_61, len_61, hki, hN]
            refine callV_of (by kernel_rfl) rfl (hof _) ?_
            rintro v h3 ⟨rfl, e3⟩
            obtain ⟨g1, g2⟩ := hsl h3 e3
            simp only [axt_20, axt_21, opt_some, optH_some, nb_cons, nb_nil, CD_true, CD_false, GD_tt, GD_ff, GD_tf, GD_ft, GD_un, pk_true, pk_false, nck_ptr, rv_one, rv_two, b_lss, b_leq, b_gtr, b_geq, b_eql, b_neq, b_add, b_sub, b_mul, b_quo, b_rem, b_shl, b_shr, b_and, b_or, b_xor, b_andNot, u_not, u_neg, nob_bool, nob_int, nob_string, nob_ptr, nob_slice, nob_map, nob_func, nob_nilf, nob_iface, nob_nili, nob_agg, nob_tuple, cok_bool, cok_int, cok_string, cok_ptr, cok_slice, cok_map, cok_func, nobot_nil, nobot_cons, onb_none, onb_some, cond_true, cond_false, abound_none, abound_int, Option.bind_some, Option.bind_none, nth, nw, Value.cells, BK, List.getElem?_cons_zero, List.getElem?_cons_succ, List.toList_toArray, Nat.zero_add, Nat.add_zero, List.length_cons, List.length_nil, List.length_replicate, List.length_map, List.length_set, List.all_cons, List.all_nil, setMany, List.set_cons_zero, List.set_cons_succ, List.drop_zero, List.take_zero, List.take_succ_cons, List.drop_succ_cons, List.take_nil, List.drop_nil, if_true, if_false, Bool.and_true, Bool.true_and, Nat.reduceAdd, Nat.reduceLeDiff, Nat.reduceMul, Nat.reduceMod, Nat.reduceDiv, Nat.reduceSub, Nat.reduceEqDiff, Nat.lt_irrefl, Int.reduceEq, Int.reduceLT, Int.reduceLE, Int.reduceAdd, Int.reduceSub, Int.reduceMul, Int.reduceNeg, Int.reduceToNat, and_true, true_and, Nat.le_refl, dec_t, dec_f, nxt_push, nxt_set, ro_pushk, ro_setk, next_lock, ro_lock, get_lock, get_push_self, get_push_eq, get_push_lt, get_set_self, get_set_ne, ne_eq, lt_add1, lt_add, sto, ldn, ld1, not_false_eq_true, not_true_eq_false, Bool.not_true, Bool.not_false, Bool.and_false, Bool.false_and, beq_self_eq_true, al_24, al_5, al_65, as_24, as_65, az_24, az_65, bd_24_, cv_21_2, cv_5_3, cv_5_66, cv_66_2, cv_66_21, cv_66_67, cv_67_2, eql0_61, eql_24, eql_61, fa_65_0, fa_65_1, fa_65_2, ix_61, len_61, V.val, g1, g2]
            refine hfin (a := ⟨1, _, 0⟩) e3 ?_
            unfold loadV
            rw [if_pos hN]
            rfl
        | false =>
          cases hP : partsF B.byte p.n.toNat c c.toNat with
          | true =>
            have hp3 : (cs.drop (off + 2)).take 3 = [.int .i64 (B.byte p.n.toNat).p.k, .int .i64 (B.byte p.n.toNat).p.n, .int .i64 (B.byte p.n.toNat).p.b] := take_p (fun j hj => by simpa using hcs 0 j (by omega) hj)
            have hb5 : off + 2 + 3 ≤ cs.length := by omega
            have hb4 : 0 ≤ (0 : Int) ∧ (0 : Int) < (c.toNat : Int) := by omega
            have hgn : ∀ v, (h2.set (h.next + 1) v).get g = some (.cells cs 81) := fun v => by rw [get_set_ne (by have := (x.ok g fg).2; omega), hg2]
            · simp only [axt_20, axt_21, opt_some, optH_some, nb_cons, nb_nil, CD_true, CD_false, GD_tt, GD_ff, GD_tf, GD_ft, GD_un, pk_true, pk_false, nck_ptr, rv_one, rv_two, b_lss, b_leq, b_gtr, b_geq, b_eql, b_neq, b_add, b_sub, b_mul, b_quo, b_rem, b_shl, b_shr, b_and, b_or, b_xor, b_andNot, u_not, u_neg, nob_bool, nob_int, nob_string, nob_ptr, nob_slice, nob_map, nob_func, nob_nilf, nob_iface, nob_nili, nob_agg, nob_tuple, cok_bool, cok_int, cok_string, cok_ptr, cok_slice, cok_map, cok_func, nobot_nil, nobot_cons, onb_none, onb_some, cond_true, cond_false, abound_none, abound_int, Option.bind_some, Option.bind_none, nth, nw, Value.cells, BK, List.getElem?_cons_zero, List.getElem?_cons_succ, List.toList_toArray, Nat.zero_add, Nat.add_zero, List.length_cons, List.length_nil, List.length_replicate, List.length_map, List.length_set, List.all_cons, List.all_nil, setMany, List.set_cons_zero, List.set_cons_succ, List.drop_zero, List.take_zero, List.take_succ_cons, List.drop_succ_cons, List.take_nil, List.drop_nil, if_true, if_false, Bool.and_true, Bool.true_and, Nat.reduceAdd, Nat.reduceLeDiff, Nat.reduceMul, Nat.reduceMod, Nat.reduceDiv, Nat.reduceSub, Nat.reduceEqDiff, Nat.lt_irrefl, Int.reduceEq, Int.reduceLT, Int.reduceLE, Int.reduceAdd, Int.reduceSub, Int.reduceMul, Int.reduceNeg, Int.reduceToNat, and_true, true_and, Nat.le_refl, dec_t, dec_f, nxt_push, nxt_set, ro_pushk, ro_setk, next_lock, ro_lock, get_lock, get_push_self, get_push_eq, get_push_lt, get_set_self, get_set_ne, ne_eq, lt_add1, lt_add, sto, ldn, ld1, not_false_eq_true, not_true_eq_false, Bool.not_true, Bool.not_false, Bool.and_false, Bool.false_and, beq_self_eq_true, al_24, al_5, al_65, as_24, as_65, az_24, az_65, bd_24_, cv_21_2, cv_5_3, cv_5_66, cv_66_2, cv_66_21, cv_66_67, cv_67_2, eql0_61, eql_24, eql_61, fa_65_0, fa_65_1, fa_65_2, ix_61, len_61, hki, hN, hP, hl2, hr2, hp3, hb5, hb4, hg2]
              refine hfin (a := (B.byte p.n.toNat).p) (.refl _ _) ?_
              unfold loadV
              rw [hN, hP]
              rfl
          | false =>
            rcases hcc with rfl | rfl | rfl
            all_goals
              simp only [axt_20, axt_21, opt_some, optH_some, nb_cons, nb_nil, CD_true, CD_false, GD_tt, GD_ff, GD_tf, GD_ft, GD_un, pk_true, pk_false, nck_ptr, rv_one, rv_two, b_lss, b_leq, b_gtr, b_geq, b_eql, b_neq, b_add, b_sub, b_mul, b_quo, b_rem, b_shl, b_shr, b_and, b_or, b_xor, b_andNot, u_not, u_neg, nob_bool, nob_int, nob_string, nob_ptr, nob_slice, nob_map, nob_func, nob_nilf, nob_iface, nob_nili, nob_agg, nob_tuple, cok_bool, cok_int, cok_string, cok_ptr, cok_slice, cok_map, cok_func, nobot_nil, nobot_cons, onb_none, onb_some, cond_true, cond_false, abound_none, abound_int, Option.bind_some, Option.bind_none, nth, nw, Value.cells, BK, List.getElem?_cons_zero, List.getElem?_cons_succ, List.toList_toArray, Nat.zero_add, Nat.add_zero, List.length_cons, List.length_nil, List.length_replicate, List.length_map, List.length_set, List.all_cons, List.all_nil, setMany, List.set_cons_zero, List.set_cons_succ, List.drop_zero, List.take_zero, List.take_succ_cons, List.drop_succ_cons, List.take_nil, List.drop_nil, if_true, if_false, Bool.and_true, Bool.true_and, Nat.reduceAdd, Nat.reduceLeDiff, Nat.reduceMul, Nat.reduceMod, Nat.reduceDiv, Nat.reduceSub, Nat.reduceEqDiff, Nat.lt_irrefl, Int.reduceEq, Int.reduceLT, Int.reduceLE, Int.reduceAdd, Int.reduceSub, Int.reduceMul, Int.reduceNeg, Int.reduceToNat, and_true, true_and, Nat.le_refl, dec_t, dec_f, nxt_push, nxt_set, ro_pushk, ro_setk, next_lock, ro_lock, get_lock, get_push_self, get_push_eq, get_push_lt, get_set_self, get_set_ne, ne_eq, lt_add1, lt_add, sto, ldn, ld1, not_false_eq_true, not_true_eq_false, Bool.not_true, Bool.not_false, Bool.and_false, Bool.false_and, beq_self_eq_true, al_24, al_5, al_65, as_24, as_65, az_24, az_65, bd_24_, cv_21_2, cv_5_3, cv_5_66, cv_66_2, cv_66_21, cv_66_67, cv_67_2, eql0_61, eql_24, eql_61, fa_65_0, fa_65_1, fa_65_2, ix_61, len_61, hki, hN, hP, hl2, hr2]
              refine hfin (a := v0) (.refl _ _) ?_
              unfold loadV
              rw [hN, hP]
              rfl
end
end Go.Mem
