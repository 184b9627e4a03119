/-
  MEMORY: a block's pages copied.
-/
import Derived.Test.YtpilbfkinpbnoaaMemS
namespace Go.Mem
open Go.Ai Go.Proofs
set_option linter.unusedVariables false
set_option linter.unusedSimpArgs false
theorem wf_push {h : AHeap} (w : WF' h) (o : AObj) : WF' (h.push o) := ⟨fun b x hb => by
  rw [AHeap.get_push] at hb
  show b < h.next + 1
  split at hb
  · rename_i e; omega
  · have := w.1 b x hb; omega, Nat.le_succ_of_le w.2⟩
theorem wf_set {h : AHeap} (w : WF' h) {b : Nat} (hb : b < h.next) (o : Option AObj) : WF' (h.set b o) := ⟨fun c x hc => by
  rw [AHeap.get_set] at hc
  split at hc
  · rename_i e; subst e; exact hb
  · exact w.1 c x hc, w.2⟩
theorem wf_lock {h : AHeap} (w : WF' h) : WF' h.lock := ⟨fun b x hb => by rw [get_lock] at hb; exact w.1 b x hb, Nat.le_refl _⟩
theorem next_graft (h h2 : AHeap) : (graft h h2).next = h2.next := rfl
theorem ro_graft (h h2 : AHeap) : (graft h h2).ro = h.ro := rfl
theorem eff_graft {h h2 : AHeap} (hn : h.next ≤ h2.next) : Eff nof h (graft h h2) := ⟨hn, rfl, fun b _ hlt => by rw [get_graft, if_neg (by omega)]⟩
theorem wf_graft {h h2 : AHeap} (w : WF' h) (w2 : WF' h2) (hn : h.next ≤ h2.next) : WF' (graft h h2) := ⟨fun b x hb => by
  show b < h2.next
  rw [get_graft] at hb
  split at hb
  · rename_i e; exact e.2
  · have := w.1 b x hb; omega, by show h.ro ≤ h2.next; have := w.2; omega⟩
/-- A call that lays new blocks alone. -/
theorem callX_of {g : FuncId} {args : List Value} {h : AHeap} {K R : Value → AHeap → Prop} (hc : callable Try.prog g = true) (hn : nobot args = true) (wf : WF' h) (d : DC Try.prog g args h.lock R) (hk : ∀ v h1, R v h1 → h.next ≤ h1.next → WF' h1 → K v (graft h h1)) : callX Try.prog g args h K := by
  obtain ⟨v, h1, r, af, t⟩ := d (wf_lock wf)
  exact ⟨hc, hn, v, h1, t, af, hk v h1 r af.next ((wf_lock wf).af af)⟩
theorem gptr_cok (gs : List (Option Nat)) : (gs.map gptr).all cellOk = true := by
  rw [List.all_eq_true]
  intro v hv
  simp only [List.mem_map] at hv
  obtain ⟨o, _, rfl⟩ := hv
  cases o <;> rfl
/-- The pages' array, another. -/
def CloneR (h : AHeap) (pg : Value) (gs : List (Option Nat)) (v : Value) (h1 : AHeap) : Prop :=
  (pg = .slice none 0 0 ∧ v = .slice none 0 0 ∧ h1 = h) ∨ ∃ q c, v = .slice (some ⟨q, 0, none⟩) gs.length c ∧ h1.get q = some (.cells (gs.map gptr) 69) ∧ h.next ≤ q ∧ q < h1.next
theorem clone_nil (h : AHeap) : DC Try.prog 33 [.slice none 0 0] h (fun v h1 => v = .slice none 0 0 ∧ h1 = h) := by
  apply X_Clone_ok
  unfold X_Clone
  simp -implicitDefEqProofs only [axt_20, axt_21, opt_some, optH_some, nb_cons, nb_nil, CD_true, CD_false, GD_tt, GD_ff, GD_tf, GD_ft, GD_un, pk_true, pk_false, nck_ptr, rv_one, rv_two, b_lss, b_leq, b_gtr, b_geq, b_eql, b_neq, b_add, b_sub, b_mul, b_quo, b_rem, b_shl, b_shr, b_and, b_or, b_xor, b_andNot, u_not, u_neg, nob_bool, nob_int, nob_string, nob_ptr, nob_slice, nob_map, nob_func, nob_nilf, nob_iface, nob_nili, nob_agg, nob_tuple, cok_bool, cok_int, cok_string, cok_ptr, cok_slice, cok_map, cok_func, nobot_nil, nobot_cons, onb_none, onb_some, cond_true, cond_false, abound_none, abound_int, Option.bind_some, Option.bind_none, nth, ↓nw, Value.cells, ↓BK, List.getElem?_cons_zero, List.getElem?_cons_succ, List.toList_toArray, Nat.zero_add, Nat.add_zero, List.length_cons, List.length_nil, List.length_replicate, List.length_map, List.length_set, List.all_cons, List.all_nil, setMany, List.set_cons_zero, List.set_cons_succ, List.drop_zero, List.take_zero, List.take_succ_cons, List.drop_succ_cons, List.take_nil, List.drop_nil, if_true, if_false, Bool.and_true, Bool.true_and, Nat.reduceAdd, Nat.reduceLeDiff, Nat.reduceMul, Nat.reduceMod, Nat.reduceDiv, Nat.reduceSub, Nat.reduceEqDiff, Nat.lt_irrefl, Int.reduceEq, Int.reduceLT, Int.reduceLE, Int.reduceAdd, Int.reduceSub, Int.reduceMul, Int.reduceNeg, Int.reduceToNat, and_true, true_and, Nat.le_refl, dec_t, dec_f, nxt_push, nxt_set, ro_pushk, ro_setk, next_lock, ro_lock, get_lock, get_push_self, get_push_eq, get_push_lt, get_set_self, get_set_ne, ne_eq, lt_add1, lt_add, sto, ldn, ld1, not_false_eq_true, not_true_eq_false, Bool.not_true, Bool.not_false, Bool.and_false, Bool.false_and, beq_self_eq_true, ap_58, bs_58_0_, co_69, eql0_58, eql_58]
theorem clone_ok {h : AHeap} {q c : Nat} {gs : List (Option Nat)} (hro : h.ro ≤ h.next) (hL : gs.length ≤ 100000000) (hq : h.get q = some (.cells (gs.map gptr) 69)) (hlt : q < h.next) :
    DC Try.prog 33 [.slice (some ⟨q, 0, none⟩) gs.length c] h (CloneR h (.slice (some ⟨q, 0, none⟩) gs.length c) gs) := by
  apply X_Clone_ok
  unfold X_Clone
  have hf : firstc (h.push (.cells [] 69)) gs.length 1 (.slice (some ⟨q, 0, none⟩) gs.length c) = some (gs.map gptr) := by
    simp only [firstc, get_push_lt hlt, hq]
    cases h0 : Nat.beq (gs.length * 1) 0 with
    | true =>
      have : gs.length * 1 = 0 := Nat.eq_of_beq_eq_true h0
      have : gs = [] := List.eq_nil_of_length_eq_zero (by omega)
      subst this; rfl
    | false =>
      simp only [cond_false]
      rw [show Nat.ble (0 + gs.length * 1) (gs.map gptr).length = true by simp]
      simp only [cond_true, List.drop_zero]
      rw [List.take_of_length_le (by simp)]
  have hap := ap_58 58 (.slice (some ⟨h.next, 0, none⟩) 0 2) (.slice (some ⟨q, 0, none⟩) gs.length c) gs.length (gs.map gptr) (h.push (.cells [] 69)) rfl hf (gptr_cok gs) (by simp)
  have hro1 : h.ro ≤ h.next := hro
  by_cases h0 : gs.length = 0
  · have hg : gs = [] := List.eq_nil_of_length_eq_zero h0
    have hap2 : abuiltin Try.prog .append [58, 58] 58 [.slice (some ⟨h.next, 0, none⟩) 0 2, .slice (some ⟨q, 0, none⟩) gs.length c] (h.push (.cells [] 69)) = some (.slice (some ⟨h.next, 0, none⟩) 0 2, h.push (.cells [] 69)) := by
      rw [hap]; simp only [app2, h0, if_true]
    simp -implicitDefEqProofs only [axt_20, axt_21, opt_some, optH_some, nb_cons, nb_nil, CD_true, CD_false, GD_tt, GD_ff, GD_tf, GD_ft, GD_un, pk_true, pk_false, nck_ptr, rv_one, rv_two, b_lss, b_leq, b_gtr, b_geq, b_eql, b_neq, b_add, b_sub, b_mul, b_quo, b_rem, b_shl, b_shr, b_and, b_or, b_xor, b_andNot, u_not, u_neg, nob_bool, nob_int, nob_string, nob_ptr, nob_slice, nob_map, nob_func, nob_nilf, nob_iface, nob_nili, nob_agg, nob_tuple, cok_bool, cok_int, cok_string, cok_ptr, cok_slice, cok_map, cok_func, nobot_nil, nobot_cons, onb_none, onb_some, cond_true, cond_false, abound_none, abound_int, Option.bind_some, Option.bind_none, nth, ↓nw, Value.cells, ↓BK, List.getElem?_cons_zero, List.getElem?_cons_succ, List.toList_toArray, Nat.zero_add, Nat.add_zero, List.length_cons, List.length_nil, List.length_replicate, List.length_map, List.length_set, List.all_cons, List.all_nil, setMany, List.set_cons_zero, List.set_cons_succ, List.drop_zero, List.take_zero, List.take_succ_cons, List.drop_succ_cons, List.take_nil, List.drop_nil, if_true, if_false, Bool.and_true, Bool.true_and, Nat.reduceAdd, Nat.reduceLeDiff, Nat.reduceMul, Nat.reduceMod, Nat.reduceDiv, Nat.reduceSub, Nat.reduceEqDiff, Nat.lt_irrefl, Int.reduceEq, Int.reduceLT, Int.reduceLE, Int.reduceAdd, Int.reduceSub, Int.reduceMul, Int.reduceNeg, Int.reduceToNat, and_true, true_and, Nat.le_refl, dec_t, dec_f, nxt_push, nxt_set, ro_pushk, ro_setk, next_lock, ro_lock, get_lock, get_push_self, get_push_eq, get_push_lt, get_set_self, get_set_ne, ne_eq, lt_add1, lt_add, sto, ldn, ld1, not_false_eq_true, not_true_eq_false, Bool.not_true, Bool.not_false, Bool.and_false, Bool.false_and, beq_self_eq_true, ap_58, bs_58_0_, co_69, eql0_58, eql_58, hap2]
    refine .inr ⟨h.next, 2, by rw [h0], ?_, Nat.le_refl _, Nat.lt_succ_self _⟩
    rw [get_push_self, hg]; rfl
  · have hap2 : abuiltin Try.prog .append [58, 58] 58 [.slice (some ⟨h.next, 0, none⟩) 0 2, .slice (some ⟨q, 0, none⟩) gs.length c] (h.push (.cells [] 69)) =
        some (.slice (some ⟨h.next + 1, 0, none⟩) gs.length (capafter 2 gs.length), ((h.push (.cells [] 69)).set h.next none).push (.cells (gs.map gptr) 69)) := by
      have hroom : roomFor 2 (0 + gs.length) 8 = true := by
        unfold roomFor; simp only [Nat.beq_refl, cond_true, Nat.ble_eq]; omega
      rw [hap]
      simp only [app2, h0, if_false, get_push_self]
      rw [if_pos ⟨by decide, trivial, hro, by simp, hroom, by decide⟩]
      simp only [Nat.zero_add, Nat.zero_mul, List.drop_zero, List.take_zero, List.nil_append]
      rfl
    simp -implicitDefEqProofs only [axt_20, axt_21, opt_some, optH_some, nb_cons, nb_nil, CD_true, CD_false, GD_tt, GD_ff, GD_tf, GD_ft, GD_un, pk_true, pk_false, nck_ptr, rv_one, rv_two, b_lss, b_leq, b_gtr, b_geq, b_eql, b_neq, b_add, b_sub, b_mul, b_quo, b_rem, b_shl, b_shr, b_and, b_or, b_xor, b_andNot, u_not, u_neg, nob_bool, nob_int, nob_string, nob_ptr, nob_slice, nob_map, nob_func, nob_nilf, nob_iface, nob_nili, nob_agg, nob_tuple, cok_bool, cok_int, cok_string, cok_ptr, cok_slice, cok_map, cok_func, nobot_nil, nobot_cons, onb_none, onb_some, cond_true, cond_false, abound_none, abound_int, Option.bind_some, Option.bind_none, nth, ↓nw, Value.cells, ↓BK, List.getElem?_cons_zero, List.getElem?_cons_succ, List.toList_toArray, Nat.zero_add, Nat.add_zero, List.length_cons, List.length_nil, List.length_replicate, List.length_map, List.length_set, List.all_cons, List.all_nil, setMany, List.set_cons_zero, List.set_cons_succ, List.drop_zero, List.take_zero, List.take_succ_cons, List.drop_succ_cons, List.take_nil, List.drop_nil, if_true, if_false, Bool.and_true, Bool.true_and, Nat.reduceAdd, Nat.reduceLeDiff, Nat.reduceMul, Nat.reduceMod, Nat.reduceDiv, Nat.reduceSub, Nat.reduceEqDiff, Nat.lt_irrefl, Int.reduceEq, Int.reduceLT, Int.reduceLE, Int.reduceAdd, Int.reduceSub, Int.reduceMul, Int.reduceNeg, Int.reduceToNat, and_true, true_and, Nat.le_refl, dec_t, dec_f, nxt_push, nxt_set, ro_pushk, ro_setk, next_lock, ro_lock, get_lock, get_push_self, get_push_eq, get_push_lt, get_set_self, get_set_ne, ne_eq, lt_add1, lt_add, sto, ldn, ld1, not_false_eq_true, not_true_eq_false, Bool.not_true, Bool.not_false, Bool.and_false, Bool.false_and, beq_self_eq_true, ap_58, bs_58_0_, co_69, eql0_58, eql_58, hap2]
    refine .inr ⟨h.next + 1, capafter 2 gs.length, rfl, get_push_eq rfl, Nat.le_succ _, ?_⟩
    show h.next + 1 < h.next + 1 + 1
    omega
/-- Pages copied, j of them. -/
structure PgI (h1 h' : AHeap) (q d : Nat) (gs hs : List (Option Nat)) (f : Nat → Nat → Cl) (j : Nat) : Prop where
  len : hs.length = gs.length
  arr : h'.get q = some (.cells (hs.map gptr) 69)
  old : ∀ i, j ≤ i → hs[i]? = gs[i]?
  new : ∀ i, i < j → (gs[i]? = some none → hs[i]? = some none) ∧ ∀ g, gs[i]? = some (some g) → ∃ g', hs[i]? = some (some g') ∧ h1.next ≤ g' ∧ g' < h'.next ∧ PageH h' g' (f i)
  one : ∀ a b g, a < j → b < j → hs[a]? = some (some g) → hs[b]? = some (some g) → a = b
  eff : Eff (fun b => b = q) h1 h'
  wf : WF' h'
theorem copy_pages {h1 : AHeap} {q c d : Nat} {sz : Value} {fr : Value} {gs : List (Option Nat)} {f : Nat → Nat → Cl} {K : List Value → AHeap → Prop} (wf : WF' h1) (hL : gs.length ≤ 100000000) (hq : h1.get q = some (.cells (gs.map gptr) 69)) (hrq : h1.ro ≤ q) (hqn : q < h1.next)
    (hd : h1.get d = some (.cells [sz, .slice (some ⟨q, 0, none⟩) gs.length c, fr] 60)) (hdn : d < h1.next) (hdq : d ≠ q) (hpg : ∀ i g, gs[i]? = some (some g) → g < h1.next ∧ g ≠ q ∧ PageH h1 g (f i))
    (hK : ∀ h' hs, PgI h1 h' q d gs hs f gs.length → K [] h') :
    LP (X_Copy_4 (.int .i64 gs.length) K (.slice (some ⟨q, 0, none⟩) gs.length c) (.pointer (some ⟨d, 0, none⟩))) [.int .i64 0] h1 := by
  refine LP_of (fun n vs h' => ∃ j hs, j ≤ gs.length ∧ n = gs.length - j ∧ vs = [.int .i64 j] ∧ PgI h1 h' q d gs hs f j) gs.length ⟨0, gs, Nat.zero_le _, rfl, rfl, rfl, hq, fun _ _ => rfl, fun i hi => absurd hi (Nat.not_lt_zero _), fun a _ _ ha => absurd ha (Nat.not_lt_zero _), .refl _ _, wf⟩ ?_
  rintro n vs h' ⟨j, hs, hj, rfl, rfl, I⟩
  by_cases hlt : j < gs.length
  · have hki : (j : Int) < (gs.length : Int) := by omega
    have hc1 : 0 ≤ (j : Int) ∧ (j : Int) < (gs.length : Int) := by omega
    have hw : IntKind.wrap .i64 ((j : Int) + 1) = ((j + 1 : Nat) : Int) := by rw [w64 (by omega) (by omega)]; omega
    obtain ⟨o, ho⟩ : ∃ o, gs[j]? = some o := ⟨_, List.getElem?_eq_getElem hlt⟩
    have hoh : hs[j]? = some o := by rw [I.old j (Nat.le_refl _), ho]
    have harr := I.arr
    have hgg := gptr_get hoh
    have n1 := I.eff.next
    have r1 := I.eff.ro
    cases o with
    | none =>
      simp -implicitDefEqProofs only [axt_20, axt_21, opt_some, optH_some, nb_cons, nb_nil, CD_true, CD_false, GD_tt, GD_ff, GD_tf, GD_ft, GD_un, pk_true, pk_false, nck_ptr, rv_one, rv_two, b_lss, b_leq, b_gtr, b_geq, b_eql, b_neq, b_add, b_sub, b_mul, b_quo, b_rem, b_shl, b_shr, b_and, b_or, b_xor, b_andNot, u_not, u_neg, nob_bool, nob_int, nob_string, nob_ptr, nob_slice, nob_map, nob_func, nob_nilf, nob_iface, nob_nili, nob_agg, nob_tuple, cok_bool, cok_int, cok_string, cok_ptr, cok_slice, cok_map, cok_func, nobot_nil, nobot_cons, onb_none, onb_some, cond_true, cond_false, abound_none, abound_int, Option.bind_some, Option.bind_none, nth, ↓nw, Value.cells, ↓BK, List.getElem?_cons_zero, List.getElem?_cons_succ, List.toList_toArray, Nat.zero_add, Nat.add_zero, List.length_cons, List.length_nil, List.length_replicate, List.length_map, List.length_set, List.all_cons, List.all_nil, setMany, List.set_cons_zero, List.set_cons_succ, List.drop_zero, List.take_zero, List.take_succ_cons, List.drop_succ_cons, List.take_nil, List.drop_nil, if_true, if_false, Bool.and_true, Bool.true_and, Nat.reduceAdd, Nat.reduceLeDiff, Nat.reduceMul, Nat.reduceMod, Nat.reduceDiv, Nat.reduceSub, Nat.reduceEqDiff, Nat.lt_irrefl, Int.reduceEq, Int.reduceLT, Int.reduceLE, Int.reduceAdd, Int.reduceSub, Int.reduceMul, Int.reduceNeg, Int.reduceToNat, and_true, true_and, Nat.le_refl, dec_t, dec_f, nxt_push, nxt_set, ro_pushk, ro_setk, next_lock, ro_lock, get_lock, get_push_self, get_push_eq, get_push_lt, get_set_self, get_set_ne, ne_eq, lt_add1, lt_add, sto, ldn, ld1, not_false_eq_true, not_true_eq_false, Bool.not_true, Bool.not_false, Bool.and_false, Bool.false_and, beq_self_eq_true, al_3, al_4, al_54, al_57, al_58, al_69, al_81, ap_54, as_54, as_69, as_81, bd_56_1, bd_60_0_1_2, bs_54_1_0, co_57, fa_56_0, fa_56_1, fa_60_0, fa_60_1, fa_60_2, ix_54, ix_58, len_54, len_58, neq0_69, neq_69, X_Copy_1, X_Copy_2, X_Copy_3, X_Copy_4, X_Copy_5, X_Copy_6, X_Copy_7, X_Copy_8, X_Copy_9, hki, hc1, harr, Int.toNat_natCast, Nat.mul_one, hgg, gptr, hw]
      refine ⟨gs.length - (j + 1), by omega, j + 1, hs, by omega, rfl, rfl, I.len, harr, fun i hi => I.old i (by omega), fun i hi => ?_, fun a b g ha hb h1' h2' => ?_, I.eff, I.wf⟩
      · by_cases e : i = j
        · subst e
          exact ⟨fun _ => hoh, fun g hg => (by rw [ho] at hg; cases hg)⟩
        · exact I.new i (by omega)
      · have hne : ∀ x, x < j + 1 → hs[x]? = some (some g) → x < j := fun x hx hxx => by
          rcases Nat.lt_or_ge x j with y | y
          · exact y
          · have : x = j := by omega
            subst this; rw [hoh] at hxx; cases hxx
        exact I.one a b g (hne a ha h1') (hne b hb h2') h1' h2'
    | some g =>
      obtain ⟨g1, g2, g3⟩ := hpg j g ho
      have gk : h'.get g = h1.get g := I.eff.get g g2 g1
      obtain ⟨cs, hcs, p1⟩ := (g3.keep gk).pl
      have lg := load_page hcs p1
      have hb0 : (h'.push (.cells zp 81)).get h'.next = some (.cells zp 81) := get_push_self
      have st := sto_page hb0 zp_len p1 I.wf.2 rfl
      generalize hG : (h'.push (.cells zp 81)).set h'.next (some (.cells cs 81)) = G at st
      have eG : Eff nof h' G := by subst hG; exact ((Eff.refl _ _).push _).set (.inr (Nat.le_refl _)) _
      have gG : G.get h'.next = some (.cells cs 81) := by subst hG; exact get_set_self
      have nG : G.next = h'.next + 1 := by subst hG; rfl
      have rG : G.ro = h'.ro := by subst hG; rfl
      have wG : WF' G := by subst hG; exact wf_set (wf_push I.wf _) (Nat.lt_succ_self _) _
      clear hG
      have hdG : G.get d = some (.cells [sz, .slice (some ⟨q, 0, none⟩) gs.length c, fr] 60) := by rw [eG.get d (fun q => q) (by omega), I.eff.get d hdq hdn]; exact hd
      have hqG : G.get q = some (.cells (hs.map gptr) 69) := by rw [eG.get q (fun q => q) (by omega)]; exact harr
      have hrG : G.ro ≤ q := by omega
      have hj1 : j + 1 ≤ hs.length := by rw [I.len]; omega
      simp -implicitDefEqProofs only [axt_20, axt_21, opt_some, optH_some, nb_cons, nb_nil, CD_true, CD_false, GD_tt, GD_ff, GD_tf, GD_ft, GD_un, pk_true, pk_false, nck_ptr, rv_one, rv_two, b_lss, b_leq, b_gtr, b_geq, b_eql, b_neq, b_add, b_sub, b_mul, b_quo, b_rem, b_shl, b_shr, b_and, b_or, b_xor, b_andNot, u_not, u_neg, nob_bool, nob_int, nob_string, nob_ptr, nob_slice, nob_map, nob_func, nob_nilf, nob_iface, nob_nili, nob_agg, nob_tuple, cok_bool, cok_int, cok_string, cok_ptr, cok_slice, cok_map, cok_func, nobot_nil, nobot_cons, onb_none, onb_some, cond_true, cond_false, abound_none, abound_int, Option.bind_some, Option.bind_none, nth, ↓nw, Value.cells, ↓BK, List.getElem?_cons_zero, List.getElem?_cons_succ, List.toList_toArray, Nat.zero_add, Nat.add_zero, List.length_cons, List.length_nil, List.length_replicate, List.length_map, List.length_set, List.all_cons, List.all_nil, setMany, List.set_cons_zero, List.set_cons_succ, List.drop_zero, List.take_zero, List.take_succ_cons, List.drop_succ_cons, List.take_nil, List.drop_nil, if_true, if_false, Bool.and_true, Bool.true_and, Nat.reduceAdd, Nat.reduceLeDiff, Nat.reduceMul, Nat.reduceMod, Nat.reduceDiv, Nat.reduceSub, Nat.reduceEqDiff, Nat.lt_irrefl, Int.reduceEq, Int.reduceLT, Int.reduceLE, Int.reduceAdd, Int.reduceSub, Int.reduceMul, Int.reduceNeg, Int.reduceToNat, and_true, true_and, Nat.le_refl, dec_t, dec_f, nxt_push, nxt_set, ro_pushk, ro_setk, next_lock, ro_lock, get_lock, get_push_self, get_push_eq, get_push_lt, get_set_self, get_set_ne, ne_eq, lt_add1, lt_add, sto, ldn, ld1, not_false_eq_true, not_true_eq_false, Bool.not_true, Bool.not_false, Bool.and_false, Bool.false_and, beq_self_eq_true, al_3, al_4, al_54, al_57, al_58, al_69, al_81, ap_54, as_54, as_69, as_81, bd_56_1, bd_60_0_1_2, bs_54_1_0, co_57, fa_56_0, fa_56_1, fa_60_0, fa_60_1, fa_60_2, ix_54, ix_58, len_54, len_58, neq0_69, neq_69, X_Copy_1, X_Copy_2, X_Copy_3, X_Copy_4, X_Copy_5, X_Copy_6, X_Copy_7, X_Copy_8, X_Copy_9, hki, hc1, harr, Int.toNat_natCast, Nat.mul_one, hgg, gptr, hw, lg, az81, st, hdG, hqG, hrG, hj1]
      have hset : (hs.map gptr).set j (.pointer (some ⟨h'.next, 0, none⟩)) = (hs.set j (some h'.next)).map gptr := gptr_set hs j h'.next
      have hjs : j < hs.length := by omega
      rw [hset]
      generalize hX : G.set q (some (.cells ((hs.set j (some h'.next)).map gptr) 69)) = X
      have eX : Eff (fun b => b = q) G X := by subst hX; exact eff_one _ _ _
      have gX : X.get q = some (.cells ((hs.set j (some h'.next)).map gptr) 69) := by subst hX; exact get_set_self
      have nX : X.next = h'.next + 1 := by subst hX; exact nG
      have wX : WF' X := by subst hX; exact wf_set wG (by omega) _
      clear hX
      have keep : ∀ b, b < h'.next → b ≠ q → X.get b = h'.get b := fun b hb hne => by rw [eX.get b hne (by omega), eG.get b (fun q => q) hb]
      have eff : Eff (fun b => b = q) h1 X := (I.eff.trans (eG.mono (fun _ q => q.elim))).trans eX
      refine ⟨gs.length - (j + 1), by omega, j + 1, hs.set j (some h'.next), by omega, rfl, rfl, by simp [I.len], gX, fun i hi => ?_, fun i hi => ?_, fun a b g' ha hb h1' h2' => ?_, eff, wX⟩
      · rw [List.getElem?_set_ne (by omega)]; exact I.old i (by omega)
      · by_cases e : i = j
        · subst e
          refine ⟨fun hg => (by rw [ho] at hg; cases hg), fun g' hg => ⟨h'.next, List.getElem?_set_self hjs, by omega, by omega, cs, ?_, p1.1, p1.2⟩⟩
          rw [eX.get _ (fun (q' : h'.next = q) => by omega) (by omega)]; exact gG
        · rw [List.getElem?_set_ne (fun q => e q.symm)]
          obtain ⟨n1', n2'⟩ := I.new i (by omega)
          refine ⟨n1', fun g' hg => ?_⟩
          obtain ⟨g'', a1, a2, a3, a4⟩ := n2' g' hg
          exact ⟨g'', a1, a2, by omega, a4.keep (keep g'' a3 (by omega))⟩
      · have lt' : ∀ x, x < j → hs[x]? = some (some g') → g' < h'.next := fun x hx hxx => by
          obtain ⟨n1', n2'⟩ := I.new x hx
          cases hgx : gs[x]? with
          | none =>
            have : gs.length ≤ x := by
              rcases Nat.lt_or_ge x gs.length with y | y
              · rw [List.getElem?_eq_getElem y] at hgx; cases hgx
              · exact y
            omega
          | some o =>
            cases o with
            | none => rw [n1' hgx] at hxx; cases hxx
            | some y =>
              obtain ⟨g'', a1, _, a3, _⟩ := n2' y hgx
              rw [a1] at hxx; cases hxx; exact a3
        by_cases ea : a = j <;> by_cases eb : b = j
        · omega
        · subst ea
          rw [List.getElem?_set_self hjs] at h1'
          rw [List.getElem?_set_ne (fun q => eb q.symm)] at h2'
          cases h1'
          have := lt' b (by omega) h2'
          omega
        · subst eb
          rw [List.getElem?_set_self hjs] at h2'
          rw [List.getElem?_set_ne (fun q => ea q.symm)] at h1'
          cases h2'
          have := lt' a (by omega) h1'
          omega
        · rw [List.getElem?_set_ne (fun q => ea q.symm)] at h1'
          rw [List.getElem?_set_ne (fun q => eb q.symm)] at h2'
          exact I.one a b g' (by omega) (by omega) h1' h2'
  · have hjj : j = gs.length := by omega
    subst hjj
    have hki : ¬ (gs.length : Int) < (gs.length : Int) := by omega
    simp -implicitDefEqProofs only [axt_20, axt_21, opt_some, optH_some, nb_cons, nb_nil, CD_true, CD_false, GD_tt, GD_ff, GD_tf, GD_ft, GD_un, pk_true, pk_false, nck_ptr, rv_one, rv_two, b_lss, b_leq, b_gtr, b_geq, b_eql, b_neq, b_add, b_sub, b_mul, b_quo, b_rem, b_shl, b_shr, b_and, b_or, b_xor, b_andNot, u_not, u_neg, nob_bool, nob_int, nob_string, nob_ptr, nob_slice, nob_map, nob_func, nob_nilf, nob_iface, nob_nili, nob_agg, nob_tuple, cok_bool, cok_int, cok_string, cok_ptr, cok_slice, cok_map, cok_func, nobot_nil, nobot_cons, onb_none, onb_some, cond_true, cond_false, abound_none, abound_int, Option.bind_some, Option.bind_none, nth, ↓nw, Value.cells, ↓BK, List.getElem?_cons_zero, List.getElem?_cons_succ, List.toList_toArray, Nat.zero_add, Nat.add_zero, List.length_cons, List.length_nil, List.length_replicate, List.length_map, List.length_set, List.all_cons, List.all_nil, setMany, List.set_cons_zero, List.set_cons_succ, List.drop_zero, List.take_zero, List.take_succ_cons, List.drop_succ_cons, List.take_nil, List.drop_nil, if_true, if_false, Bool.and_true, Bool.true_and, Nat.reduceAdd, Nat.reduceLeDiff, Nat.reduceMul, Nat.reduceMod, Nat.reduceDiv, Nat.reduceSub, Nat.reduceEqDiff, Nat.lt_irrefl, Int.reduceEq, Int.reduceLT, Int.reduceLE, Int.reduceAdd, Int.reduceSub, Int.reduceMul, Int.reduceNeg, Int.reduceToNat, and_true, true_and, Nat.le_refl, dec_t, dec_f, nxt_push, nxt_set, ro_pushk, ro_setk, next_lock, ro_lock, get_lock, get_push_self, get_push_eq, get_push_lt, get_set_self, get_set_ne, ne_eq, lt_add1, lt_add, sto, ldn, ld1, not_false_eq_true, not_true_eq_false, Bool.not_true, Bool.not_false, Bool.and_false, Bool.false_and, beq_self_eq_true, al_3, al_4, al_54, al_57, al_58, al_69, al_81, ap_54, as_54, as_69, as_81, bd_56_1, bd_60_0_1_2, bs_54_1_0, co_57, fa_56_0, fa_56_1, fa_60_0, fa_60_1, fa_60_2, ix_54, ix_58, len_54, len_58, neq0_69, neq_69, X_Copy_1, X_Copy_2, X_Copy_3, X_Copy_4, X_Copy_5, X_Copy_6, X_Copy_7, X_Copy_8, X_Copy_9, hki]
    exact hK h' hs I
end Go.Mem
namespace Go.Mem
open Go.Ai Go.Proofs
set_option linter.unusedVariables false
set_option linter.unusedSimpArgs false
/-- A block more, with its pages. -/
theorem MemO.add {h h1 : AHeap} {m : Nat} {bs : Value} {ps : List Nat} {fs : Nat → Nat → Prop} {M : MM} {F : Nat → Prop} (x : MemO h m bs ps fs M F) {B : MB} {p q c : Nat} {F3 : Nat → Prop} (hn : h.next ≤ h1.next) (hro : h1.ro = h.ro) (hb : BlkH h1 p B F3)
    (h3 : ∀ b, F3 b → ¬ F b ∧ b < h1.next ∧ h.ro ≤ b) (hq : h.next ≤ q ∧ q < h1.next ∧ h.ro ≤ q) (hq3 : ¬ F3 q) (e1 : h1.get m = some (.cells [.slice (some ⟨q, 0, none⟩) (M.length + 1) c, .int .i64 (live (M ++ [B]))] 56)) (hc : c ≠ 0)
    (e2 : h1.get q = some (.cells ((ps ++ [p]).map fun p => .pointer (some ⟨p, 0, none⟩)) 57)) (e4 : ∀ b, F b → b ≠ m → (∀ c, bs ≠ .slice (some ⟨b, 0, none⟩) M.length c) → h1.get b = h.get b) :
    MemO h1 m (.slice (some ⟨q, 0, none⟩) (M.length + 1) c) (ps ++ [p]) (fun i b => if i = M.length then F3 b else fs i b) (M ++ [B]) (fun b => F b ∨ F3 b ∨ b = q) := by
  have hnew : ∀ b, h.next ≤ b → F b → False := fun b hl hb => by have := (x.ok b hb).2; omega
  have hlp := x.len
  refine ⟨e1, .inl x.fm, by simp [x.len], ?_, ?_, ?_, ?_, ?_, ?_⟩
  · refine .inr ⟨q, c, by simp, hc, .inr (.inr rfl), e2, fun i hi => ?_⟩
    split at hi
    · exact hq3 hi
    · exact hnew q hq.1 (x.sub i q hi)
  · intro i hi
    split at hi
    · exact (h3 m hi).1 x.fm
    · exact x.nm i hi
  · intro i p' B' hp' hB'
    by_cases e : i = M.length
    · subst e
      rw [← hlp] at hp'
      rw [List.getElem?_append_right (Nat.le_refl _), Nat.sub_self] at hp' hB'
      simp at hp' hB'
      subst hp' hB'
      simp only [if_true]
      exact hb
    · have hlt : i < M.length := by
        rcases Nat.lt_or_ge i M.length with a | a
        · exact a
        · rw [List.getElem?_eq_none (by simp; omega)] at hB'; cases hB'
      rw [List.getElem?_append_left (by omega)] at hp' hB'
      simp only [if_neg e]
      refine (x.blk i p' B' hp' hB').keep (fun b hb => e4 b (x.sub i b hb) (fun q => ?_) (fun c q => ?_))
      · subst q; exact x.nm i hb
      · rcases x.hb with ⟨rfl, _⟩ | ⟨bb, c', r, _, _, _, r5⟩
        · cases hlt
        · rw [r] at q; cases q; exact r5 i hb
  · intro i j b hi hj
    split at hi <;> split at hj
    · rename_i a1 a2; rw [a1, a2]
    · exact ((h3 b hi).1 (x.sub j b hj)).elim
    · exact ((h3 b hj).1 (x.sub i b hi)).elim
    · exact x.dis i j b hi hj
  · intro i b hi
    split at hi
    · exact .inr (.inl hi)
    · exact .inl (x.sub i b hi)
  · intro b hb
    rcases hb with hb | hb | hb
    · have := x.ok b hb; omega
    · have := h3 b hb; omega
    · omega
def lvc (bs : Value) (n : Int) : AObj := .cells [bs, .int .i64 n] 56
theorem copy_tail {h2 : AHeap} {c d base : Nat} {bs : Value} {ps : List Nat} {fs : Nat → Nat → Prop} {M : MM} {F F3 : Nat → Prop} {lv : Int} {B : MB} {j : List Value → AHeap → Prop} {vs : List Value} (wf : WF' h2) (hm : h2.get c = some (.cells [bs, .int .i64 lv] 56))
    (x : MemO (h2.set c (some (lvc bs (live M)))) c bs ps fs M F) (hb : BlkH h2 d B F3) (hL : M.length ≤ 100000) (hF : ∀ b, F b → b < base) (h3 : ∀ b, F3 b → base ≤ b ∧ b < h2.next) (hbase : h2.ro ≤ base) (hbn : base ≤ h2.next)
    (hj : ∀ h3 bs' ps' fs' F', h3.get c = some (.cells [bs', .int .i64 lv] 56) → MemO (h3.set c (some (lvc bs' (live (M ++ [B]))))) c bs' ps' fs' (M ++ [B]) F' → Eff F h2 h3 → (∀ b, F' b → F b ∨ base ≤ b) → WF' h3 → j [] h3) :
    X_Copy_5 (.pointer (some ⟨c, 0, none⟩)) (.pointer (some ⟨d, 0, none⟩)) j vs h2 := by
  have okc := x.ok c x.fm
  have ok1 : h2.ro ≤ c ∧ c < h2.next := okc
  have n1 : ¬ c = h2.next := by omega
  have n2 : ¬ c = h2.next + 1 := by omega
  have n3 : c < h2.next + 1 := by omega
  have fc := hF c x.fm
  have hnb : ∀ p, h2.push (.cells [.pointer (some ⟨d, 0, none⟩)] 57) = p → firstc p 1 1 (.slice (some ⟨h2.next, 0, none⟩) 1 3) = some [.pointer (some ⟨d, 0, none⟩)] := fun p hp => by
    subst hp
    simp only [firstc, get_push_self]
    rfl
  have hap := fun v h' hh => ap_54 54 v (.slice (some ⟨h2.next, 0, none⟩) 1 3) 1 [.pointer (some ⟨d, 0, none⟩)] h' rfl (hnb h' hh) rfl rfl
  rcases x.hb with ⟨rfl, rfl⟩ | ⟨bb, cc, rfl, hc, fb, hbb, nb⟩
  · have hps : ps = [] := List.length_eq_zero_iff.1 x.len
    subst hps
    simp -implicitDefEqProofs only [axt_20, axt_21, opt_some, optH_some, nb_cons, nb_nil, CD_true, CD_false, GD_tt, GD_ff, GD_tf, GD_ft, GD_un, pk_true, pk_false, nck_ptr, rv_one, rv_two, b_lss, b_leq, b_gtr, b_geq, b_eql, b_neq, b_add, b_sub, b_mul, b_quo, b_rem, b_shl, b_shr, b_and, b_or, b_xor, b_andNot, u_not, u_neg, nob_bool, nob_int, nob_string, nob_ptr, nob_slice, nob_map, nob_func, nob_nilf, nob_iface, nob_nili, nob_agg, nob_tuple, cok_bool, cok_int, cok_string, cok_ptr, cok_slice, cok_map, cok_func, nobot_nil, nobot_cons, onb_none, onb_some, cond_true, cond_false, abound_none, abound_int, Option.bind_some, Option.bind_none, nth, ↓nw, Value.cells, ↓BK, List.getElem?_cons_zero, List.getElem?_cons_succ, List.toList_toArray, Nat.zero_add, Nat.add_zero, List.length_cons, List.length_nil, List.length_replicate, List.length_map, List.length_set, List.all_cons, List.all_nil, setMany, List.set_cons_zero, List.set_cons_succ, List.drop_zero, List.take_zero, List.take_succ_cons, List.drop_succ_cons, List.take_nil, List.drop_nil, if_true, if_false, Bool.and_true, Bool.true_and, Nat.reduceAdd, Nat.reduceLeDiff, Nat.reduceMul, Nat.reduceMod, Nat.reduceDiv, Nat.reduceSub, Nat.reduceEqDiff, Nat.lt_irrefl, Int.reduceEq, Int.reduceLT, Int.reduceLE, Int.reduceAdd, Int.reduceSub, Int.reduceMul, Int.reduceNeg, Int.reduceToNat, and_true, true_and, Nat.le_refl, dec_t, dec_f, nxt_push, nxt_set, ro_pushk, ro_setk, next_lock, ro_lock, get_lock, get_push_self, get_push_eq, get_push_lt, get_set_self, get_set_ne, ne_eq, lt_add1, lt_add, sto, ldn, ld1, not_false_eq_true, not_true_eq_false, Bool.not_true, Bool.not_false, Bool.and_false, Bool.false_and, beq_self_eq_true, al_3, al_4, al_54, al_57, al_58, al_69, al_81, ap_54, as_54, as_69, as_81, bd_56_1, bd_60_0_1_2, bs_54_1_0, co_57, fa_56_0, fa_56_1, fa_60_0, fa_60_1, fa_60_2, ix_54, ix_58, len_54, len_58, neq0_69, neq_69, X_Copy_1, X_Copy_2, X_Copy_3, X_Copy_4, X_Copy_5, X_Copy_6, X_Copy_7, X_Copy_8, X_Copy_9, hm, hap, app2, Nat.reducePow, n1, n2, n3, ok1]
    generalize hH : AHeap.set _ c _ = H
    have e1 : H.get c = some (.cells [.slice (some ⟨h2.next + 1, 0, none⟩) 1 1, .int .i64 lv] 56) := by subst hH; exact get_set_self
    have e2 : H.get (h2.next + 1) = some (.cells [.pointer (some ⟨d, 0, none⟩)] 57) := by
      subst hH; rw [get_set_ne (fun e => n2 e.symm)]; exact get_push_eq rfl
    have e3 : ∀ b, b < h2.next → b ≠ c → H.get b = h2.get b := fun b hb hne => by
      subst hH; rw [get_set_ne hne, get_push_lt (by simp only [nxt_push]; omega), get_push_lt hb]
    have nH : H.next = h2.next + 2 := by subst hH; rfl
    have rH : H.ro = h2.ro := by subst hH; rfl
    have wH : WF' H := by subst hH; exact wf_set (wf_push (wf_push wf _) _) (by simp only [nxt_push]; omega) _
    clear hH
    refine hj H (.slice (some ⟨h2.next + 1, 0, none⟩) 1 1) _ _ _ e1 (x.add (c := 1) (q := h2.next + 1) (F3 := F3) (by show h2.next ≤ H.next; omega) (by show H.ro = h2.ro; omega) (hb.keep (fun b hb3 => ?_)) (fun b hb3 => ⟨fun hf => ?_, ?_, ?_⟩) ⟨?_, ?_, ?_⟩ (fun hf => ?_) get_set_self (by decide) ?_ ?_)
      ⟨by omega, rH, fun b hf hlt => e3 b hlt (fun e => hf (by rw [e]; exact x.fm))⟩ (fun b hb' => ?_) wH
    · have := h3 b hb3
      rw [get_set_ne (by omega)]
      exact e3 b this.2 (by omega)
    · have := hF b hf; have := h3 b hb3; omega
    · have := h3 b hb3; show b < H.next; omega
    · have := h3 b hb3; show h2.ro ≤ b; omega
    · show h2.next ≤ h2.next + 1; omega
    · show h2.next + 1 < H.next; omega
    · show h2.ro ≤ h2.next + 1; omega
    · have := h3 _ hf; omega
    · rw [get_set_ne (fun e => n2 e.symm)]; exact e2
    · intro b hf hne _
      have := (x.ok b hf).2
      rw [get_set_ne hne, get_set_ne hne]
      exact e3 b this hne
    · rcases hb' with q | q | q
      · exact .inl q
      · exact .inr (h3 b q).1
      · exact .inr (by omega)
  · have okb := x.ok bb fb
    have ok2 : h2.ro ≤ bb ∧ bb < h2.next := okb
    have fbb := hF bb fb
    have hbc : ¬ bb = c := by intro e; subst e; rw [get_set_self] at hbb; simp [lvc] at hbb
    have hcb : ¬ c = bb := fun e => hbc e.symm
    have hbb2 : h2.get bb = some (.cells (ps.map fun p => .pointer (some ⟨p, 0, none⟩)) 57) := by rw [get_set_ne hbc] at hbb; exact hbb
    have hroom : roomFor cc (M.length + 1) 8 = true := by
      unfold roomFor
      cases Nat.beq cc 2 <;> simp only [cond_true, cond_false, Nat.ble_eq] <;> omega
    have hlp : M.length ≤ ps.length := by rw [x.len]; omega
    have hz : List.take M.length (List.map (fun p => Value.pointer (some ⟨p, 0, none⟩)) ps) = List.map (fun p => Value.pointer (some ⟨p, 0, none⟩)) ps := List.take_of_length_le (by simp [x.len])
    simp -implicitDefEqProofs only [axt_20, axt_21, opt_some, optH_some, nb_cons, nb_nil, CD_true, CD_false, GD_tt, GD_ff, GD_tf, GD_ft, GD_un, pk_true, pk_false, nck_ptr, rv_one, rv_two, b_lss, b_leq, b_gtr, b_geq, b_eql, b_neq, b_add, b_sub, b_mul, b_quo, b_rem, b_shl, b_shr, b_and, b_or, b_xor, b_andNot, u_not, u_neg, nob_bool, nob_int, nob_string, nob_ptr, nob_slice, nob_map, nob_func, nob_nilf, nob_iface, nob_nili, nob_agg, nob_tuple, cok_bool, cok_int, cok_string, cok_ptr, cok_slice, cok_map, cok_func, nobot_nil, nobot_cons, onb_none, onb_some, cond_true, cond_false, abound_none, abound_int, Option.bind_some, Option.bind_none, nth, ↓nw, Value.cells, ↓BK, List.getElem?_cons_zero, List.getElem?_cons_succ, List.toList_toArray, Nat.zero_add, Nat.add_zero, List.length_cons, List.length_nil, List.length_replicate, List.length_map, List.length_set, List.all_cons, List.all_nil, setMany, List.set_cons_zero, List.set_cons_succ, List.drop_zero, List.take_zero, List.take_succ_cons, List.drop_succ_cons, List.take_nil, List.drop_nil, if_true, if_false, Bool.and_true, Bool.true_and, Nat.reduceAdd, Nat.reduceLeDiff, Nat.reduceMul, Nat.reduceMod, Nat.reduceDiv, Nat.reduceSub, Nat.reduceEqDiff, Nat.lt_irrefl, Int.reduceEq, Int.reduceLT, Int.reduceLE, Int.reduceAdd, Int.reduceSub, Int.reduceMul, Int.reduceNeg, Int.reduceToNat, and_true, true_and, Nat.le_refl, dec_t, dec_f, nxt_push, nxt_set, ro_pushk, ro_setk, next_lock, ro_lock, get_lock, get_push_self, get_push_eq, get_push_lt, get_set_self, get_set_ne, ne_eq, lt_add1, lt_add, sto, ldn, ld1, not_false_eq_true, not_true_eq_false, Bool.not_true, Bool.not_false, Bool.and_false, Bool.false_and, beq_self_eq_true, al_3, al_4, al_54, al_57, al_58, al_69, al_81, ap_54, as_54, as_69, as_81, bd_56_1, bd_60_0_1_2, bs_54_1_0, co_57, fa_56_0, fa_56_1, fa_60_0, fa_60_1, fa_60_2, ix_54, ix_58, len_54, len_58, neq0_69, neq_69, X_Copy_1, X_Copy_2, X_Copy_3, X_Copy_4, X_Copy_5, X_Copy_6, X_Copy_7, X_Copy_8, X_Copy_9, hm, hap, app2, n1, n2, n3, ok1, ok2, hbb2, hroom, hlp, Nat.mul_one, hc, hcb, hz]
    generalize hH : AHeap.set _ c _ = H
    have e1 : H.get c = some (.cells [.slice (some ⟨h2.next + 1, 0, none⟩) (M.length + 1) (capafter cc (M.length + 1)), .int .i64 lv] 56) := by subst hH; exact get_set_self
    have e2 : H.get (h2.next + 1) = some (.cells ((ps ++ [d]).map fun p => .pointer (some ⟨p, 0, none⟩)) 57) := by
      subst hH; rw [get_set_ne (fun e => n2 e.symm)]; exact (get_push_eq rfl).trans (by simp)
    have e3 : ∀ b, b < h2.next → b ≠ c → b ≠ bb → H.get b = h2.get b := fun b hb hne hnb => by
      subst hH; rw [get_set_ne hne, get_push_lt (by simp only [nxt_push, nxt_set]; omega), get_set_ne hnb, get_push_lt hb]
    have nH : H.next = h2.next + 2 := by subst hH; rfl
    have rH : H.ro = h2.ro := by subst hH; rfl
    have wH : WF' H := by subst hH; exact wf_set (wf_push (wf_set (wf_push wf _) (by simp only [nxt_push]; omega) _) _) (by simp only [nxt_push, nxt_set]; omega) _
    clear hH
    refine hj H (.slice (some ⟨h2.next + 1, 0, none⟩) (M.length + 1) (capafter cc (M.length + 1))) _ _ _ e1 (x.add (c := capafter cc (M.length + 1)) (q := h2.next + 1) (F3 := F3) (by show h2.next ≤ H.next; omega) (by show H.ro = h2.ro; omega) (hb.keep (fun b hb3 => ?_)) (fun b hb3 => ⟨fun hf => ?_, ?_, ?_⟩) ⟨?_, ?_, ?_⟩ (fun hf => ?_) get_set_self (cap_ne _ _) ?_ ?_)
      ⟨by omega, rH, fun b hf hlt => e3 b hlt (fun e => hf (by rw [e]; exact x.fm)) (fun e => hf (by rw [e]; exact fb))⟩ (fun b hb' => ?_) wH
    · have := h3 b hb3
      rw [get_set_ne (by omega)]
      exact e3 b this.2 (by omega) (by omega)
    · have := hF b hf; have := h3 b hb3; omega
    · have := h3 b hb3; show b < H.next; omega
    · have := h3 b hb3; show h2.ro ≤ b; omega
    · show h2.next ≤ h2.next + 1; omega
    · show h2.next + 1 < H.next; omega
    · show h2.ro ≤ h2.next + 1; omega
    · have := h3 _ hf; omega
    · rw [get_set_ne (fun e => n2 e.symm)]; exact e2
    · intro b hf hne hnb
      have := (x.ok b hf).2
      rw [get_set_ne hne, get_set_ne hne]
      exact e3 b this hne (fun e => hnb cc (by rw [e]))
    · rcases hb' with q | q | q
      · exact .inl q
      · exact .inr (h3 b q).1
      · exact .inr (by omega)
end Go.Mem
namespace Go.Mem
open Go.Ai Go.Proofs
set_option linter.unusedVariables false
set_option linter.unusedSimpArgs false
theorem take_one {M : MM} {i : Nat} {B : MB} (h : M[i]? = some B) : M.take i ++ [B] = M.take (i + 1) := by
  rw [List.take_add_one, h]; rfl
def CopyI (h : AHeap) (c : Nat) (M : MM) (n : Nat) (vs : List Value) (h' : AHeap) : Prop :=
  ∃ i bs ps fs F, i ≤ M.length ∧ n = M.length - i ∧ vs = [.int .i64 i] ∧ h'.get c = some (.cells [bs, .int .i64 (live M)] 56) ∧ MemO (h'.set c (some (lvc bs (live (M.take i))))) c bs ps fs (M.take i) F ∧ Eff nof h h' ∧ (∀ b, F b → h.next ≤ b) ∧ WF' h'
theorem copy_ok {h : AHeap} {m : Nat} {M : MM} {Fs : Nat → Prop} (x : MemH h m M Fs) (sm : small M) (hL : M.length ≤ 100000) :
    DC Try.prog 22 [.pointer (some ⟨m, 0, none⟩)] h (fun v h1 => ∃ c F, v = .pointer (some ⟨c, 0, none⟩) ∧ MemH h1 c M F ∧ (∀ b, F b → h.next ≤ b) ∧ Eff nof h h1) := by
  apply DC_wf; intro hwf
  apply X_Copy_ok
  unfold X_Copy
  obtain ⟨bsS, psS, fsS, x⟩ := x
  have hm := x.hm
  have okm := x.ok m x.fm
  have hml := okm.2
  have nbs : isBot bsS = false := by rcases x.hb with ⟨_, rfl⟩ | ⟨_, _, rfl, _⟩ <;> rfl
  have hlen : ∀ h', abuiltin Try.prog .len [54] 3 [bsS] h' = some (.int .i64 M.length, h') := fun h' => by
    rcases x.hb with ⟨rfl, rfl⟩ | ⟨_, _, rfl, _⟩
    · simp only [al_3, al_4, al_54, al_57, al_58, al_69, al_81, ap_54, as_54, as_69, as_81, bd_56_1, bd_60_0_1_2, bs_54_1_0, co_57, fa_56_0, fa_56_1, fa_60_0, fa_60_1, fa_60_2, ix_54, ix_58, len_54, len_58, neq0_69, neq_69, X_Copy_1, X_Copy_2, X_Copy_3, X_Copy_4, X_Copy_5, X_Copy_6, X_Copy_7, X_Copy_8, X_Copy_9, List.length_nil]
    · simp only [al_3, al_4, al_54, al_57, al_58, al_69, al_81, ap_54, as_54, as_69, as_81, bd_56_1, bd_60_0_1_2, bs_54_1_0, co_57, fa_56_0, fa_56_1, fa_60_0, fa_60_1, fa_60_2, ix_54, ix_58, len_54, len_58, neq0_69, neq_69, X_Copy_1, X_Copy_2, X_Copy_3, X_Copy_4, X_Copy_5, X_Copy_6, X_Copy_7, X_Copy_8, X_Copy_9]
  simp -implicitDefEqProofs only [axt_20, axt_21, opt_some, optH_some, nb_cons, nb_nil, CD_true, CD_false, GD_tt, GD_ff, GD_tf, GD_ft, GD_un, pk_true, pk_false, nck_ptr, rv_one, rv_two, b_lss, b_leq, b_gtr, b_geq, b_eql, b_neq, b_add, b_sub, b_mul, b_quo, b_rem, b_shl, b_shr, b_and, b_or, b_xor, b_andNot, u_not, u_neg, nob_bool, nob_int, nob_string, nob_ptr, nob_slice, nob_map, nob_func, nob_nilf, nob_iface, nob_nili, nob_agg, nob_tuple, cok_bool, cok_int, cok_string, cok_ptr, cok_slice, cok_map, cok_func, nobot_nil, nobot_cons, onb_none, onb_some, cond_true, cond_false, abound_none, abound_int, Option.bind_some, Option.bind_none, nth, ↓nw, Value.cells, ↓BK, List.getElem?_cons_zero, List.getElem?_cons_succ, List.toList_toArray, Nat.zero_add, Nat.add_zero, List.length_cons, List.length_nil, List.length_replicate, List.length_map, List.length_set, List.all_cons, List.all_nil, setMany, List.set_cons_zero, List.set_cons_succ, List.drop_zero, List.take_zero, List.take_succ_cons, List.drop_succ_cons, List.take_nil, List.drop_nil, if_true, if_false, Bool.and_true, Bool.true_and, Nat.reduceAdd, Nat.reduceLeDiff, Nat.reduceMul, Nat.reduceMod, Nat.reduceDiv, Nat.reduceSub, Nat.reduceEqDiff, Nat.lt_irrefl, Int.reduceEq, Int.reduceLT, Int.reduceLE, Int.reduceAdd, Int.reduceSub, Int.reduceMul, Int.reduceNeg, Int.reduceToNat, and_true, true_and, Nat.le_refl, dec_t, dec_f, nxt_push, nxt_set, ro_pushk, ro_setk, next_lock, ro_lock, get_lock, get_push_self, get_push_eq, get_push_lt, get_set_self, get_set_ne, ne_eq, lt_add1, lt_add, sto, ldn, ld1, not_false_eq_true, not_true_eq_false, Bool.not_true, Bool.not_false, Bool.and_false, Bool.false_and, beq_self_eq_true, al_3, al_4, al_54, al_57, al_58, al_69, al_81, ap_54, as_54, as_69, as_81, bd_56_1, bd_60_0_1_2, bs_54_1_0, co_57, fa_56_0, fa_56_1, fa_60_0, fa_60_1, fa_60_2, ix_54, ix_58, len_54, len_58, neq0_69, neq_69, X_Copy_1, X_Copy_2, X_Copy_3, X_Copy_4, X_Copy_5, X_Copy_6, X_Copy_7, X_Copy_8, X_Copy_9, hm, hml, nbs, hlen]
  generalize hH : h.push (.cells [.slice none 0 0, .int .i64 (live M)] 56) = H0
  have eH : Eff nof h H0 := by subst hH; exact (Eff.refl _ _).push _
  have gH : H0.get h.next = some (.cells [.slice none 0 0, .int .i64 (live M)] 56) := by subst hH; exact get_push_self
  have nH : H0.next = h.next + 1 := by subst hH; rfl
  have rH : H0.ro = h.ro := by subst hH; rfl
  have wH : WF' H0 := by subst hH; exact wf_push hwf _
  clear hH
  have hro := hwf.2
  refine LP_of (CopyI h h.next M) M.length ⟨0, .slice none 0 0, [], fun _ _ => False, fun b => b = h.next, Nat.zero_le _, rfl, rfl, gH, ⟨get_set_self, rfl, rfl, .inl ⟨rfl, rfl⟩, fun _ e => e, fun i p B hp => by simp at hp, fun i j b e => e.elim, fun i b e => e.elim, fun b hb => ?_⟩, eH, fun b hb => by rw [hb]; exact Nat.le_refl _, wH⟩ ?_
  · subst hb
    show H0.ro ≤ h.next ∧ h.next < H0.next
    omega
  rintro n vs h' ⟨i, bs, ps, fs, F, hi, rfl, rfl, hc, y, e, hF, wf⟩
  have n1 := e.next
  have r1 := e.ro
  by_cases hlt : i < M.length
  · have hki : (i : Int) < (M.length : Int) := by omega
    rcases x.hb with ⟨rfl, _⟩ | ⟨bbS, cS, rfl, _, fbS, hbbS, _⟩
    · cases hlt
    have okbS := x.ok bbS fbS
    have gbS : h'.get bbS = some (.cells (psS.map fun p => .pointer (some ⟨p, 0, none⟩)) 57) := by rw [e.get bbS (fun q => q) okbS.2]; exact hbbS
    obtain ⟨p, hp⟩ : ∃ p, psS[i]? = some p := ⟨_, List.getElem?_eq_getElem (by rw [x.len]; exact hlt)⟩
    obtain ⟨B, hB⟩ : ∃ B, M[i]? = some B := ⟨_, List.getElem?_eq_getElem hlt⟩
    have hpp := get_ptr hp
    have hz := sm i B hB
    have ltS : ∀ b, fsS i b → b < h.next := fun b hb => (x.ok b (x.sub i b hb)).2
    have blk' : BlkH h' p B (fsS i) := (x.blk i p B hp hB).keep (fun b hb => e.get b (fun q => q) (ltS b hb))
    obtain ⟨pg, hbk, fp, hpg⟩ := blk'
    have hpl := ltS p fp
    have hc1 : 0 ≤ (i : Int) ∧ (i : Int) < (M.length : Int) := by omega
    have hw : IntKind.wrap .i64 ((i : Int) + 1) = ((i + 1 : Nat) : Int) := by rw [w64 (by omega) (by omega)]; omega
    have okc := y.ok h.next y.fm
    have hcl : h.next < h'.next := okc.2
    simp -implicitDefEqProofs only [axt_20, axt_21, opt_some, optH_some, nb_cons, nb_nil, CD_true, CD_false, GD_tt, GD_ff, GD_tf, GD_ft, GD_un, pk_true, pk_false, nck_ptr, rv_one, rv_two, b_lss, b_leq, b_gtr, b_geq, b_eql, b_neq, b_add, b_sub, b_mul, b_quo, b_rem, b_shl, b_shr, b_and, b_or, b_xor, b_andNot, u_not, u_neg, nob_bool, nob_int, nob_string, nob_ptr, nob_slice, nob_map, nob_func, nob_nilf, nob_iface, nob_nili, nob_agg, nob_tuple, cok_bool, cok_int, cok_string, cok_ptr, cok_slice, cok_map, cok_func, nobot_nil, nobot_cons, onb_none, onb_some, cond_true, cond_false, abound_none, abound_int, Option.bind_some, Option.bind_none, nth, ↓nw, Value.cells, ↓BK, List.getElem?_cons_zero, List.getElem?_cons_succ, List.toList_toArray, Nat.zero_add, Nat.add_zero, List.length_cons, List.length_nil, List.length_replicate, List.length_map, List.length_set, List.all_cons, List.all_nil, setMany, List.set_cons_zero, List.set_cons_succ, List.drop_zero, List.take_zero, List.take_succ_cons, List.drop_succ_cons, List.take_nil, List.drop_nil, if_true, if_false, Bool.and_true, Bool.true_and, Nat.reduceAdd, Nat.reduceLeDiff, Nat.reduceMul, Nat.reduceMod, Nat.reduceDiv, Nat.reduceSub, Nat.reduceEqDiff, Nat.lt_irrefl, Int.reduceEq, Int.reduceLT, Int.reduceLE, Int.reduceAdd, Int.reduceSub, Int.reduceMul, Int.reduceNeg, Int.reduceToNat, and_true, true_and, Nat.le_refl, dec_t, dec_f, nxt_push, nxt_set, ro_pushk, ro_setk, next_lock, ro_lock, get_lock, get_push_self, get_push_eq, get_push_lt, get_set_self, get_set_ne, ne_eq, lt_add1, lt_add, sto, ldn, ld1, not_false_eq_true, not_true_eq_false, Bool.not_true, Bool.not_false, Bool.and_false, Bool.false_and, beq_self_eq_true, al_3, al_4, al_54, al_57, al_58, al_69, al_81, ap_54, as_54, as_69, as_81, bd_56_1, bd_60_0_1_2, bs_54_1_0, co_57, fa_56_0, fa_56_1, fa_60_0, fa_60_1, fa_60_2, ix_54, ix_58, len_54, len_58, neq0_69, neq_69, X_Copy_1, X_Copy_2, X_Copy_3, X_Copy_4, X_Copy_5, X_Copy_6, X_Copy_7, X_Copy_8, X_Copy_9, hki, hc1, gbS, hbk, Int.toNat_natCast, Nat.mul_one, hpp]
    -- what stands behind the pages' copies
    have tail : ∀ h2 d F3 vs, WF' h2 → BlkH h2 d B F3 → (∀ b, F3 b → h'.next ≤ b ∧ b < h2.next) → (∀ b, b < h'.next → h2.get b = h'.get b) → h'.next ≤ h2.next → h2.ro = h'.ro →
        X_Copy_5 (.pointer (some ⟨h.next, 0, none⟩)) (.pointer (some ⟨d, 0, none⟩)) (fun vs14 h15 => opt (nb [(.int .i64 i), (.int .i64 1)] (abin2 Try.prog .add 3 (.tmp 21) (.const (.int .i64 1)) (.int .i64 i) (.int .i64 1))) fun t72 => ∃ m, m < M.length - i ∧ CopyI h h.next M m [t72] h15) vs h2 := by
      intro h2 d F3 vs w2 hb2 h3 hk hn2 hr2
      have hro' := wf.2
      refine copy_tail (base := h'.next) (lv := live M) w2 (bs := bs) (ps := ps) (fs := fs) (M := M.take i) (F := F) (by rw [hk _ hcl]; exact hc) (y.keep (fun b hb => ?_) hn2 hr2) hb2 (by simp; omega) (fun b hb => (y.ok b hb).2) h3 (by omega) hn2 ?_
      · have hbl : b < h'.next := (y.ok b hb).2
        rw [AHeap.get_set, AHeap.get_set, hk b hbl]
      · intro h4 bs' ps' fs' F' hm' z e4 hF' w4
        rw [take_one hB] at z
        have : abin2 Try.prog .add 3 (.tmp 21) (.const (.int .i64 1)) (.int .i64 i) (.int .i64 1) = some (.int .i64 ((i + 1 : Nat) : Int)) := by rw [b_add, hw]
        simp only [this, nb_cons nob_int, nb_nil, opt_some]
        refine ⟨M.length - (i + 1), by omega, i + 1, bs', ps', fs', F', by omega, rfl, rfl, hm', z, ?_, fun b hb => ?_, w4⟩
        · have e12 : Eff nof h h2 := ⟨by omega, by omega, fun b _ hb => by rw [hk b (by omega)]; exact e.get b (fun q => q) hb⟩
          exact e12.more e4 (fun b hb => .inr (hF b hb))
        · rcases hF' b hb with q | q
          · exact hF b q
          · omega
    have hvw : ∀ hX : AHeap, h'.next ≤ hX.next → hX.get p = some (.cells [.int .i64 B.size, pg, .bool B.freed] 60) → (trim hX h'.next).get p = some (.cells [.int .i64 B.size, pg, .bool B.freed] 60) := fun hX _ hg => by
      rw [get_trim_lt (by omega)]; exact hg
    cases hpg with
    | empty e0 u =>
      subst e0
      refine callX_of (by kernel_rfl) rfl wf (clone_nil h'.lock) ?_
      rintro v h1 ⟨rfl, rfl⟩ hn1 w1
      have wG := wf_graft wf w1 hn1
      have eG : Eff nof h' (graft h' h'.lock) := eff_graft hn1
      have gp := hvw _ eG.next (by rw [eG.get p (fun q => q) (by omega)]; exact hbk)
      generalize graft h' h'.lock = G at wG eG gp
      have nG := eG.next
      simp -implicitDefEqProofs only [axt_20, axt_21, opt_some, optH_some, nb_cons, nb_nil, CD_true, CD_false, GD_tt, GD_ff, GD_tf, GD_ft, GD_un, pk_true, pk_false, nck_ptr, rv_one, rv_two, b_lss, b_leq, b_gtr, b_geq, b_eql, b_neq, b_add, b_sub, b_mul, b_quo, b_rem, b_shl, b_shr, b_and, b_or, b_xor, b_andNot, u_not, u_neg, nob_bool, nob_int, nob_string, nob_ptr, nob_slice, nob_map, nob_func, nob_nilf, nob_iface, nob_nili, nob_agg, nob_tuple, cok_bool, cok_int, cok_string, cok_ptr, cok_slice, cok_map, cok_func, nobot_nil, nobot_cons, onb_none, onb_some, cond_true, cond_false, abound_none, abound_int, Option.bind_some, Option.bind_none, nth, ↓nw, Value.cells, ↓BK, List.getElem?_cons_zero, List.getElem?_cons_succ, List.toList_toArray, Nat.zero_add, Nat.add_zero, List.length_cons, List.length_nil, List.length_replicate, List.length_map, List.length_set, List.all_cons, List.all_nil, setMany, List.set_cons_zero, List.set_cons_succ, List.drop_zero, List.take_zero, List.take_succ_cons, List.drop_succ_cons, List.take_nil, List.drop_nil, if_true, if_false, Bool.and_true, Bool.true_and, Nat.reduceAdd, Nat.reduceLeDiff, Nat.reduceMul, Nat.reduceMod, Nat.reduceDiv, Nat.reduceSub, Nat.reduceEqDiff, Nat.lt_irrefl, Int.reduceEq, Int.reduceLT, Int.reduceLE, Int.reduceAdd, Int.reduceSub, Int.reduceMul, Int.reduceNeg, Int.reduceToNat, and_true, true_and, Nat.le_refl, dec_t, dec_f, nxt_push, nxt_set, ro_pushk, ro_setk, next_lock, ro_lock, get_lock, get_push_self, get_push_eq, get_push_lt, get_set_self, get_set_ne, ne_eq, lt_add1, lt_add, sto, ldn, ld1, not_false_eq_true, not_true_eq_false, Bool.not_true, Bool.not_false, Bool.and_false, Bool.false_and, beq_self_eq_true, al_3, al_4, al_54, al_57, al_58, al_69, al_81, ap_54, as_54, as_69, as_81, bd_56_1, bd_60_0_1_2, bs_54_1_0, co_57, fa_56_0, fa_56_1, fa_60_0, fa_60_1, fa_60_2, ix_54, ix_58, len_54, len_58, neq0_69, neq_69, X_Copy_1, X_Copy_2, X_Copy_3, X_Copy_4, X_Copy_5, X_Copy_6, X_Copy_7, X_Copy_8, X_Copy_9, gp]
      generalize hD : G.push (.cells [.int .i64 B.size, .slice none 0 0, .bool B.freed] 60) = D
      have gD : D.get G.next = some (.cells [.int .i64 B.size, .slice none 0 0, .bool B.freed] 60) := by subst hD; exact get_push_self
      have eD : Eff nof G D := by subst hD; exact (Eff.refl _ _).push _
      have nD : D.next = G.next + 1 := by subst hD; rfl
      have wD : WF' D := by subst hD; exact wf_push wG _
      clear hD
      have eGD := eG.trans eD
      refine LP_of (fun n vs g => n = 0 ∧ vs = [.int .i64 0] ∧ g = D) 0 ⟨rfl, rfl, rfl⟩ ?_
      rintro n vs g ⟨rfl, rfl, rfl⟩
      simp -implicitDefEqProofs only [axt_20, axt_21, opt_some, optH_some, nb_cons, nb_nil, CD_true, CD_false, GD_tt, GD_ff, GD_tf, GD_ft, GD_un, pk_true, pk_false, nck_ptr, rv_one, rv_two, b_lss, b_leq, b_gtr, b_geq, b_eql, b_neq, b_add, b_sub, b_mul, b_quo, b_rem, b_shl, b_shr, b_and, b_or, b_xor, b_andNot, u_not, u_neg, nob_bool, nob_int, nob_string, nob_ptr, nob_slice, nob_map, nob_func, nob_nilf, nob_iface, nob_nili, nob_agg, nob_tuple, cok_bool, cok_int, cok_string, cok_ptr, cok_slice, cok_map, cok_func, nobot_nil, nobot_cons, onb_none, onb_some, cond_true, cond_false, abound_none, abound_int, Option.bind_some, Option.bind_none, nth, ↓nw, Value.cells, ↓BK, List.getElem?_cons_zero, List.getElem?_cons_succ, List.toList_toArray, Nat.zero_add, Nat.add_zero, List.length_cons, List.length_nil, List.length_replicate, List.length_map, List.length_set, List.all_cons, List.all_nil, setMany, List.set_cons_zero, List.set_cons_succ, List.drop_zero, List.take_zero, List.take_succ_cons, List.drop_succ_cons, List.take_nil, List.drop_nil, if_true, if_false, Bool.and_true, Bool.true_and, Nat.reduceAdd, Nat.reduceLeDiff, Nat.reduceMul, Nat.reduceMod, Nat.reduceDiv, Nat.reduceSub, Nat.reduceEqDiff, Nat.lt_irrefl, Int.reduceEq, Int.reduceLT, Int.reduceLE, Int.reduceAdd, Int.reduceSub, Int.reduceMul, Int.reduceNeg, Int.reduceToNat, and_true, true_and, Nat.le_refl, dec_t, dec_f, nxt_push, nxt_set, ro_pushk, ro_setk, next_lock, ro_lock, get_lock, get_push_self, get_push_eq, get_push_lt, get_set_self, get_set_ne, ne_eq, lt_add1, lt_add, sto, ldn, ld1, not_false_eq_true, not_true_eq_false, Bool.not_true, Bool.not_false, Bool.and_false, Bool.false_and, beq_self_eq_true, al_3, al_4, al_54, al_57, al_58, al_69, al_81, ap_54, as_54, as_69, as_81, bd_56_1, bd_60_0_1_2, bs_54_1_0, co_57, fa_56_0, fa_56_1, fa_60_0, fa_60_1, fa_60_2, ix_54, ix_58, len_54, len_58, neq0_69, neq_69, X_Copy_1, X_Copy_2, X_Copy_3, X_Copy_4, X_Copy_5, X_Copy_6, X_Copy_7, X_Copy_8, X_Copy_9]
      exact tail g G.next (fun b => b = G.next) [] wD ⟨_, gD, rfl, .empty rfl u⟩ (fun b hb => by subst hb; omega) (fun b hb => eGD.get b (fun q => q) hb) eGD.next eGD.ro
    | full q c gs e0 X =>
      subst e0
      have hgl : gs.length ≤ 100000000 := by rw [X.hl]; omega
      have hql := ltS q X.fq
      refine callX_of (by kernel_rfl) rfl wf (clone_ok (h := h'.lock) (Nat.le_refl _) hgl (by rw [get_lock]; exact X.hq) (by show q < h'.next; omega)) ?_
      rintro v h1 hr hn1 w1
      rcases hr with ⟨q0, _⟩ | ⟨q2, c2, rfl, hq2, hq3, hq4⟩
      · cases q0
      have hq3' : h'.next ≤ q2 := hq3
      have wG := wf_graft wf w1 hn1
      have eG : Eff nof h' (graft h' h1) := eff_graft hn1
      have nG1 : (graft h' h1).next = h1.next := rfl
      have gp := hvw _ eG.next (by rw [eG.get p (fun q => q) (by omega)]; exact hbk)
      have gq : (graft h' h1).get q2 = some (.cells (gs.map gptr) 69) := by rw [get_graft, if_pos ⟨hq3', hq4⟩]; exact hq2
      generalize graft h' h1 = G at wG eG gp gq nG1
      have nG := eG.next
      simp -implicitDefEqProofs only [axt_20, axt_21, opt_some, optH_some, nb_cons, nb_nil, CD_true, CD_false, GD_tt, GD_ff, GD_tf, GD_ft, GD_un, pk_true, pk_false, nck_ptr, rv_one, rv_two, b_lss, b_leq, b_gtr, b_geq, b_eql, b_neq, b_add, b_sub, b_mul, b_quo, b_rem, b_shl, b_shr, b_and, b_or, b_xor, b_andNot, u_not, u_neg, nob_bool, nob_int, nob_string, nob_ptr, nob_slice, nob_map, nob_func, nob_nilf, nob_iface, nob_nili, nob_agg, nob_tuple, cok_bool, cok_int, cok_string, cok_ptr, cok_slice, cok_map, cok_func, nobot_nil, nobot_cons, onb_none, onb_some, cond_true, cond_false, abound_none, abound_int, Option.bind_some, Option.bind_none, nth, ↓nw, Value.cells, ↓BK, List.getElem?_cons_zero, List.getElem?_cons_succ, List.toList_toArray, Nat.zero_add, Nat.add_zero, List.length_cons, List.length_nil, List.length_replicate, List.length_map, List.length_set, List.all_cons, List.all_nil, setMany, List.set_cons_zero, List.set_cons_succ, List.drop_zero, List.take_zero, List.take_succ_cons, List.drop_succ_cons, List.take_nil, List.drop_nil, if_true, if_false, Bool.and_true, Bool.true_and, Nat.reduceAdd, Nat.reduceLeDiff, Nat.reduceMul, Nat.reduceMod, Nat.reduceDiv, Nat.reduceSub, Nat.reduceEqDiff, Nat.lt_irrefl, Int.reduceEq, Int.reduceLT, Int.reduceLE, Int.reduceAdd, Int.reduceSub, Int.reduceMul, Int.reduceNeg, Int.reduceToNat, and_true, true_and, Nat.le_refl, dec_t, dec_f, nxt_push, nxt_set, ro_pushk, ro_setk, next_lock, ro_lock, get_lock, get_push_self, get_push_eq, get_push_lt, get_set_self, get_set_ne, ne_eq, lt_add1, lt_add, sto, ldn, ld1, not_false_eq_true, not_true_eq_false, Bool.not_true, Bool.not_false, Bool.and_false, Bool.false_and, beq_self_eq_true, al_3, al_4, al_54, al_57, al_58, al_69, al_81, ap_54, as_54, as_69, as_81, bd_56_1, bd_60_0_1_2, bs_54_1_0, co_57, fa_56_0, fa_56_1, fa_60_0, fa_60_1, fa_60_2, ix_54, ix_58, len_54, len_58, neq0_69, neq_69, X_Copy_1, X_Copy_2, X_Copy_3, X_Copy_4, X_Copy_5, X_Copy_6, X_Copy_7, X_Copy_8, X_Copy_9, gp]
      generalize hD : G.push (.cells [.int .i64 B.size, .slice (some ⟨q2, 0, none⟩) gs.length c2, .bool B.freed] 60) = D
      have gD : D.get G.next = some (.cells [.int .i64 B.size, .slice (some ⟨q2, 0, none⟩) gs.length c2, .bool B.freed] 60) := by subst hD; exact get_push_self
      have eD : Eff nof G D := by subst hD; exact (Eff.refl _ _).push _
      have nD : D.next = G.next + 1 := by subst hD; rfl
      have wD : WF' D := by subst hD; exact wf_push wG _
      clear hD
      have eGD := eG.trans eD
      have hro' := wf.2
      have rGD := eGD.ro
      refine copy_pages (d := G.next) (sz := .int .i64 B.size) (fr := .bool B.freed) (f := fun j k => B.byte (64 * j + k)) wD hgl (by rw [eD.get q2 (fun q => q) (by omega)]; exact gq) (by omega) (by omega) gD (by omega) (by omega) (fun a g hg => ?_) ?_
      · obtain ⟨fg, pgH⟩ := X.hg a g hg
        have := ltS g fg
        exact ⟨by omega, by omega, pgH.keep (eGD.get g (fun q => q) (by omega))⟩
      · intro h2 hs I
        have n2 := I.eff.next
        have r2 := I.eff.ro
        refine tail h2 G.next (fun b => b = G.next ∨ b = q2 ∨ ∃ a : Nat, hs[a]? = some (some b)) [] I.wf ⟨_, by rw [I.eff.get G.next (fun (q : G.next = q2) => by omega) (by omega)]; exact gD, .inl rfl, .full q2 c2 hs (by rw [I.len]) ?_⟩ (fun b hb => ?_) (fun b hb => ?_) (by omega) (by omega)
        · refine ⟨by rw [I.len, X.hl], .inr (.inl rfl), I.arr, fun a g hg => ⟨.inr (.inr ⟨a, hg⟩), ?_⟩, fun a ha k hk => ?_, fun a b g ha hb => ?_, fun k hk => X.ht k (by rw [I.len] at hk; exact hk)⟩
          · have hal : a < gs.length := by
              rcases Nat.lt_or_ge a hs.length with y | y
              · rw [I.len] at y; exact y
              · rw [List.getElem?_eq_none y] at hg; cases hg
            obtain ⟨o, ho⟩ : ∃ o, gs[a]? = some o := ⟨_, List.getElem?_eq_getElem hal⟩
            obtain ⟨i1, i2⟩ := I.new a hal
            cases o with
            | none => rw [i1 ho] at hg; cases hg
            | some g0 =>
              obtain ⟨g', a1, _, _, a4⟩ := i2 g0 ho
              rw [a1] at hg; cases hg; exact a4
          · have hal : a < gs.length := by
              rcases Nat.lt_or_ge a hs.length with y | y
              · rw [I.len] at y; exact y
              · rw [List.getElem?_eq_none y] at ha; cases ha
            obtain ⟨o, ho⟩ : ∃ o, gs[a]? = some o := ⟨_, List.getElem?_eq_getElem hal⟩
            obtain ⟨i1, i2⟩ := I.new a hal
            cases o with
            | none => exact X.hn a ho k hk
            | some g0 =>
              obtain ⟨g', a1, _⟩ := i2 g0 ho
              rw [a1] at ha; cases ha
          · have lt' : ∀ x, hs[x]? = some (some g) → x < gs.length := fun x hx => by
              rcases Nat.lt_or_ge x hs.length with y | y
              · rw [I.len] at y; exact y
              · rw [List.getElem?_eq_none y] at hx; cases hx
            exact I.one a b g (lt' a ha) (lt' b hb) ha hb
        · rcases hb with rfl | rfl | ⟨a, ha⟩
          · omega
          · omega
          · have hal : a < gs.length := by
              rcases Nat.lt_or_ge a hs.length with y | y
              · rw [I.len] at y; exact y
              · rw [List.getElem?_eq_none y] at ha; cases ha
            obtain ⟨o, ho⟩ : ∃ o, gs[a]? = some o := ⟨_, List.getElem?_eq_getElem hal⟩
            obtain ⟨i1, i2⟩ := I.new a hal
            cases o with
            | none => rw [i1 ho] at ha; cases ha
            | some g0 =>
              obtain ⟨g', a1, a2, a3, _⟩ := i2 g0 ho
              rw [a1] at ha; cases ha; omega
        · rw [I.eff.get b (fun (q : b = q2) => by omega) (by omega)]
          exact eGD.get b (fun q => q) hb
  · have hil : i = M.length := by omega
    subst hil
    have hki : ¬ (M.length : Int) < (M.length : Int) := by omega
    simp -implicitDefEqProofs only [axt_20, axt_21, opt_some, optH_some, nb_cons, nb_nil, CD_true, CD_false, GD_tt, GD_ff, GD_tf, GD_ft, GD_un, pk_true, pk_false, nck_ptr, rv_one, rv_two, b_lss, b_leq, b_gtr, b_geq, b_eql, b_neq, b_add, b_sub, b_mul, b_quo, b_rem, b_shl, b_shr, b_and, b_or, b_xor, b_andNot, u_not, u_neg, nob_bool, nob_int, nob_string, nob_ptr, nob_slice, nob_map, nob_func, nob_nilf, nob_iface, nob_nili, nob_agg, nob_tuple, cok_bool, cok_int, cok_string, cok_ptr, cok_slice, cok_map, cok_func, nobot_nil, nobot_cons, onb_none, onb_some, cond_true, cond_false, abound_none, abound_int, Option.bind_some, Option.bind_none, nth, ↓nw, Value.cells, ↓BK, List.getElem?_cons_zero, List.getElem?_cons_succ, List.toList_toArray, Nat.zero_add, Nat.add_zero, List.length_cons, List.length_nil, List.length_replicate, List.length_map, List.length_set, List.all_cons, List.all_nil, setMany, List.set_cons_zero, List.set_cons_succ, List.drop_zero, List.take_zero, List.take_succ_cons, List.drop_succ_cons, List.take_nil, List.drop_nil, if_true, if_false, Bool.and_true, Bool.true_and, Nat.reduceAdd, Nat.reduceLeDiff, Nat.reduceMul, Nat.reduceMod, Nat.reduceDiv, Nat.reduceSub, Nat.reduceEqDiff, Nat.lt_irrefl, Int.reduceEq, Int.reduceLT, Int.reduceLE, Int.reduceAdd, Int.reduceSub, Int.reduceMul, Int.reduceNeg, Int.reduceToNat, and_true, true_and, Nat.le_refl, dec_t, dec_f, nxt_push, nxt_set, ro_pushk, ro_setk, next_lock, ro_lock, get_lock, get_push_self, get_push_eq, get_push_lt, get_set_self, get_set_ne, ne_eq, lt_add1, lt_add, sto, ldn, ld1, not_false_eq_true, not_true_eq_false, Bool.not_true, Bool.not_false, Bool.and_false, Bool.false_and, beq_self_eq_true, al_3, al_4, al_54, al_57, al_58, al_69, al_81, ap_54, as_54, as_69, as_81, bd_56_1, bd_60_0_1_2, bs_54_1_0, co_57, fa_56_0, fa_56_1, fa_60_0, fa_60_1, fa_60_2, ix_54, ix_58, len_54, len_58, neq0_69, neq_69, X_Copy_1, X_Copy_2, X_Copy_3, X_Copy_4, X_Copy_5, X_Copy_6, X_Copy_7, X_Copy_8, X_Copy_9, hki]
    refine ⟨h.next, F, rfl, ⟨bs, ps, fs, ?_⟩, hF, e⟩
    rw [List.take_length] at y
    refine y.keep (fun b hb => ?_) (Nat.le_refl _) rfl
    rw [AHeap.get_set]
    split
    · rename_i eb; rw [eb, hc]; rfl
    · rfl
end Go.Mem
