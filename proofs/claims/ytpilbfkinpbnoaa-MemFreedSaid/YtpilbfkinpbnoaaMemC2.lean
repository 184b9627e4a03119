/-
  MEMORY: pages found and made.
-/
import Derived.Test.YtpilbfkinpbnoaaMemC1
namespace Go.Mem
open Go.Ai Go.Proofs
set_option linter.unusedVariables false
set_option linter.unusedSimpArgs false
def zp : List Value := (List.replicate 64 [Value.int .u8 0, .int .u8 0, .int .i64 0, .int .i64 0, .int .i64 0]).flatten
theorem bd_81 : abuild Try.prog 81 [] = some (.agg zp.toArray) := keep (by kernel_rfl)
theorem zp_len : zp.length = 320 := by kernel_rfl
theorem zp_get : ∀ k j, k < 64 → j < 5 → zp[k * 5 + j]? = unk.vals[j]? := by
  have h : (List.range 64).all (fun k => (List.range 5).all fun j => decide (k * 5 + j < zp.length)) = true := by decide +kernel
  have key : ∀ k : Fin 64, ∀ j : Fin 5, zp[k.1 * 5 + j.1]? = unk.vals[j.1]? := by
    intro k j
    have hl : k.1 * 5 + j.1 < zp.length := by rw [zp_len]; omega
    have e1 : zp[k.1 * 5 + j.1]? = ([Value.int .u8 0, .int .u8 0, .int .i64 0, .int .i64 0, .int .i64 0] : List Value)[j.1]? := by
      have aux : ∀ (n : Nat) (l : List Value), l.length = 5 → ∀ k j, k < n → j < 5 → ((List.replicate n l).flatten)[k * 5 + j]? = l[j]? := by
        intro n l hl
        induction n with
        | zero => intro k j hk; omega
        | succ n ih =>
          intro k j hk hj
          rw [List.replicate_succ, List.flatten_cons]
          cases k with
          | zero => rw [List.getElem?_append_left (by omega)]; simp
          | succ k => rw [List.getElem?_append_right (by omega), hl, show (k + 1) * 5 + j - 5 = k * 5 + j by omega]; exact ih k j (by omega) hj
      exact aux 64 _ rfl k.1 j.1 k.2 j.2
    rw [e1]; rfl
  exact fun k j hk hj => key ⟨k, hk⟩ ⟨j, hj⟩
theorem zc_one (v : Value) (n : Nat) : zcells [v] (n * 1) = List.replicate n v := by
  simp only [zcells, Nat.mul_one]
  apply List.ext_getElem?
  intro i
  by_cases h : i < n
  · simp [h, Nat.mod_one]
  · simp [h]
theorem rep_none {n j g : Nat} (h : (List.replicate n (none : Option Nat))[j]? = some (some g)) : False := by
  rw [List.getElem?_replicate] at h; split at h <;> cases h
theorem gptr_get {gs : List (Option Nat)} {j : Nat} {o : Option Nat} (h : gs[j]? = some o) : (gs.map gptr)[j]? = some (gptr o) := by simp [h]
theorem gptr_set (gs : List (Option Nat)) (j g : Nat) : (gs.map gptr).set j (.pointer (some ⟨g, 0, none⟩)) = (gs.set j (some g)).map gptr := by rw [List.map_set]; rfl
/-- A page more. -/
theorem pages_put {h h1 : AHeap} {q j g : Nat} {gs : List (Option Nat)} {B : MB} {F : Nat → Prop} (hl : gs.length = (B.size + 63) / 64) (hg : ∀ (j g : Nat), gs[j]? = some (some g) → F g ∧ PageH h g (fun k => B.byte (64 * j + k))) (hn : ∀ j : Nat, gs[j]? = some none → ∀ k, k < 64 → B.byte (64 * j + k) = unk)
    (hd : ∀ i j g : Nat, gs[i]? = some (some g) → gs[j]? = some (some g) → i = j) (ht : ∀ k, 64 * gs.length ≤ k → B.byte k = unk) (hj : gs[j]? = some none) (hq : h1.get q = some (.cells ((gs.set j (some g)).map gptr) 69)) (fq : F q)
    (hold : ∀ (i g : Nat), gs[i]? = some (some g) → h1.get g = h.get g) (hnew : h1.get g = some (.cells zp 81)) (fg : ¬ F g) : FullH h1 q (gs.set j (some g)) B (fun b => F b ∨ b = g) := by
  have hlt : j < gs.length := by
    rcases Nat.lt_or_ge j gs.length with a | a
    · exact a
    · rw [List.getElem?_eq_none a] at hj; cases hj
  have hs : ∀ i o, (gs.set j (some g))[i]? = some o → (i = j ∧ o = some g) ∨ (i ≠ j ∧ gs[i]? = some o) := by
    intro i o hi
    by_cases e : i = j
    · subst e; rw [List.getElem?_set_self hlt] at hi; exact .inl ⟨rfl, (Option.some.inj hi).symm⟩
    · rw [List.getElem?_set_ne (fun q => e q.symm)] at hi; exact .inr ⟨e, hi⟩
  refine ⟨by simp [hl], .inl fq, hq, fun i g' hi => ?_, fun i hi => ?_, fun a b g' ha hb => ?_, by simpa using ht⟩
  · rcases hs i _ hi with ⟨rfl, e⟩ | ⟨_, e⟩
    · cases e
      refine ⟨.inr rfl, zp, hnew, zp_len, fun k j' hk hj' => ?_⟩
      rw [zp_get k j' hk hj']; show _ = (B.byte (64 * i + k)).vals[j']?; rw [hn i hj k hk]
    · exact ⟨.inl (hg i g' e).1, (hg i g' e).2.keep (hold i g' e)⟩
  · rcases hs i _ hi with ⟨_, e⟩ | ⟨_, e⟩
    · cases e
    · exact hn i e
  · rcases hs a _ ha with ⟨e1, e2⟩ | ⟨_, e2⟩ <;> rcases hs b _ hb with ⟨e3, e4⟩ | ⟨_, e4⟩
    · rw [e1, e3]
    · cases e2; exact absurd (hg _ _ e4).1 fg
    · cases e4; exact absurd (hg _ _ e2).1 fg
    · exact hd a b g' e2 e4
section
variable {h : AHeap} {p : Nat} {B : MB} {F : Nat → Prop} {pg : Value} {a : Int}
theorem div_w (h0 : 0 ≤ a) (h1 : a < 4611686018427387904) : IntKind.wrap .i64 (a.tdiv 64) = ((a.toNat / 64 : Nat) : Int) := by
  rw [Int.tdiv_eq_ediv_of_nonneg h0, w64 (by omega) (by omega)]; omega
/-- The page of a byte, if there is one. -/
def MadeR (h : AHeap) (B : MB) (F : Nat → Prop) (a : Int) (v : Value) (h1 : AHeap) : Prop :=
  h1 = h ∧ ((v = gptr none ∧ ∀ k, k < 64 → B.byte (64 * (a.toNat / 64) + k) = unk) ∨ ∃ g, v = gptr (some g) ∧ F g ∧ PageH h g (fun k => B.byte (64 * (a.toNat / 64) + k)))
/-- A page looked for. -/
theorem made_r (hb : h.get p = some (.cells [.int .i64 B.size, pg, .bool B.freed] 60)) (x : PagesH h pg B F) (h0 : 0 ≤ a) (h1 : a < B.size) (hz : B.size < 4611686018427387904) :
    DC Try.prog 28 [.pointer (some ⟨p, 0, none⟩), .int .i64 a, .bool false] h (MadeR h B F a) := by
  apply W_made_ok
  unfold W_made
  cases x with
  | empty e u =>
    subst e
    simp only [axt_20, axt_21, opt_some, optH_some, nb_cons, nb_nil, CD_true, CD_false, GD_tt, GD_ff, GD_tf, GD_ft, GD_un, pk_true, pk_false, nck_ptr, rv_one, rv_two, b_lss, b_leq, b_gtr, b_geq, b_eql, b_neq, b_add, b_sub, b_mul, b_quo, b_rem, b_shl, b_shr, b_and, b_or, b_xor, b_andNot, u_not, u_neg, nob_bool, nob_int, nob_string, nob_ptr, nob_slice, nob_map, nob_func, nob_nilf, nob_iface, nob_nili, nob_agg, nob_tuple, cok_bool, cok_int, cok_string, cok_ptr, cok_slice, cok_map, cok_func, nobot_nil, nobot_cons, onb_none, onb_some, cond_true, cond_false, abound_none, abound_int, Option.bind_some, Option.bind_none, nth, nw, Value.cells, BK, List.getElem?_cons_zero, List.getElem?_cons_succ, List.toList_toArray, Nat.zero_add, Nat.add_zero, List.length_cons, List.length_nil, List.length_replicate, List.length_map, List.length_set, List.all_cons, List.all_nil, setMany, List.set_cons_zero, List.set_cons_succ, List.drop_zero, List.take_zero, List.take_succ_cons, List.drop_succ_cons, List.take_nil, List.drop_nil, if_true, if_false, Bool.and_true, Bool.true_and, Nat.reduceAdd, Nat.reduceLeDiff, Nat.reduceMul, Nat.reduceMod, Nat.reduceDiv, Nat.reduceSub, Nat.reduceEqDiff, Nat.lt_irrefl, Int.reduceEq, Int.reduceLT, Int.reduceLE, Int.reduceAdd, Int.reduceSub, Int.reduceMul, Int.reduceNeg, Int.reduceToNat, and_true, true_and, Nat.le_refl, dec_t, dec_f, nxt_push, nxt_set, ro_pushk, ro_setk, next_lock, ro_lock, get_lock, get_push_self, get_push_eq, get_push_lt, get_set_self, get_set_ne, ne_eq, lt_add1, lt_add, sto, ldn, ld1, not_false_eq_true, not_true_eq_false, Bool.not_true, Bool.not_false, Bool.and_false, Bool.false_and, beq_self_eq_true, al_3, al_58, al_69, as_58, as_69, eql0_58, eql0_69, eql_58, eql_69, fa_60_0, fa_60_1, ix_58, mk_58, hb]
    exact ⟨rfl, .inl ⟨rfl, fun k _ => u _⟩⟩
  | full q c gs e x =>
    obtain ⟨hl, fq, hq, hg, hn, hd, ht⟩ := x
    subst e
    have hj : a.toNat / 64 < gs.length := by rw [hl]; omega
    have hw := div_w h0 (by omega)
    obtain ⟨o, ho⟩ : ∃ o, gs[a.toNat / 64]? = some o := ⟨_, List.getElem?_eq_getElem hj⟩
    have hgg := gptr_get ho
    have hc1 : 0 ≤ ((a.toNat / 64 : Nat) : Int) ∧ ((a.toNat / 64 : Nat) : Int) < (gs.length : Int) := by omega
    cases o with
    | none =>
      simp only [axt_20, axt_21, opt_some, optH_some, nb_cons, nb_nil, CD_true, CD_false, GD_tt, GD_ff, GD_tf, GD_ft, GD_un, pk_true, pk_false, nck_ptr, rv_one, rv_two, b_lss, b_leq, b_gtr, b_geq, b_eql, b_neq, b_add, b_sub, b_mul, b_quo, b_rem, b_shl, b_shr, b_and, b_or, b_xor, b_andNot, u_not, u_neg, nob_bool, nob_int, nob_string, nob_ptr, nob_slice, nob_map, nob_func, nob_nilf, nob_iface, nob_nili, nob_agg, nob_tuple, cok_bool, cok_int, cok_string, cok_ptr, cok_slice, cok_map, cok_func, nobot_nil, nobot_cons, onb_none, onb_some, cond_true, cond_false, abound_none, abound_int, Option.bind_some, Option.bind_none, nth, nw, Value.cells, BK, List.getElem?_cons_zero, List.getElem?_cons_succ, List.toList_toArray, Nat.zero_add, Nat.add_zero, List.length_cons, List.length_nil, List.length_replicate, List.length_map, List.length_set, List.all_cons, List.all_nil, setMany, List.set_cons_zero, List.set_cons_succ, List.drop_zero, List.take_zero, List.take_succ_cons, List.drop_succ_cons, List.take_nil, List.drop_nil, if_true, if_false, Bool.and_true, Bool.true_and, Nat.reduceAdd, Nat.reduceLeDiff, Nat.reduceMul, Nat.reduceMod, Nat.reduceDiv, Nat.reduceSub, Nat.reduceEqDiff, Nat.lt_irrefl, Int.reduceEq, Int.reduceLT, Int.reduceLE, Int.reduceAdd, Int.reduceSub, Int.reduceMul, Int.reduceNeg, Int.reduceToNat, and_true, true_and, Nat.le_refl, dec_t, dec_f, nxt_push, nxt_set, ro_pushk, ro_setk, next_lock, ro_lock, get_lock, get_push_self, get_push_eq, get_push_lt, get_set_self, get_set_ne, ne_eq, lt_add1, lt_add, sto, ldn, ld1, not_false_eq_true, not_true_eq_false, Bool.not_true, Bool.not_false, Bool.and_false, Bool.false_and, beq_self_eq_true, al_3, al_58, al_69, as_58, as_69, eql0_58, eql0_69, eql_58, eql_69, fa_60_0, fa_60_1, ix_58, mk_58, hb, hq, hw, hc1, Int.toNat_natCast, Nat.mul_one, hgg, gptr]
      exact ⟨rfl, .inl ⟨rfl, fun k hk => hn _ ho k hk⟩⟩
    | some g =>
      simp only [axt_20, axt_21, opt_some, optH_some, nb_cons, nb_nil, CD_true, CD_false, GD_tt, GD_ff, GD_tf, GD_ft, GD_un, pk_true, pk_false, nck_ptr, rv_one, rv_two, b_lss, b_leq, b_gtr, b_geq, b_eql, b_neq, b_add, b_sub, b_mul, b_quo, b_rem, b_shl, b_shr, b_and, b_or, b_xor, b_andNot, u_not, u_neg, nob_bool, nob_int, nob_string, nob_ptr, nob_slice, nob_map, nob_func, nob_nilf, nob_iface, nob_nili, nob_agg, nob_tuple, cok_bool, cok_int, cok_string, cok_ptr, cok_slice, cok_map, cok_func, nobot_nil, nobot_cons, onb_none, onb_some, cond_true, cond_false, abound_none, abound_int, Option.bind_some, Option.bind_none, nth, nw, Value.cells, BK, List.getElem?_cons_zero, List.getElem?_cons_succ, List.toList_toArray, Nat.zero_add, Nat.add_zero, List.length_cons, List.length_nil, List.length_replicate, List.length_map, List.length_set, List.all_cons, List.all_nil, setMany, List.set_cons_zero, List.set_cons_succ, List.drop_zero, List.take_zero, List.take_succ_cons, List.drop_succ_cons, List.take_nil, List.drop_nil, if_true, if_false, Bool.and_true, Bool.true_and, Nat.reduceAdd, Nat.reduceLeDiff, Nat.reduceMul, Nat.reduceMod, Nat.reduceDiv, Nat.reduceSub, Nat.reduceEqDiff, Nat.lt_irrefl, Int.reduceEq, Int.reduceLT, Int.reduceLE, Int.reduceAdd, Int.reduceSub, Int.reduceMul, Int.reduceNeg, Int.reduceToNat, and_true, true_and, Nat.le_refl, dec_t, dec_f, nxt_push, nxt_set, ro_pushk, ro_setk, next_lock, ro_lock, get_lock, get_push_self, get_push_eq, get_push_lt, get_set_self, get_set_ne, ne_eq, lt_add1, lt_add, sto, ldn, ld1, not_false_eq_true, not_true_eq_false, Bool.not_true, Bool.not_false, Bool.and_false, Bool.false_and, beq_self_eq_true, al_3, al_58, al_69, as_58, as_69, eql0_58, eql0_69, eql_58, eql_69, fa_60_0, fa_60_1, ix_58, mk_58, hb, hq, hw, hc1, Int.toNat_natCast, Nat.mul_one, hgg, gptr]
      exact ⟨rfl, .inr ⟨g, rfl, hg _ g ho⟩⟩
/-- The page of a byte. -/
def MadeW (h : AHeap) (p : Nat) (B : MB) (F : Nat → Prop) (a : Int) (v : Value) (h1 : AHeap) : Prop :=
  ∃ g q c gs F', v = gptr (some g) ∧ h1.get p = some (.cells [.int .i64 B.size, .slice (some ⟨q, 0, none⟩) gs.length c, .bool B.freed] 60) ∧ FullH h1 q gs B F' ∧ gs[a.toNat / 64]? = some (some g) ∧ F' p ∧ Eff F h h1 ∧ (∀ b, F' b → F b ∨ h.next ≤ b) ∧ ∀ b, F' b → h1.ro ≤ b ∧ b < h1.next
theorem MadeW.mk {h h1 : AHeap} {p q c g : Nat} {gs : List (Option Nat)} {B : MB} {F : Nat → Prop} {a : Int} (fp : F p) (ok : ∀ b, F b → h.ro ≤ b ∧ b < h.next) (hl : gs.length = (B.size + 63) / 64) (hj : gs[a.toNat / 64]? = some none) (fq : F q ∨ h.next ≤ q)
    (hg : ∀ (j g : Nat), gs[j]? = some (some g) → F g ∧ PageH h g (fun k => B.byte (64 * j + k))) (hn : ∀ j : Nat, gs[j]? = some none → ∀ k, k < 64 → B.byte (64 * j + k) = unk)
    (hd : ∀ i j g : Nat, gs[i]? = some (some g) → gs[j]? = some (some g) → i = j) (ht : ∀ k, 64 * gs.length ≤ k → B.byte k = unk)
    (eff : Eff F h h1) (hqn : q < h1.next) (hgn : h.next ≤ g ∧ g < h1.next) (hro : h.ro ≤ h.next)
    (hp1 : h1.get p = some (.cells [.int .i64 B.size, .slice (some ⟨q, 0, none⟩) gs.length c, .bool B.freed] 60)) (hq1 : h1.get q = some (.cells ((gs.set (a.toNat / 64) (some g)).map gptr) 69)) (hg1 : h1.get g = some (.cells zp 81))
    (hold : ∀ (i g : Nat), gs[i]? = some (some g) → h1.get g = h.get g) : MadeW h p B F a (.pointer (some ⟨g, 0, none⟩)) h1 := by
  have P := pages_put (F := fun b => F b ∨ b = q) (h1 := h1) hl (fun j g hj => ⟨.inl (hg j g hj).1, (hg j g hj).2⟩) hn hd ht hj hq1 (.inr rfl) hold hg1 (by
    rintro (e | e)
    · have := ok _ e; omega
    · subst e; rw [hq1] at hg1; simp at hg1)
  have hlt : a.toNat / 64 < gs.length := by
    rcases Nat.lt_or_ge (a.toNat / 64) gs.length with e | e
    · exact e
    · rw [List.getElem?_eq_none e] at hj; cases hj
  refine ⟨g, q, c, _, _, rfl, by rw [List.length_set]; exact hp1, P, List.getElem?_set_self hlt, .inl (.inl fp), eff, fun b hb => ?_, fun b hb => ?_⟩
  · rcases hb with (hb | hb) | hb
    · exact .inl hb
    · subst hb; exact fq
    · subst hb; exact .inr hgn.1
  · have n1 := eff.next
    have n2 := eff.ro
    rcases hb with (hb | hb) | hb
    · have := ok b hb; omega
    · subst hb
      rcases fq with fq | fq
      · have := ok b fq; omega
      · omega
    · subst hb; omega
/-- A page looked for, made if there is none. -/
theorem made_w (hb : h.get p = some (.cells [.int .i64 B.size, pg, .bool B.freed] 60)) (x : PagesH h pg B F) (fp : F p) (ok : ∀ b, F b → h.ro ≤ b ∧ b < h.next) (hro : h.ro ≤ h.next) (h0 : 0 ≤ a) (h1 : a < B.size) (hz : B.size < 2147483648) :
    DC Try.prog 28 [.pointer (some ⟨p, 0, none⟩), .int .i64 a, .bool true] h (MadeW h p B F a) := by
  apply W_made_ok
  unfold W_made
  have hw := div_w h0 (by omega)
  have okp := ok p fp
  have hpn : ¬ p = h.next := by omega
  have hnp : ¬ h.next = p := by omega
  have hpn1 : ¬ p = h.next + 1 := by omega
  cases x with
  | empty e u =>
    subst e
    have hn1 : IntKind.wrap .i64 ((B.size : Int) + 64) = (B.size : Int) + 64 := w64 (by omega) (by omega)
    have hn2 : IntKind.wrap .i64 ((B.size : Int) + 64 - 1) = ((B.size + 63 : Nat) : Int) := by rw [w64 (by omega) (by omega)]; omega
    have hn3 : IntKind.wrap .i64 (((B.size + 63 : Nat) : Int).tdiv 64) = (((B.size + 63) / 64 : Nat) : Int) := by
      rw [Int.tdiv_eq_ediv_of_nonneg (by omega), w64 (by omega) (by omega)]; omega
    have hm := mk_58 .i64 .i64 (((B.size + 63) / 64 : Nat) : Int) (((B.size + 63) / 64 : Nat) : Int) h (by omega) (by omega) (by omega)
    have hj : a.toNat / 64 < (B.size + 63) / 64 := by omega
    have hj1 : a.toNat / 64 + 1 ≤ (B.size + 63) / 64 := hj
    have hc1 : 0 ≤ ((a.toNat / 64 : Nat) : Int) ∧ ((a.toNat / 64 : Nat) : Int) < (((B.size + 63) / 64 : Nat) : Int) := by omega
    have hrep : (List.replicate ((B.size + 63) / 64) (Value.pointer none))[a.toNat / 64]? = some (.pointer none) := by simp [hj]
    have hset : ∀ v : Value, ((List.replicate ((B.size + 63) / 64) (Value.pointer none)).set (a.toNat / 64) v)[a.toNat / 64]? = some v := fun v => List.getElem?_set_self (by simpa using hj)
    simp only [Int.toNat_natCast, zc_one] at hm
    simp only [axt_20, axt_21, opt_some, optH_some, nb_cons, nb_nil, CD_true, CD_false, GD_tt, GD_ff, GD_tf, GD_ft, GD_un, pk_true, pk_false, nck_ptr, rv_one, rv_two, b_lss, b_leq, b_gtr, b_geq, b_eql, b_neq, b_add, b_sub, b_mul, b_quo, b_rem, b_shl, b_shr, b_and, b_or, b_xor, b_andNot, u_not, u_neg, nob_bool, nob_int, nob_string, nob_ptr, nob_slice, nob_map, nob_func, nob_nilf, nob_iface, nob_nili, nob_agg, nob_tuple, cok_bool, cok_int, cok_string, cok_ptr, cok_slice, cok_map, cok_func, nobot_nil, nobot_cons, onb_none, onb_some, cond_true, cond_false, abound_none, abound_int, Option.bind_some, Option.bind_none, nth, nw, Value.cells, BK, List.getElem?_cons_zero, List.getElem?_cons_succ, List.toList_toArray, Nat.zero_add, Nat.add_zero, List.length_cons, List.length_nil, List.length_replicate, List.length_map, List.length_set, List.all_cons, List.all_nil, setMany, List.set_cons_zero, List.set_cons_succ, List.drop_zero, List.take_zero, List.take_succ_cons, List.drop_succ_cons, List.take_nil, List.drop_nil, if_true, if_false, Bool.and_true, Bool.true_and, Nat.reduceAdd, Nat.reduceLeDiff, Nat.reduceMul, Nat.reduceMod, Nat.reduceDiv, Nat.reduceSub, Nat.reduceEqDiff, Nat.lt_irrefl, Int.reduceEq, Int.reduceLT, Int.reduceLE, Int.reduceAdd, Int.reduceSub, Int.reduceMul, Int.reduceNeg, Int.reduceToNat, and_true, true_and, Nat.le_refl, dec_t, dec_f, nxt_push, nxt_set, ro_pushk, ro_setk, next_lock, ro_lock, get_lock, get_push_self, get_push_eq, get_push_lt, get_set_self, get_set_ne, ne_eq, lt_add1, lt_add, sto, ldn, ld1, not_false_eq_true, not_true_eq_false, Bool.not_true, Bool.not_false, Bool.and_false, Bool.false_and, beq_self_eq_true, al_3, al_58, al_69, as_58, as_69, eql0_58, eql0_69, eql_58, eql_69, fa_60_0, fa_60_1, ix_58, mk_58, hb, hn1, hn2, hn3, hm, okp, hpn, hnp, hpn1, hw, hc1, Int.toNat_natCast, Nat.mul_one, hrep, bd_81, hj1, hro, hset]
    have hnn : ¬ h.next + 1 = h.next := by omega
    have hrl : (List.replicate ((B.size + 63) / 64) (none : Option Nat)).length = (B.size + 63) / 64 := List.length_replicate
    refine MadeW.mk (q := h.next) (c := (B.size + 63) / 64 + 2) (gs := List.replicate ((B.size + 63) / 64) none) fp ok hrl (by simp [hj]) (.inr (Nat.le_refl _)) (fun j g hj => (rep_none hj).elim) (fun _ _ k _ => u _) (fun i j g hi => (rep_none hi).elim) (fun k _ => u k)
      ?_ ?_ ?_ hro ?_ ?_ ?_ (fun i g hi => (rep_none hi).elim)
    · exact ((((Eff.refl F h).push _).set (.inl fp) _).push _).set (.inr (Nat.le_refl _)) _
    · simp only [nxt_set, nxt_push]; omega
    · simp only [nxt_set, nxt_push]; omega
    · rw [hrl]; simp only [axt_20, axt_21, opt_some, optH_some, nb_cons, nb_nil, CD_true, CD_false, GD_tt, GD_ff, GD_tf, GD_ft, GD_un, pk_true, pk_false, nck_ptr, rv_one, rv_two, b_lss, b_leq, b_gtr, b_geq, b_eql, b_neq, b_add, b_sub, b_mul, b_quo, b_rem, b_shl, b_shr, b_and, b_or, b_xor, b_andNot, u_not, u_neg, nob_bool, nob_int, nob_string, nob_ptr, nob_slice, nob_map, nob_func, nob_nilf, nob_iface, nob_nili, nob_agg, nob_tuple, cok_bool, cok_int, cok_string, cok_ptr, cok_slice, cok_map, cok_func, nobot_nil, nobot_cons, onb_none, onb_some, cond_true, cond_false, abound_none, abound_int, Option.bind_some, Option.bind_none, nth, nw, Value.cells, BK, List.getElem?_cons_zero, List.getElem?_cons_succ, List.toList_toArray, Nat.zero_add, Nat.add_zero, List.length_cons, List.length_nil, List.length_replicate, List.length_map, List.length_set, List.all_cons, List.all_nil, setMany, List.set_cons_zero, List.set_cons_succ, List.drop_zero, List.take_zero, List.take_succ_cons, List.drop_succ_cons, List.take_nil, List.drop_nil, if_true, if_false, Bool.and_true, Bool.true_and, Nat.reduceAdd, Nat.reduceLeDiff, Nat.reduceMul, Nat.reduceMod, Nat.reduceDiv, Nat.reduceSub, Nat.reduceEqDiff, Nat.lt_irrefl, Int.reduceEq, Int.reduceLT, Int.reduceLE, Int.reduceAdd, Int.reduceSub, Int.reduceMul, Int.reduceNeg, Int.reduceToNat, and_true, true_and, Nat.le_refl, dec_t, dec_f, nxt_push, nxt_set, ro_pushk, ro_setk, next_lock, ro_lock, get_lock, get_push_self, get_push_eq, get_push_lt, get_set_self, get_set_ne, ne_eq, lt_add1, lt_add, sto, ldn, ld1, not_false_eq_true, not_true_eq_false, Bool.not_true, Bool.not_false, Bool.and_false, Bool.false_and, beq_self_eq_true, hpn, hpn1, hnp, okp]
    · simp only [axt_20, axt_21, opt_some, optH_some, nb_cons, nb_nil, CD_true, CD_false, GD_tt, GD_ff, GD_tf, GD_ft, GD_un, pk_true, pk_false, nck_ptr, rv_one, rv_two, b_lss, b_leq, b_gtr, b_geq, b_eql, b_neq, b_add, b_sub, b_mul, b_quo, b_rem, b_shl, b_shr, b_and, b_or, b_xor, b_andNot, u_not, u_neg, nob_bool, nob_int, nob_string, nob_ptr, nob_slice, nob_map, nob_func, nob_nilf, nob_iface, nob_nili, nob_agg, nob_tuple, cok_bool, cok_int, cok_string, cok_ptr, cok_slice, cok_map, cok_func, nobot_nil, nobot_cons, onb_none, onb_some, cond_true, cond_false, abound_none, abound_int, Option.bind_some, Option.bind_none, nth, nw, Value.cells, BK, List.getElem?_cons_zero, List.getElem?_cons_succ, List.toList_toArray, Nat.zero_add, Nat.add_zero, List.length_cons, List.length_nil, List.length_replicate, List.length_map, List.length_set, List.all_cons, List.all_nil, setMany, List.set_cons_zero, List.set_cons_succ, List.drop_zero, List.take_zero, List.take_succ_cons, List.drop_succ_cons, List.take_nil, List.drop_nil, if_true, if_false, Bool.and_true, Bool.true_and, Nat.reduceAdd, Nat.reduceLeDiff, Nat.reduceMul, Nat.reduceMod, Nat.reduceDiv, Nat.reduceSub, Nat.reduceEqDiff, Nat.lt_irrefl, Int.reduceEq, Int.reduceLT, Int.reduceLE, Int.reduceAdd, Int.reduceSub, Int.reduceMul, Int.reduceNeg, Int.reduceToNat, and_true, true_and, Nat.le_refl, dec_t, dec_f, nxt_push, nxt_set, ro_pushk, ro_setk, next_lock, ro_lock, get_lock, get_push_self, get_push_eq, get_push_lt, get_set_self, get_set_ne, ne_eq, lt_add1, lt_add, sto, ldn, ld1, not_false_eq_true, not_true_eq_false, Bool.not_true, Bool.not_false, Bool.and_false, Bool.false_and, beq_self_eq_true]; rw [← gptr_set, List.map_replicate]; rfl
    · simp only [axt_20, axt_21, opt_some, optH_some, nb_cons, nb_nil, CD_true, CD_false, GD_tt, GD_ff, GD_tf, GD_ft, GD_un, pk_true, pk_false, nck_ptr, rv_one, rv_two, b_lss, b_leq, b_gtr, b_geq, b_eql, b_neq, b_add, b_sub, b_mul, b_quo, b_rem, b_shl, b_shr, b_and, b_or, b_xor, b_andNot, u_not, u_neg, nob_bool, nob_int, nob_string, nob_ptr, nob_slice, nob_map, nob_func, nob_nilf, nob_iface, nob_nili, nob_agg, nob_tuple, cok_bool, cok_int, cok_string, cok_ptr, cok_slice, cok_map, cok_func, nobot_nil, nobot_cons, onb_none, onb_some, cond_true, cond_false, abound_none, abound_int, Option.bind_some, Option.bind_none, nth, nw, Value.cells, BK, List.getElem?_cons_zero, List.getElem?_cons_succ, List.toList_toArray, Nat.zero_add, Nat.add_zero, List.length_cons, List.length_nil, List.length_replicate, List.length_map, List.length_set, List.all_cons, List.all_nil, setMany, List.set_cons_zero, List.set_cons_succ, List.drop_zero, List.take_zero, List.take_succ_cons, List.drop_succ_cons, List.take_nil, List.drop_nil, if_true, if_false, Bool.and_true, Bool.true_and, Nat.reduceAdd, Nat.reduceLeDiff, Nat.reduceMul, Nat.reduceMod, Nat.reduceDiv, Nat.reduceSub, Nat.reduceEqDiff, Nat.lt_irrefl, Int.reduceEq, Int.reduceLT, Int.reduceLE, Int.reduceAdd, Int.reduceSub, Int.reduceMul, Int.reduceNeg, Int.reduceToNat, and_true, true_and, Nat.le_refl, dec_t, dec_f, nxt_push, nxt_set, ro_pushk, ro_setk, next_lock, ro_lock, get_lock, get_push_self, get_push_eq, get_push_lt, get_set_self, get_set_ne, ne_eq, lt_add1, lt_add, sto, ldn, ld1, not_false_eq_true, not_true_eq_false, Bool.not_true, Bool.not_false, Bool.and_false, Bool.false_and, beq_self_eq_true, hnn]
  | full q c gs e x =>
    obtain ⟨hl, fq, hq, hg, hn, hd, ht⟩ := x
    subst e
    have hj : a.toNat / 64 < gs.length := by rw [hl]; omega
    have hj1 : a.toNat / 64 + 1 ≤ gs.length := hj
    obtain ⟨o, ho⟩ : ∃ o, gs[a.toNat / 64]? = some o := ⟨_, List.getElem?_eq_getElem hj⟩
    have hgg := gptr_get ho
    have hc1 : 0 ≤ ((a.toNat / 64 : Nat) : Int) ∧ ((a.toNat / 64 : Nat) : Int) < (gs.length : Int) := by omega
    have okq := ok q fq
    cases o with
    | some g =>
      simp only [axt_20, axt_21, opt_some, optH_some, nb_cons, nb_nil, CD_true, CD_false, GD_tt, GD_ff, GD_tf, GD_ft, GD_un, pk_true, pk_false, nck_ptr, rv_one, rv_two, b_lss, b_leq, b_gtr, b_geq, b_eql, b_neq, b_add, b_sub, b_mul, b_quo, b_rem, b_shl, b_shr, b_and, b_or, b_xor, b_andNot, u_not, u_neg, nob_bool, nob_int, nob_string, nob_ptr, nob_slice, nob_map, nob_func, nob_nilf, nob_iface, nob_nili, nob_agg, nob_tuple, cok_bool, cok_int, cok_string, cok_ptr, cok_slice, cok_map, cok_func, nobot_nil, nobot_cons, onb_none, onb_some, cond_true, cond_false, abound_none, abound_int, Option.bind_some, Option.bind_none, nth, nw, Value.cells, BK, List.getElem?_cons_zero, List.getElem?_cons_succ, List.toList_toArray, Nat.zero_add, Nat.add_zero, List.length_cons, List.length_nil, List.length_replicate, List.length_map, List.length_set, List.all_cons, List.all_nil, setMany, List.set_cons_zero, List.set_cons_succ, List.drop_zero, List.take_zero, List.take_succ_cons, List.drop_succ_cons, List.take_nil, List.drop_nil, if_true, if_false, Bool.and_true, Bool.true_and, Nat.reduceAdd, Nat.reduceLeDiff, Nat.reduceMul, Nat.reduceMod, Nat.reduceDiv, Nat.reduceSub, Nat.reduceEqDiff, Nat.lt_irrefl, Int.reduceEq, Int.reduceLT, Int.reduceLE, Int.reduceAdd, Int.reduceSub, Int.reduceMul, Int.reduceNeg, Int.reduceToNat, and_true, true_and, Nat.le_refl, dec_t, dec_f, nxt_push, nxt_set, ro_pushk, ro_setk, next_lock, ro_lock, get_lock, get_push_self, get_push_eq, get_push_lt, get_set_self, get_set_ne, ne_eq, lt_add1, lt_add, sto, ldn, ld1, not_false_eq_true, not_true_eq_false, Bool.not_true, Bool.not_false, Bool.and_false, Bool.false_and, beq_self_eq_true, al_3, al_58, al_69, as_58, as_69, eql0_58, eql0_69, eql_58, eql_69, fa_60_0, fa_60_1, ix_58, mk_58, hb, hq, hw, hc1, Int.toNat_natCast, Nat.mul_one, hgg, gptr]
      exact ⟨g, q, c, gs, F, rfl, hb, ⟨hl, fq, hq, hg, hn, hd, ht⟩, ho, fp, .refl _ _, fun b hb => .inl hb, ok⟩
    | none =>
      have hqn : ¬ q = h.next := by omega
      have hnq : ¬ h.next = q := by omega
      have hpq : ¬ p = q := by intro e; subst e; rw [hb] at hq; simp at hq
      have hset : ∀ v : Value, ((gs.map gptr).set (a.toNat / 64) v)[a.toNat / 64]? = some v := fun v => List.getElem?_set_self (by simpa using hj)
      simp only [axt_20, axt_21, opt_some, optH_some, nb_cons, nb_nil, CD_true, CD_false, GD_tt, GD_ff, GD_tf, GD_ft, GD_un, pk_true, pk_false, nck_ptr, rv_one, rv_two, b_lss, b_leq, b_gtr, b_geq, b_eql, b_neq, b_add, b_sub, b_mul, b_quo, b_rem, b_shl, b_shr, b_and, b_or, b_xor, b_andNot, u_not, u_neg, nob_bool, nob_int, nob_string, nob_ptr, nob_slice, nob_map, nob_func, nob_nilf, nob_iface, nob_nili, nob_agg, nob_tuple, cok_bool, cok_int, cok_string, cok_ptr, cok_slice, cok_map, cok_func, nobot_nil, nobot_cons, onb_none, onb_some, cond_true, cond_false, abound_none, abound_int, Option.bind_some, Option.bind_none, nth, nw, Value.cells, BK, List.getElem?_cons_zero, List.getElem?_cons_succ, List.toList_toArray, Nat.zero_add, Nat.add_zero, List.length_cons, List.length_nil, List.length_replicate, List.length_map, List.length_set, List.all_cons, List.all_nil, setMany, List.set_cons_zero, List.set_cons_succ, List.drop_zero, List.take_zero, List.take_succ_cons, List.drop_succ_cons, List.take_nil, List.drop_nil, if_true, if_false, Bool.and_true, Bool.true_and, Nat.reduceAdd, Nat.reduceLeDiff, Nat.reduceMul, Nat.reduceMod, Nat.reduceDiv, Nat.reduceSub, Nat.reduceEqDiff, Nat.lt_irrefl, Int.reduceEq, Int.reduceLT, Int.reduceLE, Int.reduceAdd, Int.reduceSub, Int.reduceMul, Int.reduceNeg, Int.reduceToNat, and_true, true_and, Nat.le_refl, dec_t, dec_f, nxt_push, nxt_set, ro_pushk, ro_setk, next_lock, ro_lock, get_lock, get_push_self, get_push_eq, get_push_lt, get_set_self, get_set_ne, ne_eq, lt_add1, lt_add, sto, ldn, ld1, not_false_eq_true, not_true_eq_false, Bool.not_true, Bool.not_false, Bool.and_false, Bool.false_and, beq_self_eq_true, al_3, al_58, al_69, as_58, as_69, eql0_58, eql0_69, eql_58, eql_69, fa_60_0, fa_60_1, ix_58, mk_58, hb, hq, hw, hc1, Int.toNat_natCast, Nat.mul_one, hgg, gptr, bd_81, okq, okp, hqn, hnq, hpn, hnp, hj1, hset, hpq]
      refine MadeW.mk (q := q) (c := c) (gs := gs) fp ok hl ho (.inl fq) hg hn hd ht ?_ ?_ ?_ hro ?_ ?_ ?_ (fun i g hi => ?_)
      · exact ((Eff.refl F h).push _).set (.inl fq) _
      · simp only [nxt_set, nxt_push]; omega
      · simp only [nxt_set, nxt_push]; omega
      · simp only [axt_20, axt_21, opt_some, optH_some, nb_cons, nb_nil, CD_true, CD_false, GD_tt, GD_ff, GD_tf, GD_ft, GD_un, pk_true, pk_false, nck_ptr, rv_one, rv_two, b_lss, b_leq, b_gtr, b_geq, b_eql, b_neq, b_add, b_sub, b_mul, b_quo, b_rem, b_shl, b_shr, b_and, b_or, b_xor, b_andNot, u_not, u_neg, nob_bool, nob_int, nob_string, nob_ptr, nob_slice, nob_map, nob_func, nob_nilf, nob_iface, nob_nili, nob_agg, nob_tuple, cok_bool, cok_int, cok_string, cok_ptr, cok_slice, cok_map, cok_func, nobot_nil, nobot_cons, onb_none, onb_some, cond_true, cond_false, abound_none, abound_int, Option.bind_some, Option.bind_none, nth, nw, Value.cells, BK, List.getElem?_cons_zero, List.getElem?_cons_succ, List.toList_toArray, Nat.zero_add, Nat.add_zero, List.length_cons, List.length_nil, List.length_replicate, List.length_map, List.length_set, List.all_cons, List.all_nil, setMany, List.set_cons_zero, List.set_cons_succ, List.drop_zero, List.take_zero, List.take_succ_cons, List.drop_succ_cons, List.take_nil, List.drop_nil, if_true, if_false, Bool.and_true, Bool.true_and, Nat.reduceAdd, Nat.reduceLeDiff, Nat.reduceMul, Nat.reduceMod, Nat.reduceDiv, Nat.reduceSub, Nat.reduceEqDiff, Nat.lt_irrefl, Int.reduceEq, Int.reduceLT, Int.reduceLE, Int.reduceAdd, Int.reduceSub, Int.reduceMul, Int.reduceNeg, Int.reduceToNat, and_true, true_and, Nat.le_refl, dec_t, dec_f, nxt_push, nxt_set, ro_pushk, ro_setk, next_lock, ro_lock, get_lock, get_push_self, get_push_eq, get_push_lt, get_set_self, get_set_ne, ne_eq, lt_add1, lt_add, sto, ldn, ld1, not_false_eq_true, not_true_eq_false, Bool.not_true, Bool.not_false, Bool.and_false, Bool.false_and, beq_self_eq_true, hpn, hpq, okp, hb]
      · simp only [axt_20, axt_21, opt_some, optH_some, nb_cons, nb_nil, CD_true, CD_false, GD_tt, GD_ff, GD_tf, GD_ft, GD_un, pk_true, pk_false, nck_ptr, rv_one, rv_two, b_lss, b_leq, b_gtr, b_geq, b_eql, b_neq, b_add, b_sub, b_mul, b_quo, b_rem, b_shl, b_shr, b_and, b_or, b_xor, b_andNot, u_not, u_neg, nob_bool, nob_int, nob_string, nob_ptr, nob_slice, nob_map, nob_func, nob_nilf, nob_iface, nob_nili, nob_agg, nob_tuple, cok_bool, cok_int, cok_string, cok_ptr, cok_slice, cok_map, cok_func, nobot_nil, nobot_cons, onb_none, onb_some, cond_true, cond_false, abound_none, abound_int, Option.bind_some, Option.bind_none, nth, nw, Value.cells, BK, List.getElem?_cons_zero, List.getElem?_cons_succ, List.toList_toArray, Nat.zero_add, Nat.add_zero, List.length_cons, List.length_nil, List.length_replicate, List.length_map, List.length_set, List.all_cons, List.all_nil, setMany, List.set_cons_zero, List.set_cons_succ, List.drop_zero, List.take_zero, List.take_succ_cons, List.drop_succ_cons, List.take_nil, List.drop_nil, if_true, if_false, Bool.and_true, Bool.true_and, Nat.reduceAdd, Nat.reduceLeDiff, Nat.reduceMul, Nat.reduceMod, Nat.reduceDiv, Nat.reduceSub, Nat.reduceEqDiff, Nat.lt_irrefl, Int.reduceEq, Int.reduceLT, Int.reduceLE, Int.reduceAdd, Int.reduceSub, Int.reduceMul, Int.reduceNeg, Int.reduceToNat, and_true, true_and, Nat.le_refl, dec_t, dec_f, nxt_push, nxt_set, ro_pushk, ro_setk, next_lock, ro_lock, get_lock, get_push_self, get_push_eq, get_push_lt, get_set_self, get_set_ne, ne_eq, lt_add1, lt_add, sto, ldn, ld1, not_false_eq_true, not_true_eq_false, Bool.not_true, Bool.not_false, Bool.and_false, Bool.false_and, beq_self_eq_true]; rw [← gptr_set]
      · simp only [axt_20, axt_21, opt_some, optH_some, nb_cons, nb_nil, CD_true, CD_false, GD_tt, GD_ff, GD_tf, GD_ft, GD_un, pk_true, pk_false, nck_ptr, rv_one, rv_two, b_lss, b_leq, b_gtr, b_geq, b_eql, b_neq, b_add, b_sub, b_mul, b_quo, b_rem, b_shl, b_shr, b_and, b_or, b_xor, b_andNot, u_not, u_neg, nob_bool, nob_int, nob_string, nob_ptr, nob_slice, nob_map, nob_func, nob_nilf, nob_iface, nob_nili, nob_agg, nob_tuple, cok_bool, cok_int, cok_string, cok_ptr, cok_slice, cok_map, cok_func, nobot_nil, nobot_cons, onb_none, onb_some, cond_true, cond_false, abound_none, abound_int, Option.bind_some, Option.bind_none, nth, nw, Value.cells, BK, List.getElem?_cons_zero, List.getElem?_cons_succ, List.toList_toArray, Nat.zero_add, Nat.add_zero, List.length_cons, List.length_nil, List.length_replicate, List.length_map, List.length_set, List.all_cons, List.all_nil, setMany, List.set_cons_zero, List.set_cons_succ, List.drop_zero, List.take_zero, List.take_succ_cons, List.drop_succ_cons, List.take_nil, List.drop_nil, if_true, if_false, Bool.and_true, Bool.true_and, Nat.reduceAdd, Nat.reduceLeDiff, Nat.reduceMul, Nat.reduceMod, Nat.reduceDiv, Nat.reduceSub, Nat.reduceEqDiff, Nat.lt_irrefl, Int.reduceEq, Int.reduceLT, Int.reduceLE, Int.reduceAdd, Int.reduceSub, Int.reduceMul, Int.reduceNeg, Int.reduceToNat, and_true, true_and, Nat.le_refl, dec_t, dec_f, nxt_push, nxt_set, ro_pushk, ro_setk, next_lock, ro_lock, get_lock, get_push_self, get_push_eq, get_push_lt, get_set_self, get_set_ne, ne_eq, lt_add1, lt_add, sto, ldn, ld1, not_false_eq_true, not_true_eq_false, Bool.not_true, Bool.not_false, Bool.and_false, Bool.false_and, beq_self_eq_true, hnq]
      · have hgq : ¬ g = q := by
          intro e; subst e
          obtain ⟨cs, e1, _⟩ := (hg i g hi).2
          rw [hq] at e1; simp at e1
        have := (ok g (hg i g hi).1).2
        simp only [axt_20, axt_21, opt_some, optH_some, nb_cons, nb_nil, CD_true, CD_false, GD_tt, GD_ff, GD_tf, GD_ft, GD_un, pk_true, pk_false, nck_ptr, rv_one, rv_two, b_lss, b_leq, b_gtr, b_geq, b_eql, b_neq, b_add, b_sub, b_mul, b_quo, b_rem, b_shl, b_shr, b_and, b_or, b_xor, b_andNot, u_not, u_neg, nob_bool, nob_int, nob_string, nob_ptr, nob_slice, nob_map, nob_func, nob_nilf, nob_iface, nob_nili, nob_agg, nob_tuple, cok_bool, cok_int, cok_string, cok_ptr, cok_slice, cok_map, cok_func, nobot_nil, nobot_cons, onb_none, onb_some, cond_true, cond_false, abound_none, abound_int, Option.bind_some, Option.bind_none, nth, nw, Value.cells, BK, List.getElem?_cons_zero, List.getElem?_cons_succ, List.toList_toArray, Nat.zero_add, Nat.add_zero, List.length_cons, List.length_nil, List.length_replicate, List.length_map, List.length_set, List.all_cons, List.all_nil, setMany, List.set_cons_zero, List.set_cons_succ, List.drop_zero, List.take_zero, List.take_succ_cons, List.drop_succ_cons, List.take_nil, List.drop_nil, if_true, if_false, Bool.and_true, Bool.true_and, Nat.reduceAdd, Nat.reduceLeDiff, Nat.reduceMul, Nat.reduceMod, Nat.reduceDiv, Nat.reduceSub, Nat.reduceEqDiff, Nat.lt_irrefl, Int.reduceEq, Int.reduceLT, Int.reduceLE, Int.reduceAdd, Int.reduceSub, Int.reduceMul, Int.reduceNeg, Int.reduceToNat, and_true, true_and, Nat.le_refl, dec_t, dec_f, nxt_push, nxt_set, ro_pushk, ro_setk, next_lock, ro_lock, get_lock, get_push_self, get_push_eq, get_push_lt, get_set_self, get_set_ne, ne_eq, lt_add1, lt_add, sto, ldn, ld1, not_false_eq_true, not_true_eq_false, Bool.not_true, Bool.not_false, Bool.and_false, Bool.false_and, beq_self_eq_true, hgq, this]
end
end Go.Mem
