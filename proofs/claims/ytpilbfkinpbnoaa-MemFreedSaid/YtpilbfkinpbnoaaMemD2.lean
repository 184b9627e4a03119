/-
  MEMORY: slices of numbers; blocks freed (the plain law).
-/
import Derived.Test.YtpilbfkinpbnoaaMemD1
import Derived.Test.YtpilbfkinpbnoaaMemB2
import Derived.Test.YtpilbfkinpbnoaaMemAw
namespace Go.Mem
open Go.Ai Go.Proofs
set_option linter.unusedVariables false
set_option linter.unusedSimpArgs false
set_option linter.unusedSectionVars false
def isT (v : Value) (_ : AHeap) : Prop := v = .bool true
/-- A slice of numbers. -/
def SliceI (h : AHeap) (sv : Value) (zs : List Int) : Prop := (sv = .slice none 0 0 ∧ zs = []) ∨ ∃ b off, sv = .slice (some ⟨b, off, none⟩) zs.length 0 ∧ (zs ≠ [] → ∃ c t, b < h.next ∧ h.get b = some (.cells c t) ∧ ∀ (i : Nat) z, zs[i]? = some z → c[off + i]? = some (.int .i64 z))
section
variable {h : AHeap} {sv : Value} {zs : List Int}
theorem SliceI.nob (S : SliceI h sv zs) : isBot sv = false := by
  rcases S with ⟨rfl, _⟩ | ⟨b, off, rfl, _⟩ <;> rfl
theorem SliceI.len (S : SliceI h sv zs) (h' : AHeap) : abuiltin Try.prog .len [41] 3 [sv] h' = some (.int .i64 zs.length, h') := by
  rcases S with ⟨rfl, rfl⟩ | ⟨b, off, rfl, _⟩
  · simp only [al_2, al_24, al_3, as_24, az_24, fa_24_1, ix_41, len_41, neq_4, List.length_nil]
  · simp only [al_2, al_24, al_3, as_24, az_24, fa_24_1, ix_41, len_41, neq_4]
theorem SliceI.at (S : SliceI h sv zs) {i : Nat} {z : Int} (hz : zs[i]? = some z) : ∃ a, aindex Try.prog 41 sv (.int .i64 i) = some a ∧ isBot a = false ∧ ∀ h', Eff nof h h' → aload Try.prog 3 a h' = some (.int .i64 z) := by
  rcases S with ⟨rfl, rfl⟩ | ⟨b, off, rfl, hc⟩
  · cases hz
  · have hlt : i < zs.length := by
      rcases Nat.lt_or_ge i zs.length with a | a
      · exact a
      · rw [List.getElem?_eq_none a] at hz; cases hz
    obtain ⟨c, t, hb, hg, hat⟩ := hc (by intro e; subst e; cases hz)
    have h1 : 0 ≤ (i : Int) ∧ (i : Int) < (zs.length : Int) := by omega
    refine ⟨.pointer (some ⟨b, off + i, none⟩), by simp only [axt_20, axt_21, opt_some, optH_some, nb_cons, nb_nil, CD_true, CD_false, GD_tt, GD_ff, GD_tf, GD_ft, GD_un, pk_true, pk_false, nck_ptr, rv_one, rv_two, b_lss, b_leq, b_gtr, b_geq, b_eql, b_neq, b_add, b_sub, b_mul, b_quo, b_rem, b_shl, b_shr, b_and, b_or, b_xor, b_andNot, u_not, u_neg, nob_bool, nob_int, nob_string, nob_ptr, nob_slice, nob_map, nob_func, nob_nilf, nob_iface, nob_nili, nob_agg, nob_tuple, cok_bool, cok_int, cok_string, cok_ptr, cok_slice, cok_map, cok_func, nobot_nil, nobot_cons, onb_none, onb_some, cond_true, cond_false, abound_none, abound_int, Option.bind_some, Option.bind_none, nth, nw, Value.cells, BK, List.getElem?_cons_zero, List.getElem?_cons_succ, List.toList_toArray, Nat.zero_add, Nat.add_zero, List.length_cons, List.length_nil, List.length_replicate, List.length_map, List.length_set, List.all_cons, List.all_nil, setMany, List.set_cons_zero, List.set_cons_succ, List.drop_zero, List.take_zero, List.take_succ_cons, List.drop_succ_cons, List.take_nil, List.drop_nil, if_true, if_false, Bool.and_true, Bool.true_and, Nat.reduceAdd, Nat.reduceLeDiff, Nat.reduceMul, Nat.reduceMod, Nat.reduceDiv, Nat.reduceSub, Nat.reduceEqDiff, Nat.lt_irrefl, Int.reduceEq, Int.reduceLT, Int.reduceLE, Int.reduceAdd, Int.reduceSub, Int.reduceMul, Int.reduceNeg, Int.reduceToNat, and_true, true_and, Nat.le_refl, dec_t, dec_f, nxt_push, nxt_set, ro_pushk, ro_setk, next_lock, ro_lock, get_lock, get_push_self, get_push_eq, get_push_lt, get_set_self, get_set_ne, ne_eq, lt_add1, lt_add, sto, ldn, ld1, not_false_eq_true, not_true_eq_false, Bool.not_true, Bool.not_false, Bool.and_false, Bool.false_and, beq_self_eq_true, al_2, al_24, al_3, as_24, az_24, fa_24_1, ix_41, len_41, neq_4, h1, Int.toNat_natCast, Nat.mul_one], rfl, fun h' e => ?_⟩
    have hg' : h'.get b = some (.cells c t) := by rw [e.get b (fun q => q) hb]; exact hg
    simp only [axt_20, axt_21, opt_some, optH_some, nb_cons, nb_nil, CD_true, CD_false, GD_tt, GD_ff, GD_tf, GD_ft, GD_un, pk_true, pk_false, nck_ptr, rv_one, rv_two, b_lss, b_leq, b_gtr, b_geq, b_eql, b_neq, b_add, b_sub, b_mul, b_quo, b_rem, b_shl, b_shr, b_and, b_or, b_xor, b_andNot, u_not, u_neg, nob_bool, nob_int, nob_string, nob_ptr, nob_slice, nob_map, nob_func, nob_nilf, nob_iface, nob_nili, nob_agg, nob_tuple, cok_bool, cok_int, cok_string, cok_ptr, cok_slice, cok_map, cok_func, nobot_nil, nobot_cons, onb_none, onb_some, cond_true, cond_false, abound_none, abound_int, Option.bind_some, Option.bind_none, nth, nw, Value.cells, BK, List.getElem?_cons_zero, List.getElem?_cons_succ, List.toList_toArray, Nat.zero_add, Nat.add_zero, List.length_cons, List.length_nil, List.length_replicate, List.length_map, List.length_set, List.all_cons, List.all_nil, setMany, List.set_cons_zero, List.set_cons_succ, List.drop_zero, List.take_zero, List.take_succ_cons, List.drop_succ_cons, List.take_nil, List.drop_nil, if_true, if_false, Bool.and_true, Bool.true_and, Nat.reduceAdd, Nat.reduceLeDiff, Nat.reduceMul, Nat.reduceMod, Nat.reduceDiv, Nat.reduceSub, Nat.reduceEqDiff, Nat.lt_irrefl, Int.reduceEq, Int.reduceLT, Int.reduceLE, Int.reduceAdd, Int.reduceSub, Int.reduceMul, Int.reduceNeg, Int.reduceToNat, and_true, true_and, Nat.le_refl, dec_t, dec_f, nxt_push, nxt_set, ro_pushk, ro_setk, next_lock, ro_lock, get_lock, get_push_self, get_push_eq, get_push_lt, get_set_self, get_set_ne, ne_eq, lt_add1, lt_add, sto, ldn, ld1, not_false_eq_true, not_true_eq_false, Bool.not_true, Bool.not_false, Bool.and_false, Bool.false_and, beq_self_eq_true, al_2, al_24, al_3, as_24, az_24, fa_24_1, ix_41, len_41, neq_4, hg', hat i z hz]
end
theorem mask_k (x : Int) (k : Nat) (hk : k ≤ 62) : ((BitVec.ofInt 64 x &&& BitVec.ofInt 64 (2 ^ k - 1)).toNat : Int) = x % 2 ^ k := by
  have h1 : (2 : Nat) ^ k ≤ 2 ^ 62 := Nat.pow_le_pow_right (by decide) hk
  have h2 : (0 : Nat) < 2 ^ k := Nat.pow_pos (by decide)
  have h3 : ((2 : Int) ^ k) = ((2 ^ k : Nat) : Int) := by simp
  have h5 : ∃ m, 18446744073709551616 = (2 : Nat) ^ k * m := ⟨2 ^ (64 - k), by rw [← Nat.pow_add, show k + (64 - k) = 64 by omega]⟩
  have h4 : bits (2 ^ k - 1) = 2 ^ k - 1 := by unfold bits; rw [h3]; omega
  rw [BitVec.toNat_and, toNat_ofInt64, toNat_ofInt64, h4, Nat.and_two_pow_sub_one_eq_mod]
  unfold bits
  obtain ⟨m, hm⟩ := h5
  rw [h3]
  have : (18446744073709551616 : Int) = ((2 ^ k : Nat) : Int) * (m : Int) := by rw [← Int.natCast_mul, ← hm]; rfl
  rw [this]
  have h6 : 0 ≤ x % (((2 ^ k : Nat) : Int) * (m : Int)) := Int.emod_nonneg _ (by rw [← this]; decide)
  rw [Int.natCast_emod, Int.toNat_of_nonneg h6, Int.emod_emod_of_dvd _ ⟨(m : Int), rfl⟩]
theorem and63 (x : Int) : IntKind.wrap .i64 ((BitVec.ofInt 64 x &&& BitVec.ofInt 64 63).toNat) = x % 64 := by
  have := mask_k x 6 (by decide)
  rw [show ((2 : Int) ^ 6 - 1) = 63 by decide, show ((2 : Int) ^ 6) = 64 by decide] at this
  rw [this, w64 (by omega) (by omega)]
theorem and1023 (x : Int) : IntKind.wrap .i64 ((BitVec.ofInt 64 x &&& BitVec.ofInt 64 1023).toNat) = x % 1024 := by
  have := mask_k x 10 (by decide)
  rw [show ((2 : Int) ^ 10 - 1) = 1023 by decide, show ((2 : Int) ^ 10) = 1024 by decide] at this
  rw [this, w64 (by omega) (by omega)]
/-! ### Blocks of zeroes -/
def blk (z : Int) : MB := zeroB (fresh (z % 64)) (z % 64).toNat
theorem blk_size (z : Int) : (blk z).size = (z % 64).toNat := rfl
theorem blk_freed (z : Int) : (blk z).freed = false := rfl
theorem idx_of {M : MM} {i : Nat} {B : MB} (h : M[i]? = some B) (hf : B.freed = false) : idx M ((i : Int) + 1) = some i := by
  have hlt : i < M.length := by
    rcases Nat.lt_or_ge i M.length with a | a
    · exact a
    · rw [List.getElem?_eq_none a] at h; cases h
  unfold idx
  rw [if_pos (by omega), show ((i : Int) + 1).toNat - 1 = i by omega, h]
  simp [hf]
theorem idx_gone {M : MM} {i : Nat} {B : MB} (h : M[i]? = some B) (hf : B.freed = true) : idx M ((i : Int) + 1) = none := by
  have hlt : i < M.length := by
    rcases Nat.lt_or_ge i M.length with a | a
    · exact a
    · rw [List.getElem?_eq_none a] at h; cases h
  unfold idx
  rw [if_pos (by omega), show ((i : Int) + 1).toNat - 1 = i by omega, h]
  simp [hf]
theorem small_blk (zs : List Int) : small (zs.map blk) := fun i B h => by
  simp only [List.getElem?_map, Option.map_eq_some_iff] at h
  obtain ⟨z, _, rfl⟩ := h
  rw [blk_size]; omega
theorem small_app {M : MM} {B : MB} (h : small M) (hb : B.size < 2147483648) : small (M ++ [B]) := fun i C hC => by
  rcases Nat.lt_or_ge i M.length with a | a
  · rw [List.getElem?_append_left a] at hC; exact h i C hC
  · rw [List.getElem?_append_right a] at hC
    have e : i - M.length = 0 := by
      rcases Nat.eq_zero_or_pos (i - M.length) with q | q
      · exact q
      · rw [List.getElem?_eq_none (by simp; omega)] at hC; cases hC
    rw [e] at hC
    simp at hC; subst hC; exact hb
theorem small_set {M : MM} {i : Nat} {B : MB} (h : small M) (hb : B.size < 2147483648) : small (M.set i B) := fun j C hC => by
  by_cases e : i = j
  · subst e
    rcases Nat.lt_or_ge i M.length with a | a
    · rw [List.getElem?_set_self a] at hC; cases hC; exact hb
    · rw [List.getElem?_eq_none (by simpa using a)] at hC; cases hC
  · rw [List.getElem?_set_ne e] at hC; exact h j C hC
theorem live_all (zs : List Int) : live (zs.map blk) = zs.length := by
  unfold live
  rw [List.filter_eq_self.2, List.length_map]
  intro B hB
  simp only [List.mem_map] at hB
  obtain ⟨z, _, rfl⟩ := hB
  rfl
theorem zeroM_last (M : MM) (n : Int) : zeroM (M ++ [fresh n]) ((M.length : Int) + 1) = some (M ++ [zeroB (fresh n) n.toNat]) := by
  have h : (M ++ [fresh n])[M.length]? = some (fresh n) := by simp
  unfold zeroM
  rw [idx_of h rfl]
  simp only [Option.bind_some, h, Option.map_some]
  congr 1
  rw [List.set_append_right _ _ (Nat.le_refl _)]
  simp
  rfl
theorem take_more {zs : List Int} {i : Nat} {z : Int} (h : zs[i]? = some z) : (zs.take i).map blk ++ [blk z] = (zs.take (i + 1)).map blk := by
  rw [List.take_add_one, h]; simp
/-- The blocks behind the free. -/
def after (zs : List Int) (k : Nat) (z : Int) : MM := (zs.map blk).set k (gone (blk z))
section
variable {zs : List Int} {k : Nat} {z : Int} (hk : zs[k]? = some z)
include hk
theorem k_lt : k < zs.length := by
  rcases Nat.lt_or_ge k zs.length with a | a
  · exact a
  · rw [List.getElem?_eq_none a] at hk; cases hk
theorem after_k : (after zs k z)[k]? = some (gone (blk z)) := by
  unfold after; rw [List.getElem?_set_self (by simpa using k_lt hk)]
theorem after_ne {i : Nat} (h : i ≠ k) : (after zs k z)[i]? = (zs[i]?).map blk := by
  unfold after; rw [List.getElem?_set_ne (fun e => h e.symm)]; simp
theorem idx_k : idx (after zs k z) ((k : Int) + 1) = none := idx_gone (after_k hk) rfl
theorem idx_i {i : Nat} {y : Int} (h : i ≠ k) (hi : zs[i]? = some y) : idx (after zs k z) ((i : Int) + 1) = some i := idx_of (B := blk y) (by rw [after_ne hk h, hi]; rfl) rfl
theorem freeM_1 : freeM (zs.map blk) ((k : Int) + 1) = some (after zs k z) := by
  have h : (zs.map blk)[k]? = some (blk z) := by simp [hk]
  unfold freeM
  rw [idx_of h rfl]
  simp only [Option.bind_some, h, Option.map_some]; rfl
theorem freeM_2 : freeM (after zs k z) ((k : Int) + 1) = none := by unfold freeM; rw [idx_k hk]; rfl
theorem zeroM_2 : zeroM (after zs k z) ((k : Int) + 1) = none := by unfold zeroM; rw [idx_k hk]; rfl
theorem live_2 : ((live (after zs k z) : Nat) : Int) = (zs.length : Int) - 1 := by
  have h : (zs.map blk)[k]? = some (blk z) := by simp [hk]
  have := live_free (B' := gone (blk z)) h rfl rfl
  rw [live_all] at this
  unfold after
  omega
theorem len_2 : (after zs k z).length = zs.length := by unfold after; simp
theorem right_2 {c n : Int} : right (after zs k z) c ⟨2, n, (k : Int) + 1⟩ = none := by
  unfold right
  split
  · simp only [idx_k hk]
  · rfl
theorem sizeV_k : sizeV (after zs k z) ((k : Int) + 1) = .tuple #[.int .i64 0, .bool false] := by
  unfold sizeV; rw [idx_k hk]; rfl
theorem sizeV_i {i : Nat} {y : Int} (h : i ≠ k) (hi : zs[i]? = some y) : sizeV (after zs k z) ((i : Int) + 1) = .tuple #[.int .i64 (y % 64), .bool true] := by
  unfold sizeV
  rw [idx_i hk h hi]
  simp only [Option.bind_some, after_ne hk h, hi, Option.map_some, blk_size]
  rw [show (((y % 64).toNat : Nat) : Int) = y % 64 by omega]
theorem load_k : loadM (after zs k z) 1 ⟨2, 0, (k : Int) + 1⟩ = none := by unfold loadM; rw [right_2 hk]
theorem load_i0 {i : Nat} {y : Int} (h : i ≠ k) (hi : zs[i]? = some y) (h0 : ¬ 0 < y % 64) : loadM (after zs k z) 1 ⟨2, 0, (i : Int) + 1⟩ = none := by
  unfold loadM
  rw [right_no (i := i) (B := blk y) (idx_i hk h hi) (by rw [after_ne hk h, hi]; rfl) (by rw [blk_size]; omega)]
theorem load_i1 {i : Nat} {y : Int} (h : i ≠ k) (hi : zs[i]? = some y) (h0 : 0 < y % 64) : loadM (after zs k z) 1 ⟨2, 0, (i : Int) + 1⟩ = some ⟨1, 0, 0⟩ := by
  unfold loadM
  have hB : (after zs k z)[i]? = some (blk y) := by rw [after_ne hk h, hi]; rfl
  rw [right_yes (i := i) (B := blk y) rfl (.inl rfl) (idx_i hk h hi) hB (by rw [blk_size]; simp only; refine ⟨by omega, by omega, by decide⟩)]
  simp only [hB, Option.map_some]
  congr 1
  have h2 : (blk y).byte 0 = zc := by
    show (if 0 < (y % 64).toNat then zc else _) = zc
    rw [if_pos (by omega)]
  unfold loadV
  have e1 : numsF (blk y).byte 0 1 = true := by simp [numsF, h2, zc]
  have e2 : numF (blk y).byte 0 1 = 0 := by simp only [numF, Nat.add_zero, h2]; decide
  show (if numsF (blk y).byte 0 1 = true then _ else _) = _
  rw [if_pos e1]
  simp only [Int.reduceToNat, e2]
  decide
end
end Go.Mem
