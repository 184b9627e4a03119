/-
  MEMORY: pages compared; blocks that are the same.
-/
import Derived.Test.YtpilbfkinpbnoaaMemA1
import Derived.Test.YtpilbfkinpbnoaaMemW2
namespace Go.Mem
open Go.Ai Go.Proofs
set_option linter.unusedVariables false
set_option linter.unusedSimpArgs false
/-- The cells of a page. -/
def PL (f : Nat → Cl) (cs : List Value) : Prop := cs.length = 320 ∧ ∀ k j, k < 64 → j < 5 → cs[k * 5 + j]? = (f k).vals[j]?
theorem PL.uniq {f : Nat → Cl} {a b : List Value} (x : PL f a) (y : PL f b) : a = b := by
  apply List.ext_getElem?
  intro i
  by_cases hi : i < 320
  · have := x.2 (i / 5) (i % 5) (by omega) (by omega)
    have h2 := y.2 (i / 5) (i % 5) (by omega) (by omega)
    rw [show i / 5 * 5 + i % 5 = i by omega] at this h2
    rw [this, h2]
  · rw [List.getElem?_eq_none (by rw [x.1]; omega), List.getElem?_eq_none (by rw [y.1]; omega)]
theorem zp_PL : PL (fun _ => unk) zp := ⟨zp_len, zp_get⟩
noncomputable def fields65 : Array Field := match Program.underlying Try.prog 65 with | some (.struct f) => f | _ => #[]
theorem eq65 (k n a b c : Int) : srun Try.prog (Op.equalIn 9999 65 (.agg #[.int .u8 k, .int .u8 n, .int .i64 a, .int .i64 b, .int .i64 c]) (.agg #[.int .u8 k, .int .u8 n, .int .i64 a, .int .i64 b, .int .i64 c])) = some true := by
  have h : srun Try.prog (Op.equalIn 9999 65 (.agg #[.int .u8 k, .int .u8 n, .int .i64 a, .int .i64 b, .int .i64 c]) (.agg #[.int .u8 k, .int .u8 n, .int .i64 a, .int .i64 b, .int .i64 c])) =
      cond (k == k) (cond (n == n) (cond (cond (a == a) (cond (b == b) (cond (c == c) true false) false) false) (some true) (some false)) (some false)) (some false) := by
    have hs : srun Try.prog (Op.equalIn 9998 24 (.agg #[.int .i64 a, .int .i64 b, .int .i64 c]) (.agg #[.int .i64 a, .int .i64 b, .int .i64 c])) = some (cond (a == a) (cond (b == b) (cond (c == c) true false) false) false) := by
      rw [srun_equal_struct (fs := fields24) (by kernel_rfl) (by kernel_rfl)]
      have e : eqF Try.prog 9997 #[.int .i64 a, .int .i64 b, .int .i64 c] #[.int .i64 a, .int .i64 b, .int .i64 c] fields24.toList = (cond (a == a) (cond (b == b) (cond (c == c) (some true) (some false)) (some false)) (some false)) := by kernel_rfl
      rw [e]
      cases (a == a) <;> cases (b == b) <;> cases (c == c) <;> rfl
    rw [srun_equal_struct (fs := fields65) (by kernel_rfl) (by kernel_rfl)]
    have e : eqF Try.prog 9998 #[.int .u8 k, .int .u8 n, .int .i64 a, .int .i64 b, .int .i64 c] #[.int .u8 k, .int .u8 n, .int .i64 a, .int .i64 b, .int .i64 c] fields65.toList =
        (cond (k == k) (cond (n == n) (match srun Try.prog (Op.equalIn 9998 24 (.agg #[.int .i64 a, .int .i64 b, .int .i64 c]) (.agg #[.int .i64 a, .int .i64 b, .int .i64 c])) with
          | some r => cond r (some true) (some false)
          | none => none) (some false)) (some false)) := by kernel_rfl
    rw [e, hs]
  rw [h]
  simp
theorem srun_equal_array {P : Program} {d : Nat} {t e : TypeId} {n sz : Nat} {xs ys : Array Value} (hu : P.underlying t = some (.array n e)) (hs : srun P (sizeOf e) = some sz)
    (hall : ∀ i, i < n → ∃ a b, srun P (part e xs (i * sz)) = some a ∧ srun P (part e ys (i * sz)) = some b ∧ srun P (Op.equalIn d e a b) = some true) :
    srun P (Op.equalIn (d + 1) t (.agg xs) (.agg ys)) = some true := by
  have h2 : srun P program = some P := rfl
  have h1 : srun P (underlying t) = some (.array n e) := by
    unfold underlying
    simp only [srun_bnd, h2, Option.bind_some, hu]
    rfl
  simp only [Op.equalIn, srun_bnd, h1, Option.bind_some, hs]
  rw [Std.Legacy.Range.forIn_eq_forIn_range']
  have hl : ∀ i, i ∈ List.range' 0 ([0:n].size) 1 → i < n := by
    intro i hi
    have := List.mem_range'_1.1 hi
    simp [Std.Legacy.Range.size] at this
    omega
  generalize List.range' 0 ([0:n].size) 1 = l at hl
  induction l with
  | nil => rfl
  | cons i l ih =>
    obtain ⟨a, b, ha, hb, he⟩ := hall i (hl i (by simp))
    simp only [List.forIn_cons, srun_bnd, ha, hb, he, Option.bind_some, Bool.not_true, Bool.false_eq_true, if_false, srun_pure] at ih ⊢
    exact ih (fun j hj => hl j (by simp [hj]))
theorem eq81 {f : Nat → Cl} {cs : List Value} (x : PL f cs) (o p : Operand) : abin2 Try.prog .neq 81 o p (.agg cs.toArray) (.agg cs.toArray) = some (.bool false) := by
  have hflat : flat (.agg cs.toArray) = true := by
    show (cs.toArray.toList.all plain) = true
    rw [List.toList_toArray, List.all_eq_true]
    intro v hv
    obtain ⟨i, hi, e⟩ := List.getElem_of_mem hv
    have hi2 : i < 320 := by rw [← x.1]; exact hi
    have := x.2 (i / 5) (i % 5) (by omega) (by omega)
    rw [show i / 5 * 5 + i % 5 = i by omega, List.getElem?_eq_getElem hi, e] at this
    have h5 : i % 5 < 5 := Nat.mod_lt _ (by decide)
    generalize i % 5 = j at this h5
    match j, h5 with
    | 0, _ => simp [Cl.vals] at this; subst this; rfl
    | 1, _ => simp [Cl.vals] at this; subst this; rfl
    | 2, _ => simp [Cl.vals] at this; subst this; rfl
    | 3, _ => simp [Cl.vals] at this; subst this; rfl
    | 4, _ => simp [Cl.vals] at this; subst this; rfl
  have hpart : ∀ i, i < 64 → srun Try.prog (part 65 cs.toArray (i * 5)) = some (.agg #[.int .u8 (f i).k, .int .u8 (f i).n, .int .i64 (f i).p.k, .int .i64 (f i).p.n, .int .i64 (f i).p.b]) := by
    intro i hi
    have e1 : srun Try.prog (isAgg 65) = some true := by kernel_rfl
    have e2 : srun Try.prog (sizeOf 65) = some 5 := by kernel_rfl
    unfold part
    simp only [srun_bnd, e1, e2, Option.bind_some, if_true, srun_pure]
    congr 2
    apply Array.ext'
    show (cs.toArray.extract (i * 5) (i * 5 + 5)).toList = _
    rw [Array.toList_extract, List.toList_toArray, List.extract_eq_take_drop]
    rw [show i * 5 + 5 - i * 5 = 5 by omega]
    exact take_vals (fun j hj => x.2 i j hi hj)
  have he : srun Try.prog (Op.equal 81 (.agg cs.toArray) (.agg cs.toArray)) = some true := by
    refine srun_equal_array (d := 9999) (e := 65) (n := 64) (sz := 5) (by kernel_rfl) (by kernel_rfl) (fun i hi => ?_)
    exact ⟨_, _, hpart i hi, hpart i hi, eq65 _ _ _ _ _⟩
  have hgd : srun Try.prog (eqGuard .neq 81 o p (.agg cs.toArray) (.agg cs.toArray)) = some () := by
    have h2 : srun Try.prog program = some Try.prog := rfl
    have hg : Try.prog.eqGuardType Try.prog.depth 81 = false := by kernel_rfl
    simp [eqGuard, srun_bnd, h2, hg, srun_pure]
  refine abin2_of ?_
  unfold abin
  rw [hflat]
  simp only [Bool.and_true, cond_true, srun_bnd, hgd, Option.bind_some, binOp, he, srun_pure]
  rfl
end Go.Mem
namespace Go.Mem
open Go.Ai Go.Proofs
set_option linter.unusedVariables false
set_option linter.unusedSimpArgs false
theorem az81 : azero Try.prog 81 = some (.agg zp.toArray) := keep (by kernel_rfl)
theorem setMany_all (cs vs : List Value) (h : vs.length = cs.length) : setMany cs 0 vs = vs := by
  apply List.ext_getElem?
  intro i
  by_cases hi : i < vs.length
  · rw [get_setMany _ _ _ _ (by omega), if_pos (by omega), Nat.sub_zero]
  · rw [List.getElem?_eq_none (by rw [length_setMany]; omega), List.getElem?_eq_none (by omega)]
theorem PL.cok {f : Nat → Cl} {cs : List Value} (x : PL f cs) : cs.all cellOk = true := by
  rw [List.all_eq_true]
  intro v hv
  obtain ⟨i, hi, e⟩ := List.getElem_of_mem hv
  have hi2 : i < 320 := by rw [← x.1]; exact hi
  have := x.2 (i / 5) (i % 5) (by omega) (by omega)
  rw [show i / 5 * 5 + i % 5 = i by omega, List.getElem?_eq_getElem hi, e] at this
  have h5 : i % 5 < 5 := Nat.mod_lt _ (by decide)
  generalize i % 5 = j at this h5
  match j, h5 with
  | 0, _ => simp [Cl.vals] at this; subst this; rfl
  | 1, _ => simp [Cl.vals] at this; subst this; rfl
  | 2, _ => simp [Cl.vals] at this; subst this; rfl
  | 3, _ => simp [Cl.vals] at this; subst this; rfl
  | 4, _ => simp [Cl.vals] at this; subst this; rfl
theorem sto_page {f : Nat → Cl} {h : AHeap} {b : Nat} {cs0 cs : List Value} (hb : h.get b = some (.cells cs0 81)) (h0 : cs0.length = 320) (x : PL f cs) (hr : h.ro ≤ b) (hn : isBot (.agg cs.toArray) = false) :
    nb [.agg cs.toArray] (astore Try.prog 81 (.pointer (some ⟨b, 0, none⟩)) (.agg cs.toArray) h) = some (h.set b (some (.cells cs 81))) := by
  rw [nb_cons hn, nb_nil, as_81 _ _ _ _ x.1, sto_of hb, if_pos ⟨by rw [x.1, h0]; decide, hr, x.cok⟩, setMany_all _ _ (by rw [x.1, h0])]
theorem load_page {f : Nat → Cl} {h : AHeap} {b : Nat} {cs : List Value} (hb : h.get b = some (.cells cs 81)) (x : PL f cs) : aload Try.prog 81 (.pointer (some ⟨b, 0, none⟩)) h = some (.agg cs.toArray) := by
  rw [al_81, ldn_of hb, if_pos (by rw [x.1]; decide), List.drop_zero, List.take_of_length_le (by rw [x.1]; decide)]
theorem PageH.pl {h : AHeap} {g : Nat} {f : Nat → Cl} (x : PageH h g f) : ∃ cs, h.get g = some (.cells cs 81) ∧ PL f cs := by
  obtain ⟨cs, a, b, c⟩ := x; exact ⟨cs, a, b, c⟩
theorem eff_one (h : AHeap) (b : Nat) (o : Option AObj) : Eff (fun x => x = b) h (h.set b o) :=
  (Eff.refl (fun x => x = b) h).set (b := b) (.inl (by rfl)) o
section
variable {R : Value → AHeap → Prop}
/-- The second page, and both compared. -/
theorem same_rest {H : AHeap} {q : Nat} {B : MB} {G : Nat → Prop} {pg : Value} {cs : List Value} {b6 b7 i : Nat} {vs : List Value} {j : List Value → AHeap → Prop} (hz : B.size < 2147483648) (hi : 64 * i < B.size)
    (hq : H.get q = some (.cells [.int .i64 B.size, pg, .bool B.freed] 60)) (y : PagesH H pg B G) (h6 : H.get b6 = some (.cells cs 81)) (h7 : H.get b7 = some (.cells zp 81)) (hr : H.ro ≤ b7) (p1 : PL (fun k => B.byte (64 * i + k)) cs) (hne : b6 ≠ b7)
    (hj : ∀ h1, Eff (fun b => b = b7) H h1 → j [nth vs 0] h1) :
    callV Try.prog (.func (.func 28) #[] #[]) [.pointer (some ⟨q, 0, none⟩), .int .i64 (64 * i : Nat), .bool false] H (X_same_2 (.pointer (some ⟨b7, 0, none⟩)) (.pointer (some ⟨b6, 0, none⟩)) R vs j) := by
  refine callV_of (by kernel_rfl) rfl (made_r hq y (a := (64 * i : Nat)) (by omega) (by omega) (by omega)) ?_
  have ea : ((64 * i : Nat) : Int).toNat / 64 = i := by omega
  rintro v h1 ⟨rfl, ⟨rfl, hu⟩ | ⟨g, rfl, fg, hpage⟩⟩
  · rw [ea] at hu
    have : cs = zp := p1.uniq ⟨zp_len, fun k j hk hj => by show zp[k * 5 + j]? = (B.byte (64 * i + k)).vals[j]?; rw [hu k hk]; exact zp_get k j hk hj⟩
    subst this
    have l6 := load_page h6 zp_PL
    have l7 := load_page h7 zp_PL
    have e := eq81 zp_PL (.tmp 54) (.tmp 55)
    simp -implicitDefEqProofs only [axt_20, axt_21, opt_some, optH_some, nb_cons, nb_nil, CD_true, CD_false, GD_tt, GD_ff, GD_tf, GD_ft, GD_un, pk_true, pk_false, nck_ptr, rv_one, rv_two, b_lss, b_leq, b_gtr, b_geq, b_eql, b_neq, b_add, b_sub, b_mul, b_quo, b_rem, b_shl, b_shr, b_and, b_or, b_xor, b_andNot, u_not, u_neg, nob_bool, nob_int, nob_string, nob_ptr, nob_slice, nob_map, nob_func, nob_nilf, nob_iface, nob_nili, nob_agg, nob_tuple, cok_bool, cok_int, cok_string, cok_ptr, cok_slice, cok_map, cok_func, nobot_nil, nobot_cons, onb_none, onb_some, cond_true, cond_false, abound_none, abound_int, Option.bind_some, Option.bind_none, nth, ↓nw, Value.cells, ↓BK, List.getElem?_cons_zero, List.getElem?_cons_succ, List.toList_toArray, Nat.zero_add, Nat.add_zero, List.length_cons, List.length_nil, List.length_replicate, List.length_map, List.length_set, List.all_cons, List.all_nil, setMany, List.set_cons_zero, List.set_cons_succ, List.drop_zero, List.take_zero, List.take_succ_cons, List.drop_succ_cons, List.take_nil, List.drop_nil, if_true, if_false, Bool.and_true, Bool.true_and, Nat.reduceAdd, Nat.reduceLeDiff, Nat.reduceMul, Nat.reduceMod, Nat.reduceDiv, Nat.reduceSub, Nat.reduceEqDiff, Nat.lt_irrefl, Int.reduceEq, Int.reduceLT, Int.reduceLE, Int.reduceAdd, Int.reduceSub, Int.reduceMul, Int.reduceNeg, Int.reduceToNat, and_true, true_and, Nat.le_refl, dec_t, dec_f, nxt_push, nxt_set, ro_pushk, ro_setk, next_lock, ro_lock, get_lock, get_push_self, get_push_eq, get_push_lt, get_set_self, get_set_ne, ne_eq, lt_add1, lt_add, sto, ldn, ld1, not_false_eq_true, not_true_eq_false, Bool.not_true, Bool.not_false, Bool.and_false, Bool.false_and, beq_self_eq_true, al_3, al_4, al_81, as_81, fa_60_0, fa_60_2, neq0_69, neq_4, neq_69, X_same_1, X_same_2, X_same_3, X_same_4, X_same_5, X_same_6, X_same_7, X_same_8, X_same_9, X_same_10, gptr, l6, l7, e]
    exact hj h1 (.refl _ _)
  · rw [ea] at hpage
    obtain ⟨cs2, hg, p2⟩ := hpage.pl
    obtain rfl := p1.uniq p2
    have lg := load_page hg p1
    have st := sto_page h7 zp_len p1 hr rfl
    have l6 : aload Try.prog 81 (.pointer (some ⟨b6, 0, none⟩)) (h1.set b7 (some (.cells cs 81))) = some (.agg cs.toArray) := load_page (by rw [get_set_ne hne]; exact h6) p1
    have l7 : aload Try.prog 81 (.pointer (some ⟨b7, 0, none⟩)) (h1.set b7 (some (.cells cs 81))) = some (.agg cs.toArray) := load_page get_set_self p1
    have e := eq81 p1 (.tmp 54) (.tmp 55)
    simp -implicitDefEqProofs only [axt_20, axt_21, opt_some, optH_some, nb_cons, nb_nil, CD_true, CD_false, GD_tt, GD_ff, GD_tf, GD_ft, GD_un, pk_true, pk_false, nck_ptr, rv_one, rv_two, b_lss, b_leq, b_gtr, b_geq, b_eql, b_neq, b_add, b_sub, b_mul, b_quo, b_rem, b_shl, b_shr, b_and, b_or, b_xor, b_andNot, u_not, u_neg, nob_bool, nob_int, nob_string, nob_ptr, nob_slice, nob_map, nob_func, nob_nilf, nob_iface, nob_nili, nob_agg, nob_tuple, cok_bool, cok_int, cok_string, cok_ptr, cok_slice, cok_map, cok_func, nobot_nil, nobot_cons, onb_none, onb_some, cond_true, cond_false, abound_none, abound_int, Option.bind_some, Option.bind_none, nth, ↓nw, Value.cells, ↓BK, List.getElem?_cons_zero, List.getElem?_cons_succ, List.toList_toArray, Nat.zero_add, Nat.add_zero, List.length_cons, List.length_nil, List.length_replicate, List.length_map, List.length_set, List.all_cons, List.all_nil, setMany, List.set_cons_zero, List.set_cons_succ, List.drop_zero, List.take_zero, List.take_succ_cons, List.drop_succ_cons, List.take_nil, List.drop_nil, if_true, if_false, Bool.and_true, Bool.true_and, Nat.reduceAdd, Nat.reduceLeDiff, Nat.reduceMul, Nat.reduceMod, Nat.reduceDiv, Nat.reduceSub, Nat.reduceEqDiff, Nat.lt_irrefl, Int.reduceEq, Int.reduceLT, Int.reduceLE, Int.reduceAdd, Int.reduceSub, Int.reduceMul, Int.reduceNeg, Int.reduceToNat, and_true, true_and, Nat.le_refl, dec_t, dec_f, nxt_push, nxt_set, ro_pushk, ro_setk, next_lock, ro_lock, get_lock, get_push_self, get_push_eq, get_push_lt, get_set_self, get_set_ne, ne_eq, lt_add1, lt_add, sto, ldn, ld1, not_false_eq_true, not_true_eq_false, Bool.not_true, Bool.not_false, Bool.and_false, Bool.false_and, beq_self_eq_true, al_3, al_4, al_81, as_81, fa_60_0, fa_60_2, neq0_69, neq_4, neq_69, X_same_1, X_same_2, X_same_3, X_same_4, X_same_5, X_same_6, X_same_7, X_same_8, X_same_9, X_same_10, gptr, lg, st, l6, l7, e]
    exact hj _ (eff_one _ _ _)
end
def SameI (h : AHeap) (B : MB) (n : Nat) (vs : List Value) (h' : AHeap) : Prop := ∃ i, i ≤ (B.size + 63) / 64 ∧ n = (B.size + 63) / 64 - i ∧ vs = [.bool false, .int .i64 (64 * i : Nat)] ∧ Eff nof h h'
theorem same_ok {h : AHeap} {p q : Nat} {B : MB} {F G : Nat → Prop} (x : BlkH h p B F) (y : BlkH h q B G) (okF : ∀ b, F b → b < h.next) (okG : ∀ b, G b → b < h.next) (hz : B.size < 2147483648) :
    DC Try.prog 36 [.pointer (some ⟨p, 0, none⟩), .pointer (some ⟨q, 0, none⟩)] h (fun v h1 => v = .bool true ∧ Eff nof h h1) := by
  apply DC_wf; intro hwf; have hro := hwf.2
  apply X_same_ok
  unfold X_same
  obtain ⟨pg, hp, fp, hpg⟩ := x
  obtain ⟨qg, hq, fq, hqg⟩ := y
  have e1 : (!(B.freed == B.freed)) = false := by simp
  simp -implicitDefEqProofs only [axt_20, axt_21, opt_some, optH_some, nb_cons, nb_nil, CD_true, CD_false, GD_tt, GD_ff, GD_tf, GD_ft, GD_un, pk_true, pk_false, nck_ptr, rv_one, rv_two, b_lss, b_leq, b_gtr, b_geq, b_eql, b_neq, b_add, b_sub, b_mul, b_quo, b_rem, b_shl, b_shr, b_and, b_or, b_xor, b_andNot, u_not, u_neg, nob_bool, nob_int, nob_string, nob_ptr, nob_slice, nob_map, nob_func, nob_nilf, nob_iface, nob_nili, nob_agg, nob_tuple, cok_bool, cok_int, cok_string, cok_ptr, cok_slice, cok_map, cok_func, nobot_nil, nobot_cons, onb_none, onb_some, cond_true, cond_false, abound_none, abound_int, Option.bind_some, Option.bind_none, nth, ↓nw, Value.cells, ↓BK, List.getElem?_cons_zero, List.getElem?_cons_succ, List.toList_toArray, Nat.zero_add, Nat.add_zero, List.length_cons, List.length_nil, List.length_replicate, List.length_map, List.length_set, List.all_cons, List.all_nil, setMany, List.set_cons_zero, List.set_cons_succ, List.drop_zero, List.take_zero, List.take_succ_cons, List.drop_succ_cons, List.take_nil, List.drop_nil, if_true, if_false, Bool.and_true, Bool.true_and, Nat.reduceAdd, Nat.reduceLeDiff, Nat.reduceMul, Nat.reduceMod, Nat.reduceDiv, Nat.reduceSub, Nat.reduceEqDiff, Nat.lt_irrefl, Int.reduceEq, Int.reduceLT, Int.reduceLE, Int.reduceAdd, Int.reduceSub, Int.reduceMul, Int.reduceNeg, Int.reduceToNat, and_true, true_and, Nat.le_refl, dec_t, dec_f, nxt_push, nxt_set, ro_pushk, ro_setk, next_lock, ro_lock, get_lock, get_push_self, get_push_eq, get_push_lt, get_set_self, get_set_ne, ne_eq, lt_add1, lt_add, sto, ldn, ld1, not_false_eq_true, not_true_eq_false, Bool.not_true, Bool.not_false, Bool.and_false, Bool.false_and, beq_self_eq_true, al_3, al_4, al_81, as_81, fa_60_0, fa_60_2, neq0_69, neq_4, neq_69, X_same_1, X_same_2, X_same_3, X_same_4, X_same_5, X_same_6, X_same_7, X_same_8, X_same_9, X_same_10, hp, hq, e1, decide_true]
  refine LP_of (SameI h B) ((B.size + 63) / 64) ⟨0, by omega, rfl, rfl, .refl _ _⟩ ?_
  rintro n vs h1 ⟨i, hi, rfl, rfl, e⟩
  have hp1 : h1.get p = some (.cells [.int .i64 B.size, pg, .bool B.freed] 60) := by rw [e.get _ (fun q => q) (okF p fp)]; exact hp
  by_cases hlt : 64 * i < B.size
  · have hlt' : ((64 * i : Nat) : Int) < (B.size : Int) := by omega
    simp -implicitDefEqProofs only [axt_20, axt_21, opt_some, optH_some, nb_cons, nb_nil, CD_true, CD_false, GD_tt, GD_ff, GD_tf, GD_ft, GD_un, pk_true, pk_false, nck_ptr, rv_one, rv_two, b_lss, b_leq, b_gtr, b_geq, b_eql, b_neq, b_add, b_sub, b_mul, b_quo, b_rem, b_shl, b_shr, b_and, b_or, b_xor, b_andNot, u_not, u_neg, nob_bool, nob_int, nob_string, nob_ptr, nob_slice, nob_map, nob_func, nob_nilf, nob_iface, nob_nili, nob_agg, nob_tuple, cok_bool, cok_int, cok_string, cok_ptr, cok_slice, cok_map, cok_func, nobot_nil, nobot_cons, onb_none, onb_some, cond_true, cond_false, abound_none, abound_int, Option.bind_some, Option.bind_none, nth, ↓nw, Value.cells, ↓BK, List.getElem?_cons_zero, List.getElem?_cons_succ, List.toList_toArray, Nat.zero_add, Nat.add_zero, List.length_cons, List.length_nil, List.length_replicate, List.length_map, List.length_set, List.all_cons, List.all_nil, setMany, List.set_cons_zero, List.set_cons_succ, List.drop_zero, List.take_zero, List.take_succ_cons, List.drop_succ_cons, List.take_nil, List.drop_nil, if_true, if_false, Bool.and_true, Bool.true_and, Nat.reduceAdd, Nat.reduceLeDiff, Nat.reduceMul, Nat.reduceMod, Nat.reduceDiv, Nat.reduceSub, Nat.reduceEqDiff, Nat.lt_irrefl, Int.reduceEq, Int.reduceLT, Int.reduceLE, Int.reduceAdd, Int.reduceSub, Int.reduceMul, Int.reduceNeg, Int.reduceToNat, and_true, true_and, Nat.le_refl, dec_t, dec_f, nxt_push, nxt_set, ro_pushk, ro_setk, next_lock, ro_lock, get_lock, get_push_self, get_push_eq, get_push_lt, get_set_self, get_set_ne, ne_eq, lt_add1, lt_add, sto, ldn, ld1, not_false_eq_true, not_true_eq_false, Bool.not_true, Bool.not_false, Bool.and_false, Bool.false_and, beq_self_eq_true, al_3, al_4, al_81, as_81, fa_60_0, fa_60_2, neq0_69, neq_4, neq_69, X_same_1, X_same_2, X_same_3, X_same_4, X_same_5, X_same_6, X_same_7, X_same_8, X_same_9, X_same_10, hp1, hlt', az81]
    generalize hH : (h1.push (.cells zp 81)).push (.cells zp 81) = H
    have eH : Eff nof h1 H := by subst hH; exact ((Eff.refl _ _).push _).push _
    have b6 : H.get h1.next = some (.cells zp 81) := by subst hH; rw [get_push_lt (by simp only [nxt_push]; omega), get_push_self]
    have b7 : H.get (h1.next + 1) = some (.cells zp 81) := by subst hH; exact get_push_eq rfl
    have nH : H.next = h1.next + 2 := by subst hH; rfl
    have rH : H.ro = h1.ro := by subst hH; rfl
    clear hH
    have e2 := e.trans eH
    have n1 := e.next
    have r1 := e.ro
    have keepF : ∀ b, F b → H.get b = h.get b := fun b hb => e2.get b (fun q => q) (okF b hb)
    have keepG : ∀ b, G b → H.get b = h.get b := fun b hb => e2.get b (fun q => q) (okG b hb)
    have hpH : H.get p = some (.cells [.int .i64 B.size, pg, .bool B.freed] 60) := by rw [keepF p fp]; exact hp
    have hqH : H.get q = some (.cells [.int .i64 B.size, qg, .bool B.freed] 60) := by rw [keepG q fq]; exact hq
    have hpgH := hpg.keep keepF
    have hqgH := hqg.keep keepG
    have hw : IntKind.wrap .i64 (((64 * i : Nat) : Int) + 64) = ((64 * (i + 1) : Nat) : Int) := by rw [w64 (by omega) (by omega)]; omega
    have fin : ∀ h2, Eff nof h h2 → ∃ m, m < (B.size + 63) / 64 - i ∧ SameI h B m [.bool false, .int .i64 (64 * (i + 1) : Nat)] h2 := fun h2 e3 => ⟨(B.size + 63) / 64 - (i + 1), by omega, i + 1, by omega, rfl, rfl, e3⟩
    refine callV_of (by kernel_rfl) rfl (made_r hpH hpgH (a := (64 * i : Nat)) (by omega) (by omega) (by omega)) ?_
    have ea : ((64 * i : Nat) : Int).toNat / 64 = i := by omega
    rintro v h2 ⟨rfl, ⟨rfl, hu⟩ | ⟨g, rfl, fg, hpage⟩⟩
    · rw [ea] at hu
      simp -implicitDefEqProofs only [axt_20, axt_21, opt_some, optH_some, nb_cons, nb_nil, CD_true, CD_false, GD_tt, GD_ff, GD_tf, GD_ft, GD_un, pk_true, pk_false, nck_ptr, rv_one, rv_two, b_lss, b_leq, b_gtr, b_geq, b_eql, b_neq, b_add, b_sub, b_mul, b_quo, b_rem, b_shl, b_shr, b_and, b_or, b_xor, b_andNot, u_not, u_neg, nob_bool, nob_int, nob_string, nob_ptr, nob_slice, nob_map, nob_func, nob_nilf, nob_iface, nob_nili, nob_agg, nob_tuple, cok_bool, cok_int, cok_string, cok_ptr, cok_slice, cok_map, cok_func, nobot_nil, nobot_cons, onb_none, onb_some, cond_true, cond_false, abound_none, abound_int, Option.bind_some, Option.bind_none, nth, ↓nw, Value.cells, ↓BK, List.getElem?_cons_zero, List.getElem?_cons_succ, List.toList_toArray, Nat.zero_add, Nat.add_zero, List.length_cons, List.length_nil, List.length_replicate, List.length_map, List.length_set, List.all_cons, List.all_nil, setMany, List.set_cons_zero, List.set_cons_succ, List.drop_zero, List.take_zero, List.take_succ_cons, List.drop_succ_cons, List.take_nil, List.drop_nil, if_true, if_false, Bool.and_true, Bool.true_and, Nat.reduceAdd, Nat.reduceLeDiff, Nat.reduceMul, Nat.reduceMod, Nat.reduceDiv, Nat.reduceSub, Nat.reduceEqDiff, Nat.lt_irrefl, Int.reduceEq, Int.reduceLT, Int.reduceLE, Int.reduceAdd, Int.reduceSub, Int.reduceMul, Int.reduceNeg, Int.reduceToNat, and_true, true_and, Nat.le_refl, dec_t, dec_f, nxt_push, nxt_set, ro_pushk, ro_setk, next_lock, ro_lock, get_lock, get_push_self, get_push_eq, get_push_lt, get_set_self, get_set_ne, ne_eq, lt_add1, lt_add, sto, ldn, ld1, not_false_eq_true, not_true_eq_false, Bool.not_true, Bool.not_false, Bool.and_false, Bool.false_and, beq_self_eq_true, al_3, al_4, al_81, as_81, fa_60_0, fa_60_2, neq0_69, neq_4, neq_69, X_same_1, X_same_2, X_same_3, X_same_4, X_same_5, X_same_6, X_same_7, X_same_8, X_same_9, X_same_10, gptr]
      refine same_rest hz hlt hqH hqgH b6 b7 (by omega) ⟨zp_len, fun k j hk hj => by show zp[k * 5 + j]? = (B.byte (64 * i + k)).vals[j]?; rw [hu k hk]; exact zp_get k j hk hj⟩ (by omega) (fun h3 e3 => ?_)
      simp -implicitDefEqProofs only [axt_20, axt_21, opt_some, optH_some, nb_cons, nb_nil, CD_true, CD_false, GD_tt, GD_ff, GD_tf, GD_ft, GD_un, pk_true, pk_false, nck_ptr, rv_one, rv_two, b_lss, b_leq, b_gtr, b_geq, b_eql, b_neq, b_add, b_sub, b_mul, b_quo, b_rem, b_shl, b_shr, b_and, b_or, b_xor, b_andNot, u_not, u_neg, nob_bool, nob_int, nob_string, nob_ptr, nob_slice, nob_map, nob_func, nob_nilf, nob_iface, nob_nili, nob_agg, nob_tuple, cok_bool, cok_int, cok_string, cok_ptr, cok_slice, cok_map, cok_func, nobot_nil, nobot_cons, onb_none, onb_some, cond_true, cond_false, abound_none, abound_int, Option.bind_some, Option.bind_none, nth, ↓nw, Value.cells, ↓BK, List.getElem?_cons_zero, List.getElem?_cons_succ, List.toList_toArray, Nat.zero_add, Nat.add_zero, List.length_cons, List.length_nil, List.length_replicate, List.length_map, List.length_set, List.all_cons, List.all_nil, setMany, List.set_cons_zero, List.set_cons_succ, List.drop_zero, List.take_zero, List.take_succ_cons, List.drop_succ_cons, List.take_nil, List.drop_nil, if_true, if_false, Bool.and_true, Bool.true_and, Nat.reduceAdd, Nat.reduceLeDiff, Nat.reduceMul, Nat.reduceMod, Nat.reduceDiv, Nat.reduceSub, Nat.reduceEqDiff, Nat.lt_irrefl, Int.reduceEq, Int.reduceLT, Int.reduceLE, Int.reduceAdd, Int.reduceSub, Int.reduceMul, Int.reduceNeg, Int.reduceToNat, and_true, true_and, Nat.le_refl, dec_t, dec_f, nxt_push, nxt_set, ro_pushk, ro_setk, next_lock, ro_lock, get_lock, get_push_self, get_push_eq, get_push_lt, get_set_self, get_set_ne, ne_eq, lt_add1, lt_add, sto, ldn, ld1, not_false_eq_true, not_true_eq_false, Bool.not_true, Bool.not_false, Bool.and_false, Bool.false_and, beq_self_eq_true, al_3, al_4, al_81, as_81, fa_60_0, fa_60_2, neq0_69, neq_4, neq_69, X_same_1, X_same_2, X_same_3, X_same_4, X_same_5, X_same_6, X_same_7, X_same_8, X_same_9, X_same_10, hw]
      refine fin h3 ((e.trans eH).more e3 (fun b hb => .inr (by rw [hb]; omega)))
    · rw [ea] at hpage
      obtain ⟨cs, hg, p1⟩ := hpage.pl
      have lg := load_page hg p1
      have st := sto_page b6 zp_len p1 (by omega) rfl
      simp -implicitDefEqProofs only [axt_20, axt_21, opt_some, optH_some, nb_cons, nb_nil, CD_true, CD_false, GD_tt, GD_ff, GD_tf, GD_ft, GD_un, pk_true, pk_false, nck_ptr, rv_one, rv_two, b_lss, b_leq, b_gtr, b_geq, b_eql, b_neq, b_add, b_sub, b_mul, b_quo, b_rem, b_shl, b_shr, b_and, b_or, b_xor, b_andNot, u_not, u_neg, nob_bool, nob_int, nob_string, nob_ptr, nob_slice, nob_map, nob_func, nob_nilf, nob_iface, nob_nili, nob_agg, nob_tuple, cok_bool, cok_int, cok_string, cok_ptr, cok_slice, cok_map, cok_func, nobot_nil, nobot_cons, onb_none, onb_some, cond_true, cond_false, abound_none, abound_int, Option.bind_some, Option.bind_none, nth, ↓nw, Value.cells, ↓BK, List.getElem?_cons_zero, List.getElem?_cons_succ, List.toList_toArray, Nat.zero_add, Nat.add_zero, List.length_cons, List.length_nil, List.length_replicate, List.length_map, List.length_set, List.all_cons, List.all_nil, setMany, List.set_cons_zero, List.set_cons_succ, List.drop_zero, List.take_zero, List.take_succ_cons, List.drop_succ_cons, List.take_nil, List.drop_nil, if_true, if_false, Bool.and_true, Bool.true_and, Nat.reduceAdd, Nat.reduceLeDiff, Nat.reduceMul, Nat.reduceMod, Nat.reduceDiv, Nat.reduceSub, Nat.reduceEqDiff, Nat.lt_irrefl, Int.reduceEq, Int.reduceLT, Int.reduceLE, Int.reduceAdd, Int.reduceSub, Int.reduceMul, Int.reduceNeg, Int.reduceToNat, and_true, true_and, Nat.le_refl, dec_t, dec_f, nxt_push, nxt_set, ro_pushk, ro_setk, next_lock, ro_lock, get_lock, get_push_self, get_push_eq, get_push_lt, get_set_self, get_set_ne, ne_eq, lt_add1, lt_add, sto, ldn, ld1, not_false_eq_true, not_true_eq_false, Bool.not_true, Bool.not_false, Bool.and_false, Bool.false_and, beq_self_eq_true, al_3, al_4, al_81, as_81, fa_60_0, fa_60_2, neq0_69, neq_4, neq_69, X_same_1, X_same_2, X_same_3, X_same_4, X_same_5, X_same_6, X_same_7, X_same_8, X_same_9, X_same_10, gptr, lg, st]
      generalize hH3 : h2.set h1.next (some (.cells cs 81)) = H3
      have e3 : Eff (fun b => b = h1.next) h2 H3 := by subst hH3; exact eff_one _ _ _
      have b63 : H3.get h1.next = some (.cells cs 81) := by subst hH3; exact get_set_self
      clear hH3
      have far : ∀ b, G b → H3.get b = h2.get b := fun b hb => e3.get b (fun (q : b = h1.next) => by have := okG b hb; omega) (by have := okG b hb; omega)
      refine same_rest hz hlt (by rw [far q fq]; exact hqH) (hqgH.keep far) b63 (by rw [e3.get _ (fun (q : h1.next + 1 = h1.next) => by omega) (by omega)]; exact b7) (by have := e3.ro; omega) p1 (by omega) (fun h4 e4 => ?_)
      simp -implicitDefEqProofs only [axt_20, axt_21, opt_some, optH_some, nb_cons, nb_nil, CD_true, CD_false, GD_tt, GD_ff, GD_tf, GD_ft, GD_un, pk_true, pk_false, nck_ptr, rv_one, rv_two, b_lss, b_leq, b_gtr, b_geq, b_eql, b_neq, b_add, b_sub, b_mul, b_quo, b_rem, b_shl, b_shr, b_and, b_or, b_xor, b_andNot, u_not, u_neg, nob_bool, nob_int, nob_string, nob_ptr, nob_slice, nob_map, nob_func, nob_nilf, nob_iface, nob_nili, nob_agg, nob_tuple, cok_bool, cok_int, cok_string, cok_ptr, cok_slice, cok_map, cok_func, nobot_nil, nobot_cons, onb_none, onb_some, cond_true, cond_false, abound_none, abound_int, Option.bind_some, Option.bind_none, nth, ↓nw, Value.cells, ↓BK, List.getElem?_cons_zero, List.getElem?_cons_succ, List.toList_toArray, Nat.zero_add, Nat.add_zero, List.length_cons, List.length_nil, List.length_replicate, List.length_map, List.length_set, List.all_cons, List.all_nil, setMany, List.set_cons_zero, List.set_cons_succ, List.drop_zero, List.take_zero, List.take_succ_cons, List.drop_succ_cons, List.take_nil, List.drop_nil, if_true, if_false, Bool.and_true, Bool.true_and, Nat.reduceAdd, Nat.reduceLeDiff, Nat.reduceMul, Nat.reduceMod, Nat.reduceDiv, Nat.reduceSub, Nat.reduceEqDiff, Nat.lt_irrefl, Int.reduceEq, Int.reduceLT, Int.reduceLE, Int.reduceAdd, Int.reduceSub, Int.reduceMul, Int.reduceNeg, Int.reduceToNat, and_true, true_and, Nat.le_refl, dec_t, dec_f, nxt_push, nxt_set, ro_pushk, ro_setk, next_lock, ro_lock, get_lock, get_push_self, get_push_eq, get_push_lt, get_set_self, get_set_ne, ne_eq, lt_add1, lt_add, sto, ldn, ld1, not_false_eq_true, not_true_eq_false, Bool.not_true, Bool.not_false, Bool.and_false, Bool.false_and, beq_self_eq_true, al_3, al_4, al_81, as_81, fa_60_0, fa_60_2, neq0_69, neq_4, neq_69, X_same_1, X_same_2, X_same_3, X_same_4, X_same_5, X_same_6, X_same_7, X_same_8, X_same_9, X_same_10, hw]
      have e5 : Eff nof h H3 := e2.more e3 (fun b (hb : b = h1.next) => .inr (by omega))
      exact fin h4 (e5.more e4 (fun b hb => .inr (by rw [hb]; omega)))
  · have hlt' : ¬ ((64 * i : Nat) : Int) < (B.size : Int) := by omega
    simp -implicitDefEqProofs only [axt_20, axt_21, opt_some, optH_some, nb_cons, nb_nil, CD_true, CD_false, GD_tt, GD_ff, GD_tf, GD_ft, GD_un, pk_true, pk_false, nck_ptr, rv_one, rv_two, b_lss, b_leq, b_gtr, b_geq, b_eql, b_neq, b_add, b_sub, b_mul, b_quo, b_rem, b_shl, b_shr, b_and, b_or, b_xor, b_andNot, u_not, u_neg, nob_bool, nob_int, nob_string, nob_ptr, nob_slice, nob_map, nob_func, nob_nilf, nob_iface, nob_nili, nob_agg, nob_tuple, cok_bool, cok_int, cok_string, cok_ptr, cok_slice, cok_map, cok_func, nobot_nil, nobot_cons, onb_none, onb_some, cond_true, cond_false, abound_none, abound_int, Option.bind_some, Option.bind_none, nth, ↓nw, Value.cells, ↓BK, List.getElem?_cons_zero, List.getElem?_cons_succ, List.toList_toArray, Nat.zero_add, Nat.add_zero, List.length_cons, List.length_nil, List.length_replicate, List.length_map, List.length_set, List.all_cons, List.all_nil, setMany, List.set_cons_zero, List.set_cons_succ, List.drop_zero, List.take_zero, List.take_succ_cons, List.drop_succ_cons, List.take_nil, List.drop_nil, if_true, if_false, Bool.and_true, Bool.true_and, Nat.reduceAdd, Nat.reduceLeDiff, Nat.reduceMul, Nat.reduceMod, Nat.reduceDiv, Nat.reduceSub, Nat.reduceEqDiff, Nat.lt_irrefl, Int.reduceEq, Int.reduceLT, Int.reduceLE, Int.reduceAdd, Int.reduceSub, Int.reduceMul, Int.reduceNeg, Int.reduceToNat, and_true, true_and, Nat.le_refl, dec_t, dec_f, nxt_push, nxt_set, ro_pushk, ro_setk, next_lock, ro_lock, get_lock, get_push_self, get_push_eq, get_push_lt, get_set_self, get_set_ne, ne_eq, lt_add1, lt_add, sto, ldn, ld1, not_false_eq_true, not_true_eq_false, Bool.not_true, Bool.not_false, Bool.and_false, Bool.false_and, beq_self_eq_true, al_3, al_4, al_81, as_81, fa_60_0, fa_60_2, neq0_69, neq_4, neq_69, X_same_1, X_same_2, X_same_3, X_same_4, X_same_5, X_same_6, X_same_7, X_same_8, X_same_9, X_same_10, hp1, hlt']
    exact e
end Go.Mem
namespace Go.Mem
open Go.Ai Go.Proofs
set_option linter.unusedVariables false
set_option linter.unusedSimpArgs false
/-- What is read of a memory's blocks. -/
structure ReadM (h : AHeap) (bs : Value) (ps : List Nat) (fs : Nat → Nat → Prop) (M : MM) : Prop where
  len : ps.length = M.length
  hb : (M = [] ∧ bs = .slice none 0 0) ∨ ∃ bb c, bs = .slice (some ⟨bb, 0, none⟩) M.length c ∧ bb < h.next ∧ h.get bb = some (.cells (ps.map fun p => .pointer (some ⟨p, 0, none⟩)) 57)
  blk : ∀ i p B, ps[i]? = some p → M[i]? = some B → BlkH h p B (fs i)
  lt : ∀ i b, fs i b → b < h.next
theorem MemO.read {h : AHeap} {m : Nat} {bs : Value} {ps : List Nat} {fs : Nat → Nat → Prop} {M : MM} {F : Nat → Prop} (x : MemO h m bs ps fs M F) : ReadM h bs ps fs M :=
  ⟨x.len, by
    rcases x.hb with q | ⟨bb, c, q1, _, q3, q4, _⟩
    · exact .inl q
    · exact .inr ⟨bb, c, q1, (x.ok bb q3).2, q4⟩, x.blk, fun i b hb => (x.ok b (x.sub i b hb)).2⟩
theorem ReadM.keep {h h' : AHeap} {bs : Value} {ps : List Nat} {fs : Nat → Nat → Prop} {M : MM} (x : ReadM h bs ps fs M) (e : ∀ b, b < h.next → h'.get b = h.get b) (hn : h.next ≤ h'.next) : ReadM h' bs ps fs M :=
  ⟨x.len, by
    rcases x.hb with q | ⟨bb, c, q1, q2, q3⟩
    · exact .inl q
    · exact .inr ⟨bb, c, q1, by omega, by rw [e bb q2]; exact q3⟩, fun i p B hp hB => (x.blk i p B hp hB).keep (fun b hb => e b (x.lt i b hb)), fun i b hb => by have := x.lt i b hb; omega⟩
theorem same1_ok {h : AHeap} {p q : Nat} {B : MB} {F G : Nat → Prop} (x : BlkH h p B F) (y : BlkH h q B G) (okF : ∀ b, F b → b < h.next) (okG : ∀ b, G b → b < h.next) (hz : B.size < 2147483648) :
    DC Try.prog 35 [.pointer (some ⟨p, 0, none⟩), .pointer (some ⟨q, 0, none⟩)] h (fun v h1 => v = .bool true ∧ Eff nof h h1) := by
  apply X_Same1_ok
  unfold X_Same1
  refine callV_of (by kernel_rfl) rfl (same_ok x y okF okG hz) ?_
  rintro v h1 ⟨rfl, e⟩
  simp -implicitDefEqProofs only [axt_20, axt_21, opt_some, optH_some, nb_cons, nb_nil, CD_true, CD_false, GD_tt, GD_ff, GD_tf, GD_ft, GD_un, pk_true, pk_false, nck_ptr, rv_one, rv_two, b_lss, b_leq, b_gtr, b_geq, b_eql, b_neq, b_add, b_sub, b_mul, b_quo, b_rem, b_shl, b_shr, b_and, b_or, b_xor, b_andNot, u_not, u_neg, nob_bool, nob_int, nob_string, nob_ptr, nob_slice, nob_map, nob_func, nob_nilf, nob_iface, nob_nili, nob_agg, nob_tuple, cok_bool, cok_int, cok_string, cok_ptr, cok_slice, cok_map, cok_func, nobot_nil, nobot_cons, onb_none, onb_some, cond_true, cond_false, abound_none, abound_int, Option.bind_some, Option.bind_none, nth, ↓nw, Value.cells, ↓BK, List.getElem?_cons_zero, List.getElem?_cons_succ, List.toList_toArray, Nat.zero_add, Nat.add_zero, List.length_cons, List.length_nil, List.length_replicate, List.length_map, List.length_set, List.all_cons, List.all_nil, setMany, List.set_cons_zero, List.set_cons_succ, List.drop_zero, List.take_zero, List.take_succ_cons, List.drop_succ_cons, List.take_nil, List.drop_nil, if_true, if_false, Bool.and_true, Bool.true_and, Nat.reduceAdd, Nat.reduceLeDiff, Nat.reduceMul, Nat.reduceMod, Nat.reduceDiv, Nat.reduceSub, Nat.reduceEqDiff, Nat.lt_irrefl, Int.reduceEq, Int.reduceLT, Int.reduceLE, Int.reduceAdd, Int.reduceSub, Int.reduceMul, Int.reduceNeg, Int.reduceToNat, and_true, true_and, Nat.le_refl, dec_t, dec_f, nxt_push, nxt_set, ro_pushk, ro_setk, next_lock, ro_lock, get_lock, get_push_self, get_push_eq, get_push_lt, get_set_self, get_set_ne, ne_eq, lt_add1, lt_add, sto, ldn, ld1, not_false_eq_true, not_true_eq_false, Bool.not_true, Bool.not_false, Bool.and_false, Bool.false_and, beq_self_eq_true, ]
  exact e
def EqI (h : AHeap) (L : Nat) (n : Nat) (vs : List Value) (h' : AHeap) : Prop := ∃ i, i ≤ L ∧ n = L - i ∧ vs = [.bool false, .int .i64 i] ∧ Eff nof h h'
theorem equalF_ok {h : AHeap} {b1 b2 : Value} {p1 p2 : List Nat} {f1 f2 : Nat → Nat → Prop} {M : MM} (x : ReadM h b1 p1 f1 M) (y : ReadM h b2 p2 f2 M) (sm : small M) (hL : M.length ≤ 100000) :
    DC Try.prog 34 [b1, b2, .func (.func 35) #[] #[]] h (fun v h1 => v = .bool true ∧ Eff nof h h1) := by
  apply X_EqualFunc_ok
  unfold X_EqualFunc
  rcases x.hb with ⟨rfl, rfl⟩ | ⟨bb, c, rfl, lb, hbb⟩
  · rcases y.hb with ⟨_, rfl⟩ | ⟨b', c', rfl, _, _⟩
    · simp -implicitDefEqProofs only [axt_20, axt_21, opt_some, optH_some, nb_cons, nb_nil, CD_true, CD_false, GD_tt, GD_ff, GD_tf, GD_ft, GD_un, pk_true, pk_false, nck_ptr, rv_one, rv_two, b_lss, b_leq, b_gtr, b_geq, b_eql, b_neq, b_add, b_sub, b_mul, b_quo, b_rem, b_shl, b_shr, b_and, b_or, b_xor, b_andNot, u_not, u_neg, nob_bool, nob_int, nob_string, nob_ptr, nob_slice, nob_map, nob_func, nob_nilf, nob_iface, nob_nili, nob_agg, nob_tuple, cok_bool, cok_int, cok_string, cok_ptr, cok_slice, cok_map, cok_func, nobot_nil, nobot_cons, onb_none, onb_some, cond_true, cond_false, abound_none, abound_int, Option.bind_some, Option.bind_none, nth, ↓nw, Value.cells, ↓BK, List.getElem?_cons_zero, List.getElem?_cons_succ, List.toList_toArray, Nat.zero_add, Nat.add_zero, List.length_cons, List.length_nil, List.length_replicate, List.length_map, List.length_set, List.all_cons, List.all_nil, setMany, List.set_cons_zero, List.set_cons_succ, List.drop_zero, List.take_zero, List.take_succ_cons, List.drop_succ_cons, List.take_nil, List.drop_nil, if_true, if_false, Bool.and_true, Bool.true_and, Nat.reduceAdd, Nat.reduceLeDiff, Nat.reduceMul, Nat.reduceMod, Nat.reduceDiv, Nat.reduceSub, Nat.reduceEqDiff, Nat.lt_irrefl, Int.reduceEq, Int.reduceLT, Int.reduceLE, Int.reduceAdd, Int.reduceSub, Int.reduceMul, Int.reduceNeg, Int.reduceToNat, and_true, true_and, Nat.le_refl, dec_t, dec_f, nxt_push, nxt_set, ro_pushk, ro_setk, next_lock, ro_lock, get_lock, get_push_self, get_push_eq, get_push_lt, get_set_self, get_set_ne, ne_eq, lt_add1, lt_add, sto, ldn, ld1, not_false_eq_true, not_true_eq_false, Bool.not_true, Bool.not_false, Bool.and_false, Bool.false_and, beq_self_eq_true, al_57, ix_54, len_54, X_EqualFunc_1, X_EqualFunc_2, X_EqualFunc_3, X_EqualFunc_4, X_EqualFunc_5, decide_true]
      refine LP_of (EqI h 0) 0 ⟨0, Nat.le_refl _, rfl, rfl, .refl _ _⟩ ?_
      rintro n vs h1 ⟨i, hi, rfl, rfl, e⟩
      have hi0 : i = 0 := by omega
      subst hi0
      simp -implicitDefEqProofs only [axt_20, axt_21, opt_some, optH_some, nb_cons, nb_nil, CD_true, CD_false, GD_tt, GD_ff, GD_tf, GD_ft, GD_un, pk_true, pk_false, nck_ptr, rv_one, rv_two, b_lss, b_leq, b_gtr, b_geq, b_eql, b_neq, b_add, b_sub, b_mul, b_quo, b_rem, b_shl, b_shr, b_and, b_or, b_xor, b_andNot, u_not, u_neg, nob_bool, nob_int, nob_string, nob_ptr, nob_slice, nob_map, nob_func, nob_nilf, nob_iface, nob_nili, nob_agg, nob_tuple, cok_bool, cok_int, cok_string, cok_ptr, cok_slice, cok_map, cok_func, nobot_nil, nobot_cons, onb_none, onb_some, cond_true, cond_false, abound_none, abound_int, Option.bind_some, Option.bind_none, nth, ↓nw, Value.cells, ↓BK, List.getElem?_cons_zero, List.getElem?_cons_succ, List.toList_toArray, Nat.zero_add, Nat.add_zero, List.length_cons, List.length_nil, List.length_replicate, List.length_map, List.length_set, List.all_cons, List.all_nil, setMany, List.set_cons_zero, List.set_cons_succ, List.drop_zero, List.take_zero, List.take_succ_cons, List.drop_succ_cons, List.take_nil, List.drop_nil, if_true, if_false, Bool.and_true, Bool.true_and, Nat.reduceAdd, Nat.reduceLeDiff, Nat.reduceMul, Nat.reduceMod, Nat.reduceDiv, Nat.reduceSub, Nat.reduceEqDiff, Nat.lt_irrefl, Int.reduceEq, Int.reduceLT, Int.reduceLE, Int.reduceAdd, Int.reduceSub, Int.reduceMul, Int.reduceNeg, Int.reduceToNat, and_true, true_and, Nat.le_refl, dec_t, dec_f, nxt_push, nxt_set, ro_pushk, ro_setk, next_lock, ro_lock, get_lock, get_push_self, get_push_eq, get_push_lt, get_set_self, get_set_ne, ne_eq, lt_add1, lt_add, sto, ldn, ld1, not_false_eq_true, not_true_eq_false, Bool.not_true, Bool.not_false, Bool.and_false, Bool.false_and, beq_self_eq_true, al_57, ix_54, len_54, X_EqualFunc_1, X_EqualFunc_2, X_EqualFunc_3, X_EqualFunc_4, X_EqualFunc_5]
      exact e
    · simp -implicitDefEqProofs only [axt_20, axt_21, opt_some, optH_some, nb_cons, nb_nil, CD_true, CD_false, GD_tt, GD_ff, GD_tf, GD_ft, GD_un, pk_true, pk_false, nck_ptr, rv_one, rv_two, b_lss, b_leq, b_gtr, b_geq, b_eql, b_neq, b_add, b_sub, b_mul, b_quo, b_rem, b_shl, b_shr, b_and, b_or, b_xor, b_andNot, u_not, u_neg, nob_bool, nob_int, nob_string, nob_ptr, nob_slice, nob_map, nob_func, nob_nilf, nob_iface, nob_nili, nob_agg, nob_tuple, cok_bool, cok_int, cok_string, cok_ptr, cok_slice, cok_map, cok_func, nobot_nil, nobot_cons, onb_none, onb_some, cond_true, cond_false, abound_none, abound_int, Option.bind_some, Option.bind_none, nth, ↓nw, Value.cells, ↓BK, List.getElem?_cons_zero, List.getElem?_cons_succ, List.toList_toArray, Nat.zero_add, Nat.add_zero, List.length_cons, List.length_nil, List.length_replicate, List.length_map, List.length_set, List.all_cons, List.all_nil, setMany, List.set_cons_zero, List.set_cons_succ, List.drop_zero, List.take_zero, List.take_succ_cons, List.drop_succ_cons, List.take_nil, List.drop_nil, if_true, if_false, Bool.and_true, Bool.true_and, Nat.reduceAdd, Nat.reduceLeDiff, Nat.reduceMul, Nat.reduceMod, Nat.reduceDiv, Nat.reduceSub, Nat.reduceEqDiff, Nat.lt_irrefl, Int.reduceEq, Int.reduceLT, Int.reduceLE, Int.reduceAdd, Int.reduceSub, Int.reduceMul, Int.reduceNeg, Int.reduceToNat, and_true, true_and, Nat.le_refl, dec_t, dec_f, nxt_push, nxt_set, ro_pushk, ro_setk, next_lock, ro_lock, get_lock, get_push_self, get_push_eq, get_push_lt, get_set_self, get_set_ne, ne_eq, lt_add1, lt_add, sto, ldn, ld1, not_false_eq_true, not_true_eq_false, Bool.not_true, Bool.not_false, Bool.and_false, Bool.false_and, beq_self_eq_true, al_57, ix_54, len_54, X_EqualFunc_1, X_EqualFunc_2, X_EqualFunc_3, X_EqualFunc_4, X_EqualFunc_5, decide_true]
      refine LP_of (EqI h 0) 0 ⟨0, Nat.le_refl _, rfl, rfl, .refl _ _⟩ ?_
      rintro n vs h1 ⟨i, hi, rfl, rfl, e⟩
      have hi0 : i = 0 := by omega
      subst hi0
      simp -implicitDefEqProofs only [axt_20, axt_21, opt_some, optH_some, nb_cons, nb_nil, CD_true, CD_false, GD_tt, GD_ff, GD_tf, GD_ft, GD_un, pk_true, pk_false, nck_ptr, rv_one, rv_two, b_lss, b_leq, b_gtr, b_geq, b_eql, b_neq, b_add, b_sub, b_mul, b_quo, b_rem, b_shl, b_shr, b_and, b_or, b_xor, b_andNot, u_not, u_neg, nob_bool, nob_int, nob_string, nob_ptr, nob_slice, nob_map, nob_func, nob_nilf, nob_iface, nob_nili, nob_agg, nob_tuple, cok_bool, cok_int, cok_string, cok_ptr, cok_slice, cok_map, cok_func, nobot_nil, nobot_cons, onb_none, onb_some, cond_true, cond_false, abound_none, abound_int, Option.bind_some, Option.bind_none, nth, ↓nw, Value.cells, ↓BK, List.getElem?_cons_zero, List.getElem?_cons_succ, List.toList_toArray, Nat.zero_add, Nat.add_zero, List.length_cons, List.length_nil, List.length_replicate, List.length_map, List.length_set, List.all_cons, List.all_nil, setMany, List.set_cons_zero, List.set_cons_succ, List.drop_zero, List.take_zero, List.take_succ_cons, List.drop_succ_cons, List.take_nil, List.drop_nil, if_true, if_false, Bool.and_true, Bool.true_and, Nat.reduceAdd, Nat.reduceLeDiff, Nat.reduceMul, Nat.reduceMod, Nat.reduceDiv, Nat.reduceSub, Nat.reduceEqDiff, Nat.lt_irrefl, Int.reduceEq, Int.reduceLT, Int.reduceLE, Int.reduceAdd, Int.reduceSub, Int.reduceMul, Int.reduceNeg, Int.reduceToNat, and_true, true_and, Nat.le_refl, dec_t, dec_f, nxt_push, nxt_set, ro_pushk, ro_setk, next_lock, ro_lock, get_lock, get_push_self, get_push_eq, get_push_lt, get_set_self, get_set_ne, ne_eq, lt_add1, lt_add, sto, ldn, ld1, not_false_eq_true, not_true_eq_false, Bool.not_true, Bool.not_false, Bool.and_false, Bool.false_and, beq_self_eq_true, al_57, ix_54, len_54, X_EqualFunc_1, X_EqualFunc_2, X_EqualFunc_3, X_EqualFunc_4, X_EqualFunc_5]
      exact e
  · rcases y.hb with ⟨rfl, rfl⟩ | ⟨b', c', rfl, lb', hbb'⟩
    · simp -implicitDefEqProofs only [axt_20, axt_21, opt_some, optH_some, nb_cons, nb_nil, CD_true, CD_false, GD_tt, GD_ff, GD_tf, GD_ft, GD_un, pk_true, pk_false, nck_ptr, rv_one, rv_two, b_lss, b_leq, b_gtr, b_geq, b_eql, b_neq, b_add, b_sub, b_mul, b_quo, b_rem, b_shl, b_shr, b_and, b_or, b_xor, b_andNot, u_not, u_neg, nob_bool, nob_int, nob_string, nob_ptr, nob_slice, nob_map, nob_func, nob_nilf, nob_iface, nob_nili, nob_agg, nob_tuple, cok_bool, cok_int, cok_string, cok_ptr, cok_slice, cok_map, cok_func, nobot_nil, nobot_cons, onb_none, onb_some, cond_true, cond_false, abound_none, abound_int, Option.bind_some, Option.bind_none, nth, ↓nw, Value.cells, ↓BK, List.getElem?_cons_zero, List.getElem?_cons_succ, List.toList_toArray, Nat.zero_add, Nat.add_zero, List.length_cons, List.length_nil, List.length_replicate, List.length_map, List.length_set, List.all_cons, List.all_nil, setMany, List.set_cons_zero, List.set_cons_succ, List.drop_zero, List.take_zero, List.take_succ_cons, List.drop_succ_cons, List.take_nil, List.drop_nil, if_true, if_false, Bool.and_true, Bool.true_and, Nat.reduceAdd, Nat.reduceLeDiff, Nat.reduceMul, Nat.reduceMod, Nat.reduceDiv, Nat.reduceSub, Nat.reduceEqDiff, Nat.lt_irrefl, Int.reduceEq, Int.reduceLT, Int.reduceLE, Int.reduceAdd, Int.reduceSub, Int.reduceMul, Int.reduceNeg, Int.reduceToNat, and_true, true_and, Nat.le_refl, dec_t, dec_f, nxt_push, nxt_set, ro_pushk, ro_setk, next_lock, ro_lock, get_lock, get_push_self, get_push_eq, get_push_lt, get_set_self, get_set_ne, ne_eq, lt_add1, lt_add, sto, ldn, ld1, not_false_eq_true, not_true_eq_false, Bool.not_true, Bool.not_false, Bool.and_false, Bool.false_and, beq_self_eq_true, al_57, ix_54, len_54, X_EqualFunc_1, X_EqualFunc_2, X_EqualFunc_3, X_EqualFunc_4, X_EqualFunc_5, decide_true]
      refine LP_of (EqI h 0) 0 ⟨0, Nat.le_refl _, rfl, rfl, .refl _ _⟩ ?_
      rintro n vs h1 ⟨i, hi, rfl, rfl, e⟩
      have hi0 : i = 0 := by omega
      subst hi0
      simp -implicitDefEqProofs only [axt_20, axt_21, opt_some, optH_some, nb_cons, nb_nil, CD_true, CD_false, GD_tt, GD_ff, GD_tf, GD_ft, GD_un, pk_true, pk_false, nck_ptr, rv_one, rv_two, b_lss, b_leq, b_gtr, b_geq, b_eql, b_neq, b_add, b_sub, b_mul, b_quo, b_rem, b_shl, b_shr, b_and, b_or, b_xor, b_andNot, u_not, u_neg, nob_bool, nob_int, nob_string, nob_ptr, nob_slice, nob_map, nob_func, nob_nilf, nob_iface, nob_nili, nob_agg, nob_tuple, cok_bool, cok_int, cok_string, cok_ptr, cok_slice, cok_map, cok_func, nobot_nil, nobot_cons, onb_none, onb_some, cond_true, cond_false, abound_none, abound_int, Option.bind_some, Option.bind_none, nth, ↓nw, Value.cells, ↓BK, List.getElem?_cons_zero, List.getElem?_cons_succ, List.toList_toArray, Nat.zero_add, Nat.add_zero, List.length_cons, List.length_nil, List.length_replicate, List.length_map, List.length_set, List.all_cons, List.all_nil, setMany, List.set_cons_zero, List.set_cons_succ, List.drop_zero, List.take_zero, List.take_succ_cons, List.drop_succ_cons, List.take_nil, List.drop_nil, if_true, if_false, Bool.and_true, Bool.true_and, Nat.reduceAdd, Nat.reduceLeDiff, Nat.reduceMul, Nat.reduceMod, Nat.reduceDiv, Nat.reduceSub, Nat.reduceEqDiff, Nat.lt_irrefl, Int.reduceEq, Int.reduceLT, Int.reduceLE, Int.reduceAdd, Int.reduceSub, Int.reduceMul, Int.reduceNeg, Int.reduceToNat, and_true, true_and, Nat.le_refl, dec_t, dec_f, nxt_push, nxt_set, ro_pushk, ro_setk, next_lock, ro_lock, get_lock, get_push_self, get_push_eq, get_push_lt, get_set_self, get_set_ne, ne_eq, lt_add1, lt_add, sto, ldn, ld1, not_false_eq_true, not_true_eq_false, Bool.not_true, Bool.not_false, Bool.and_false, Bool.false_and, beq_self_eq_true, al_57, ix_54, len_54, X_EqualFunc_1, X_EqualFunc_2, X_EqualFunc_3, X_EqualFunc_4, X_EqualFunc_5]
      exact e
    · simp -implicitDefEqProofs only [axt_20, axt_21, opt_some, optH_some, nb_cons, nb_nil, CD_true, CD_false, GD_tt, GD_ff, GD_tf, GD_ft, GD_un, pk_true, pk_false, nck_ptr, rv_one, rv_two, b_lss, b_leq, b_gtr, b_geq, b_eql, b_neq, b_add, b_sub, b_mul, b_quo, b_rem, b_shl, b_shr, b_and, b_or, b_xor, b_andNot, u_not, u_neg, nob_bool, nob_int, nob_string, nob_ptr, nob_slice, nob_map, nob_func, nob_nilf, nob_iface, nob_nili, nob_agg, nob_tuple, cok_bool, cok_int, cok_string, cok_ptr, cok_slice, cok_map, cok_func, nobot_nil, nobot_cons, onb_none, onb_some, cond_true, cond_false, abound_none, abound_int, Option.bind_some, Option.bind_none, nth, ↓nw, Value.cells, ↓BK, List.getElem?_cons_zero, List.getElem?_cons_succ, List.toList_toArray, Nat.zero_add, Nat.add_zero, List.length_cons, List.length_nil, List.length_replicate, List.length_map, List.length_set, List.all_cons, List.all_nil, setMany, List.set_cons_zero, List.set_cons_succ, List.drop_zero, List.take_zero, List.take_succ_cons, List.drop_succ_cons, List.take_nil, List.drop_nil, if_true, if_false, Bool.and_true, Bool.true_and, Nat.reduceAdd, Nat.reduceLeDiff, Nat.reduceMul, Nat.reduceMod, Nat.reduceDiv, Nat.reduceSub, Nat.reduceEqDiff, Nat.lt_irrefl, Int.reduceEq, Int.reduceLT, Int.reduceLE, Int.reduceAdd, Int.reduceSub, Int.reduceMul, Int.reduceNeg, Int.reduceToNat, and_true, true_and, Nat.le_refl, dec_t, dec_f, nxt_push, nxt_set, ro_pushk, ro_setk, next_lock, ro_lock, get_lock, get_push_self, get_push_eq, get_push_lt, get_set_self, get_set_ne, ne_eq, lt_add1, lt_add, sto, ldn, ld1, not_false_eq_true, not_true_eq_false, Bool.not_true, Bool.not_false, Bool.and_false, Bool.false_and, beq_self_eq_true, al_57, ix_54, len_54, X_EqualFunc_1, X_EqualFunc_2, X_EqualFunc_3, X_EqualFunc_4, X_EqualFunc_5, decide_true]
      refine LP_of (EqI h M.length) M.length ⟨0, Nat.zero_le _, rfl, rfl, .refl _ _⟩ ?_
      rintro n vs h1 ⟨i, hi, rfl, rfl, e⟩
      have x1 := x.keep (fun b hb => e.get b (fun q => q) hb) e.next
      have y1 := y.keep (fun b hb => e.get b (fun q => q) hb) e.next
      have g1 : h1.get bb = some (.cells (p1.map fun p => .pointer (some ⟨p, 0, none⟩)) 57) := by rw [e.get bb (fun q => q) lb]; exact hbb
      have g2 : h1.get b' = some (.cells (p2.map fun p => .pointer (some ⟨p, 0, none⟩)) 57) := by rw [e.get b' (fun q => q) lb']; exact hbb'
      by_cases hlt : i < M.length
      · have hki : (i : Int) < (M.length : Int) := by omega
        obtain ⟨p, hp⟩ : ∃ p, p1[i]? = some p := ⟨_, List.getElem?_eq_getElem (by rw [x.len]; exact hlt)⟩
        obtain ⟨q, hq⟩ : ∃ q, p2[i]? = some q := ⟨_, List.getElem?_eq_getElem (by rw [y.len]; exact hlt)⟩
        obtain ⟨B, hB⟩ : ∃ B, M[i]? = some B := ⟨_, List.getElem?_eq_getElem hlt⟩
        have hpp := get_ptr hp
        have hqq := get_ptr hq
        have hc1 : 0 ≤ (i : Int) ∧ (i : Int) < (M.length : Int) := by omega
        have hw : IntKind.wrap .i64 ((i : Int) + 1) = ((i + 1 : Nat) : Int) := by rw [w64 (by omega) (by omega)]; omega
        simp -implicitDefEqProofs only [axt_20, axt_21, opt_some, optH_some, nb_cons, nb_nil, CD_true, CD_false, GD_tt, GD_ff, GD_tf, GD_ft, GD_un, pk_true, pk_false, nck_ptr, rv_one, rv_two, b_lss, b_leq, b_gtr, b_geq, b_eql, b_neq, b_add, b_sub, b_mul, b_quo, b_rem, b_shl, b_shr, b_and, b_or, b_xor, b_andNot, u_not, u_neg, nob_bool, nob_int, nob_string, nob_ptr, nob_slice, nob_map, nob_func, nob_nilf, nob_iface, nob_nili, nob_agg, nob_tuple, cok_bool, cok_int, cok_string, cok_ptr, cok_slice, cok_map, cok_func, nobot_nil, nobot_cons, onb_none, onb_some, cond_true, cond_false, abound_none, abound_int, Option.bind_some, Option.bind_none, nth, ↓nw, Value.cells, ↓BK, List.getElem?_cons_zero, List.getElem?_cons_succ, List.toList_toArray, Nat.zero_add, Nat.add_zero, List.length_cons, List.length_nil, List.length_replicate, List.length_map, List.length_set, List.all_cons, List.all_nil, setMany, List.set_cons_zero, List.set_cons_succ, List.drop_zero, List.take_zero, List.take_succ_cons, List.drop_succ_cons, List.take_nil, List.drop_nil, if_true, if_false, Bool.and_true, Bool.true_and, Nat.reduceAdd, Nat.reduceLeDiff, Nat.reduceMul, Nat.reduceMod, Nat.reduceDiv, Nat.reduceSub, Nat.reduceEqDiff, Nat.lt_irrefl, Int.reduceEq, Int.reduceLT, Int.reduceLE, Int.reduceAdd, Int.reduceSub, Int.reduceMul, Int.reduceNeg, Int.reduceToNat, and_true, true_and, Nat.le_refl, dec_t, dec_f, nxt_push, nxt_set, ro_pushk, ro_setk, next_lock, ro_lock, get_lock, get_push_self, get_push_eq, get_push_lt, get_set_self, get_set_ne, ne_eq, lt_add1, lt_add, sto, ldn, ld1, not_false_eq_true, not_true_eq_false, Bool.not_true, Bool.not_false, Bool.and_false, Bool.false_and, beq_self_eq_true, al_57, ix_54, len_54, X_EqualFunc_1, X_EqualFunc_2, X_EqualFunc_3, X_EqualFunc_4, X_EqualFunc_5, hki, hc1, g1, g2, Int.toNat_natCast, Nat.mul_one, hpp, hqq]
        refine callV_of (by kernel_rfl) rfl (same1_ok (x1.blk i p B hp hB) (y1.blk i q B hq hB) (x1.lt i) (y1.lt i) (sm i B hB)) ?_
        rintro v h2 ⟨rfl, e2⟩
        simp -implicitDefEqProofs only [axt_20, axt_21, opt_some, optH_some, nb_cons, nb_nil, CD_true, CD_false, GD_tt, GD_ff, GD_tf, GD_ft, GD_un, pk_true, pk_false, nck_ptr, rv_one, rv_two, b_lss, b_leq, b_gtr, b_geq, b_eql, b_neq, b_add, b_sub, b_mul, b_quo, b_rem, b_shl, b_shr, b_and, b_or, b_xor, b_andNot, u_not, u_neg, nob_bool, nob_int, nob_string, nob_ptr, nob_slice, nob_map, nob_func, nob_nilf, nob_iface, nob_nili, nob_agg, nob_tuple, cok_bool, cok_int, cok_string, cok_ptr, cok_slice, cok_map, cok_func, nobot_nil, nobot_cons, onb_none, onb_some, cond_true, cond_false, abound_none, abound_int, Option.bind_some, Option.bind_none, nth, ↓nw, Value.cells, ↓BK, List.getElem?_cons_zero, List.getElem?_cons_succ, List.toList_toArray, Nat.zero_add, Nat.add_zero, List.length_cons, List.length_nil, List.length_replicate, List.length_map, List.length_set, List.all_cons, List.all_nil, setMany, List.set_cons_zero, List.set_cons_succ, List.drop_zero, List.take_zero, List.take_succ_cons, List.drop_succ_cons, List.take_nil, List.drop_nil, if_true, if_false, Bool.and_true, Bool.true_and, Nat.reduceAdd, Nat.reduceLeDiff, Nat.reduceMul, Nat.reduceMod, Nat.reduceDiv, Nat.reduceSub, Nat.reduceEqDiff, Nat.lt_irrefl, Int.reduceEq, Int.reduceLT, Int.reduceLE, Int.reduceAdd, Int.reduceSub, Int.reduceMul, Int.reduceNeg, Int.reduceToNat, and_true, true_and, Nat.le_refl, dec_t, dec_f, nxt_push, nxt_set, ro_pushk, ro_setk, next_lock, ro_lock, get_lock, get_push_self, get_push_eq, get_push_lt, get_set_self, get_set_ne, ne_eq, lt_add1, lt_add, sto, ldn, ld1, not_false_eq_true, not_true_eq_false, Bool.not_true, Bool.not_false, Bool.and_false, Bool.false_and, beq_self_eq_true, al_57, ix_54, len_54, X_EqualFunc_1, X_EqualFunc_2, X_EqualFunc_3, X_EqualFunc_4, X_EqualFunc_5, hw]
        exact ⟨M.length - (i + 1), by omega, i + 1, by omega, rfl, rfl, e.trans e2⟩
      · have hki : ¬ (i : Int) < (M.length : Int) := by omega
        simp -implicitDefEqProofs only [axt_20, axt_21, opt_some, optH_some, nb_cons, nb_nil, CD_true, CD_false, GD_tt, GD_ff, GD_tf, GD_ft, GD_un, pk_true, pk_false, nck_ptr, rv_one, rv_two, b_lss, b_leq, b_gtr, b_geq, b_eql, b_neq, b_add, b_sub, b_mul, b_quo, b_rem, b_shl, b_shr, b_and, b_or, b_xor, b_andNot, u_not, u_neg, nob_bool, nob_int, nob_string, nob_ptr, nob_slice, nob_map, nob_func, nob_nilf, nob_iface, nob_nili, nob_agg, nob_tuple, cok_bool, cok_int, cok_string, cok_ptr, cok_slice, cok_map, cok_func, nobot_nil, nobot_cons, onb_none, onb_some, cond_true, cond_false, abound_none, abound_int, Option.bind_some, Option.bind_none, nth, ↓nw, Value.cells, ↓BK, List.getElem?_cons_zero, List.getElem?_cons_succ, List.toList_toArray, Nat.zero_add, Nat.add_zero, List.length_cons, List.length_nil, List.length_replicate, List.length_map, List.length_set, List.all_cons, List.all_nil, setMany, List.set_cons_zero, List.set_cons_succ, List.drop_zero, List.take_zero, List.take_succ_cons, List.drop_succ_cons, List.take_nil, List.drop_nil, if_true, if_false, Bool.and_true, Bool.true_and, Nat.reduceAdd, Nat.reduceLeDiff, Nat.reduceMul, Nat.reduceMod, Nat.reduceDiv, Nat.reduceSub, Nat.reduceEqDiff, Nat.lt_irrefl, Int.reduceEq, Int.reduceLT, Int.reduceLE, Int.reduceAdd, Int.reduceSub, Int.reduceMul, Int.reduceNeg, Int.reduceToNat, and_true, true_and, Nat.le_refl, dec_t, dec_f, nxt_push, nxt_set, ro_pushk, ro_setk, next_lock, ro_lock, get_lock, get_push_self, get_push_eq, get_push_lt, get_set_self, get_set_ne, ne_eq, lt_add1, lt_add, sto, ldn, ld1, not_false_eq_true, not_true_eq_false, Bool.not_true, Bool.not_false, Bool.and_false, Bool.false_and, beq_self_eq_true, al_57, ix_54, len_54, X_EqualFunc_1, X_EqualFunc_2, X_EqualFunc_3, X_EqualFunc_4, X_EqualFunc_5, hki]
        exact e
theorem sames_ok {h : AHeap} {m1 m2 : Nat} {M : MM} {F G : Nat → Prop} (x : MemH h m1 M F) (y : MemH h m2 M G) (sm : small M) (hL : M.length ≤ 100000) :
    DC Try.prog 23 [.pointer (some ⟨m1, 0, none⟩), .pointer (some ⟨m2, 0, none⟩)] h (fun v h1 => v = .bool true ∧ h1 = h) := by
  obtain ⟨b1, p1, f1, x⟩ := x
  obtain ⟨b2, p2, f2, y⟩ := y
  apply X_Same_ok
  unfold X_Same
  have hx := x.hm
  have hy := y.hm
  have hq : Quiet Try.prog 34 [b1, b2, .func (.func 35) #[] #[]] h (.bool true) :=
    Quiet.of rfl ((equalF_ok (x.read.keep (h' := h.lock) (fun b _ => get_lock h b) (Nat.le_refl _)) (y.read.keep (h' := h.lock) (fun b _ => get_lock h b) (Nat.le_refl _)) sm hL).mono (fun v h1 q => q.1))
  have n1 : isBot b1 = false := by rcases x.hb with ⟨_, rfl⟩ | ⟨_, _, rfl, _⟩ <;> rfl
  have n2 : isBot b2 = false := by rcases y.hb with ⟨_, rfl⟩ | ⟨_, _, rfl, _⟩ <;> rfl
  simp -implicitDefEqProofs only [axt_20, axt_21, opt_some, optH_some, nb_cons, nb_nil, CD_true, CD_false, GD_tt, GD_ff, GD_tf, GD_ft, GD_un, pk_true, pk_false, nck_ptr, rv_one, rv_two, b_lss, b_leq, b_gtr, b_geq, b_eql, b_neq, b_add, b_sub, b_mul, b_quo, b_rem, b_shl, b_shr, b_and, b_or, b_xor, b_andNot, u_not, u_neg, nob_bool, nob_int, nob_string, nob_ptr, nob_slice, nob_map, nob_func, nob_nilf, nob_iface, nob_nili, nob_agg, nob_tuple, cok_bool, cok_int, cok_string, cok_ptr, cok_slice, cok_map, cok_func, nobot_nil, nobot_cons, onb_none, onb_some, cond_true, cond_false, abound_none, abound_int, Option.bind_some, Option.bind_none, nth, ↓nw, Value.cells, ↓BK, List.getElem?_cons_zero, List.getElem?_cons_succ, List.toList_toArray, Nat.zero_add, Nat.add_zero, List.length_cons, List.length_nil, List.length_replicate, List.length_map, List.length_set, List.all_cons, List.all_nil, setMany, List.set_cons_zero, List.set_cons_succ, List.drop_zero, List.take_zero, List.take_succ_cons, List.drop_succ_cons, List.take_nil, List.drop_nil, if_true, if_false, Bool.and_true, Bool.true_and, Nat.reduceAdd, Nat.reduceLeDiff, Nat.reduceMul, Nat.reduceMod, Nat.reduceDiv, Nat.reduceSub, Nat.reduceEqDiff, Nat.lt_irrefl, Int.reduceEq, Int.reduceLT, Int.reduceLE, Int.reduceAdd, Int.reduceSub, Int.reduceMul, Int.reduceNeg, Int.reduceToNat, and_true, true_and, Nat.le_refl, dec_t, dec_f, nxt_push, nxt_set, ro_pushk, ro_setk, next_lock, ro_lock, get_lock, get_push_self, get_push_eq, get_push_lt, get_set_self, get_set_ne, ne_eq, lt_add1, lt_add, sto, ldn, ld1, not_false_eq_true, not_true_eq_false, Bool.not_true, Bool.not_false, Bool.and_false, Bool.false_and, beq_self_eq_true, al_54, fa_56_0, hx, hy]
  refine callQ_q (by kernel_rfl) (by simp only [nobot_cons n1, nobot_cons n2]; rfl) hq ?_
  simp -implicitDefEqProofs only [axt_20, axt_21, opt_some, optH_some, nb_cons, nb_nil, CD_true, CD_false, GD_tt, GD_ff, GD_tf, GD_ft, GD_un, pk_true, pk_false, nck_ptr, rv_one, rv_two, b_lss, b_leq, b_gtr, b_geq, b_eql, b_neq, b_add, b_sub, b_mul, b_quo, b_rem, b_shl, b_shr, b_and, b_or, b_xor, b_andNot, u_not, u_neg, nob_bool, nob_int, nob_string, nob_ptr, nob_slice, nob_map, nob_func, nob_nilf, nob_iface, nob_nili, nob_agg, nob_tuple, cok_bool, cok_int, cok_string, cok_ptr, cok_slice, cok_map, cok_func, nobot_nil, nobot_cons, onb_none, onb_some, cond_true, cond_false, abound_none, abound_int, Option.bind_some, Option.bind_none, nth, ↓nw, Value.cells, ↓BK, List.getElem?_cons_zero, List.getElem?_cons_succ, List.toList_toArray, Nat.zero_add, Nat.add_zero, List.length_cons, List.length_nil, List.length_replicate, List.length_map, List.length_set, List.all_cons, List.all_nil, setMany, List.set_cons_zero, List.set_cons_succ, List.drop_zero, List.take_zero, List.take_succ_cons, List.drop_succ_cons, List.take_nil, List.drop_nil, if_true, if_false, Bool.and_true, Bool.true_and, Nat.reduceAdd, Nat.reduceLeDiff, Nat.reduceMul, Nat.reduceMod, Nat.reduceDiv, Nat.reduceSub, Nat.reduceEqDiff, Nat.lt_irrefl, Int.reduceEq, Int.reduceLT, Int.reduceLE, Int.reduceAdd, Int.reduceSub, Int.reduceMul, Int.reduceNeg, Int.reduceToNat, and_true, true_and, Nat.le_refl, dec_t, dec_f, nxt_push, nxt_set, ro_pushk, ro_setk, next_lock, ro_lock, get_lock, get_push_self, get_push_eq, get_push_lt, get_set_self, get_set_ne, ne_eq, lt_add1, lt_add, sto, ldn, ld1, not_false_eq_true, not_true_eq_false, Bool.not_true, Bool.not_false, Bool.and_false, Bool.false_and, beq_self_eq_true, al_54, fa_56_0]
end Go.Mem
