/-
  MEMORY: calls played.
-/
import Derived.Test.YtpilbfkinpbnoaaMemP
import Derived.Test.YtpilbfkinpbnoaaMemQ4
namespace Go.Mem
open Go.Ai Go.Proofs
set_option linter.unusedVariables false
set_option linter.unusedSimpArgs false
def freeD (M : MM) (n : Int) : MM := (freeM M n).getD M
def zeroD (M : MM) (n : Int) : MM := (zeroM M n).getD M
def storeD (M : MM) (c : Int) (p v : V) : MM := (storeM M c p v).getD M
section
variable {h : AHeap} {m : Nat} {M : MM} {F : Nat → Prop}
theorem mut_same (x : MemH h m M F) : MutR h m M F h := ⟨F, x, .refl _ _, fun b hb => .inl hb⟩
theorem alloc_any (x : MemH h m M F) (n : Int) : DC Try.prog 9 [.pointer (some ⟨m, 0, none⟩), .int .i64 n] h (fun r h1 => (∃ a b, r = .tuple #[.int .i64 a, .int .i64 b]) ∧ MutR h m (allocM M n).1 F h1) := by
  obtain ⟨bs, ps, fs, x⟩ := x
  exact (alloc_ok x n).mono (fun r h1 q => ⟨⟨_, _, q.1⟩, q.2⟩)
theorem free_any (x : MemH h m M F) (hL : M.length ≤ 100000) {n : Int} (hn : in64 n) : DC Try.prog 16 [.pointer (some ⟨m, 0, none⟩), .int .i64 n] h (fun r h1 => MutR h m (freeD M n) F h1) := by
  have y := x
  obtain ⟨bs, ps, fs, x⟩ := x
  refine (free_ok x hL hn.2).mono (fun r h1 q => ?_)
  unfold FreeR at q
  unfold freeD
  cases e : freeM M n with
  | none => rw [e] at q; obtain ⟨_, rfl⟩ := q; exact mut_same y
  | some M' => rw [e] at q; exact q.2
theorem zero_any (x : MemH h m M F) (hs : small M) {n : Int} (hn : in64 n) : DC Try.prog 15 [.pointer (some ⟨m, 0, none⟩), .int .i64 n] h (fun r h1 => MutR h m (zeroD M n) F h1) := by
  have y := x
  obtain ⟨bs, ps, fs, x⟩ := x
  refine (zero_ok x hs hn.2).mono (fun r h1 q => ?_)
  unfold ZeroR at q
  unfold zeroD
  cases e : zeroM M n with
  | none => rw [e] at q; obtain ⟨_, rfl⟩ := q; exact mut_same y
  | some M' => rw [e] at q; exact q.2
theorem store_any2 (x : MemH h m M F) (hs : small M) {c : Int} {p v : V} (hc : in64 c) (hp : p.ok) : DC Try.prog 10 [.pointer (some ⟨m, 0, none⟩), .int .i64 c, .agg #[.int .i64 p.k, .int .i64 p.n, .int .i64 p.b], .agg #[.int .i64 v.k, .int .i64 v.n, .int .i64 v.b]] h (fun r h1 => MutR h m (storeD M c p v) F h1) := by
  unfold storeD
  cases e : storeM M c p v with
  | none => exact (show DC Try.prog 10 [.pointer (some ⟨m, 0, none⟩), .int .i64 c, .agg #[.int .i64 p.k, .int .i64 p.n, .int .i64 p.b], .agg #[.int .i64 v.k, .int .i64 v.n, .int .i64 v.b]] h _ from store_no x hs hc hp e).mono (fun r h1 q => q.2)
  | some M' => exact (store_yes x hs hc hp e).mono (fun r h1 q => q.2)
end
theorem small_free {M : MM} (hs : small M) (n : Int) : small (freeD M n) := by
  unfold freeD freeM
  cases hi : idx M n with
  | none => exact hs
  | some i =>
    obtain ⟨_, B, hB, _⟩ := idx_some hi
    simp only [Option.bind_some, hB, Option.map_some, Option.getD_some]
    exact small_set hs (hs i B hB)
theorem small_zero {M : MM} (hs : small M) (n : Int) : small (zeroD M n) := by
  unfold zeroD zeroM
  cases hi : idx M n with
  | none => exact hs
  | some i =>
    obtain ⟨_, B, hB, _⟩ := idx_some hi
    simp only [Option.bind_some, hB, Option.map_some, Option.getD_some]
    exact small_set hs (hs i B hB)
theorem small_storeD {M : MM} (hs : small M) (c : Int) (p v : V) : small (storeD M c p v) := by
  unfold storeD
  cases e : storeM M c p v with
  | none => exact hs
  | some M' => exact small_store hs e
theorem len_free (M : MM) (n : Int) : (freeD M n).length = M.length := by
  unfold freeD freeM
  cases hi : idx M n with
  | none => rfl
  | some i =>
    obtain ⟨_, B, hB, _⟩ := idx_some hi
    simp [hB]
theorem len_zero (M : MM) (n : Int) : (zeroD M n).length = M.length := by
  unfold zeroD zeroM
  cases hi : idx M n with
  | none => rfl
  | some i =>
    obtain ⟨_, B, hB, _⟩ := idx_some hi
    simp [hB]
theorem len_storeD (M : MM) (c : Int) (p v : V) : (storeD M c p v).length = M.length := by
  unfold storeD
  cases e : storeM M c p v with
  | none => rfl
  | some M' =>
    obtain ⟨i, B, _, hB, rfl, _⟩ := storeM_some e
    simp
theorem small_alloc {M : MM} (hs : small M) (n : Int) : small (allocM M n).1 := by
  unfold allocM
  split
  · exact hs
  · split
    · exact hs
    · exact small_app hs (show n.toNat < _ by omega)
theorem len_alloc (M : MM) (n : Int) : (allocM M n).1.length ≤ M.length + 1 := by
  unfold allocM
  split
  · simp
  · split
    · simp
    · simp
def playA (M : MM) (a : Act) : MM := if a.op = 0 then (if a.n ≤ 4096 then (allocM M a.n).1 else M) else if a.op = 1 then freeD M a.n else if a.op = 3 then storeD M a.c a.p a.v else if a.op = 4 then zeroD M a.n else M
theorem small_play {M : MM} (hs : small M) (a : Act) : small (playA M a) := by
  unfold playA
  split
  · split
    · exact small_alloc hs _
    · exact hs
  · split
    · exact small_free hs _
    · split
      · exact small_storeD hs _ _ _
      · split
        · exact small_zero hs _
        · exact hs
theorem len_play (M : MM) (a : Act) : (playA M a).length ≤ M.length + 1 := by
  unfold playA
  split
  · split
    · exact len_alloc _ _
    · omega
  · split
    · rw [len_free]; omega
    · split
      · rw [len_storeD]; omega
      · split
        · rw [len_zero]; omega
        · omega
def playL : List Act → MM → MM
  | [], M => M
  | a :: l, M => playL l (playA M a)
theorem playL_take {zs : List Act} {i : Nat} {z : Act} (h : zs[i]? = some z) (M : MM) : playL (zs.take (i + 1)) M = playA (playL (zs.take i) M) z := by
  induction zs generalizing i M with
  | nil => cases h
  | cons a zs ih =>
    cases i with
    | zero => simp at h; subst h; rfl
    | succ i => simp at h; simp only [List.take_succ_cons, playL]; exact ih h _
theorem small_playL (l : List Act) : ∀ {M : MM}, small M → small (playL l M) := by
  induction l with
  | nil => exact fun h => h
  | cons a l ih => exact fun h => ih (small_play h a)
theorem len_playL (l : List Act) : ∀ (M : MM), (playL l M).length ≤ M.length + l.length := by
  induction l with
  | nil => intro M; exact Nat.le_refl _
  | cons a l ih => intro M; have := ih (playA M a); have := len_play M a; simp only [playL, List.length_cons]; omega
theorem small_nil : small [] := fun i B h => by cases h
theorem SliceA.eff {h h' : AHeap} {sv : Value} {zs : List Act} (S : SliceA h sv zs) (e : Eff nof h h') : SliceA h' sv zs := by
  rcases S with a | ⟨b, off, rfl, hc⟩
  · exact .inl a
  · refine .inr ⟨b, off, rfl, fun hz => ?_⟩
    obtain ⟨c, t, hb, hg, hat⟩ := hc hz
    exact ⟨c, t, by have := e.next; omega, by rw [e.get b (fun q => q) hb]; exact hg, hat⟩
end Go.Mem
namespace Go.Mem
open Go.Ai Go.Proofs
set_option linter.unusedVariables false
set_option linter.unusedSimpArgs false
theorem az32 : azero Try.prog 32 = some (.agg #[.int .i64 0, .int .i64 0, .int .i64 0, .int .i64 0, .int .i64 0, .int .i64 0, .int .i64 0, .int .i64 0, .int .i64 0]) := keep (by kernel_rfl)
/-- A memory, and the document's own, side by side. -/
structure Two (h g : AHeap) (m : Nat) (M : MM) (w N : Nat) (F G : Nat → Prop) : Prop where
  mem : MemH g m M F
  ref : RefH g w N G
  dis : ∀ b, F b → ¬ G b
  low : ∀ b, F b ∨ G b → h.next ≤ b
  eff : Eff nof h g
theorem MemH.lt {g : AHeap} {m : Nat} {M : MM} {F : Nat → Prop} (x : MemH g m M F) {b : Nat} (hb : F b) : b < g.next := by
  obtain ⟨_, _, _, y⟩ := x; exact (y.ok b hb).2
theorem RefH.lt {g : AHeap} {w N : Nat} {G : Nat → Prop} (x : RefH g w N G) {b : Nat} (hb : G b) : b < g.next := by
  obtain ⟨_, _, _, y⟩ := x; exact (y.ok b hb).2
theorem RefH.up {g : AHeap} {w N N' : Nat} {G : Nat → Prop} (x : RefH g w N G) (hN : N ≤ N') : RefH g w N' G := by
  obtain ⟨_, _, _, y⟩ := x; exact ⟨_, _, _, y.up hN⟩
section
variable {h g g1 : AHeap} {m w N : Nat} {M M' : MM} {F G : Nat → Prop}
theorem Two.effn (x : Two h g m M w N F G) (e : Eff nof g g1) : Two h g1 m M w N F G := ⟨x.mem.effn e, x.ref.effn e, x.dis, x.low, x.eff.trans e⟩
theorem Two.up (x : Two h g m M w N F G) : Two h g m M w (N + 1) F G := ⟨x.mem, x.ref.up (Nat.le_succ _), x.dis, x.low, x.eff⟩
theorem Two.mut (x : Two h g m M w N F G) (y : MutR g m M' F g1) : ∃ F', Two h g1 m M' w N F' G ∧ Eff F g g1 := by
  obtain ⟨F', z, e, s⟩ := y
  have n1 := x.eff.next
  refine ⟨F', ⟨z, x.ref.eff e (fun b hG hF => x.dis b hF hG), fun b hb hG => ?_, fun b hb => ?_, x.eff.more e (fun b hb => .inr (x.low b (.inl hb)))⟩, e⟩
  · rcases s b hb with q | q
    · exact x.dis b q hG
    · have := x.ref.lt hG; omega
  · rcases hb with hb | hb
    · rcases s b hb with q | q
      · exact x.low b (.inl q)
      · omega
    · exact x.low b (.inr hb)
theorem Two.rf (x : Two h g m M w N F G) (y : RefR g w N G g1) : ∃ G', Two h g1 m M w (N + 1) F G' := by
  obtain ⟨G', z, e, s⟩ := y
  have n1 := x.eff.next
  refine ⟨G', x.mem.eff e (fun b hF hG => x.dis b hF hG), z, fun b hb hG => ?_, fun b hb => ?_, x.eff.more e (fun b hb => .inr (x.low b (.inr hb)))⟩
  · rcases s b hG with q | q
    · exact x.dis b hb q
    · have := x.mem.lt hb; omega
  · rcases hb with hb | hb
    · exact x.low b (.inl hb)
    · rcases s b hb with q | q
      · exact x.low b (.inr q)
      · omega
end
def PlI (h : AHeap) (m w : Nat) (zs : List Act) (n : Nat) (vs : List Value) (h' : AHeap) : Prop :=
  ∃ i F G, i ≤ zs.length ∧ n = zs.length - i ∧ vs = [.int .i64 i] ∧ Two h h' m (playL (zs.take i) []) w i F G
theorem played_ok {h : AHeap} {sv : Value} {zs : List Act} (S : SliceA h sv zs) (hl : zs.length ≤ 40) :
    DC Try.prog 21 [sv] h (fun v h1 => ∃ m w F, v = .tuple #[.pointer (some ⟨m, 0, none⟩), .pointer (some ⟨w, 0, none⟩)] ∧ MemH h1 m (playL zs []) F ∧ (∀ b, F b → h.next ≤ b) ∧ Eff nof h h1) := by
  apply DC_wf; intro hwf; have hro := hwf.2
  apply X_played_ok
  unfold X_played
  have nbs := S.nob
  have hlen := S.len
  refine callV_of (by kernel_rfl) rfl (new_ok h) ?_
  rintro r h1 ⟨rfl, x1, e1⟩
  simp -implicitDefEqProofs only [axt_20, axt_21, opt_some, optH_some, nb_cons, nb_nil, CD_true, CD_false, GD_tt, GD_ff, GD_tf, GD_ft, GD_un, pk_true, pk_false, nck_ptr, rv_one, rv_two, b_lss, b_leq, b_gtr, b_geq, b_eql, b_neq, b_add, b_sub, b_mul, b_quo, b_rem, b_shl, b_shr, b_and, b_or, b_xor, b_andNot, u_not, u_neg, nob_bool, nob_int, nob_string, nob_ptr, nob_slice, nob_map, nob_func, nob_nilf, nob_iface, nob_nili, nob_agg, nob_tuple, cok_bool, cok_int, cok_string, cok_ptr, cok_slice, cok_map, cok_func, nobot_nil, nobot_cons, onb_none, onb_some, cond_true, cond_false, abound_none, abound_int, Option.bind_some, Option.bind_none, nth, ↓nw, Value.cells, ↓BK, List.getElem?_cons_zero, List.getElem?_cons_succ, List.toList_toArray, Nat.zero_add, Nat.add_zero, List.length_cons, List.length_nil, List.length_replicate, List.length_map, List.length_set, List.all_cons, List.all_nil, setMany, List.set_cons_zero, List.set_cons_succ, List.drop_zero, List.take_zero, List.take_succ_cons, List.drop_succ_cons, List.take_nil, List.drop_nil, if_true, if_false, Bool.and_true, Bool.true_and, Nat.reduceAdd, Nat.reduceLeDiff, Nat.reduceMul, Nat.reduceMod, Nat.reduceDiv, Nat.reduceSub, Nat.reduceEqDiff, Nat.lt_irrefl, Int.reduceEq, Int.reduceLT, Int.reduceLE, Int.reduceAdd, Int.reduceSub, Int.reduceMul, Int.reduceNeg, Int.reduceToNat, and_true, true_and, Nat.le_refl, dec_t, dec_f, nxt_push, nxt_set, ro_pushk, ro_setk, next_lock, ro_lock, get_lock, get_push_self, get_push_eq, get_push_lt, get_set_self, get_set_ne, ne_eq, lt_add1, lt_add, sto, ldn, ld1, not_false_eq_true, not_true_eq_false, Bool.not_true, Bool.not_false, Bool.and_false, Bool.false_and, beq_self_eq_true, al_24, al_3, al_32, as_32, az_32, bd_74_, fa_32_0, fa_32_1, fa_32_2, fa_32_3, fa_32_4, ix_22, len_22, X_played_1, X_played_2, X_played_3, X_played_4, X_played_5, X_played_6, X_played_7, X_played_8, X_played_9, X_played_10, X_played_11, X_played_12, X_played_13, X_played_14, X_played_15, X_played_16, X_played_17]
  generalize hH : h1.push (.cells [.slice none 0 0, .slice none 0 0] 74) = H
  have eH : Eff nof h1 H := by subst hH; exact (Eff.refl _ _).push _
  have gH : H.get h1.next = some (.cells [.slice none 0 0, .slice none 0 0] 74) := by subst hH; exact get_push_self
  have nH : H.next = h1.next + 1 := by subst hH; rfl
  clear hH
  have n1 := e1.next
  have r1 := e1.ro
  have nm : h.next < h1.next := x1.lt rfl
  have t0 : Two h H h.next [] h1.next 0 (fun b => b = h.next) (fun b => b = h1.next) := by
    refine ⟨x1.effn eH, ⟨.slice none 0 0, .slice none 0 0, [], gH, rfl, Nat.le_refl _, .inl ⟨rfl, rfl⟩, fun i r hr => by simp at hr, .inl rfl, fun b hb => ?_⟩, fun b hb hG => by omega, fun b hb => by omega, e1.trans eH⟩
    have := eH.ro
    omega
  refine LP_of (PlI h h.next h1.next zs) zs.length ⟨0, _, _, Nat.zero_le _, rfl, rfl, t0⟩ ?_
  rintro n vs g0 ⟨i, F, G, hi, rfl, rfl, T⟩
  by_cases hlt : i < zs.length
  · have hki : (i : Int) < (zs.length : Int) := by omega
    obtain ⟨z, hz⟩ : ∃ z, zs[i]? = some z := ⟨_, List.getElem?_eq_getElem hlt⟩
    obtain ⟨b, of, cs, t, ha, hld, _, ⟨l3, _, _⟩, _, _, l8⟩ := S.at hz
    obtain ⟨zn, zc, zp, zv⟩ := S.ok hz
    have hg := hld g0 T.eff
    have hw1 : IntKind.wrap .i64 ((i : Int) + 1) = ((i + 1 : Nat) : Int) := by rw [w64 (by omega) (by omega)]; omega
    have rg : g0.ro ≤ g0.next := T.mem.low
    have fin : ∀ g, (∃ F G, Two h g h.next (playA (playL (zs.take i) []) z) h1.next (i + 1) F G) → ∃ m, m < zs.length - i ∧ PlI h h.next h1.next zs m [.int .i64 ((i + 1 : Nat) : Int)] g := fun g ⟨F, G, q⟩ =>
      ⟨zs.length - (i + 1), by omega, i + 1, F, G, by omega, rfl, rfl, by rw [playL_take hz]; exact q⟩
    generalize hM : playL (zs.take i) [] = M at T fin
    have sm : small M := by rw [← hM]; exact small_playL _ small_nil
    have lM : M.length ≤ 100000 := by rw [← hM]; have := len_playL (zs.take i) []; simp at this; omega
    simp -implicitDefEqProofs only [axt_20, axt_21, opt_some, optH_some, nb_cons, nb_nil, CD_true, CD_false, GD_tt, GD_ff, GD_tf, GD_ft, GD_un, pk_true, pk_false, nck_ptr, rv_one, rv_two, b_lss, b_leq, b_gtr, b_geq, b_eql, b_neq, b_add, b_sub, b_mul, b_quo, b_rem, b_shl, b_shr, b_and, b_or, b_xor, b_andNot, u_not, u_neg, nob_bool, nob_int, nob_string, nob_ptr, nob_slice, nob_map, nob_func, nob_nilf, nob_iface, nob_nili, nob_agg, nob_tuple, cok_bool, cok_int, cok_string, cok_ptr, cok_slice, cok_map, cok_func, nobot_nil, nobot_cons, onb_none, onb_some, cond_true, cond_false, abound_none, abound_int, Option.bind_some, Option.bind_none, nth, ↓nw, Value.cells, ↓BK, List.getElem?_cons_zero, List.getElem?_cons_succ, List.toList_toArray, Nat.zero_add, Nat.add_zero, List.length_cons, List.length_nil, List.length_replicate, List.length_map, List.length_set, List.all_cons, List.all_nil, setMany, List.set_cons_zero, List.set_cons_succ, List.drop_zero, List.take_zero, List.take_succ_cons, List.drop_succ_cons, List.take_nil, List.drop_nil, if_true, if_false, Bool.and_true, Bool.true_and, Nat.reduceAdd, Nat.reduceLeDiff, Nat.reduceMul, Nat.reduceMod, Nat.reduceDiv, Nat.reduceSub, Nat.reduceEqDiff, Nat.lt_irrefl, Int.reduceEq, Int.reduceLT, Int.reduceLE, Int.reduceAdd, Int.reduceSub, Int.reduceMul, Int.reduceNeg, Int.reduceToNat, and_true, true_and, Nat.le_refl, dec_t, dec_f, nxt_push, nxt_set, ro_pushk, ro_setk, next_lock, ro_lock, get_lock, get_push_self, get_push_eq, get_push_lt, get_set_self, get_set_ne, ne_eq, lt_add1, lt_add, sto, ldn, ld1, not_false_eq_true, not_true_eq_false, Bool.not_true, Bool.not_false, Bool.and_false, Bool.false_and, beq_self_eq_true, al_24, al_3, al_32, as_32, az_32, bd_74_, fa_32_0, fa_32_1, fa_32_2, fa_32_3, fa_32_4, ix_22, len_22, X_played_1, X_played_2, X_played_3, X_played_4, X_played_5, X_played_6, X_played_7, X_played_8, X_played_9, X_played_10, X_played_11, X_played_12, X_played_13, X_played_14, X_played_15, X_played_16, X_played_17, nbs, hlen, hki, ha, hg, l3, l8, az32, rg]
    generalize hX : (g0.push (.cells [.int .i64 0, .int .i64 0, .int .i64 0, .int .i64 0, .int .i64 0, .int .i64 0, .int .i64 0, .int .i64 0, .int .i64 0] 32)).set g0.next (some (.cells [.int .i64 z.op, .int .i64 z.n, .int .i64 z.c, .int .i64 z.p.k, .int .i64 z.p.n, .int .i64 z.p.b, .int .i64 z.v.k, .int .i64 z.v.n, .int .i64 z.v.b] 32)) = X
    have eX : Eff nof g0 X := by subst hX; exact ((Eff.refl _ _).push _).set (.inr (Nat.le_refl _)) _
    have gX : X.get g0.next = some (.cells [.int .i64 z.op, .int .i64 z.n, .int .i64 z.c, .int .i64 z.p.k, .int .i64 z.p.n, .int .i64 z.p.b, .int .i64 z.v.k, .int .i64 z.v.n, .int .i64 z.v.b] 32) := by subst hX; exact get_set_self
    have nX : g0.next < X.next := by subst hX; exact Nat.lt_succ_self _
    clear hX
    have TX := T.effn eX
    have nF : ¬ F g0.next := fun hf => by have := T.mem.lt hf; omega
    have hN : i ≤ 1000 := by omega
    by_cases h0 : z.op = 0
    · by_cases h4 : z.n ≤ 4096
      · simp -implicitDefEqProofs only [axt_20, axt_21, opt_some, optH_some, nb_cons, nb_nil, CD_true, CD_false, GD_tt, GD_ff, GD_tf, GD_ft, GD_un, pk_true, pk_false, nck_ptr, rv_one, rv_two, b_lss, b_leq, b_gtr, b_geq, b_eql, b_neq, b_add, b_sub, b_mul, b_quo, b_rem, b_shl, b_shr, b_and, b_or, b_xor, b_andNot, u_not, u_neg, nob_bool, nob_int, nob_string, nob_ptr, nob_slice, nob_map, nob_func, nob_nilf, nob_iface, nob_nili, nob_agg, nob_tuple, cok_bool, cok_int, cok_string, cok_ptr, cok_slice, cok_map, cok_func, nobot_nil, nobot_cons, onb_none, onb_some, cond_true, cond_false, abound_none, abound_int, Option.bind_some, Option.bind_none, nth, ↓nw, Value.cells, ↓BK, List.getElem?_cons_zero, List.getElem?_cons_succ, List.toList_toArray, Nat.zero_add, Nat.add_zero, List.length_cons, List.length_nil, List.length_replicate, List.length_map, List.length_set, List.all_cons, List.all_nil, setMany, List.set_cons_zero, List.set_cons_succ, List.drop_zero, List.take_zero, List.take_succ_cons, List.drop_succ_cons, List.take_nil, List.drop_nil, if_true, if_false, Bool.and_true, Bool.true_and, Nat.reduceAdd, Nat.reduceLeDiff, Nat.reduceMul, Nat.reduceMod, Nat.reduceDiv, Nat.reduceSub, Nat.reduceEqDiff, Nat.lt_irrefl, Int.reduceEq, Int.reduceLT, Int.reduceLE, Int.reduceAdd, Int.reduceSub, Int.reduceMul, Int.reduceNeg, Int.reduceToNat, and_true, true_and, Nat.le_refl, dec_t, dec_f, nxt_push, nxt_set, ro_pushk, ro_setk, next_lock, ro_lock, get_lock, get_push_self, get_push_eq, get_push_lt, get_set_self, get_set_ne, ne_eq, lt_add1, lt_add, sto, ldn, ld1, not_false_eq_true, not_true_eq_false, Bool.not_true, Bool.not_false, Bool.and_false, Bool.false_and, beq_self_eq_true, al_24, al_3, al_32, as_32, az_32, bd_74_, fa_32_0, fa_32_1, fa_32_2, fa_32_3, fa_32_4, ix_22, len_22, X_played_1, X_played_2, X_played_3, X_played_4, X_played_5, X_played_6, X_played_7, X_played_8, X_played_9, X_played_10, X_played_11, X_played_12, X_played_13, X_played_14, X_played_15, X_played_16, X_played_17, gX, h0, h4]
        refine callV_of (by kernel_rfl) rfl (alloc_any TX.mem z.n) ?_
        intro r g1 mu0
        obtain ⟨F', T1, ef⟩ := TX.mut mu0.2
        have g1b := (ef.get _ nF nX).trans gX
        simp -implicitDefEqProofs only [axt_20, axt_21, opt_some, optH_some, nb_cons, nb_nil, CD_true, CD_false, GD_tt, GD_ff, GD_tf, GD_ft, GD_un, pk_true, pk_false, nck_ptr, rv_one, rv_two, b_lss, b_leq, b_gtr, b_geq, b_eql, b_neq, b_add, b_sub, b_mul, b_quo, b_rem, b_shl, b_shr, b_and, b_or, b_xor, b_andNot, u_not, u_neg, nob_bool, nob_int, nob_string, nob_ptr, nob_slice, nob_map, nob_func, nob_nilf, nob_iface, nob_nili, nob_agg, nob_tuple, cok_bool, cok_int, cok_string, cok_ptr, cok_slice, cok_map, cok_func, nobot_nil, nobot_cons, onb_none, onb_some, cond_true, cond_false, abound_none, abound_int, Option.bind_some, Option.bind_none, nth, ↓nw, Value.cells, ↓BK, List.getElem?_cons_zero, List.getElem?_cons_succ, List.toList_toArray, Nat.zero_add, Nat.add_zero, List.length_cons, List.length_nil, List.length_replicate, List.length_map, List.length_set, List.all_cons, List.all_nil, setMany, List.set_cons_zero, List.set_cons_succ, List.drop_zero, List.take_zero, List.take_succ_cons, List.drop_succ_cons, List.take_nil, List.drop_nil, if_true, if_false, Bool.and_true, Bool.true_and, Nat.reduceAdd, Nat.reduceLeDiff, Nat.reduceMul, Nat.reduceMod, Nat.reduceDiv, Nat.reduceSub, Nat.reduceEqDiff, Nat.lt_irrefl, Int.reduceEq, Int.reduceLT, Int.reduceLE, Int.reduceAdd, Int.reduceSub, Int.reduceMul, Int.reduceNeg, Int.reduceToNat, and_true, true_and, Nat.le_refl, dec_t, dec_f, nxt_push, nxt_set, ro_pushk, ro_setk, next_lock, ro_lock, get_lock, get_push_self, get_push_eq, get_push_lt, get_set_self, get_set_ne, ne_eq, lt_add1, lt_add, sto, ldn, ld1, not_false_eq_true, not_true_eq_false, Bool.not_true, Bool.not_false, Bool.and_false, Bool.false_and, beq_self_eq_true, al_24, al_3, al_32, as_32, az_32, bd_74_, fa_32_0, fa_32_1, fa_32_2, fa_32_3, fa_32_4, ix_22, len_22, X_played_1, X_played_2, X_played_3, X_played_4, X_played_5, X_played_6, X_played_7, X_played_8, X_played_9, X_played_10, X_played_11, X_played_12, X_played_13, X_played_14, X_played_15, X_played_16, X_played_17, g1b]
        obtain ⟨ls, pv, rs, y⟩ := T1.ref
        refine callV_of (by kernel_rfl) rfl (refAlloc_ok y hN (n := z.n)) ?_
        intro r2 g2 rf
        obtain ⟨G', T2⟩ := T1.rf rf
        simp -implicitDefEqProofs only [axt_20, axt_21, opt_some, optH_some, nb_cons, nb_nil, CD_true, CD_false, GD_tt, GD_ff, GD_tf, GD_ft, GD_un, pk_true, pk_false, nck_ptr, rv_one, rv_two, b_lss, b_leq, b_gtr, b_geq, b_eql, b_neq, b_add, b_sub, b_mul, b_quo, b_rem, b_shl, b_shr, b_and, b_or, b_xor, b_andNot, u_not, u_neg, nob_bool, nob_int, nob_string, nob_ptr, nob_slice, nob_map, nob_func, nob_nilf, nob_iface, nob_nili, nob_agg, nob_tuple, cok_bool, cok_int, cok_string, cok_ptr, cok_slice, cok_map, cok_func, nobot_nil, nobot_cons, onb_none, onb_some, cond_true, cond_false, abound_none, abound_int, Option.bind_some, Option.bind_none, nth, ↓nw, Value.cells, ↓BK, List.getElem?_cons_zero, List.getElem?_cons_succ, List.toList_toArray, Nat.zero_add, Nat.add_zero, List.length_cons, List.length_nil, List.length_replicate, List.length_map, List.length_set, List.all_cons, List.all_nil, setMany, List.set_cons_zero, List.set_cons_succ, List.drop_zero, List.take_zero, List.take_succ_cons, List.drop_succ_cons, List.take_nil, List.drop_nil, if_true, if_false, Bool.and_true, Bool.true_and, Nat.reduceAdd, Nat.reduceLeDiff, Nat.reduceMul, Nat.reduceMod, Nat.reduceDiv, Nat.reduceSub, Nat.reduceEqDiff, Nat.lt_irrefl, Int.reduceEq, Int.reduceLT, Int.reduceLE, Int.reduceAdd, Int.reduceSub, Int.reduceMul, Int.reduceNeg, Int.reduceToNat, and_true, true_and, Nat.le_refl, dec_t, dec_f, nxt_push, nxt_set, ro_pushk, ro_setk, next_lock, ro_lock, get_lock, get_push_self, get_push_eq, get_push_lt, get_set_self, get_set_ne, ne_eq, lt_add1, lt_add, sto, ldn, ld1, not_false_eq_true, not_true_eq_false, Bool.not_true, Bool.not_false, Bool.and_false, Bool.false_and, beq_self_eq_true, al_24, al_3, al_32, as_32, az_32, bd_74_, fa_32_0, fa_32_1, fa_32_2, fa_32_3, fa_32_4, ix_22, len_22, X_played_1, X_played_2, X_played_3, X_played_4, X_played_5, X_played_6, X_played_7, X_played_8, X_played_9, X_played_10, X_played_11, X_played_12, X_played_13, X_played_14, X_played_15, X_played_16, X_played_17, hw1]
        refine fin g2 ⟨F', G', ?_⟩
        unfold playA
        simp only [h0, h4, if_true, if_false, Int.reduceEq]
        exact T2
      · simp -implicitDefEqProofs only [axt_20, axt_21, opt_some, optH_some, nb_cons, nb_nil, CD_true, CD_false, GD_tt, GD_ff, GD_tf, GD_ft, GD_un, pk_true, pk_false, nck_ptr, rv_one, rv_two, b_lss, b_leq, b_gtr, b_geq, b_eql, b_neq, b_add, b_sub, b_mul, b_quo, b_rem, b_shl, b_shr, b_and, b_or, b_xor, b_andNot, u_not, u_neg, nob_bool, nob_int, nob_string, nob_ptr, nob_slice, nob_map, nob_func, nob_nilf, nob_iface, nob_nili, nob_agg, nob_tuple, cok_bool, cok_int, cok_string, cok_ptr, cok_slice, cok_map, cok_func, nobot_nil, nobot_cons, onb_none, onb_some, cond_true, cond_false, abound_none, abound_int, Option.bind_some, Option.bind_none, nth, ↓nw, Value.cells, ↓BK, List.getElem?_cons_zero, List.getElem?_cons_succ, List.toList_toArray, Nat.zero_add, Nat.add_zero, List.length_cons, List.length_nil, List.length_replicate, List.length_map, List.length_set, List.all_cons, List.all_nil, setMany, List.set_cons_zero, List.set_cons_succ, List.drop_zero, List.take_zero, List.take_succ_cons, List.drop_succ_cons, List.take_nil, List.drop_nil, if_true, if_false, Bool.and_true, Bool.true_and, Nat.reduceAdd, Nat.reduceLeDiff, Nat.reduceMul, Nat.reduceMod, Nat.reduceDiv, Nat.reduceSub, Nat.reduceEqDiff, Nat.lt_irrefl, Int.reduceEq, Int.reduceLT, Int.reduceLE, Int.reduceAdd, Int.reduceSub, Int.reduceMul, Int.reduceNeg, Int.reduceToNat, and_true, true_and, Nat.le_refl, dec_t, dec_f, nxt_push, nxt_set, ro_pushk, ro_setk, next_lock, ro_lock, get_lock, get_push_self, get_push_eq, get_push_lt, get_set_self, get_set_ne, ne_eq, lt_add1, lt_add, sto, ldn, ld1, not_false_eq_true, not_true_eq_false, Bool.not_true, Bool.not_false, Bool.and_false, Bool.false_and, beq_self_eq_true, al_24, al_3, al_32, as_32, az_32, bd_74_, fa_32_0, fa_32_1, fa_32_2, fa_32_3, fa_32_4, ix_22, len_22, X_played_1, X_played_2, X_played_3, X_played_4, X_played_5, X_played_6, X_played_7, X_played_8, X_played_9, X_played_10, X_played_11, X_played_12, X_played_13, X_played_14, X_played_15, X_played_16, X_played_17, gX, h0, h4, hw1]
        refine fin X ⟨F, G, ?_⟩
        unfold playA
        simp only [h0, h4, if_true, if_false, Int.reduceEq]
        exact TX.up
    by_cases h1' : z.op = 1
    · simp -implicitDefEqProofs only [axt_20, axt_21, opt_some, optH_some, nb_cons, nb_nil, CD_true, CD_false, GD_tt, GD_ff, GD_tf, GD_ft, GD_un, pk_true, pk_false, nck_ptr, rv_one, rv_two, b_lss, b_leq, b_gtr, b_geq, b_eql, b_neq, b_add, b_sub, b_mul, b_quo, b_rem, b_shl, b_shr, b_and, b_or, b_xor, b_andNot, u_not, u_neg, nob_bool, nob_int, nob_string, nob_ptr, nob_slice, nob_map, nob_func, nob_nilf, nob_iface, nob_nili, nob_agg, nob_tuple, cok_bool, cok_int, cok_string, cok_ptr, cok_slice, cok_map, cok_func, nobot_nil, nobot_cons, onb_none, onb_some, cond_true, cond_false, abound_none, abound_int, Option.bind_some, Option.bind_none, nth, ↓nw, Value.cells, ↓BK, List.getElem?_cons_zero, List.getElem?_cons_succ, List.toList_toArray, Nat.zero_add, Nat.add_zero, List.length_cons, List.length_nil, List.length_replicate, List.length_map, List.length_set, List.all_cons, List.all_nil, setMany, List.set_cons_zero, List.set_cons_succ, List.drop_zero, List.take_zero, List.take_succ_cons, List.drop_succ_cons, List.take_nil, List.drop_nil, if_true, if_false, Bool.and_true, Bool.true_and, Nat.reduceAdd, Nat.reduceLeDiff, Nat.reduceMul, Nat.reduceMod, Nat.reduceDiv, Nat.reduceSub, Nat.reduceEqDiff, Nat.lt_irrefl, Int.reduceEq, Int.reduceLT, Int.reduceLE, Int.reduceAdd, Int.reduceSub, Int.reduceMul, Int.reduceNeg, Int.reduceToNat, and_true, true_and, Nat.le_refl, dec_t, dec_f, nxt_push, nxt_set, ro_pushk, ro_setk, next_lock, ro_lock, get_lock, get_push_self, get_push_eq, get_push_lt, get_set_self, get_set_ne, ne_eq, lt_add1, lt_add, sto, ldn, ld1, not_false_eq_true, not_true_eq_false, Bool.not_true, Bool.not_false, Bool.and_false, Bool.false_and, beq_self_eq_true, al_24, al_3, al_32, as_32, az_32, bd_74_, fa_32_0, fa_32_1, fa_32_2, fa_32_3, fa_32_4, ix_22, len_22, X_played_1, X_played_2, X_played_3, X_played_4, X_played_5, X_played_6, X_played_7, X_played_8, X_played_9, X_played_10, X_played_11, X_played_12, X_played_13, X_played_14, X_played_15, X_played_16, X_played_17, gX, h0, h1']
      refine callV_of (by kernel_rfl) rfl (free_any TX.mem lM zn) ?_
      intro r g1 mu0
      obtain ⟨F', T1, ef⟩ := TX.mut mu0
      have g1b := (ef.get _ nF nX).trans gX
      simp -implicitDefEqProofs only [axt_20, axt_21, opt_some, optH_some, nb_cons, nb_nil, CD_true, CD_false, GD_tt, GD_ff, GD_tf, GD_ft, GD_un, pk_true, pk_false, nck_ptr, rv_one, rv_two, b_lss, b_leq, b_gtr, b_geq, b_eql, b_neq, b_add, b_sub, b_mul, b_quo, b_rem, b_shl, b_shr, b_and, b_or, b_xor, b_andNot, u_not, u_neg, nob_bool, nob_int, nob_string, nob_ptr, nob_slice, nob_map, nob_func, nob_nilf, nob_iface, nob_nili, nob_agg, nob_tuple, cok_bool, cok_int, cok_string, cok_ptr, cok_slice, cok_map, cok_func, nobot_nil, nobot_cons, onb_none, onb_some, cond_true, cond_false, abound_none, abound_int, Option.bind_some, Option.bind_none, nth, ↓nw, Value.cells, ↓BK, List.getElem?_cons_zero, List.getElem?_cons_succ, List.toList_toArray, Nat.zero_add, Nat.add_zero, List.length_cons, List.length_nil, List.length_replicate, List.length_map, List.length_set, List.all_cons, List.all_nil, setMany, List.set_cons_zero, List.set_cons_succ, List.drop_zero, List.take_zero, List.take_succ_cons, List.drop_succ_cons, List.take_nil, List.drop_nil, if_true, if_false, Bool.and_true, Bool.true_and, Nat.reduceAdd, Nat.reduceLeDiff, Nat.reduceMul, Nat.reduceMod, Nat.reduceDiv, Nat.reduceSub, Nat.reduceEqDiff, Nat.lt_irrefl, Int.reduceEq, Int.reduceLT, Int.reduceLE, Int.reduceAdd, Int.reduceSub, Int.reduceMul, Int.reduceNeg, Int.reduceToNat, and_true, true_and, Nat.le_refl, dec_t, dec_f, nxt_push, nxt_set, ro_pushk, ro_setk, next_lock, ro_lock, get_lock, get_push_self, get_push_eq, get_push_lt, get_set_self, get_set_ne, ne_eq, lt_add1, lt_add, sto, ldn, ld1, not_false_eq_true, not_true_eq_false, Bool.not_true, Bool.not_false, Bool.and_false, Bool.false_and, beq_self_eq_true, al_24, al_3, al_32, as_32, az_32, bd_74_, fa_32_0, fa_32_1, fa_32_2, fa_32_3, fa_32_4, ix_22, len_22, X_played_1, X_played_2, X_played_3, X_played_4, X_played_5, X_played_6, X_played_7, X_played_8, X_played_9, X_played_10, X_played_11, X_played_12, X_played_13, X_played_14, X_played_15, X_played_16, X_played_17, g1b]
      obtain ⟨ls, pv, rs, y⟩ := T1.ref
      refine callV_of (by kernel_rfl) rfl (refFree_ok y hN zn) ?_
      intro r2 g2 rf
      obtain ⟨G', T2⟩ := T1.rf rf
      simp -implicitDefEqProofs only [axt_20, axt_21, opt_some, optH_some, nb_cons, nb_nil, CD_true, CD_false, GD_tt, GD_ff, GD_tf, GD_ft, GD_un, pk_true, pk_false, nck_ptr, rv_one, rv_two, b_lss, b_leq, b_gtr, b_geq, b_eql, b_neq, b_add, b_sub, b_mul, b_quo, b_rem, b_shl, b_shr, b_and, b_or, b_xor, b_andNot, u_not, u_neg, nob_bool, nob_int, nob_string, nob_ptr, nob_slice, nob_map, nob_func, nob_nilf, nob_iface, nob_nili, nob_agg, nob_tuple, cok_bool, cok_int, cok_string, cok_ptr, cok_slice, cok_map, cok_func, nobot_nil, nobot_cons, onb_none, onb_some, cond_true, cond_false, abound_none, abound_int, Option.bind_some, Option.bind_none, nth, ↓nw, Value.cells, ↓BK, List.getElem?_cons_zero, List.getElem?_cons_succ, List.toList_toArray, Nat.zero_add, Nat.add_zero, List.length_cons, List.length_nil, List.length_replicate, List.length_map, List.length_set, List.all_cons, List.all_nil, setMany, List.set_cons_zero, List.set_cons_succ, List.drop_zero, List.take_zero, List.take_succ_cons, List.drop_succ_cons, List.take_nil, List.drop_nil, if_true, if_false, Bool.and_true, Bool.true_and, Nat.reduceAdd, Nat.reduceLeDiff, Nat.reduceMul, Nat.reduceMod, Nat.reduceDiv, Nat.reduceSub, Nat.reduceEqDiff, Nat.lt_irrefl, Int.reduceEq, Int.reduceLT, Int.reduceLE, Int.reduceAdd, Int.reduceSub, Int.reduceMul, Int.reduceNeg, Int.reduceToNat, and_true, true_and, Nat.le_refl, dec_t, dec_f, nxt_push, nxt_set, ro_pushk, ro_setk, next_lock, ro_lock, get_lock, get_push_self, get_push_eq, get_push_lt, get_set_self, get_set_ne, ne_eq, lt_add1, lt_add, sto, ldn, ld1, not_false_eq_true, not_true_eq_false, Bool.not_true, Bool.not_false, Bool.and_false, Bool.false_and, beq_self_eq_true, al_24, al_3, al_32, as_32, az_32, bd_74_, fa_32_0, fa_32_1, fa_32_2, fa_32_3, fa_32_4, ix_22, len_22, X_played_1, X_played_2, X_played_3, X_played_4, X_played_5, X_played_6, X_played_7, X_played_8, X_played_9, X_played_10, X_played_11, X_played_12, X_played_13, X_played_14, X_played_15, X_played_16, X_played_17, hw1]
      refine fin g2 ⟨F', G', ?_⟩
      unfold playA
      simp only [h0, h1', if_true, if_false, Int.reduceEq]
      exact T2
    by_cases h3' : z.op = 3
    · simp -implicitDefEqProofs only [axt_20, axt_21, opt_some, optH_some, nb_cons, nb_nil, CD_true, CD_false, GD_tt, GD_ff, GD_tf, GD_ft, GD_un, pk_true, pk_false, nck_ptr, rv_one, rv_two, b_lss, b_leq, b_gtr, b_geq, b_eql, b_neq, b_add, b_sub, b_mul, b_quo, b_rem, b_shl, b_shr, b_and, b_or, b_xor, b_andNot, u_not, u_neg, nob_bool, nob_int, nob_string, nob_ptr, nob_slice, nob_map, nob_func, nob_nilf, nob_iface, nob_nili, nob_agg, nob_tuple, cok_bool, cok_int, cok_string, cok_ptr, cok_slice, cok_map, cok_func, nobot_nil, nobot_cons, onb_none, onb_some, cond_true, cond_false, abound_none, abound_int, Option.bind_some, Option.bind_none, nth, ↓nw, Value.cells, ↓BK, List.getElem?_cons_zero, List.getElem?_cons_succ, List.toList_toArray, Nat.zero_add, Nat.add_zero, List.length_cons, List.length_nil, List.length_replicate, List.length_map, List.length_set, List.all_cons, List.all_nil, setMany, List.set_cons_zero, List.set_cons_succ, List.drop_zero, List.take_zero, List.take_succ_cons, List.drop_succ_cons, List.take_nil, List.drop_nil, if_true, if_false, Bool.and_true, Bool.true_and, Nat.reduceAdd, Nat.reduceLeDiff, Nat.reduceMul, Nat.reduceMod, Nat.reduceDiv, Nat.reduceSub, Nat.reduceEqDiff, Nat.lt_irrefl, Int.reduceEq, Int.reduceLT, Int.reduceLE, Int.reduceAdd, Int.reduceSub, Int.reduceMul, Int.reduceNeg, Int.reduceToNat, and_true, true_and, Nat.le_refl, dec_t, dec_f, nxt_push, nxt_set, ro_pushk, ro_setk, next_lock, ro_lock, get_lock, get_push_self, get_push_eq, get_push_lt, get_set_self, get_set_ne, ne_eq, lt_add1, lt_add, sto, ldn, ld1, not_false_eq_true, not_true_eq_false, Bool.not_true, Bool.not_false, Bool.and_false, Bool.false_and, beq_self_eq_true, al_24, al_3, al_32, as_32, az_32, bd_74_, fa_32_0, fa_32_1, fa_32_2, fa_32_3, fa_32_4, ix_22, len_22, X_played_1, X_played_2, X_played_3, X_played_4, X_played_5, X_played_6, X_played_7, X_played_8, X_played_9, X_played_10, X_played_11, X_played_12, X_played_13, X_played_14, X_played_15, X_played_16, X_played_17, gX, h0, h1', h3']
      refine callV_of (by kernel_rfl) rfl (store_any2 (v := z.v) TX.mem sm zc zp) ?_
      intro r g1 mu0
      obtain ⟨F', T1, ef⟩ := TX.mut mu0
      have g1b := (ef.get _ nF nX).trans gX
      simp -implicitDefEqProofs only [axt_20, axt_21, opt_some, optH_some, nb_cons, nb_nil, CD_true, CD_false, GD_tt, GD_ff, GD_tf, GD_ft, GD_un, pk_true, pk_false, nck_ptr, rv_one, rv_two, b_lss, b_leq, b_gtr, b_geq, b_eql, b_neq, b_add, b_sub, b_mul, b_quo, b_rem, b_shl, b_shr, b_and, b_or, b_xor, b_andNot, u_not, u_neg, nob_bool, nob_int, nob_string, nob_ptr, nob_slice, nob_map, nob_func, nob_nilf, nob_iface, nob_nili, nob_agg, nob_tuple, cok_bool, cok_int, cok_string, cok_ptr, cok_slice, cok_map, cok_func, nobot_nil, nobot_cons, onb_none, onb_some, cond_true, cond_false, abound_none, abound_int, Option.bind_some, Option.bind_none, nth, ↓nw, Value.cells, ↓BK, List.getElem?_cons_zero, List.getElem?_cons_succ, List.toList_toArray, Nat.zero_add, Nat.add_zero, List.length_cons, List.length_nil, List.length_replicate, List.length_map, List.length_set, List.all_cons, List.all_nil, setMany, List.set_cons_zero, List.set_cons_succ, List.drop_zero, List.take_zero, List.take_succ_cons, List.drop_succ_cons, List.take_nil, List.drop_nil, if_true, if_false, Bool.and_true, Bool.true_and, Nat.reduceAdd, Nat.reduceLeDiff, Nat.reduceMul, Nat.reduceMod, Nat.reduceDiv, Nat.reduceSub, Nat.reduceEqDiff, Nat.lt_irrefl, Int.reduceEq, Int.reduceLT, Int.reduceLE, Int.reduceAdd, Int.reduceSub, Int.reduceMul, Int.reduceNeg, Int.reduceToNat, and_true, true_and, Nat.le_refl, dec_t, dec_f, nxt_push, nxt_set, ro_pushk, ro_setk, next_lock, ro_lock, get_lock, get_push_self, get_push_eq, get_push_lt, get_set_self, get_set_ne, ne_eq, lt_add1, lt_add, sto, ldn, ld1, not_false_eq_true, not_true_eq_false, Bool.not_true, Bool.not_false, Bool.and_false, Bool.false_and, beq_self_eq_true, al_24, al_3, al_32, as_32, az_32, bd_74_, fa_32_0, fa_32_1, fa_32_2, fa_32_3, fa_32_4, ix_22, len_22, X_played_1, X_played_2, X_played_3, X_played_4, X_played_5, X_played_6, X_played_7, X_played_8, X_played_9, X_played_10, X_played_11, X_played_12, X_played_13, X_played_14, X_played_15, X_played_16, X_played_17, g1b]
      obtain ⟨ls, pv, rs, y⟩ := T1.ref
      refine callV_of (by kernel_rfl) rfl (refStore_ok (v := z.v) y hN zc zp) ?_
      intro r2 g2 rf
      obtain ⟨G', T2⟩ := T1.rf rf
      simp -implicitDefEqProofs only [axt_20, axt_21, opt_some, optH_some, nb_cons, nb_nil, CD_true, CD_false, GD_tt, GD_ff, GD_tf, GD_ft, GD_un, pk_true, pk_false, nck_ptr, rv_one, rv_two, b_lss, b_leq, b_gtr, b_geq, b_eql, b_neq, b_add, b_sub, b_mul, b_quo, b_rem, b_shl, b_shr, b_and, b_or, b_xor, b_andNot, u_not, u_neg, nob_bool, nob_int, nob_string, nob_ptr, nob_slice, nob_map, nob_func, nob_nilf, nob_iface, nob_nili, nob_agg, nob_tuple, cok_bool, cok_int, cok_string, cok_ptr, cok_slice, cok_map, cok_func, nobot_nil, nobot_cons, onb_none, onb_some, cond_true, cond_false, abound_none, abound_int, Option.bind_some, Option.bind_none, nth, ↓nw, Value.cells, ↓BK, List.getElem?_cons_zero, List.getElem?_cons_succ, List.toList_toArray, Nat.zero_add, Nat.add_zero, List.length_cons, List.length_nil, List.length_replicate, List.length_map, List.length_set, List.all_cons, List.all_nil, setMany, List.set_cons_zero, List.set_cons_succ, List.drop_zero, List.take_zero, List.take_succ_cons, List.drop_succ_cons, List.take_nil, List.drop_nil, if_true, if_false, Bool.and_true, Bool.true_and, Nat.reduceAdd, Nat.reduceLeDiff, Nat.reduceMul, Nat.reduceMod, Nat.reduceDiv, Nat.reduceSub, Nat.reduceEqDiff, Nat.lt_irrefl, Int.reduceEq, Int.reduceLT, Int.reduceLE, Int.reduceAdd, Int.reduceSub, Int.reduceMul, Int.reduceNeg, Int.reduceToNat, and_true, true_and, Nat.le_refl, dec_t, dec_f, nxt_push, nxt_set, ro_pushk, ro_setk, next_lock, ro_lock, get_lock, get_push_self, get_push_eq, get_push_lt, get_set_self, get_set_ne, ne_eq, lt_add1, lt_add, sto, ldn, ld1, not_false_eq_true, not_true_eq_false, Bool.not_true, Bool.not_false, Bool.and_false, Bool.false_and, beq_self_eq_true, al_24, al_3, al_32, as_32, az_32, bd_74_, fa_32_0, fa_32_1, fa_32_2, fa_32_3, fa_32_4, ix_22, len_22, X_played_1, X_played_2, X_played_3, X_played_4, X_played_5, X_played_6, X_played_7, X_played_8, X_played_9, X_played_10, X_played_11, X_played_12, X_played_13, X_played_14, X_played_15, X_played_16, X_played_17, hw1]
      refine fin g2 ⟨F', G', ?_⟩
      unfold playA
      simp only [h0, h1', h3', if_true, if_false, Int.reduceEq]
      exact T2
    by_cases h4' : z.op = 4
    · simp -implicitDefEqProofs only [axt_20, axt_21, opt_some, optH_some, nb_cons, nb_nil, CD_true, CD_false, GD_tt, GD_ff, GD_tf, GD_ft, GD_un, pk_true, pk_false, nck_ptr, rv_one, rv_two, b_lss, b_leq, b_gtr, b_geq, b_eql, b_neq, b_add, b_sub, b_mul, b_quo, b_rem, b_shl, b_shr, b_and, b_or, b_xor, b_andNot, u_not, u_neg, nob_bool, nob_int, nob_string, nob_ptr, nob_slice, nob_map, nob_func, nob_nilf, nob_iface, nob_nili, nob_agg, nob_tuple, cok_bool, cok_int, cok_string, cok_ptr, cok_slice, cok_map, cok_func, nobot_nil, nobot_cons, onb_none, onb_some, cond_true, cond_false, abound_none, abound_int, Option.bind_some, Option.bind_none, nth, ↓nw, Value.cells, ↓BK, List.getElem?_cons_zero, List.getElem?_cons_succ, List.toList_toArray, Nat.zero_add, Nat.add_zero, List.length_cons, List.length_nil, List.length_replicate, List.length_map, List.length_set, List.all_cons, List.all_nil, setMany, List.set_cons_zero, List.set_cons_succ, List.drop_zero, List.take_zero, List.take_succ_cons, List.drop_succ_cons, List.take_nil, List.drop_nil, if_true, if_false, Bool.and_true, Bool.true_and, Nat.reduceAdd, Nat.reduceLeDiff, Nat.reduceMul, Nat.reduceMod, Nat.reduceDiv, Nat.reduceSub, Nat.reduceEqDiff, Nat.lt_irrefl, Int.reduceEq, Int.reduceLT, Int.reduceLE, Int.reduceAdd, Int.reduceSub, Int.reduceMul, Int.reduceNeg, Int.reduceToNat, and_true, true_and, Nat.le_refl, dec_t, dec_f, nxt_push, nxt_set, ro_pushk, ro_setk, next_lock, ro_lock, get_lock, get_push_self, get_push_eq, get_push_lt, get_set_self, get_set_ne, ne_eq, lt_add1, lt_add, sto, ldn, ld1, not_false_eq_true, not_true_eq_false, Bool.not_true, Bool.not_false, Bool.and_false, Bool.false_and, beq_self_eq_true, al_24, al_3, al_32, as_32, az_32, bd_74_, fa_32_0, fa_32_1, fa_32_2, fa_32_3, fa_32_4, ix_22, len_22, X_played_1, X_played_2, X_played_3, X_played_4, X_played_5, X_played_6, X_played_7, X_played_8, X_played_9, X_played_10, X_played_11, X_played_12, X_played_13, X_played_14, X_played_15, X_played_16, X_played_17, gX, h0, h1', h3', h4']
      refine callV_of (by kernel_rfl) rfl (zero_any TX.mem sm zn) ?_
      intro r g1 mu0
      obtain ⟨F', T1, ef⟩ := TX.mut mu0
      have g1b := (ef.get _ nF nX).trans gX
      simp -implicitDefEqProofs only [axt_20, axt_21, opt_some, optH_some, nb_cons, nb_nil, CD_true, CD_false, GD_tt, GD_ff, GD_tf, GD_ft, GD_un, pk_true, pk_false, nck_ptr, rv_one, rv_two, b_lss, b_leq, b_gtr, b_geq, b_eql, b_neq, b_add, b_sub, b_mul, b_quo, b_rem, b_shl, b_shr, b_and, b_or, b_xor, b_andNot, u_not, u_neg, nob_bool, nob_int, nob_string, nob_ptr, nob_slice, nob_map, nob_func, nob_nilf, nob_iface, nob_nili, nob_agg, nob_tuple, cok_bool, cok_int, cok_string, cok_ptr, cok_slice, cok_map, cok_func, nobot_nil, nobot_cons, onb_none, onb_some, cond_true, cond_false, abound_none, abound_int, Option.bind_some, Option.bind_none, nth, ↓nw, Value.cells, ↓BK, List.getElem?_cons_zero, List.getElem?_cons_succ, List.toList_toArray, Nat.zero_add, Nat.add_zero, List.length_cons, List.length_nil, List.length_replicate, List.length_map, List.length_set, List.all_cons, List.all_nil, setMany, List.set_cons_zero, List.set_cons_succ, List.drop_zero, List.take_zero, List.take_succ_cons, List.drop_succ_cons, List.take_nil, List.drop_nil, if_true, if_false, Bool.and_true, Bool.true_and, Nat.reduceAdd, Nat.reduceLeDiff, Nat.reduceMul, Nat.reduceMod, Nat.reduceDiv, Nat.reduceSub, Nat.reduceEqDiff, Nat.lt_irrefl, Int.reduceEq, Int.reduceLT, Int.reduceLE, Int.reduceAdd, Int.reduceSub, Int.reduceMul, Int.reduceNeg, Int.reduceToNat, and_true, true_and, Nat.le_refl, dec_t, dec_f, nxt_push, nxt_set, ro_pushk, ro_setk, next_lock, ro_lock, get_lock, get_push_self, get_push_eq, get_push_lt, get_set_self, get_set_ne, ne_eq, lt_add1, lt_add, sto, ldn, ld1, not_false_eq_true, not_true_eq_false, Bool.not_true, Bool.not_false, Bool.and_false, Bool.false_and, beq_self_eq_true, al_24, al_3, al_32, as_32, az_32, bd_74_, fa_32_0, fa_32_1, fa_32_2, fa_32_3, fa_32_4, ix_22, len_22, X_played_1, X_played_2, X_played_3, X_played_4, X_played_5, X_played_6, X_played_7, X_played_8, X_played_9, X_played_10, X_played_11, X_played_12, X_played_13, X_played_14, X_played_15, X_played_16, X_played_17, g1b]
      obtain ⟨ls, pv, rs, y⟩ := T1.ref
      refine callV_of (by kernel_rfl) rfl (refZero_ok y hN zn) ?_
      intro r2 g2 rf
      obtain ⟨G', T2⟩ := T1.rf rf
      simp -implicitDefEqProofs only [axt_20, axt_21, opt_some, optH_some, nb_cons, nb_nil, CD_true, CD_false, GD_tt, GD_ff, GD_tf, GD_ft, GD_un, pk_true, pk_false, nck_ptr, rv_one, rv_two, b_lss, b_leq, b_gtr, b_geq, b_eql, b_neq, b_add, b_sub, b_mul, b_quo, b_rem, b_shl, b_shr, b_and, b_or, b_xor, b_andNot, u_not, u_neg, nob_bool, nob_int, nob_string, nob_ptr, nob_slice, nob_map, nob_func, nob_nilf, nob_iface, nob_nili, nob_agg, nob_tuple, cok_bool, cok_int, cok_string, cok_ptr, cok_slice, cok_map, cok_func, nobot_nil, nobot_cons, onb_none, onb_some, cond_true, cond_false, abound_none, abound_int, Option.bind_some, Option.bind_none, nth, ↓nw, Value.cells, ↓BK, List.getElem?_cons_zero, List.getElem?_cons_succ, List.toList_toArray, Nat.zero_add, Nat.add_zero, List.length_cons, List.length_nil, List.length_replicate, List.length_map, List.length_set, List.all_cons, List.all_nil, setMany, List.set_cons_zero, List.set_cons_succ, List.drop_zero, List.take_zero, List.take_succ_cons, List.drop_succ_cons, List.take_nil, List.drop_nil, if_true, if_false, Bool.and_true, Bool.true_and, Nat.reduceAdd, Nat.reduceLeDiff, Nat.reduceMul, Nat.reduceMod, Nat.reduceDiv, Nat.reduceSub, Nat.reduceEqDiff, Nat.lt_irrefl, Int.reduceEq, Int.reduceLT, Int.reduceLE, Int.reduceAdd, Int.reduceSub, Int.reduceMul, Int.reduceNeg, Int.reduceToNat, and_true, true_and, Nat.le_refl, dec_t, dec_f, nxt_push, nxt_set, ro_pushk, ro_setk, next_lock, ro_lock, get_lock, get_push_self, get_push_eq, get_push_lt, get_set_self, get_set_ne, ne_eq, lt_add1, lt_add, sto, ldn, ld1, not_false_eq_true, not_true_eq_false, Bool.not_true, Bool.not_false, Bool.and_false, Bool.false_and, beq_self_eq_true, al_24, al_3, al_32, as_32, az_32, bd_74_, fa_32_0, fa_32_1, fa_32_2, fa_32_3, fa_32_4, ix_22, len_22, X_played_1, X_played_2, X_played_3, X_played_4, X_played_5, X_played_6, X_played_7, X_played_8, X_played_9, X_played_10, X_played_11, X_played_12, X_played_13, X_played_14, X_played_15, X_played_16, X_played_17, hw1]
      refine fin g2 ⟨F', G', ?_⟩
      unfold playA
      simp only [h0, h1', h3', h4', if_true, if_false, Int.reduceEq]
      exact T2
    · simp -implicitDefEqProofs only [axt_20, axt_21, opt_some, optH_some, nb_cons, nb_nil, CD_true, CD_false, GD_tt, GD_ff, GD_tf, GD_ft, GD_un, pk_true, pk_false, nck_ptr, rv_one, rv_two, b_lss, b_leq, b_gtr, b_geq, b_eql, b_neq, b_add, b_sub, b_mul, b_quo, b_rem, b_shl, b_shr, b_and, b_or, b_xor, b_andNot, u_not, u_neg, nob_bool, nob_int, nob_string, nob_ptr, nob_slice, nob_map, nob_func, nob_nilf, nob_iface, nob_nili, nob_agg, nob_tuple, cok_bool, cok_int, cok_string, cok_ptr, cok_slice, cok_map, cok_func, nobot_nil, nobot_cons, onb_none, onb_some, cond_true, cond_false, abound_none, abound_int, Option.bind_some, Option.bind_none, nth, ↓nw, Value.cells, ↓BK, List.getElem?_cons_zero, List.getElem?_cons_succ, List.toList_toArray, Nat.zero_add, Nat.add_zero, List.length_cons, List.length_nil, List.length_replicate, List.length_map, List.length_set, List.all_cons, List.all_nil, setMany, List.set_cons_zero, List.set_cons_succ, List.drop_zero, List.take_zero, List.take_succ_cons, List.drop_succ_cons, List.take_nil, List.drop_nil, if_true, if_false, Bool.and_true, Bool.true_and, Nat.reduceAdd, Nat.reduceLeDiff, Nat.reduceMul, Nat.reduceMod, Nat.reduceDiv, Nat.reduceSub, Nat.reduceEqDiff, Nat.lt_irrefl, Int.reduceEq, Int.reduceLT, Int.reduceLE, Int.reduceAdd, Int.reduceSub, Int.reduceMul, Int.reduceNeg, Int.reduceToNat, and_true, true_and, Nat.le_refl, dec_t, dec_f, nxt_push, nxt_set, ro_pushk, ro_setk, next_lock, ro_lock, get_lock, get_push_self, get_push_eq, get_push_lt, get_set_self, get_set_ne, ne_eq, lt_add1, lt_add, sto, ldn, ld1, not_false_eq_true, not_true_eq_false, Bool.not_true, Bool.not_false, Bool.and_false, Bool.false_and, beq_self_eq_true, al_24, al_3, al_32, as_32, az_32, bd_74_, fa_32_0, fa_32_1, fa_32_2, fa_32_3, fa_32_4, ix_22, len_22, X_played_1, X_played_2, X_played_3, X_played_4, X_played_5, X_played_6, X_played_7, X_played_8, X_played_9, X_played_10, X_played_11, X_played_12, X_played_13, X_played_14, X_played_15, X_played_16, X_played_17, gX, h0, h1', h3', h4', hw1]
      refine fin X ⟨F, G, ?_⟩
      unfold playA
      simp only [h0, h1', h3', h4', if_true, if_false, Int.reduceEq]
      exact TX.up
  · have hki : ¬ (i : Int) < (zs.length : Int) := by omega
    have hil : i = zs.length := by omega
    subst hil
    simp -implicitDefEqProofs only [axt_20, axt_21, opt_some, optH_some, nb_cons, nb_nil, CD_true, CD_false, GD_tt, GD_ff, GD_tf, GD_ft, GD_un, pk_true, pk_false, nck_ptr, rv_one, rv_two, b_lss, b_leq, b_gtr, b_geq, b_eql, b_neq, b_add, b_sub, b_mul, b_quo, b_rem, b_shl, b_shr, b_and, b_or, b_xor, b_andNot, u_not, u_neg, nob_bool, nob_int, nob_string, nob_ptr, nob_slice, nob_map, nob_func, nob_nilf, nob_iface, nob_nili, nob_agg, nob_tuple, cok_bool, cok_int, cok_string, cok_ptr, cok_slice, cok_map, cok_func, nobot_nil, nobot_cons, onb_none, onb_some, cond_true, cond_false, abound_none, abound_int, Option.bind_some, Option.bind_none, nth, ↓nw, Value.cells, ↓BK, List.getElem?_cons_zero, List.getElem?_cons_succ, List.toList_toArray, Nat.zero_add, Nat.add_zero, List.length_cons, List.length_nil, List.length_replicate, List.length_map, List.length_set, List.all_cons, List.all_nil, setMany, List.set_cons_zero, List.set_cons_succ, List.drop_zero, List.take_zero, List.take_succ_cons, List.drop_succ_cons, List.take_nil, List.drop_nil, if_true, if_false, Bool.and_true, Bool.true_and, Nat.reduceAdd, Nat.reduceLeDiff, Nat.reduceMul, Nat.reduceMod, Nat.reduceDiv, Nat.reduceSub, Nat.reduceEqDiff, Nat.lt_irrefl, Int.reduceEq, Int.reduceLT, Int.reduceLE, Int.reduceAdd, Int.reduceSub, Int.reduceMul, Int.reduceNeg, Int.reduceToNat, and_true, true_and, Nat.le_refl, dec_t, dec_f, nxt_push, nxt_set, ro_pushk, ro_setk, next_lock, ro_lock, get_lock, get_push_self, get_push_eq, get_push_lt, get_set_self, get_set_ne, ne_eq, lt_add1, lt_add, sto, ldn, ld1, not_false_eq_true, not_true_eq_false, Bool.not_true, Bool.not_false, Bool.and_false, Bool.false_and, beq_self_eq_true, al_24, al_3, al_32, as_32, az_32, bd_74_, fa_32_0, fa_32_1, fa_32_2, fa_32_3, fa_32_4, ix_22, len_22, X_played_1, X_played_2, X_played_3, X_played_4, X_played_5, X_played_6, X_played_7, X_played_8, X_played_9, X_played_10, X_played_11, X_played_12, X_played_13, X_played_14, X_played_15, X_played_16, X_played_17, nbs, hlen, hki]
    rw [List.take_length] at T
    exact ⟨_, _, F, rfl, T.mem, fun b hb => T.low b (.inl hb), T.eff⟩
end Go.Mem
namespace Go.Mem
open Go.Ai Go.Proofs
set_option linter.unusedVariables false
set_option linter.unusedSimpArgs false
/-- Two memories stay while a third is turned. -/
structure Three (h g : AHeap) (m w c : Nat) (M M' : MM) (F1 F3 F2 : Nat → Prop) : Prop where
  m : MemH g m M F1
  w : MemH g w M F3
  c : MemH g c M' F2
  d1 : ∀ b, F2 b → ¬ F1 b
  d3 : ∀ b, F2 b → ¬ F3 b
  low : ∀ b, F2 b → h.next ≤ b
  eff : Eff nof h g
  sm : small M'
  len : M'.length ≤ 100000
theorem Three.mut {h g g1 : AHeap} {m w c : Nat} {M M' M2 : MM} {F1 F3 F2 : Nat → Prop} (x : Three h g m w c M M' F1 F3 F2) (y : MutR g c M2 F2 g1) (sm : small M2) (hl : M2.length ≤ 100000) : ∃ F, Three h g1 m w c M M2 F1 F3 F := by
  obtain ⟨F', z, e, s⟩ := y
  have n1 := x.eff.next
  refine ⟨F', x.m.eff e (fun b h1 h2 => x.d1 b h2 h1), x.w.eff e (fun b h1 h2 => x.d3 b h2 h1), z, fun b hb h1 => ?_, fun b hb h1 => ?_, fun b hb => ?_, x.eff.more e (fun b hb => .inr (x.low b hb)), sm, hl⟩
  · rcases s b hb with q | q
    · exact x.d1 b q h1
    · have := x.m.lt h1; omega
  · rcases s b hb with q | q
    · exact x.d3 b q h1
    · have := x.w.lt h1; omega
  · rcases s b hb with q | q
    · exact x.low b q
    · omega
def CpI (h : AHeap) (m w c : Nat) (M : MM) (F1 F3 : Nat → Prop) (L : Nat) (n : Nat) (vs : List Value) (h' : AHeap) : Prop :=
  ∃ i M' F2, i ≤ L ∧ n = L - i ∧ vs = [.int .i64 i] ∧ Three h h' m w c M M' F1 F3 F2
theorem copies_ok {h : AHeap} {s1 s2 : Value} {z1 z2 : List Act} (S1 : SliceA h s1 z1) (S2 : SliceA h s2 z2) : DC Try.prog 6 [s1, s2] h isT := by
  apply X_MemCopies_ok
  unfold X_MemCopies
  refine callV_q (by kernel_rfl) rfl (awake_q h) ?_
  have nb1 := S1.nob
  have nb2 := S2.nob
  have hl1 := S1.len
  have hl2 : ∀ h', abuiltin Try.prog .len [22] 3 [s2] h' = some (.int .i64 z2.length, h') := S2.len
  by_cases c1 : (40 : Int) < (z1.length : Int)
  · simp -implicitDefEqProofs only [axt_20, axt_21, opt_some, optH_some, nb_cons, nb_nil, CD_true, CD_false, GD_tt, GD_ff, GD_tf, GD_ft, GD_un, pk_true, pk_false, nck_ptr, rv_one, rv_two, b_lss, b_leq, b_gtr, b_geq, b_eql, b_neq, b_add, b_sub, b_mul, b_quo, b_rem, b_shl, b_shr, b_and, b_or, b_xor, b_andNot, u_not, u_neg, nob_bool, nob_int, nob_string, nob_ptr, nob_slice, nob_map, nob_func, nob_nilf, nob_iface, nob_nili, nob_agg, nob_tuple, cok_bool, cok_int, cok_string, cok_ptr, cok_slice, cok_map, cok_func, nobot_nil, nobot_cons, onb_none, onb_some, cond_true, cond_false, abound_none, abound_int, Option.bind_some, Option.bind_none, nth, ↓nw, Value.cells, ↓BK, List.getElem?_cons_zero, List.getElem?_cons_succ, List.toList_toArray, Nat.zero_add, Nat.add_zero, List.length_cons, List.length_nil, List.length_replicate, List.length_map, List.length_set, List.all_cons, List.all_nil, setMany, List.set_cons_zero, List.set_cons_succ, List.drop_zero, List.take_zero, List.take_succ_cons, List.drop_succ_cons, List.take_nil, List.drop_nil, if_true, if_false, Bool.and_true, Bool.true_and, Nat.reduceAdd, Nat.reduceLeDiff, Nat.reduceMul, Nat.reduceMod, Nat.reduceDiv, Nat.reduceSub, Nat.reduceEqDiff, Nat.lt_irrefl, Int.reduceEq, Int.reduceLT, Int.reduceLE, Int.reduceAdd, Int.reduceSub, Int.reduceMul, Int.reduceNeg, Int.reduceToNat, and_true, true_and, Nat.le_refl, dec_t, dec_f, nxt_push, nxt_set, ro_pushk, ro_setk, next_lock, ro_lock, get_lock, get_push_self, get_push_eq, get_push_lt, get_set_self, get_set_ne, ne_eq, lt_add1, lt_add, sto, ldn, ld1, not_false_eq_true, not_true_eq_false, Bool.not_true, Bool.not_false, Bool.and_false, Bool.false_and, beq_self_eq_true, al_24, al_3, fa_32_0, fa_32_1, fa_32_2, fa_32_3, fa_32_4, ix_22, len_22, X_MemCopies_1, X_MemCopies_2, X_MemCopies_3, X_MemCopies_4, X_MemCopies_5, X_MemCopies_6, X_MemCopies_7, X_MemCopies_8, X_MemCopies_9, X_MemCopies_10, X_MemCopies_11, X_MemCopies_12, X_MemCopies_13, X_MemCopies_14, X_MemCopies_15, nb1, nb2, hl1, hl2, c1]
    rfl
  by_cases c2 : (40 : Int) < (z2.length : Int)
  · simp -implicitDefEqProofs only [axt_20, axt_21, opt_some, optH_some, nb_cons, nb_nil, CD_true, CD_false, GD_tt, GD_ff, GD_tf, GD_ft, GD_un, pk_true, pk_false, nck_ptr, rv_one, rv_two, b_lss, b_leq, b_gtr, b_geq, b_eql, b_neq, b_add, b_sub, b_mul, b_quo, b_rem, b_shl, b_shr, b_and, b_or, b_xor, b_andNot, u_not, u_neg, nob_bool, nob_int, nob_string, nob_ptr, nob_slice, nob_map, nob_func, nob_nilf, nob_iface, nob_nili, nob_agg, nob_tuple, cok_bool, cok_int, cok_string, cok_ptr, cok_slice, cok_map, cok_func, nobot_nil, nobot_cons, onb_none, onb_some, cond_true, cond_false, abound_none, abound_int, Option.bind_some, Option.bind_none, nth, ↓nw, Value.cells, ↓BK, List.getElem?_cons_zero, List.getElem?_cons_succ, List.toList_toArray, Nat.zero_add, Nat.add_zero, List.length_cons, List.length_nil, List.length_replicate, List.length_map, List.length_set, List.all_cons, List.all_nil, setMany, List.set_cons_zero, List.set_cons_succ, List.drop_zero, List.take_zero, List.take_succ_cons, List.drop_succ_cons, List.take_nil, List.drop_nil, if_true, if_false, Bool.and_true, Bool.true_and, Nat.reduceAdd, Nat.reduceLeDiff, Nat.reduceMul, Nat.reduceMod, Nat.reduceDiv, Nat.reduceSub, Nat.reduceEqDiff, Nat.lt_irrefl, Int.reduceEq, Int.reduceLT, Int.reduceLE, Int.reduceAdd, Int.reduceSub, Int.reduceMul, Int.reduceNeg, Int.reduceToNat, and_true, true_and, Nat.le_refl, dec_t, dec_f, nxt_push, nxt_set, ro_pushk, ro_setk, next_lock, ro_lock, get_lock, get_push_self, get_push_eq, get_push_lt, get_set_self, get_set_ne, ne_eq, lt_add1, lt_add, sto, ldn, ld1, not_false_eq_true, not_true_eq_false, Bool.not_true, Bool.not_false, Bool.and_false, Bool.false_and, beq_self_eq_true, al_24, al_3, fa_32_0, fa_32_1, fa_32_2, fa_32_3, fa_32_4, ix_22, len_22, X_MemCopies_1, X_MemCopies_2, X_MemCopies_3, X_MemCopies_4, X_MemCopies_5, X_MemCopies_6, X_MemCopies_7, X_MemCopies_8, X_MemCopies_9, X_MemCopies_10, X_MemCopies_11, X_MemCopies_12, X_MemCopies_13, X_MemCopies_14, X_MemCopies_15, nb1, nb2, hl1, hl2, c1, c2]
    rfl
  simp -implicitDefEqProofs only [axt_20, axt_21, opt_some, optH_some, nb_cons, nb_nil, CD_true, CD_false, GD_tt, GD_ff, GD_tf, GD_ft, GD_un, pk_true, pk_false, nck_ptr, rv_one, rv_two, b_lss, b_leq, b_gtr, b_geq, b_eql, b_neq, b_add, b_sub, b_mul, b_quo, b_rem, b_shl, b_shr, b_and, b_or, b_xor, b_andNot, u_not, u_neg, nob_bool, nob_int, nob_string, nob_ptr, nob_slice, nob_map, nob_func, nob_nilf, nob_iface, nob_nili, nob_agg, nob_tuple, cok_bool, cok_int, cok_string, cok_ptr, cok_slice, cok_map, cok_func, nobot_nil, nobot_cons, onb_none, onb_some, cond_true, cond_false, abound_none, abound_int, Option.bind_some, Option.bind_none, nth, ↓nw, Value.cells, ↓BK, List.getElem?_cons_zero, List.getElem?_cons_succ, List.toList_toArray, Nat.zero_add, Nat.add_zero, List.length_cons, List.length_nil, List.length_replicate, List.length_map, List.length_set, List.all_cons, List.all_nil, setMany, List.set_cons_zero, List.set_cons_succ, List.drop_zero, List.take_zero, List.take_succ_cons, List.drop_succ_cons, List.take_nil, List.drop_nil, if_true, if_false, Bool.and_true, Bool.true_and, Nat.reduceAdd, Nat.reduceLeDiff, Nat.reduceMul, Nat.reduceMod, Nat.reduceDiv, Nat.reduceSub, Nat.reduceEqDiff, Nat.lt_irrefl, Int.reduceEq, Int.reduceLT, Int.reduceLE, Int.reduceAdd, Int.reduceSub, Int.reduceMul, Int.reduceNeg, Int.reduceToNat, and_true, true_and, Nat.le_refl, dec_t, dec_f, nxt_push, nxt_set, ro_pushk, ro_setk, next_lock, ro_lock, get_lock, get_push_self, get_push_eq, get_push_lt, get_set_self, get_set_ne, ne_eq, lt_add1, lt_add, sto, ldn, ld1, not_false_eq_true, not_true_eq_false, Bool.not_true, Bool.not_false, Bool.and_false, Bool.false_and, beq_self_eq_true, al_24, al_3, fa_32_0, fa_32_1, fa_32_2, fa_32_3, fa_32_4, ix_22, len_22, X_MemCopies_1, X_MemCopies_2, X_MemCopies_3, X_MemCopies_4, X_MemCopies_5, X_MemCopies_6, X_MemCopies_7, X_MemCopies_8, X_MemCopies_9, X_MemCopies_10, X_MemCopies_11, X_MemCopies_12, X_MemCopies_13, X_MemCopies_14, X_MemCopies_15, nb1, nb2, hl1, hl2, c1, c2]
  refine callV_of (by kernel_rfl) (by simp only [nobot_cons nb1]; rfl) (played_ok S1 (by omega)) ?_
  rintro r h1 ⟨m, wm, F1, rfl, xm, lm, e1⟩
  simp -implicitDefEqProofs only [axt_20, axt_21, opt_some, optH_some, nb_cons, nb_nil, CD_true, CD_false, GD_tt, GD_ff, GD_tf, GD_ft, GD_un, pk_true, pk_false, nck_ptr, rv_one, rv_two, b_lss, b_leq, b_gtr, b_geq, b_eql, b_neq, b_add, b_sub, b_mul, b_quo, b_rem, b_shl, b_shr, b_and, b_or, b_xor, b_andNot, u_not, u_neg, nob_bool, nob_int, nob_string, nob_ptr, nob_slice, nob_map, nob_func, nob_nilf, nob_iface, nob_nili, nob_agg, nob_tuple, cok_bool, cok_int, cok_string, cok_ptr, cok_slice, cok_map, cok_func, nobot_nil, nobot_cons, onb_none, onb_some, cond_true, cond_false, abound_none, abound_int, Option.bind_some, Option.bind_none, nth, ↓nw, Value.cells, ↓BK, List.getElem?_cons_zero, List.getElem?_cons_succ, List.toList_toArray, Nat.zero_add, Nat.add_zero, List.length_cons, List.length_nil, List.length_replicate, List.length_map, List.length_set, List.all_cons, List.all_nil, setMany, List.set_cons_zero, List.set_cons_succ, List.drop_zero, List.take_zero, List.take_succ_cons, List.drop_succ_cons, List.take_nil, List.drop_nil, if_true, if_false, Bool.and_true, Bool.true_and, Nat.reduceAdd, Nat.reduceLeDiff, Nat.reduceMul, Nat.reduceMod, Nat.reduceDiv, Nat.reduceSub, Nat.reduceEqDiff, Nat.lt_irrefl, Int.reduceEq, Int.reduceLT, Int.reduceLE, Int.reduceAdd, Int.reduceSub, Int.reduceMul, Int.reduceNeg, Int.reduceToNat, and_true, true_and, Nat.le_refl, dec_t, dec_f, nxt_push, nxt_set, ro_pushk, ro_setk, next_lock, ro_lock, get_lock, get_push_self, get_push_eq, get_push_lt, get_set_self, get_set_ne, ne_eq, lt_add1, lt_add, sto, ldn, ld1, not_false_eq_true, not_true_eq_false, Bool.not_true, Bool.not_false, Bool.and_false, Bool.false_and, beq_self_eq_true, al_24, al_3, fa_32_0, fa_32_1, fa_32_2, fa_32_3, fa_32_4, ix_22, len_22, X_MemCopies_1, X_MemCopies_2, X_MemCopies_3, X_MemCopies_4, X_MemCopies_5, X_MemCopies_6, X_MemCopies_7, X_MemCopies_8, X_MemCopies_9, X_MemCopies_10, X_MemCopies_11, X_MemCopies_12, X_MemCopies_13, X_MemCopies_14, X_MemCopies_15]
  have sm : small (playL z1 []) := small_playL _ small_nil
  have lM : (playL z1 []).length ≤ 100000 := by have := len_playL z1 []; simp at this; omega
  refine callV_of (by kernel_rfl) rfl (copy_ok xm sm lM) ?_
  rintro r h2 ⟨c, F2, rfl, xc, lc, e2⟩
  simp -implicitDefEqProofs only [axt_20, axt_21, opt_some, optH_some, nb_cons, nb_nil, CD_true, CD_false, GD_tt, GD_ff, GD_tf, GD_ft, GD_un, pk_true, pk_false, nck_ptr, rv_one, rv_two, b_lss, b_leq, b_gtr, b_geq, b_eql, b_neq, b_add, b_sub, b_mul, b_quo, b_rem, b_shl, b_shr, b_and, b_or, b_xor, b_andNot, u_not, u_neg, nob_bool, nob_int, nob_string, nob_ptr, nob_slice, nob_map, nob_func, nob_nilf, nob_iface, nob_nili, nob_agg, nob_tuple, cok_bool, cok_int, cok_string, cok_ptr, cok_slice, cok_map, cok_func, nobot_nil, nobot_cons, onb_none, onb_some, cond_true, cond_false, abound_none, abound_int, Option.bind_some, Option.bind_none, nth, ↓nw, Value.cells, ↓BK, List.getElem?_cons_zero, List.getElem?_cons_succ, List.toList_toArray, Nat.zero_add, Nat.add_zero, List.length_cons, List.length_nil, List.length_replicate, List.length_map, List.length_set, List.all_cons, List.all_nil, setMany, List.set_cons_zero, List.set_cons_succ, List.drop_zero, List.take_zero, List.take_succ_cons, List.drop_succ_cons, List.take_nil, List.drop_nil, if_true, if_false, Bool.and_true, Bool.true_and, Nat.reduceAdd, Nat.reduceLeDiff, Nat.reduceMul, Nat.reduceMod, Nat.reduceDiv, Nat.reduceSub, Nat.reduceEqDiff, Nat.lt_irrefl, Int.reduceEq, Int.reduceLT, Int.reduceLE, Int.reduceAdd, Int.reduceSub, Int.reduceMul, Int.reduceNeg, Int.reduceToNat, and_true, true_and, Nat.le_refl, dec_t, dec_f, nxt_push, nxt_set, ro_pushk, ro_setk, next_lock, ro_lock, get_lock, get_push_self, get_push_eq, get_push_lt, get_set_self, get_set_ne, ne_eq, lt_add1, lt_add, sto, ldn, ld1, not_false_eq_true, not_true_eq_false, Bool.not_true, Bool.not_false, Bool.and_false, Bool.false_and, beq_self_eq_true, al_24, al_3, fa_32_0, fa_32_1, fa_32_2, fa_32_3, fa_32_4, ix_22, len_22, X_MemCopies_1, X_MemCopies_2, X_MemCopies_3, X_MemCopies_4, X_MemCopies_5, X_MemCopies_6, X_MemCopies_7, X_MemCopies_8, X_MemCopies_9, X_MemCopies_10, X_MemCopies_11, X_MemCopies_12, X_MemCopies_13, X_MemCopies_14, X_MemCopies_15, nb1]
  have e12 := e1.trans e2
  refine callV_of (by kernel_rfl) (by simp only [nobot_cons nb1]; rfl) (played_ok (S1.eff e12) (by omega)) ?_
  rintro r h3 ⟨w, ww, F3, rfl, xw, lw, e3⟩
  simp -implicitDefEqProofs only [axt_20, axt_21, opt_some, optH_some, nb_cons, nb_nil, CD_true, CD_false, GD_tt, GD_ff, GD_tf, GD_ft, GD_un, pk_true, pk_false, nck_ptr, rv_one, rv_two, b_lss, b_leq, b_gtr, b_geq, b_eql, b_neq, b_add, b_sub, b_mul, b_quo, b_rem, b_shl, b_shr, b_and, b_or, b_xor, b_andNot, u_not, u_neg, nob_bool, nob_int, nob_string, nob_ptr, nob_slice, nob_map, nob_func, nob_nilf, nob_iface, nob_nili, nob_agg, nob_tuple, cok_bool, cok_int, cok_string, cok_ptr, cok_slice, cok_map, cok_func, nobot_nil, nobot_cons, onb_none, onb_some, cond_true, cond_false, abound_none, abound_int, Option.bind_some, Option.bind_none, nth, ↓nw, Value.cells, ↓BK, List.getElem?_cons_zero, List.getElem?_cons_succ, List.toList_toArray, Nat.zero_add, Nat.add_zero, List.length_cons, List.length_nil, List.length_replicate, List.length_map, List.length_set, List.all_cons, List.all_nil, setMany, List.set_cons_zero, List.set_cons_succ, List.drop_zero, List.take_zero, List.take_succ_cons, List.drop_succ_cons, List.take_nil, List.drop_nil, if_true, if_false, Bool.and_true, Bool.true_and, Nat.reduceAdd, Nat.reduceLeDiff, Nat.reduceMul, Nat.reduceMod, Nat.reduceDiv, Nat.reduceSub, Nat.reduceEqDiff, Nat.lt_irrefl, Int.reduceEq, Int.reduceLT, Int.reduceLE, Int.reduceAdd, Int.reduceSub, Int.reduceMul, Int.reduceNeg, Int.reduceToNat, and_true, true_and, Nat.le_refl, dec_t, dec_f, nxt_push, nxt_set, ro_pushk, ro_setk, next_lock, ro_lock, get_lock, get_push_self, get_push_eq, get_push_lt, get_set_self, get_set_ne, ne_eq, lt_add1, lt_add, sto, ldn, ld1, not_false_eq_true, not_true_eq_false, Bool.not_true, Bool.not_false, Bool.and_false, Bool.false_and, beq_self_eq_true, al_24, al_3, fa_32_0, fa_32_1, fa_32_2, fa_32_3, fa_32_4, ix_22, len_22, X_MemCopies_1, X_MemCopies_2, X_MemCopies_3, X_MemCopies_4, X_MemCopies_5, X_MemCopies_6, X_MemCopies_7, X_MemCopies_8, X_MemCopies_9, X_MemCopies_10, X_MemCopies_11, X_MemCopies_12, X_MemCopies_13, X_MemCopies_14, X_MemCopies_15]
  have e13 := e12.trans e3
  have n1 := e1.next
  have n2 := e2.next
  refine LP_of (CpI h m w c (playL z1 []) F1 F3 z2.length) z2.length ⟨0, _, F2, Nat.zero_le _, rfl, rfl, (xm.effn e2).effn e3, xw, xc.effn e3, fun b hb h1' => by have := lc b hb; have := xm.lt h1'; omega, fun b hb h3' => by have := lw b h3'; have := xc.lt hb; omega, fun b hb => by have := lc b hb; omega, e13, sm, lM⟩ ?_
  rintro n vs g ⟨i, M', G, hi, rfl, rfl, T⟩
  by_cases hlt : i < z2.length
  · have hki : (i : Int) < (z2.length : Int) := by omega
    obtain ⟨z, hz⟩ : ∃ z, z2[i]? = some z := ⟨_, List.getElem?_eq_getElem hlt⟩
    obtain ⟨b, of, cs, t, ha, hld, ⟨l0, l1, l2⟩, ⟨l3, l4, l5⟩, l6, l7, l8⟩ := S2.at hz
    obtain ⟨zn, zc, zp, zv⟩ := S2.ok hz
    have hg := hld g T.eff
    have hw1 : IntKind.wrap .i64 ((i : Int) + 1) = ((i + 1 : Nat) : Int) := by rw [w64 (by omega) (by omega)]; omega
    have fin : ∀ g2, (∃ M2 F, Three h g2 m w c (playL z1 []) M2 F1 F3 F) → ∃ k, k < z2.length - i ∧ CpI h m w c (playL z1 []) F1 F3 z2.length k [.int .i64 ((i + 1 : Nat) : Int)] g2 := fun g2 ⟨M2, F, q⟩ =>
      ⟨z2.length - (i + 1), by omega, i + 1, M2, F, by omega, rfl, rfl, q⟩
    by_cases o1 : z.op = 1
    · simp -implicitDefEqProofs only [axt_20, axt_21, opt_some, optH_some, nb_cons, nb_nil, CD_true, CD_false, GD_tt, GD_ff, GD_tf, GD_ft, GD_un, pk_true, pk_false, nck_ptr, rv_one, rv_two, b_lss, b_leq, b_gtr, b_geq, b_eql, b_neq, b_add, b_sub, b_mul, b_quo, b_rem, b_shl, b_shr, b_and, b_or, b_xor, b_andNot, u_not, u_neg, nob_bool, nob_int, nob_string, nob_ptr, nob_slice, nob_map, nob_func, nob_nilf, nob_iface, nob_nili, nob_agg, nob_tuple, cok_bool, cok_int, cok_string, cok_ptr, cok_slice, cok_map, cok_func, nobot_nil, nobot_cons, onb_none, onb_some, cond_true, cond_false, abound_none, abound_int, Option.bind_some, Option.bind_none, nth, ↓nw, Value.cells, ↓BK, List.getElem?_cons_zero, List.getElem?_cons_succ, List.toList_toArray, Nat.zero_add, Nat.add_zero, List.length_cons, List.length_nil, List.length_replicate, List.length_map, List.length_set, List.all_cons, List.all_nil, setMany, List.set_cons_zero, List.set_cons_succ, List.drop_zero, List.take_zero, List.take_succ_cons, List.drop_succ_cons, List.take_nil, List.drop_nil, if_true, if_false, Bool.and_true, Bool.true_and, Nat.reduceAdd, Nat.reduceLeDiff, Nat.reduceMul, Nat.reduceMod, Nat.reduceDiv, Nat.reduceSub, Nat.reduceEqDiff, Nat.lt_irrefl, Int.reduceEq, Int.reduceLT, Int.reduceLE, Int.reduceAdd, Int.reduceSub, Int.reduceMul, Int.reduceNeg, Int.reduceToNat, and_true, true_and, Nat.le_refl, dec_t, dec_f, nxt_push, nxt_set, ro_pushk, ro_setk, next_lock, ro_lock, get_lock, get_push_self, get_push_eq, get_push_lt, get_set_self, get_set_ne, ne_eq, lt_add1, lt_add, sto, ldn, ld1, not_false_eq_true, not_true_eq_false, Bool.not_true, Bool.not_false, Bool.and_false, Bool.false_and, beq_self_eq_true, al_24, al_3, fa_32_0, fa_32_1, fa_32_2, fa_32_3, fa_32_4, ix_22, len_22, X_MemCopies_1, X_MemCopies_2, X_MemCopies_3, X_MemCopies_4, X_MemCopies_5, X_MemCopies_6, X_MemCopies_7, X_MemCopies_8, X_MemCopies_9, X_MemCopies_10, X_MemCopies_11, X_MemCopies_12, X_MemCopies_13, X_MemCopies_14, X_MemCopies_15, nb2, hl2, hki, ha, hg, l0, l1, o1]
      refine callV_of (by kernel_rfl) rfl (free_any T.c T.len zn) ?_
      intro r g1 mu
      obtain ⟨F', T'⟩ := T.mut mu (small_free T.sm _) (by rw [len_free]; exact T.len)
      simp -implicitDefEqProofs only [axt_20, axt_21, opt_some, optH_some, nb_cons, nb_nil, CD_true, CD_false, GD_tt, GD_ff, GD_tf, GD_ft, GD_un, pk_true, pk_false, nck_ptr, rv_one, rv_two, b_lss, b_leq, b_gtr, b_geq, b_eql, b_neq, b_add, b_sub, b_mul, b_quo, b_rem, b_shl, b_shr, b_and, b_or, b_xor, b_andNot, u_not, u_neg, nob_bool, nob_int, nob_string, nob_ptr, nob_slice, nob_map, nob_func, nob_nilf, nob_iface, nob_nili, nob_agg, nob_tuple, cok_bool, cok_int, cok_string, cok_ptr, cok_slice, cok_map, cok_func, nobot_nil, nobot_cons, onb_none, onb_some, cond_true, cond_false, abound_none, abound_int, Option.bind_some, Option.bind_none, nth, ↓nw, Value.cells, ↓BK, List.getElem?_cons_zero, List.getElem?_cons_succ, List.toList_toArray, Nat.zero_add, Nat.add_zero, List.length_cons, List.length_nil, List.length_replicate, List.length_map, List.length_set, List.all_cons, List.all_nil, setMany, List.set_cons_zero, List.set_cons_succ, List.drop_zero, List.take_zero, List.take_succ_cons, List.drop_succ_cons, List.take_nil, List.drop_nil, if_true, if_false, Bool.and_true, Bool.true_and, Nat.reduceAdd, Nat.reduceLeDiff, Nat.reduceMul, Nat.reduceMod, Nat.reduceDiv, Nat.reduceSub, Nat.reduceEqDiff, Nat.lt_irrefl, Int.reduceEq, Int.reduceLT, Int.reduceLE, Int.reduceAdd, Int.reduceSub, Int.reduceMul, Int.reduceNeg, Int.reduceToNat, and_true, true_and, Nat.le_refl, dec_t, dec_f, nxt_push, nxt_set, ro_pushk, ro_setk, next_lock, ro_lock, get_lock, get_push_self, get_push_eq, get_push_lt, get_set_self, get_set_ne, ne_eq, lt_add1, lt_add, sto, ldn, ld1, not_false_eq_true, not_true_eq_false, Bool.not_true, Bool.not_false, Bool.and_false, Bool.false_and, beq_self_eq_true, al_24, al_3, fa_32_0, fa_32_1, fa_32_2, fa_32_3, fa_32_4, ix_22, len_22, X_MemCopies_1, X_MemCopies_2, X_MemCopies_3, X_MemCopies_4, X_MemCopies_5, X_MemCopies_6, X_MemCopies_7, X_MemCopies_8, X_MemCopies_9, X_MemCopies_10, X_MemCopies_11, X_MemCopies_12, X_MemCopies_13, X_MemCopies_14, X_MemCopies_15, hw1]
      exact fin g1 ⟨_, F', T'⟩
    by_cases o3 : z.op = 3
    · simp -implicitDefEqProofs only [axt_20, axt_21, opt_some, optH_some, nb_cons, nb_nil, CD_true, CD_false, GD_tt, GD_ff, GD_tf, GD_ft, GD_un, pk_true, pk_false, nck_ptr, rv_one, rv_two, b_lss, b_leq, b_gtr, b_geq, b_eql, b_neq, b_add, b_sub, b_mul, b_quo, b_rem, b_shl, b_shr, b_and, b_or, b_xor, b_andNot, u_not, u_neg, nob_bool, nob_int, nob_string, nob_ptr, nob_slice, nob_map, nob_func, nob_nilf, nob_iface, nob_nili, nob_agg, nob_tuple, cok_bool, cok_int, cok_string, cok_ptr, cok_slice, cok_map, cok_func, nobot_nil, nobot_cons, onb_none, onb_some, cond_true, cond_false, abound_none, abound_int, Option.bind_some, Option.bind_none, nth, ↓nw, Value.cells, ↓BK, List.getElem?_cons_zero, List.getElem?_cons_succ, List.toList_toArray, Nat.zero_add, Nat.add_zero, List.length_cons, List.length_nil, List.length_replicate, List.length_map, List.length_set, List.all_cons, List.all_nil, setMany, List.set_cons_zero, List.set_cons_succ, List.drop_zero, List.take_zero, List.take_succ_cons, List.drop_succ_cons, List.take_nil, List.drop_nil, if_true, if_false, Bool.and_true, Bool.true_and, Nat.reduceAdd, Nat.reduceLeDiff, Nat.reduceMul, Nat.reduceMod, Nat.reduceDiv, Nat.reduceSub, Nat.reduceEqDiff, Nat.lt_irrefl, Int.reduceEq, Int.reduceLT, Int.reduceLE, Int.reduceAdd, Int.reduceSub, Int.reduceMul, Int.reduceNeg, Int.reduceToNat, and_true, true_and, Nat.le_refl, dec_t, dec_f, nxt_push, nxt_set, ro_pushk, ro_setk, next_lock, ro_lock, get_lock, get_push_self, get_push_eq, get_push_lt, get_set_self, get_set_ne, ne_eq, lt_add1, lt_add, sto, ldn, ld1, not_false_eq_true, not_true_eq_false, Bool.not_true, Bool.not_false, Bool.and_false, Bool.false_and, beq_self_eq_true, al_24, al_3, fa_32_0, fa_32_1, fa_32_2, fa_32_3, fa_32_4, ix_22, len_22, X_MemCopies_1, X_MemCopies_2, X_MemCopies_3, X_MemCopies_4, X_MemCopies_5, X_MemCopies_6, X_MemCopies_7, X_MemCopies_8, X_MemCopies_9, X_MemCopies_10, X_MemCopies_11, X_MemCopies_12, X_MemCopies_13, X_MemCopies_14, X_MemCopies_15, nb2, hl2, hki, ha, hg, l0, l1, l2, l4, l5, l6, l7, o1, o3]
      refine callD_of (by kernel_rfl) rfl (store_any2 (v := z.v) T.c T.sm zc zp) ?_
      intro r g1 mu
      obtain ⟨F', T'⟩ := T.mut mu (small_storeD T.sm _ _ _) (by rw [len_storeD]; exact T.len)
      simp -implicitDefEqProofs only [axt_20, axt_21, opt_some, optH_some, nb_cons, nb_nil, CD_true, CD_false, GD_tt, GD_ff, GD_tf, GD_ft, GD_un, pk_true, pk_false, nck_ptr, rv_one, rv_two, b_lss, b_leq, b_gtr, b_geq, b_eql, b_neq, b_add, b_sub, b_mul, b_quo, b_rem, b_shl, b_shr, b_and, b_or, b_xor, b_andNot, u_not, u_neg, nob_bool, nob_int, nob_string, nob_ptr, nob_slice, nob_map, nob_func, nob_nilf, nob_iface, nob_nili, nob_agg, nob_tuple, cok_bool, cok_int, cok_string, cok_ptr, cok_slice, cok_map, cok_func, nobot_nil, nobot_cons, onb_none, onb_some, cond_true, cond_false, abound_none, abound_int, Option.bind_some, Option.bind_none, nth, ↓nw, Value.cells, ↓BK, List.getElem?_cons_zero, List.getElem?_cons_succ, List.toList_toArray, Nat.zero_add, Nat.add_zero, List.length_cons, List.length_nil, List.length_replicate, List.length_map, List.length_set, List.all_cons, List.all_nil, setMany, List.set_cons_zero, List.set_cons_succ, List.drop_zero, List.take_zero, List.take_succ_cons, List.drop_succ_cons, List.take_nil, List.drop_nil, if_true, if_false, Bool.and_true, Bool.true_and, Nat.reduceAdd, Nat.reduceLeDiff, Nat.reduceMul, Nat.reduceMod, Nat.reduceDiv, Nat.reduceSub, Nat.reduceEqDiff, Nat.lt_irrefl, Int.reduceEq, Int.reduceLT, Int.reduceLE, Int.reduceAdd, Int.reduceSub, Int.reduceMul, Int.reduceNeg, Int.reduceToNat, and_true, true_and, Nat.le_refl, dec_t, dec_f, nxt_push, nxt_set, ro_pushk, ro_setk, next_lock, ro_lock, get_lock, get_push_self, get_push_eq, get_push_lt, get_set_self, get_set_ne, ne_eq, lt_add1, lt_add, sto, ldn, ld1, not_false_eq_true, not_true_eq_false, Bool.not_true, Bool.not_false, Bool.and_false, Bool.false_and, beq_self_eq_true, al_24, al_3, fa_32_0, fa_32_1, fa_32_2, fa_32_3, fa_32_4, ix_22, len_22, X_MemCopies_1, X_MemCopies_2, X_MemCopies_3, X_MemCopies_4, X_MemCopies_5, X_MemCopies_6, X_MemCopies_7, X_MemCopies_8, X_MemCopies_9, X_MemCopies_10, X_MemCopies_11, X_MemCopies_12, X_MemCopies_13, X_MemCopies_14, X_MemCopies_15, hw1]
      exact fin g1 ⟨_, F', T'⟩
    by_cases o4 : z.op = 4
    · simp -implicitDefEqProofs only [axt_20, axt_21, opt_some, optH_some, nb_cons, nb_nil, CD_true, CD_false, GD_tt, GD_ff, GD_tf, GD_ft, GD_un, pk_true, pk_false, nck_ptr, rv_one, rv_two, b_lss, b_leq, b_gtr, b_geq, b_eql, b_neq, b_add, b_sub, b_mul, b_quo, b_rem, b_shl, b_shr, b_and, b_or, b_xor, b_andNot, u_not, u_neg, nob_bool, nob_int, nob_string, nob_ptr, nob_slice, nob_map, nob_func, nob_nilf, nob_iface, nob_nili, nob_agg, nob_tuple, cok_bool, cok_int, cok_string, cok_ptr, cok_slice, cok_map, cok_func, nobot_nil, nobot_cons, onb_none, onb_some, cond_true, cond_false, abound_none, abound_int, Option.bind_some, Option.bind_none, nth, ↓nw, Value.cells, ↓BK, List.getElem?_cons_zero, List.getElem?_cons_succ, List.toList_toArray, Nat.zero_add, Nat.add_zero, List.length_cons, List.length_nil, List.length_replicate, List.length_map, List.length_set, List.all_cons, List.all_nil, setMany, List.set_cons_zero, List.set_cons_succ, List.drop_zero, List.take_zero, List.take_succ_cons, List.drop_succ_cons, List.take_nil, List.drop_nil, if_true, if_false, Bool.and_true, Bool.true_and, Nat.reduceAdd, Nat.reduceLeDiff, Nat.reduceMul, Nat.reduceMod, Nat.reduceDiv, Nat.reduceSub, Nat.reduceEqDiff, Nat.lt_irrefl, Int.reduceEq, Int.reduceLT, Int.reduceLE, Int.reduceAdd, Int.reduceSub, Int.reduceMul, Int.reduceNeg, Int.reduceToNat, and_true, true_and, Nat.le_refl, dec_t, dec_f, nxt_push, nxt_set, ro_pushk, ro_setk, next_lock, ro_lock, get_lock, get_push_self, get_push_eq, get_push_lt, get_set_self, get_set_ne, ne_eq, lt_add1, lt_add, sto, ldn, ld1, not_false_eq_true, not_true_eq_false, Bool.not_true, Bool.not_false, Bool.and_false, Bool.false_and, beq_self_eq_true, al_24, al_3, fa_32_0, fa_32_1, fa_32_2, fa_32_3, fa_32_4, ix_22, len_22, X_MemCopies_1, X_MemCopies_2, X_MemCopies_3, X_MemCopies_4, X_MemCopies_5, X_MemCopies_6, X_MemCopies_7, X_MemCopies_8, X_MemCopies_9, X_MemCopies_10, X_MemCopies_11, X_MemCopies_12, X_MemCopies_13, X_MemCopies_14, X_MemCopies_15, nb2, hl2, hki, ha, hg, l0, l1, o1, o3, o4]
      refine callV_of (by kernel_rfl) rfl (zero_any T.c T.sm zn) ?_
      intro r g1 mu
      obtain ⟨F', T'⟩ := T.mut mu (small_zero T.sm _) (by rw [len_zero]; exact T.len)
      simp -implicitDefEqProofs only [axt_20, axt_21, opt_some, optH_some, nb_cons, nb_nil, CD_true, CD_false, GD_tt, GD_ff, GD_tf, GD_ft, GD_un, pk_true, pk_false, nck_ptr, rv_one, rv_two, b_lss, b_leq, b_gtr, b_geq, b_eql, b_neq, b_add, b_sub, b_mul, b_quo, b_rem, b_shl, b_shr, b_and, b_or, b_xor, b_andNot, u_not, u_neg, nob_bool, nob_int, nob_string, nob_ptr, nob_slice, nob_map, nob_func, nob_nilf, nob_iface, nob_nili, nob_agg, nob_tuple, cok_bool, cok_int, cok_string, cok_ptr, cok_slice, cok_map, cok_func, nobot_nil, nobot_cons, onb_none, onb_some, cond_true, cond_false, abound_none, abound_int, Option.bind_some, Option.bind_none, nth, ↓nw, Value.cells, ↓BK, List.getElem?_cons_zero, List.getElem?_cons_succ, List.toList_toArray, Nat.zero_add, Nat.add_zero, List.length_cons, List.length_nil, List.length_replicate, List.length_map, List.length_set, List.all_cons, List.all_nil, setMany, List.set_cons_zero, List.set_cons_succ, List.drop_zero, List.take_zero, List.take_succ_cons, List.drop_succ_cons, List.take_nil, List.drop_nil, if_true, if_false, Bool.and_true, Bool.true_and, Nat.reduceAdd, Nat.reduceLeDiff, Nat.reduceMul, Nat.reduceMod, Nat.reduceDiv, Nat.reduceSub, Nat.reduceEqDiff, Nat.lt_irrefl, Int.reduceEq, Int.reduceLT, Int.reduceLE, Int.reduceAdd, Int.reduceSub, Int.reduceMul, Int.reduceNeg, Int.reduceToNat, and_true, true_and, Nat.le_refl, dec_t, dec_f, nxt_push, nxt_set, ro_pushk, ro_setk, next_lock, ro_lock, get_lock, get_push_self, get_push_eq, get_push_lt, get_set_self, get_set_ne, ne_eq, lt_add1, lt_add, sto, ldn, ld1, not_false_eq_true, not_true_eq_false, Bool.not_true, Bool.not_false, Bool.and_false, Bool.false_and, beq_self_eq_true, al_24, al_3, fa_32_0, fa_32_1, fa_32_2, fa_32_3, fa_32_4, ix_22, len_22, X_MemCopies_1, X_MemCopies_2, X_MemCopies_3, X_MemCopies_4, X_MemCopies_5, X_MemCopies_6, X_MemCopies_7, X_MemCopies_8, X_MemCopies_9, X_MemCopies_10, X_MemCopies_11, X_MemCopies_12, X_MemCopies_13, X_MemCopies_14, X_MemCopies_15, hw1]
      exact fin g1 ⟨_, F', T'⟩
    · simp -implicitDefEqProofs only [axt_20, axt_21, opt_some, optH_some, nb_cons, nb_nil, CD_true, CD_false, GD_tt, GD_ff, GD_tf, GD_ft, GD_un, pk_true, pk_false, nck_ptr, rv_one, rv_two, b_lss, b_leq, b_gtr, b_geq, b_eql, b_neq, b_add, b_sub, b_mul, b_quo, b_rem, b_shl, b_shr, b_and, b_or, b_xor, b_andNot, u_not, u_neg, nob_bool, nob_int, nob_string, nob_ptr, nob_slice, nob_map, nob_func, nob_nilf, nob_iface, nob_nili, nob_agg, nob_tuple, cok_bool, cok_int, cok_string, cok_ptr, cok_slice, cok_map, cok_func, nobot_nil, nobot_cons, onb_none, onb_some, cond_true, cond_false, abound_none, abound_int, Option.bind_some, Option.bind_none, nth, ↓nw, Value.cells, ↓BK, List.getElem?_cons_zero, List.getElem?_cons_succ, List.toList_toArray, Nat.zero_add, Nat.add_zero, List.length_cons, List.length_nil, List.length_replicate, List.length_map, List.length_set, List.all_cons, List.all_nil, setMany, List.set_cons_zero, List.set_cons_succ, List.drop_zero, List.take_zero, List.take_succ_cons, List.drop_succ_cons, List.take_nil, List.drop_nil, if_true, if_false, Bool.and_true, Bool.true_and, Nat.reduceAdd, Nat.reduceLeDiff, Nat.reduceMul, Nat.reduceMod, Nat.reduceDiv, Nat.reduceSub, Nat.reduceEqDiff, Nat.lt_irrefl, Int.reduceEq, Int.reduceLT, Int.reduceLE, Int.reduceAdd, Int.reduceSub, Int.reduceMul, Int.reduceNeg, Int.reduceToNat, and_true, true_and, Nat.le_refl, dec_t, dec_f, nxt_push, nxt_set, ro_pushk, ro_setk, next_lock, ro_lock, get_lock, get_push_self, get_push_eq, get_push_lt, get_set_self, get_set_ne, ne_eq, lt_add1, lt_add, sto, ldn, ld1, not_false_eq_true, not_true_eq_false, Bool.not_true, Bool.not_false, Bool.and_false, Bool.false_and, beq_self_eq_true, al_24, al_3, fa_32_0, fa_32_1, fa_32_2, fa_32_3, fa_32_4, ix_22, len_22, X_MemCopies_1, X_MemCopies_2, X_MemCopies_3, X_MemCopies_4, X_MemCopies_5, X_MemCopies_6, X_MemCopies_7, X_MemCopies_8, X_MemCopies_9, X_MemCopies_10, X_MemCopies_11, X_MemCopies_12, X_MemCopies_13, X_MemCopies_14, X_MemCopies_15, nb2, hl2, hki, ha, hg, l0, o1, o3, o4, hw1]
      exact fin g ⟨_, G, T⟩
  · have hki : ¬ (i : Int) < (z2.length : Int) := by omega
    simp -implicitDefEqProofs only [axt_20, axt_21, opt_some, optH_some, nb_cons, nb_nil, CD_true, CD_false, GD_tt, GD_ff, GD_tf, GD_ft, GD_un, pk_true, pk_false, nck_ptr, rv_one, rv_two, b_lss, b_leq, b_gtr, b_geq, b_eql, b_neq, b_add, b_sub, b_mul, b_quo, b_rem, b_shl, b_shr, b_and, b_or, b_xor, b_andNot, u_not, u_neg, nob_bool, nob_int, nob_string, nob_ptr, nob_slice, nob_map, nob_func, nob_nilf, nob_iface, nob_nili, nob_agg, nob_tuple, cok_bool, cok_int, cok_string, cok_ptr, cok_slice, cok_map, cok_func, nobot_nil, nobot_cons, onb_none, onb_some, cond_true, cond_false, abound_none, abound_int, Option.bind_some, Option.bind_none, nth, ↓nw, Value.cells, ↓BK, List.getElem?_cons_zero, List.getElem?_cons_succ, List.toList_toArray, Nat.zero_add, Nat.add_zero, List.length_cons, List.length_nil, List.length_replicate, List.length_map, List.length_set, List.all_cons, List.all_nil, setMany, List.set_cons_zero, List.set_cons_succ, List.drop_zero, List.take_zero, List.take_succ_cons, List.drop_succ_cons, List.take_nil, List.drop_nil, if_true, if_false, Bool.and_true, Bool.true_and, Nat.reduceAdd, Nat.reduceLeDiff, Nat.reduceMul, Nat.reduceMod, Nat.reduceDiv, Nat.reduceSub, Nat.reduceEqDiff, Nat.lt_irrefl, Int.reduceEq, Int.reduceLT, Int.reduceLE, Int.reduceAdd, Int.reduceSub, Int.reduceMul, Int.reduceNeg, Int.reduceToNat, and_true, true_and, Nat.le_refl, dec_t, dec_f, nxt_push, nxt_set, ro_pushk, ro_setk, next_lock, ro_lock, get_lock, get_push_self, get_push_eq, get_push_lt, get_set_self, get_set_ne, ne_eq, lt_add1, lt_add, sto, ldn, ld1, not_false_eq_true, not_true_eq_false, Bool.not_true, Bool.not_false, Bool.and_false, Bool.false_and, beq_self_eq_true, al_24, al_3, fa_32_0, fa_32_1, fa_32_2, fa_32_3, fa_32_4, ix_22, len_22, X_MemCopies_1, X_MemCopies_2, X_MemCopies_3, X_MemCopies_4, X_MemCopies_5, X_MemCopies_6, X_MemCopies_7, X_MemCopies_8, X_MemCopies_9, X_MemCopies_10, X_MemCopies_11, X_MemCopies_12, X_MemCopies_13, X_MemCopies_14, X_MemCopies_15, nb2, hl2, hki]
    refine callV_of (by kernel_rfl) rfl (sames_ok T.m T.w sm lM) ?_
    rintro r g1 ⟨rfl, rfl⟩
    simp -implicitDefEqProofs only [axt_20, axt_21, opt_some, optH_some, nb_cons, nb_nil, CD_true, CD_false, GD_tt, GD_ff, GD_tf, GD_ft, GD_un, pk_true, pk_false, nck_ptr, rv_one, rv_two, b_lss, b_leq, b_gtr, b_geq, b_eql, b_neq, b_add, b_sub, b_mul, b_quo, b_rem, b_shl, b_shr, b_and, b_or, b_xor, b_andNot, u_not, u_neg, nob_bool, nob_int, nob_string, nob_ptr, nob_slice, nob_map, nob_func, nob_nilf, nob_iface, nob_nili, nob_agg, nob_tuple, cok_bool, cok_int, cok_string, cok_ptr, cok_slice, cok_map, cok_func, nobot_nil, nobot_cons, onb_none, onb_some, cond_true, cond_false, abound_none, abound_int, Option.bind_some, Option.bind_none, nth, ↓nw, Value.cells, ↓BK, List.getElem?_cons_zero, List.getElem?_cons_succ, List.toList_toArray, Nat.zero_add, Nat.add_zero, List.length_cons, List.length_nil, List.length_replicate, List.length_map, List.length_set, List.all_cons, List.all_nil, setMany, List.set_cons_zero, List.set_cons_succ, List.drop_zero, List.take_zero, List.take_succ_cons, List.drop_succ_cons, List.take_nil, List.drop_nil, if_true, if_false, Bool.and_true, Bool.true_and, Nat.reduceAdd, Nat.reduceLeDiff, Nat.reduceMul, Nat.reduceMod, Nat.reduceDiv, Nat.reduceSub, Nat.reduceEqDiff, Nat.lt_irrefl, Int.reduceEq, Int.reduceLT, Int.reduceLE, Int.reduceAdd, Int.reduceSub, Int.reduceMul, Int.reduceNeg, Int.reduceToNat, and_true, true_and, Nat.le_refl, dec_t, dec_f, nxt_push, nxt_set, ro_pushk, ro_setk, next_lock, ro_lock, get_lock, get_push_self, get_push_eq, get_push_lt, get_set_self, get_set_ne, ne_eq, lt_add1, lt_add, sto, ldn, ld1, not_false_eq_true, not_true_eq_false, Bool.not_true, Bool.not_false, Bool.and_false, Bool.false_and, beq_self_eq_true, al_24, al_3, fa_32_0, fa_32_1, fa_32_2, fa_32_3, fa_32_4, ix_22, len_22, X_MemCopies_1, X_MemCopies_2, X_MemCopies_3, X_MemCopies_4, X_MemCopies_5, X_MemCopies_6, X_MemCopies_7, X_MemCopies_8, X_MemCopies_9, X_MemCopies_10, X_MemCopies_11, X_MemCopies_12, X_MemCopies_13, X_MemCopies_14, X_MemCopies_15]
    refine callV_of (by kernel_rfl) rfl (sames_ok T.w T.m sm lM) ?_
    rintro r g2 ⟨rfl, rfl⟩
    simp -implicitDefEqProofs only [axt_20, axt_21, opt_some, optH_some, nb_cons, nb_nil, CD_true, CD_false, GD_tt, GD_ff, GD_tf, GD_ft, GD_un, pk_true, pk_false, nck_ptr, rv_one, rv_two, b_lss, b_leq, b_gtr, b_geq, b_eql, b_neq, b_add, b_sub, b_mul, b_quo, b_rem, b_shl, b_shr, b_and, b_or, b_xor, b_andNot, u_not, u_neg, nob_bool, nob_int, nob_string, nob_ptr, nob_slice, nob_map, nob_func, nob_nilf, nob_iface, nob_nili, nob_agg, nob_tuple, cok_bool, cok_int, cok_string, cok_ptr, cok_slice, cok_map, cok_func, nobot_nil, nobot_cons, onb_none, onb_some, cond_true, cond_false, abound_none, abound_int, Option.bind_some, Option.bind_none, nth, ↓nw, Value.cells, ↓BK, List.getElem?_cons_zero, List.getElem?_cons_succ, List.toList_toArray, Nat.zero_add, Nat.add_zero, List.length_cons, List.length_nil, List.length_replicate, List.length_map, List.length_set, List.all_cons, List.all_nil, setMany, List.set_cons_zero, List.set_cons_succ, List.drop_zero, List.take_zero, List.take_succ_cons, List.drop_succ_cons, List.take_nil, List.drop_nil, if_true, if_false, Bool.and_true, Bool.true_and, Nat.reduceAdd, Nat.reduceLeDiff, Nat.reduceMul, Nat.reduceMod, Nat.reduceDiv, Nat.reduceSub, Nat.reduceEqDiff, Nat.lt_irrefl, Int.reduceEq, Int.reduceLT, Int.reduceLE, Int.reduceAdd, Int.reduceSub, Int.reduceMul, Int.reduceNeg, Int.reduceToNat, and_true, true_and, Nat.le_refl, dec_t, dec_f, nxt_push, nxt_set, ro_pushk, ro_setk, next_lock, ro_lock, get_lock, get_push_self, get_push_eq, get_push_lt, get_set_self, get_set_ne, ne_eq, lt_add1, lt_add, sto, ldn, ld1, not_false_eq_true, not_true_eq_false, Bool.not_true, Bool.not_false, Bool.and_false, Bool.false_and, beq_self_eq_true, al_24, al_3, fa_32_0, fa_32_1, fa_32_2, fa_32_3, fa_32_4, ix_22, len_22, X_MemCopies_1, X_MemCopies_2, X_MemCopies_3, X_MemCopies_4, X_MemCopies_5, X_MemCopies_6, X_MemCopies_7, X_MemCopies_8, X_MemCopies_9, X_MemCopies_10, X_MemCopies_11, X_MemCopies_12, X_MemCopies_13, X_MemCopies_14, X_MemCopies_15]
    rfl
end Go.Mem
