/-
  MEMORY: what a heap of the program's holds of one, in plain words.
-/
import Derived.Test.YtpilbfkinpbnoaaMemF
namespace Go.Mem
open Go.Ai Go.Proofs
set_option linter.unusedVariables false
set_option linter.unusedSimpArgs false
/-- api.Val -/
structure V where
  k : Int
  n : Int
  b : Int
  deriving DecidableEq
def V.vals (v : V) : List Value := [.int .i64 v.k, .int .i64 v.n, .int .i64 v.b]
def V.val (v : V) : Value := .agg #[.int .i64 v.k, .int .i64 v.n, .int .i64 v.b]
def v0 : V := ⟨0, 0, 0⟩
/-- A byte. -/
structure Cl where
  k : Int
  n : Int
  p : V
  deriving DecidableEq
def Cl.vals (c : Cl) : List Value := [.int .u8 c.k, .int .u8 c.n, .int .i64 c.p.k, .int .i64 c.p.n, .int .i64 c.p.b]
def unk : Cl := ⟨0, 0, v0⟩
/-- A block. -/
structure MB where
  size : Nat
  freed : Bool
  byte : Nat → Cl
abbrev MM := List MB

/-! ### Heaps -/
def gptr : Option Nat → Value
  | none => .pointer none
  | some g => .pointer (some ⟨g, 0, none⟩)
def PageH (h : AHeap) (g : Nat) (f : Nat → Cl) : Prop := ∃ cs, h.get g = some (.cells cs 81) ∧ cs.length = 320 ∧ ∀ k j, k < 64 → j < 5 → cs[k * 5 + j]? = (f k).vals[j]?
/-- The pages of a block, in an array of theirs. -/
structure FullH (h : AHeap) (q : Nat) (gs : List (Option Nat)) (B : MB) (F : Nat → Prop) : Prop where
  hl : gs.length = (B.size + 63) / 64
  fq : F q
  hq : h.get q = some (.cells (gs.map gptr) 69)
  hg : ∀ (j g : Nat), gs[j]? = some (some g) → F g ∧ PageH h g (fun k => B.byte (64 * j + k))
  hn : ∀ j : Nat, gs[j]? = some none → ∀ k, k < 64 → B.byte (64 * j + k) = unk
  hd : ∀ i j g : Nat, gs[i]? = some (some g) → gs[j]? = some (some g) → i = j
  ht : ∀ k, 64 * gs.length ≤ k → B.byte k = unk
/-- The pages of a block. -/
inductive PagesH (h : AHeap) (pg : Value) (B : MB) (F : Nat → Prop) : Prop
  | empty (e : pg = .slice none 0 0) (u : ∀ k, B.byte k = unk) : PagesH h pg B F
  | full (q c : Nat) (gs : List (Option Nat)) (e : pg = .slice (some ⟨q, 0, none⟩) gs.length c) (x : FullH h q gs B F) : PagesH h pg B F
def BlkH (h : AHeap) (p : Nat) (B : MB) (F : Nat → Prop) : Prop := ∃ pg, h.get p = some (.cells [.int .i64 B.size, pg, .bool B.freed] 60) ∧ F p ∧ PagesH h pg B F
def live (M : MM) : Nat := (M.filter fun B => !B.freed).length
/-- A memory, opened. -/
structure MemO (h : AHeap) (m : Nat) (bs : Value) (ps : List Nat) (fs : Nat → Nat → Prop) (M : MM) (F : Nat → Prop) : Prop where
  hm : h.get m = some (.cells [bs, .int .i64 (live M)] 56)
  fm : F m
  len : ps.length = M.length
  hb : (M = [] ∧ bs = .slice none 0 0) ∨ ∃ bb c, bs = .slice (some ⟨bb, 0, none⟩) M.length c ∧ c ≠ 0 ∧ F bb ∧ h.get bb = some (.cells (ps.map fun p => .pointer (some ⟨p, 0, none⟩)) 57) ∧ ∀ i, ¬ fs i bb
  nm : ∀ i, ¬ fs i m
  blk : ∀ i p B, ps[i]? = some p → M[i]? = some B → BlkH h p B (fs i)
  dis : ∀ i j b, fs i b → fs j b → i = j
  sub : ∀ i b, fs i b → F b
  ok : ∀ b, F b → h.ro ≤ b ∧ b < h.next
def MemH (h : AHeap) (m : Nat) (M : MM) (F : Nat → Prop) : Prop := ∃ bs ps fs, MemO h m bs ps fs M F
/-- What was there and is none of F's is as it was. -/
structure Eff (F : Nat → Prop) (h h' : AHeap) : Prop where
  next : h.next ≤ h'.next
  ro : h'.ro = h.ro
  get : ∀ b, ¬ F b → b < h.next → h'.get b = h.get b
theorem Eff.refl (F : Nat → Prop) (h : AHeap) : Eff F h h := ⟨Nat.le_refl _, rfl, fun _ _ _ => rfl⟩
theorem Eff.trans {F : Nat → Prop} {a b c : AHeap} (x : Eff F a b) (y : Eff F b c) : Eff F a c :=
  ⟨Nat.le_trans x.next y.next, y.ro.trans x.ro, fun i hi hlt => (y.get i hi (Nat.lt_of_lt_of_le hlt x.next)).trans (x.get i hi hlt)⟩
theorem Eff.mono {F G : Nat → Prop} {a b : AHeap} (x : Eff F a b) (h : ∀ i, F i → G i) : Eff G a b := ⟨x.next, x.ro, fun i hi hlt => x.get i (fun e => hi (h i e)) hlt⟩
def nof : Nat → Prop := fun _ => False
theorem Eff.push {F : Nat → Prop} {h h' : AHeap} (x : Eff F h h') (o : AObj) : Eff F h (h'.push o) :=
  ⟨Nat.le_succ_of_le x.next, x.ro, fun b hb hlt => (get_push_lt (Nat.lt_of_lt_of_le hlt x.next)).trans (x.get b hb hlt)⟩
theorem Eff.set {F : Nat → Prop} {h h' : AHeap} (x : Eff F h h') {b : Nat} (hb : F b ∨ h.next ≤ b) (o : Option AObj) : Eff F h (h'.set b o) :=
  ⟨x.next, x.ro, fun c hc hlt => (get_set_ne (by rcases hb with e | e; · intro q; subst q; exact hc e
                                                 · omega)).trans (x.get c hc hlt)⟩
section mono
variable {h h' : AHeap}
theorem PageH.keep {g : Nat} {f : Nat → Cl} (x : PageH h g f) (e : h'.get g = h.get g) : PageH h' g f := by obtain ⟨cs, a, b⟩ := x; exact ⟨cs, e.trans a, b⟩
theorem FullH.keep {q : Nat} {gs : List (Option Nat)} {B : MB} {F : Nat → Prop} (x : FullH h q gs B F) (e : ∀ b, F b → h'.get b = h.get b) : FullH h' q gs B F :=
  ⟨x.hl, x.fq, (e q x.fq).trans x.hq, fun j g hj => ⟨(x.hg j g hj).1, (x.hg j g hj).2.keep (e g (x.hg j g hj).1)⟩, x.hn, x.hd, x.ht⟩
theorem FullH.more {q : Nat} {gs : List (Option Nat)} {B : MB} {F G : Nat → Prop} (x : FullH h q gs B F) (e : ∀ b, F b → G b) : FullH h q gs B G :=
  ⟨x.hl, e q x.fq, x.hq, fun j g hj => ⟨e _ (x.hg j g hj).1, (x.hg j g hj).2⟩, x.hn, x.hd, x.ht⟩
theorem PagesH.keep {pg : Value} {B : MB} {F : Nat → Prop} (x : PagesH h pg B F) (e : ∀ b, F b → h'.get b = h.get b) : PagesH h' pg B F := by
  cases x with
  | empty a b => exact .empty a b
  | full q c gs a x => exact .full q c gs a (x.keep e)
theorem PagesH.more {pg : Value} {B : MB} {F G : Nat → Prop} (x : PagesH h pg B F) (e : ∀ b, F b → G b) : PagesH h pg B G := by
  cases x with
  | empty a b => exact .empty a b
  | full q c gs a x => exact .full q c gs a (x.more e)
theorem BlkH.keep {p : Nat} {B : MB} {F : Nat → Prop} (x : BlkH h p B F) (e : ∀ b, F b → h'.get b = h.get b) : BlkH h' p B F := by
  obtain ⟨pg, a, b, c⟩ := x; exact ⟨pg, (e p b).trans a, b, c.keep e⟩
theorem BlkH.more {p : Nat} {B : MB} {F G : Nat → Prop} (x : BlkH h p B F) (e : ∀ b, F b → G b) : BlkH h p B G := by
  obtain ⟨pg, a, b, c⟩ := x; exact ⟨pg, a, e p b, c.more e⟩
theorem MemO.keep {m : Nat} {bs : Value} {ps : List Nat} {fs : Nat → Nat → Prop} {M : MM} {F : Nat → Prop} (x : MemO h m bs ps fs M F) (e : ∀ b, F b → h'.get b = h.get b) (hn : h.next ≤ h'.next) (hr : h'.ro = h.ro) : MemO h' m bs ps fs M F :=
  ⟨(e m x.fm).trans x.hm, x.fm, x.len, by
    rcases x.hb with a | ⟨bb, c, a, b, d, g, o⟩
    · exact .inl a
    · exact .inr ⟨bb, c, a, b, d, (e bb d).trans g, o⟩, x.nm, fun i p B hp hB => (x.blk i p B hp hB).keep (fun b hb => e b (x.sub i b hb)), x.dis, x.sub, fun b hb => by
      have := x.ok b hb; rw [hr]; omega⟩
theorem MemH.keep {m : Nat} {M : MM} {F : Nat → Prop} (x : MemH h m M F) (e : ∀ b, F b → h'.get b = h.get b) (hn : h.next ≤ h'.next) (hr : h'.ro = h.ro) : MemH h' m M F := by
  obtain ⟨bs, ps, fs, x⟩ := x; exact ⟨bs, ps, fs, x.keep e hn hr⟩
/-- A memory stays, where nothing of its own is turned. -/
theorem MemH.eff {m : Nat} {M : MM} {F G : Nat → Prop} (x : MemH h m M F) (e : Eff G h h') (hd : ∀ b, F b → ¬ G b) : MemH h' m M F := by
  obtain ⟨bs, ps, fs, x⟩ := x
  exact ⟨bs, ps, fs, x.keep (fun b hb => e.get b (hd b hb) (x.ok b hb).2) e.next e.ro⟩
end mono

theorem live_set {M : MM} {i : Nat} {B B' : MB} (h : M[i]? = some B) (hf : B'.freed = B.freed) : live (M.set i B') = live M := by
  unfold live
  induction M generalizing i with
  | nil => rfl
  | cons A M ih =>
    cases i with
    | zero => simp at h; subst h; simp [hf, List.filter_cons]; split <;> rfl
    | succ i => simp at h; simp only [List.set_cons_succ, List.filter_cons]; split <;> simp [ih h]
theorem set_same {M : MM} {i : Nat} {B : MB} (h : M[i]? = some B) : M.set i B = M := by
  apply List.ext_getElem?
  intro j
  by_cases e : i = j
  · subst e
    have hlt : i < M.length := by
      rcases Nat.lt_or_ge i M.length with a | a
      · exact a
      · rw [List.getElem?_eq_none a] at h; cases h
    rw [List.getElem?_set_self hlt, h]
  · rw [List.getElem?_set_ne e]
/-- One block is turned. -/
theorem MemO.upd {h h1 : AHeap} {m : Nat} {bs : Value} {ps : List Nat} {fs : Nat → Nat → Prop} {M : MM} {F : Nat → Prop} (x : MemO h m bs ps fs M F) {i q : Nat} {B B' : MB} {F2 : Nat → Prop} (hq : ps[i]? = some q) (hB : M[i]? = some B) (hf : B'.freed = B.freed)
    (eff : Eff (fs i) h h1) (hb : BlkH h1 q B' F2) (h2 : ∀ b, F2 b → fs i b ∨ h.next ≤ b) (h3 : ∀ b, F2 b → h1.ro ≤ b ∧ b < h1.next) :
    MemO h1 m bs ps (fun k => if k = i then F2 else fs k) (M.set i B') (fun b => F b ∨ F2 b) := by
  have old : ∀ b, F b → ¬ fs i b → h1.get b = h.get b := fun b hb hn => eff.get b hn (x.ok b hb).2
  have hnew : ∀ b, h.next ≤ b → F b → False := fun b hl hb => by have := (x.ok b hb).2; omega
  have hlt : i < M.length := by
    rcases Nat.lt_or_ge i M.length with a | a
    · exact a
    · rw [List.getElem?_eq_none a] at hB; cases hB
  refine ⟨by rw [old m x.fm (x.nm i), x.hm, live_set hB hf], .inl x.fm, by rw [x.len, List.length_set], ?_, ?_, ?_, ?_, ?_, ?_⟩
  · rcases x.hb with ⟨rfl, _⟩ | ⟨bb, c, e1, e2, e3, e4, e5⟩
    · cases hB
    · refine .inr ⟨bb, c, by rw [e1, List.length_set], e2, .inl e3, (old bb e3 (e5 i)).trans e4, fun k hk => ?_⟩
      split at hk
      · rcases h2 bb hk with a | a
        · exact e5 i a
        · exact hnew bb a e3
      · exact e5 k hk
  · intro k hk
    split at hk
    · rcases h2 m hk with a | a
      · exact x.nm i a
      · exact hnew m a x.fm
    · exact x.nm k hk
  · intro k p C hp hC
    by_cases e : k = i
    · subst e
      rw [List.getElem?_set_self hlt] at hC
      cases hC
      rw [hq] at hp; cases hp
      simp only [if_pos]
      exact hb
    · rw [List.getElem?_set_ne (fun q => e q.symm)] at hC
      simp only [if_neg e]
      exact (x.blk k p C hp hC).keep (fun b hb => old b (x.sub k b hb) (fun hc => e (x.dis k i b hb hc)))
  · intro a b z ha hz
    split at ha <;> split at hz
    · rename_i e1 e2; rw [e1, e2]
    · rename_i e1 e2
      rcases h2 z ha with c | c
      · exact absurd (x.dis b i z hz c) e2
      · exact (hnew z c (x.sub b z hz)).elim
    · rename_i e1 e2
      rcases h2 z hz with c | c
      · exact absurd (x.dis a i z ha c) e1
      · exact (hnew z c (x.sub a z ha)).elim
    · exact x.dis a b z ha hz
  · intro k b hk
    split at hk
    · exact .inr hk
    · exact .inl (x.sub k b hk)
  · intro b hb
    have n1 := eff.next
    have n2 := eff.ro
    rcases hb with hb | hb
    · have := x.ok b hb; omega
    · exact h3 b hb

/-! ### Values -/
def goodV (v : V) : Bool := if v.k = 0 then (v.n == 0 && v.b == 0) else if v.k = 1 then v.b == 0 else v.k == 2 && decide (1 ≤ v.b)
theorem good_q (v : V) (h : AHeap) : Quiet Try.prog 24 [v.val] h (.bool (goodV v)) := by
  refine Quiet.of rfl ?_
  obtain ⟨k, n, b⟩ := v
  apply W_good_ok
  unfold W_good V.val goodV
  by_cases h0 : k = 0
  · subst h0
    simp only [axt_20, axt_21, opt_some, optH_some, nb_cons, nb_nil, CD_true, CD_false, GD_tt, GD_ff, GD_tf, GD_ft, GD_un, pk_true, pk_false, nck_ptr, rv_one, rv_two, b_lss, b_leq, b_gtr, b_geq, b_eql, b_neq, b_add, b_sub, b_mul, b_quo, b_rem, b_shl, b_shr, b_and, b_or, b_xor, b_andNot, u_not, u_neg, nob_bool, nob_int, nob_string, nob_ptr, nob_slice, nob_map, nob_func, nob_nilf, nob_iface, nob_nili, nob_agg, nob_tuple, cok_bool, cok_int, cok_string, cok_ptr, cok_slice, cok_map, cok_func, nobot_nil, nobot_cons, onb_none, onb_some, cond_true, cond_false, abound_none, abound_int, Option.bind_some, Option.bind_none, nth, nw, Value.cells, BK, List.getElem?_cons_zero, List.getElem?_cons_succ, List.toList_toArray, Nat.zero_add, Nat.add_zero, List.length_cons, List.length_nil, List.length_replicate, List.length_map, List.length_set, List.all_cons, List.all_nil, setMany, List.set_cons_zero, List.set_cons_succ, List.drop_zero, List.take_zero, List.take_succ_cons, List.drop_succ_cons, List.take_nil, List.drop_nil, if_true, if_false, Bool.and_true, Bool.true_and, Nat.reduceAdd, Nat.reduceLeDiff, Nat.reduceMul, Nat.reduceMod, Nat.reduceDiv, Nat.reduceSub, Nat.reduceEqDiff, Nat.lt_irrefl, Int.reduceEq, Int.reduceLT, Int.reduceLE, Int.reduceAdd, Int.reduceSub, Int.reduceMul, Int.reduceNeg, Int.reduceToNat, and_true, true_and, Nat.le_refl, dec_t, dec_f, nxt_push, nxt_set, ro_pushk, ro_setk, next_lock, ro_lock, get_lock, get_push_self, get_push_eq, get_push_lt, get_set_self, get_set_ne, ne_eq, lt_add1, lt_add, sto, ldn, ld1, not_false_eq_true, not_true_eq_false, Bool.not_true, Bool.not_false, Bool.and_false, Bool.false_and, beq_self_eq_true, al_24, al_3, bd_24_, eql_24, fa_24_0, fa_24_2]
    try rfl
  · by_cases h1 : k = 1
    · subst h1
      simp only [axt_20, axt_21, opt_some, optH_some, nb_cons, nb_nil, CD_true, CD_false, GD_tt, GD_ff, GD_tf, GD_ft, GD_un, pk_true, pk_false, nck_ptr, rv_one, rv_two, b_lss, b_leq, b_gtr, b_geq, b_eql, b_neq, b_add, b_sub, b_mul, b_quo, b_rem, b_shl, b_shr, b_and, b_or, b_xor, b_andNot, u_not, u_neg, nob_bool, nob_int, nob_string, nob_ptr, nob_slice, nob_map, nob_func, nob_nilf, nob_iface, nob_nili, nob_agg, nob_tuple, cok_bool, cok_int, cok_string, cok_ptr, cok_slice, cok_map, cok_func, nobot_nil, nobot_cons, onb_none, onb_some, cond_true, cond_false, abound_none, abound_int, Option.bind_some, Option.bind_none, nth, nw, Value.cells, BK, List.getElem?_cons_zero, List.getElem?_cons_succ, List.toList_toArray, Nat.zero_add, Nat.add_zero, List.length_cons, List.length_nil, List.length_replicate, List.length_map, List.length_set, List.all_cons, List.all_nil, setMany, List.set_cons_zero, List.set_cons_succ, List.drop_zero, List.take_zero, List.take_succ_cons, List.drop_succ_cons, List.take_nil, List.drop_nil, if_true, if_false, Bool.and_true, Bool.true_and, Nat.reduceAdd, Nat.reduceLeDiff, Nat.reduceMul, Nat.reduceMod, Nat.reduceDiv, Nat.reduceSub, Nat.reduceEqDiff, Nat.lt_irrefl, Int.reduceEq, Int.reduceLT, Int.reduceLE, Int.reduceAdd, Int.reduceSub, Int.reduceMul, Int.reduceNeg, Int.reduceToNat, and_true, true_and, Nat.le_refl, dec_t, dec_f, nxt_push, nxt_set, ro_pushk, ro_setk, next_lock, ro_lock, get_lock, get_push_self, get_push_eq, get_push_lt, get_set_self, get_set_ne, ne_eq, lt_add1, lt_add, sto, ldn, ld1, not_false_eq_true, not_true_eq_false, Bool.not_true, Bool.not_false, Bool.and_false, Bool.false_and, beq_self_eq_true, al_24, al_3, bd_24_, eql_24, fa_24_0, fa_24_2, h0]
      try rfl
    · by_cases h2 : k = 2
      · subst h2
        simp only [axt_20, axt_21, opt_some, optH_some, nb_cons, nb_nil, CD_true, CD_false, GD_tt, GD_ff, GD_tf, GD_ft, GD_un, pk_true, pk_false, nck_ptr, rv_one, rv_two, b_lss, b_leq, b_gtr, b_geq, b_eql, b_neq, b_add, b_sub, b_mul, b_quo, b_rem, b_shl, b_shr, b_and, b_or, b_xor, b_andNot, u_not, u_neg, nob_bool, nob_int, nob_string, nob_ptr, nob_slice, nob_map, nob_func, nob_nilf, nob_iface, nob_nili, nob_agg, nob_tuple, cok_bool, cok_int, cok_string, cok_ptr, cok_slice, cok_map, cok_func, nobot_nil, nobot_cons, onb_none, onb_some, cond_true, cond_false, abound_none, abound_int, Option.bind_some, Option.bind_none, nth, nw, Value.cells, BK, List.getElem?_cons_zero, List.getElem?_cons_succ, List.toList_toArray, Nat.zero_add, Nat.add_zero, List.length_cons, List.length_nil, List.length_replicate, List.length_map, List.length_set, List.all_cons, List.all_nil, setMany, List.set_cons_zero, List.set_cons_succ, List.drop_zero, List.take_zero, List.take_succ_cons, List.drop_succ_cons, List.take_nil, List.drop_nil, if_true, if_false, Bool.and_true, Bool.true_and, Nat.reduceAdd, Nat.reduceLeDiff, Nat.reduceMul, Nat.reduceMod, Nat.reduceDiv, Nat.reduceSub, Nat.reduceEqDiff, Nat.lt_irrefl, Int.reduceEq, Int.reduceLT, Int.reduceLE, Int.reduceAdd, Int.reduceSub, Int.reduceMul, Int.reduceNeg, Int.reduceToNat, and_true, true_and, Nat.le_refl, dec_t, dec_f, nxt_push, nxt_set, ro_pushk, ro_setk, next_lock, ro_lock, get_lock, get_push_self, get_push_eq, get_push_lt, get_set_self, get_set_ne, ne_eq, lt_add1, lt_add, sto, ldn, ld1, not_false_eq_true, not_true_eq_false, Bool.not_true, Bool.not_false, Bool.and_false, Bool.false_and, beq_self_eq_true, al_24, al_3, bd_24_, eql_24, fa_24_0, fa_24_2, h0, h1]
        try rfl
      · simp only [axt_20, axt_21, opt_some, optH_some, nb_cons, nb_nil, CD_true, CD_false, GD_tt, GD_ff, GD_tf, GD_ft, GD_un, pk_true, pk_false, nck_ptr, rv_one, rv_two, b_lss, b_leq, b_gtr, b_geq, b_eql, b_neq, b_add, b_sub, b_mul, b_quo, b_rem, b_shl, b_shr, b_and, b_or, b_xor, b_andNot, u_not, u_neg, nob_bool, nob_int, nob_string, nob_ptr, nob_slice, nob_map, nob_func, nob_nilf, nob_iface, nob_nili, nob_agg, nob_tuple, cok_bool, cok_int, cok_string, cok_ptr, cok_slice, cok_map, cok_func, nobot_nil, nobot_cons, onb_none, onb_some, cond_true, cond_false, abound_none, abound_int, Option.bind_some, Option.bind_none, nth, nw, Value.cells, BK, List.getElem?_cons_zero, List.getElem?_cons_succ, List.toList_toArray, Nat.zero_add, Nat.add_zero, List.length_cons, List.length_nil, List.length_replicate, List.length_map, List.length_set, List.all_cons, List.all_nil, setMany, List.set_cons_zero, List.set_cons_succ, List.drop_zero, List.take_zero, List.take_succ_cons, List.drop_succ_cons, List.take_nil, List.drop_nil, if_true, if_false, Bool.and_true, Bool.true_and, Nat.reduceAdd, Nat.reduceLeDiff, Nat.reduceMul, Nat.reduceMod, Nat.reduceDiv, Nat.reduceSub, Nat.reduceEqDiff, Nat.lt_irrefl, Int.reduceEq, Int.reduceLT, Int.reduceLE, Int.reduceAdd, Int.reduceSub, Int.reduceMul, Int.reduceNeg, Int.reduceToNat, and_true, true_and, Nat.le_refl, dec_t, dec_f, nxt_push, nxt_set, ro_pushk, ro_setk, next_lock, ro_lock, get_lock, get_push_self, get_push_eq, get_push_lt, get_set_self, get_set_ne, ne_eq, lt_add1, lt_add, sto, ldn, ld1, not_false_eq_true, not_true_eq_false, Bool.not_true, Bool.not_false, Bool.and_false, Bool.false_and, beq_self_eq_true, al_24, al_3, bd_24_, eql_24, fa_24_0, fa_24_2, h0, h1, h2]
        simp [h0, h1, h2]
theorem of_q (n : Int) (h : AHeap) : DC Try.prog 26 [.int .i64 n] h (fun v h1 => v = V.val ⟨1, n, 0⟩ ∧ Eff nof h h1) := by
  apply DC_wf; intro hwf; have hro := hwf.2
  apply W_Of_ok
  unfold W_Of V.val
  simp only [axt_20, axt_21, opt_some, optH_some, nb_cons, nb_nil, CD_true, CD_false, GD_tt, GD_ff, GD_tf, GD_ft, GD_un, pk_true, pk_false, nck_ptr, rv_one, rv_two, b_lss, b_leq, b_gtr, b_geq, b_eql, b_neq, b_add, b_sub, b_mul, b_quo, b_rem, b_shl, b_shr, b_and, b_or, b_xor, b_andNot, u_not, u_neg, nob_bool, nob_int, nob_string, nob_ptr, nob_slice, nob_map, nob_func, nob_nilf, nob_iface, nob_nili, nob_agg, nob_tuple, cok_bool, cok_int, cok_string, cok_ptr, cok_slice, cok_map, cok_func, nobot_nil, nobot_cons, onb_none, onb_some, cond_true, cond_false, abound_none, abound_int, Option.bind_some, Option.bind_none, nth, nw, Value.cells, BK, List.getElem?_cons_zero, List.getElem?_cons_succ, List.toList_toArray, Nat.zero_add, Nat.add_zero, List.length_cons, List.length_nil, List.length_replicate, List.length_map, List.length_set, List.all_cons, List.all_nil, setMany, List.set_cons_zero, List.set_cons_succ, List.drop_zero, List.take_zero, List.take_succ_cons, List.drop_succ_cons, List.take_nil, List.drop_nil, if_true, if_false, Bool.and_true, Bool.true_and, Nat.reduceAdd, Nat.reduceLeDiff, Nat.reduceMul, Nat.reduceMod, Nat.reduceDiv, Nat.reduceSub, Nat.reduceEqDiff, Nat.lt_irrefl, Int.reduceEq, Int.reduceLT, Int.reduceLE, Int.reduceAdd, Int.reduceSub, Int.reduceMul, Int.reduceNeg, Int.reduceToNat, and_true, true_and, Nat.le_refl, dec_t, dec_f, nxt_push, nxt_set, ro_pushk, ro_setk, next_lock, ro_lock, get_lock, get_push_self, get_push_eq, get_push_lt, get_set_self, get_set_ne, ne_eq, lt_add1, lt_add, sto, ldn, ld1, not_false_eq_true, not_true_eq_false, Bool.not_true, Bool.not_false, Bool.and_false, Bool.false_and, beq_self_eq_true, al_24, as_24, az_24, bd_24_0_1, hro]
  exact ((Eff.refl _ _).push _).set (.inr (Nat.le_refl _)) _
end Go.Mem
namespace Go.Mem
open Go.Ai Go.Proofs
set_option linter.unusedVariables false
set_option linter.unusedSimpArgs false
theorem w64 {n : Int} (h1 : -9223372036854775808 ≤ n) (h2 : n < 9223372036854775808) : IntKind.wrap .i64 n = n := by
  simp only [IntKind.wrap, IntKind.bits, IntKind.signed]; simp; omega
/-- Which block a number names, if it is one. -/
def idx (M : MM) (n : Int) : Option Nat := if 1 ≤ n ∧ n ≤ M.length then (match M[n.toNat - 1]? with
  | some B => if B.freed = true then none else some (n.toNat - 1)
  | none => none) else none
theorem idx_some {M : MM} {n : Int} {i : Nat} (h : idx M n = some i) : n = i + 1 ∧ ∃ B, M[i]? = some B ∧ B.freed = false := by
  unfold idx at h
  split at h
  case isFalse => cases h
  rename_i hn
  split at h
  case h_2 => cases h
  rename_i B hB
  split at h
  case isTrue => cases h
  rename_i hf
  simp only [Option.some.injEq] at h
  subst h
  exact ⟨by omega, B, hB, by simpa using hf⟩
theorem get_ptr {ps : List Nat} {i p : Nat} (h : ps[i]? = some p) : (ps.map fun p => Value.pointer (some ⟨p, 0, none⟩))[i]? = some (.pointer (some ⟨p, 0, none⟩)) := by simp [h]
theorem at_ok {h : AHeap} {m : Nat} {bs : Value} {ps : List Nat} {fs : Nat → Nat → Prop} {M : MM} {F : Nat → Prop} (x : MemO h m bs ps fs M F) {n : Int} (hn : n < 9223372036854775808) :
    DC Try.prog 27 [.pointer (some ⟨m, 0, none⟩), .int .i64 n] h (fun v h1 => h1 = h ∧ v = gptr ((idx M n).bind fun i => ps[i]?)) := by
  apply W_at_ok
  unfold W_at
  have hm := x.hm
  by_cases h1 : n < 1
  · have e : idx M n = none := by unfold idx; rw [if_neg (by omega)]
    simp only [axt_20, axt_21, opt_some, optH_some, nb_cons, nb_nil, CD_true, CD_false, GD_tt, GD_ff, GD_tf, GD_ft, GD_un, pk_true, pk_false, nck_ptr, rv_one, rv_two, b_lss, b_leq, b_gtr, b_geq, b_eql, b_neq, b_add, b_sub, b_mul, b_quo, b_rem, b_shl, b_shr, b_and, b_or, b_xor, b_andNot, u_not, u_neg, nob_bool, nob_int, nob_string, nob_ptr, nob_slice, nob_map, nob_func, nob_nilf, nob_iface, nob_nili, nob_agg, nob_tuple, cok_bool, cok_int, cok_string, cok_ptr, cok_slice, cok_map, cok_func, nobot_nil, nobot_cons, onb_none, onb_some, cond_true, cond_false, abound_none, abound_int, Option.bind_some, Option.bind_none, nth, nw, Value.cells, BK, List.getElem?_cons_zero, List.getElem?_cons_succ, List.toList_toArray, Nat.zero_add, Nat.add_zero, List.length_cons, List.length_nil, List.length_replicate, List.length_map, List.length_set, List.all_cons, List.all_nil, setMany, List.set_cons_zero, List.set_cons_succ, List.drop_zero, List.take_zero, List.take_succ_cons, List.drop_succ_cons, List.take_nil, List.drop_nil, if_true, if_false, Bool.and_true, Bool.true_and, Nat.reduceAdd, Nat.reduceLeDiff, Nat.reduceMul, Nat.reduceMod, Nat.reduceDiv, Nat.reduceSub, Nat.reduceEqDiff, Nat.lt_irrefl, Int.reduceEq, Int.reduceLT, Int.reduceLE, Int.reduceAdd, Int.reduceSub, Int.reduceMul, Int.reduceNeg, Int.reduceToNat, and_true, true_and, Nat.le_refl, dec_t, dec_f, nxt_push, nxt_set, ro_pushk, ro_setk, next_lock, ro_lock, get_lock, get_push_self, get_push_eq, get_push_lt, get_set_self, get_set_ne, ne_eq, lt_add1, lt_add, sto, ldn, ld1, not_false_eq_true, not_true_eq_false, Bool.not_true, Bool.not_false, Bool.and_false, Bool.false_and, beq_self_eq_true, al_4, al_54, al_57, fa_56_0, fa_60_2, ix_54, len_54, h1, e, Option.bind_none, gptr]
  · rcases x.hb with ⟨rfl, rfl⟩ | ⟨bb, c, rfl, hc, fb, hbb, _⟩
    · have e : idx ([] : MM) n = none := by unfold idx; rw [if_neg (by simp; omega)]
      have h2 : ((0 : Nat) : Int) < n := by omega
      simp only [axt_20, axt_21, opt_some, optH_some, nb_cons, nb_nil, CD_true, CD_false, GD_tt, GD_ff, GD_tf, GD_ft, GD_un, pk_true, pk_false, nck_ptr, rv_one, rv_two, b_lss, b_leq, b_gtr, b_geq, b_eql, b_neq, b_add, b_sub, b_mul, b_quo, b_rem, b_shl, b_shr, b_and, b_or, b_xor, b_andNot, u_not, u_neg, nob_bool, nob_int, nob_string, nob_ptr, nob_slice, nob_map, nob_func, nob_nilf, nob_iface, nob_nili, nob_agg, nob_tuple, cok_bool, cok_int, cok_string, cok_ptr, cok_slice, cok_map, cok_func, nobot_nil, nobot_cons, onb_none, onb_some, cond_true, cond_false, abound_none, abound_int, Option.bind_some, Option.bind_none, nth, nw, Value.cells, BK, List.getElem?_cons_zero, List.getElem?_cons_succ, List.toList_toArray, Nat.zero_add, Nat.add_zero, List.length_cons, List.length_nil, List.length_replicate, List.length_map, List.length_set, List.all_cons, List.all_nil, setMany, List.set_cons_zero, List.set_cons_succ, List.drop_zero, List.take_zero, List.take_succ_cons, List.drop_succ_cons, List.take_nil, List.drop_nil, if_true, if_false, Bool.and_true, Bool.true_and, Nat.reduceAdd, Nat.reduceLeDiff, Nat.reduceMul, Nat.reduceMod, Nat.reduceDiv, Nat.reduceSub, Nat.reduceEqDiff, Nat.lt_irrefl, Int.reduceEq, Int.reduceLT, Int.reduceLE, Int.reduceAdd, Int.reduceSub, Int.reduceMul, Int.reduceNeg, Int.reduceToNat, and_true, true_and, Nat.le_refl, dec_t, dec_f, nxt_push, nxt_set, ro_pushk, ro_setk, next_lock, ro_lock, get_lock, get_push_self, get_push_eq, get_push_lt, get_set_self, get_set_ne, ne_eq, lt_add1, lt_add, sto, ldn, ld1, not_false_eq_true, not_true_eq_false, Bool.not_true, Bool.not_false, Bool.and_false, Bool.false_and, beq_self_eq_true, al_4, al_54, al_57, fa_56_0, fa_60_2, ix_54, len_54, h1, hm, h2, e, Option.bind_none, gptr]
    · by_cases h2 : (M.length : Int) < n
      · have e : idx M n = none := by unfold idx; rw [if_neg (by omega)]
        simp only [axt_20, axt_21, opt_some, optH_some, nb_cons, nb_nil, CD_true, CD_false, GD_tt, GD_ff, GD_tf, GD_ft, GD_un, pk_true, pk_false, nck_ptr, rv_one, rv_two, b_lss, b_leq, b_gtr, b_geq, b_eql, b_neq, b_add, b_sub, b_mul, b_quo, b_rem, b_shl, b_shr, b_and, b_or, b_xor, b_andNot, u_not, u_neg, nob_bool, nob_int, nob_string, nob_ptr, nob_slice, nob_map, nob_func, nob_nilf, nob_iface, nob_nili, nob_agg, nob_tuple, cok_bool, cok_int, cok_string, cok_ptr, cok_slice, cok_map, cok_func, nobot_nil, nobot_cons, onb_none, onb_some, cond_true, cond_false, abound_none, abound_int, Option.bind_some, Option.bind_none, nth, nw, Value.cells, BK, List.getElem?_cons_zero, List.getElem?_cons_succ, List.toList_toArray, Nat.zero_add, Nat.add_zero, List.length_cons, List.length_nil, List.length_replicate, List.length_map, List.length_set, List.all_cons, List.all_nil, setMany, List.set_cons_zero, List.set_cons_succ, List.drop_zero, List.take_zero, List.take_succ_cons, List.drop_succ_cons, List.take_nil, List.drop_nil, if_true, if_false, Bool.and_true, Bool.true_and, Nat.reduceAdd, Nat.reduceLeDiff, Nat.reduceMul, Nat.reduceMod, Nat.reduceDiv, Nat.reduceSub, Nat.reduceEqDiff, Nat.lt_irrefl, Int.reduceEq, Int.reduceLT, Int.reduceLE, Int.reduceAdd, Int.reduceSub, Int.reduceMul, Int.reduceNeg, Int.reduceToNat, and_true, true_and, Nat.le_refl, dec_t, dec_f, nxt_push, nxt_set, ro_pushk, ro_setk, next_lock, ro_lock, get_lock, get_push_self, get_push_eq, get_push_lt, get_set_self, get_set_ne, ne_eq, lt_add1, lt_add, sto, ldn, ld1, not_false_eq_true, not_true_eq_false, Bool.not_true, Bool.not_false, Bool.and_false, Bool.false_and, beq_self_eq_true, al_4, al_54, al_57, fa_56_0, fa_60_2, ix_54, len_54, h1, hm, h2, e, Option.bind_none, gptr]
      · have hi : n.toNat - 1 < M.length := by omega
        obtain ⟨p, hp⟩ : ∃ p, ps[n.toNat - 1]? = some p := ⟨_, List.getElem?_eq_getElem (by rw [x.len]; exact hi)⟩
        have hB : M[n.toNat - 1]? = some M[n.toNat - 1] := List.getElem?_eq_getElem hi
        generalize M[n.toNat - 1] = B at hB
        obtain ⟨pg, hbk, _, _⟩ := x.blk _ p B hp hB
        have hw : IntKind.wrap .i64 (n - 1) = n - 1 := w64 (by omega) (by omega)
        have ht : (n - 1).toNat * 1 = n.toNat - 1 := by omega
        have hc1 : 0 ≤ n - 1 ∧ n - 1 < (M.length : Int) := by omega
        have hpp := get_ptr hp
        cases hf : B.freed with
        | true =>
          have e : idx M n = none := by unfold idx; rw [if_pos (by omega), hB]; simp [hf]
          simp only [axt_20, axt_21, opt_some, optH_some, nb_cons, nb_nil, CD_true, CD_false, GD_tt, GD_ff, GD_tf, GD_ft, GD_un, pk_true, pk_false, nck_ptr, rv_one, rv_two, b_lss, b_leq, b_gtr, b_geq, b_eql, b_neq, b_add, b_sub, b_mul, b_quo, b_rem, b_shl, b_shr, b_and, b_or, b_xor, b_andNot, u_not, u_neg, nob_bool, nob_int, nob_string, nob_ptr, nob_slice, nob_map, nob_func, nob_nilf, nob_iface, nob_nili, nob_agg, nob_tuple, cok_bool, cok_int, cok_string, cok_ptr, cok_slice, cok_map, cok_func, nobot_nil, nobot_cons, onb_none, onb_some, cond_true, cond_false, abound_none, abound_int, Option.bind_some, Option.bind_none, nth, nw, Value.cells, BK, List.getElem?_cons_zero, List.getElem?_cons_succ, List.toList_toArray, Nat.zero_add, Nat.add_zero, List.length_cons, List.length_nil, List.length_replicate, List.length_map, List.length_set, List.all_cons, List.all_nil, setMany, List.set_cons_zero, List.set_cons_succ, List.drop_zero, List.take_zero, List.take_succ_cons, List.drop_succ_cons, List.take_nil, List.drop_nil, if_true, if_false, Bool.and_true, Bool.true_and, Nat.reduceAdd, Nat.reduceLeDiff, Nat.reduceMul, Nat.reduceMod, Nat.reduceDiv, Nat.reduceSub, Nat.reduceEqDiff, Nat.lt_irrefl, Int.reduceEq, Int.reduceLT, Int.reduceLE, Int.reduceAdd, Int.reduceSub, Int.reduceMul, Int.reduceNeg, Int.reduceToNat, and_true, true_and, Nat.le_refl, dec_t, dec_f, nxt_push, nxt_set, ro_pushk, ro_setk, next_lock, ro_lock, get_lock, get_push_self, get_push_eq, get_push_lt, get_set_self, get_set_ne, ne_eq, lt_add1, lt_add, sto, ldn, ld1, not_false_eq_true, not_true_eq_false, Bool.not_true, Bool.not_false, Bool.and_false, Bool.false_and, beq_self_eq_true, al_4, al_54, al_57, fa_56_0, fa_60_2, ix_54, len_54, h1, hm, h2, hw, ht, hc1, hbb, hpp, hbk, hf, e, Option.bind_none, gptr]
        | false =>
          have e : idx M n = some (n.toNat - 1) := by unfold idx; rw [if_pos (by omega), hB]; simp [hf]
          simp only [axt_20, axt_21, opt_some, optH_some, nb_cons, nb_nil, CD_true, CD_false, GD_tt, GD_ff, GD_tf, GD_ft, GD_un, pk_true, pk_false, nck_ptr, rv_one, rv_two, b_lss, b_leq, b_gtr, b_geq, b_eql, b_neq, b_add, b_sub, b_mul, b_quo, b_rem, b_shl, b_shr, b_and, b_or, b_xor, b_andNot, u_not, u_neg, nob_bool, nob_int, nob_string, nob_ptr, nob_slice, nob_map, nob_func, nob_nilf, nob_iface, nob_nili, nob_agg, nob_tuple, cok_bool, cok_int, cok_string, cok_ptr, cok_slice, cok_map, cok_func, nobot_nil, nobot_cons, onb_none, onb_some, cond_true, cond_false, abound_none, abound_int, Option.bind_some, Option.bind_none, nth, nw, Value.cells, BK, List.getElem?_cons_zero, List.getElem?_cons_succ, List.toList_toArray, Nat.zero_add, Nat.add_zero, List.length_cons, List.length_nil, List.length_replicate, List.length_map, List.length_set, List.all_cons, List.all_nil, setMany, List.set_cons_zero, List.set_cons_succ, List.drop_zero, List.take_zero, List.take_succ_cons, List.drop_succ_cons, List.take_nil, List.drop_nil, if_true, if_false, Bool.and_true, Bool.true_and, Nat.reduceAdd, Nat.reduceLeDiff, Nat.reduceMul, Nat.reduceMod, Nat.reduceDiv, Nat.reduceSub, Nat.reduceEqDiff, Nat.lt_irrefl, Int.reduceEq, Int.reduceLT, Int.reduceLE, Int.reduceAdd, Int.reduceSub, Int.reduceMul, Int.reduceNeg, Int.reduceToNat, and_true, true_and, Nat.le_refl, dec_t, dec_f, nxt_push, nxt_set, ro_pushk, ro_setk, next_lock, ro_lock, get_lock, get_push_self, get_push_eq, get_push_lt, get_set_self, get_set_ne, ne_eq, lt_add1, lt_add, sto, ldn, ld1, not_false_eq_true, not_true_eq_false, Bool.not_true, Bool.not_false, Bool.and_false, Bool.false_and, beq_self_eq_true, al_4, al_54, al_57, fa_56_0, fa_60_2, ix_54, len_54, h1, hm, h2, hw, ht, hc1, hbb, hpp, hbk, hf, e, Option.bind_some, hp, gptr]
end Go.Mem
namespace Go.Mem
open Go.Ai Go.Proofs
set_option linter.unusedVariables false
set_option linter.unusedSimpArgs false
def zp : List Value := (List.replicate 64 [Value.int .u8 0, .int .u8 0, .int .i64 0, .int .i64 0, .int .i64 0]).flatten
theorem bd_81 : abuild Try.prog 81 [] = some (.agg zp.toArray) := keep (by kernel_rfl)
theorem zp_len : zp.length = 320 := by kernel_rfl
theorem zp_get : ∀ k j, k < 64 → j < 5 → zp[k * 5 + j]? = unk.vals[j]? := by
  have h : (List.range 64).all (fun k => (List.range 5).all fun j => decide (k * 5 + j < zp.length)) = true := by decide +kernel
  have key : ∀ k : Fin 64, ∀ j : Fin 5, zp[k.1 * 5 + j.1]? = unk.vals[j.1]? := by
    intro k j
    have hl : k.1 * 5 + j.1 < zp.length := by rw [zp_len]; omega
    have e1 : zp[k.1 * 5 + j.1]? = ([Value.int .u8 0, .int .u8 0, .int .i64 0, .int .i64 0, .int .i64 0] : List Value)[j.1]? := by
      have aux : ∀ (n : Nat) (l : List Value), l.length = 5 → ∀ k j, k < n → j < 5 → ((List.replicate n l).flatten)[k * 5 + j]? = l[j]? := by
        intro n l hl
        induction n with
        | zero => intro k j hk; omega
        | succ n ih =>
          intro k j hk hj
          rw [List.replicate_succ, List.flatten_cons]
          cases k with
          | zero => rw [List.getElem?_append_left (by omega)]; simp
          | succ k => rw [List.getElem?_append_right (by omega), hl, show (k + 1) * 5 + j - 5 = k * 5 + j by omega]; exact ih k j (by omega) hj
      exact aux 64 _ rfl k.1 j.1 k.2 j.2
    rw [e1]; rfl
  exact fun k j hk hj => key ⟨k, hk⟩ ⟨j, hj⟩
theorem zc_one (v : Value) (n : Nat) : zcells [v] (n * 1) = List.replicate n v := by
  simp only [zcells, Nat.mul_one]
  apply List.ext_getElem?
  intro i
  by_cases h : i < n
  · simp [h, Nat.mod_one]
  · simp [h]
theorem rep_none {n j g : Nat} (h : (List.replicate n (none : Option Nat))[j]? = some (some g)) : False := by
  rw [List.getElem?_replicate] at h; split at h <;> cases h
theorem gptr_get {gs : List (Option Nat)} {j : Nat} {o : Option Nat} (h : gs[j]? = some o) : (gs.map gptr)[j]? = some (gptr o) := by simp [h]
theorem gptr_set (gs : List (Option Nat)) (j g : Nat) : (gs.map gptr).set j (.pointer (some ⟨g, 0, none⟩)) = (gs.set j (some g)).map gptr := by rw [List.map_set]; rfl
/-- A page more. -/
theorem pages_put {h h1 : AHeap} {q j g : Nat} {gs : List (Option Nat)} {B : MB} {F : Nat → Prop} (hl : gs.length = (B.size + 63) / 64) (hg : ∀ (j g : Nat), gs[j]? = some (some g) → F g ∧ PageH h g (fun k => B.byte (64 * j + k))) (hn : ∀ j : Nat, gs[j]? = some none → ∀ k, k < 64 → B.byte (64 * j + k) = unk)
    (hd : ∀ i j g : Nat, gs[i]? = some (some g) → gs[j]? = some (some g) → i = j) (ht : ∀ k, 64 * gs.length ≤ k → B.byte k = unk) (hj : gs[j]? = some none) (hq : h1.get q = some (.cells ((gs.set j (some g)).map gptr) 69)) (fq : F q)
    (hold : ∀ (i g : Nat), gs[i]? = some (some g) → h1.get g = h.get g) (hnew : h1.get g = some (.cells zp 81)) (fg : ¬ F g) : FullH h1 q (gs.set j (some g)) B (fun b => F b ∨ b = g) := by
  have hlt : j < gs.length := by
    rcases Nat.lt_or_ge j gs.length with a | a
    · exact a
    · rw [List.getElem?_eq_none a] at hj; cases hj
  have hs : ∀ i o, (gs.set j (some g))[i]? = some o → (i = j ∧ o = some g) ∨ (i ≠ j ∧ gs[i]? = some o) := by
    intro i o hi
    by_cases e : i = j
    · subst e; rw [List.getElem?_set_self hlt] at hi; exact .inl ⟨rfl, (Option.some.inj hi).symm⟩
    · rw [List.getElem?_set_ne (fun q => e q.symm)] at hi; exact .inr ⟨e, hi⟩
  refine ⟨by simp [hl], .inl fq, hq, fun i g' hi => ?_, fun i hi => ?_, fun a b g' ha hb => ?_, by simpa using ht⟩
  · rcases hs i _ hi with ⟨rfl, e⟩ | ⟨_, e⟩
    · cases e
      refine ⟨.inr rfl, zp, hnew, zp_len, fun k j' hk hj' => ?_⟩
      rw [zp_get k j' hk hj']; show _ = (B.byte (64 * i + k)).vals[j']?; rw [hn i hj k hk]
    · exact ⟨.inl (hg i g' e).1, (hg i g' e).2.keep (hold i g' e)⟩
  · rcases hs i _ hi with ⟨_, e⟩ | ⟨_, e⟩
    · cases e
    · exact hn i e
  · rcases hs a _ ha with ⟨e1, e2⟩ | ⟨_, e2⟩ <;> rcases hs b _ hb with ⟨e3, e4⟩ | ⟨_, e4⟩
    · rw [e1, e3]
    · cases e2; exact absurd (hg _ _ e4).1 fg
    · cases e4; exact absurd (hg _ _ e2).1 fg
    · exact hd a b g' e2 e4
section
variable {h : AHeap} {p : Nat} {B : MB} {F : Nat → Prop} {pg : Value} {a : Int}
theorem div_w (h0 : 0 ≤ a) (h1 : a < 4611686018427387904) : IntKind.wrap .i64 (a.tdiv 64) = ((a.toNat / 64 : Nat) : Int) := by
  rw [Int.tdiv_eq_ediv_of_nonneg h0, w64 (by omega) (by omega)]; omega
/-- The page of a byte, if there is one. -/
def MadeR (h : AHeap) (B : MB) (F : Nat → Prop) (a : Int) (v : Value) (h1 : AHeap) : Prop :=
  h1 = h ∧ ((v = gptr none ∧ ∀ k, k < 64 → B.byte (64 * (a.toNat / 64) + k) = unk) ∨ ∃ g, v = gptr (some g) ∧ F g ∧ PageH h g (fun k => B.byte (64 * (a.toNat / 64) + k)))
/-- A page looked for. -/
theorem made_r (hb : h.get p = some (.cells [.int .i64 B.size, pg, .bool B.freed] 60)) (x : PagesH h pg B F) (h0 : 0 ≤ a) (h1 : a < B.size) (hz : B.size < 4611686018427387904) :
    DC Try.prog 28 [.pointer (some ⟨p, 0, none⟩), .int .i64 a, .bool false] h (MadeR h B F a) := by
  apply W_made_ok
  unfold W_made
  cases x with
  | empty e u =>
    subst e
    simp only [axt_20, axt_21, opt_some, optH_some, nb_cons, nb_nil, CD_true, CD_false, GD_tt, GD_ff, GD_tf, GD_ft, GD_un, pk_true, pk_false, nck_ptr, rv_one, rv_two, b_lss, b_leq, b_gtr, b_geq, b_eql, b_neq, b_add, b_sub, b_mul, b_quo, b_rem, b_shl, b_shr, b_and, b_or, b_xor, b_andNot, u_not, u_neg, nob_bool, nob_int, nob_string, nob_ptr, nob_slice, nob_map, nob_func, nob_nilf, nob_iface, nob_nili, nob_agg, nob_tuple, cok_bool, cok_int, cok_string, cok_ptr, cok_slice, cok_map, cok_func, nobot_nil, nobot_cons, onb_none, onb_some, cond_true, cond_false, abound_none, abound_int, Option.bind_some, Option.bind_none, nth, nw, Value.cells, BK, List.getElem?_cons_zero, List.getElem?_cons_succ, List.toList_toArray, Nat.zero_add, Nat.add_zero, List.length_cons, List.length_nil, List.length_replicate, List.length_map, List.length_set, List.all_cons, List.all_nil, setMany, List.set_cons_zero, List.set_cons_succ, List.drop_zero, List.take_zero, List.take_succ_cons, List.drop_succ_cons, List.take_nil, List.drop_nil, if_true, if_false, Bool.and_true, Bool.true_and, Nat.reduceAdd, Nat.reduceLeDiff, Nat.reduceMul, Nat.reduceMod, Nat.reduceDiv, Nat.reduceSub, Nat.reduceEqDiff, Nat.lt_irrefl, Int.reduceEq, Int.reduceLT, Int.reduceLE, Int.reduceAdd, Int.reduceSub, Int.reduceMul, Int.reduceNeg, Int.reduceToNat, and_true, true_and, Nat.le_refl, dec_t, dec_f, nxt_push, nxt_set, ro_pushk, ro_setk, next_lock, ro_lock, get_lock, get_push_self, get_push_eq, get_push_lt, get_set_self, get_set_ne, ne_eq, lt_add1, lt_add, sto, ldn, ld1, not_false_eq_true, not_true_eq_false, Bool.not_true, Bool.not_false, Bool.and_false, Bool.false_and, beq_self_eq_true, al_3, al_58, al_69, as_58, as_69, eql0_58, eql0_69, eql_58, eql_69, fa_60_0, fa_60_1, ix_58, mk_58, hb]
    exact ⟨rfl, .inl ⟨rfl, fun k _ => u _⟩⟩
  | full q c gs e x =>
    obtain ⟨hl, fq, hq, hg, hn, hd, ht⟩ := x
    subst e
    have hj : a.toNat / 64 < gs.length := by rw [hl]; omega
    have hw := div_w h0 (by omega)
    obtain ⟨o, ho⟩ : ∃ o, gs[a.toNat / 64]? = some o := ⟨_, List.getElem?_eq_getElem hj⟩
    have hgg := gptr_get ho
    have hc1 : 0 ≤ ((a.toNat / 64 : Nat) : Int) ∧ ((a.toNat / 64 : Nat) : Int) < (gs.length : Int) := by omega
    cases o with
    | none =>
      simp only [axt_20, axt_21, opt_some, optH_some, nb_cons, nb_nil, CD_true, CD_false, GD_tt, GD_ff, GD_tf, GD_ft, GD_un, pk_true, pk_false, nck_ptr, rv_one, rv_two, b_lss, b_leq, b_gtr, b_geq, b_eql, b_neq, b_add, b_sub, b_mul, b_quo, b_rem, b_shl, b_shr, b_and, b_or, b_xor, b_andNot, u_not, u_neg, nob_bool, nob_int, nob_string, nob_ptr, nob_slice, nob_map, nob_func, nob_nilf, nob_iface, nob_nili, nob_agg, nob_tuple, cok_bool, cok_int, cok_string, cok_ptr, cok_slice, cok_map, cok_func, nobot_nil, nobot_cons, onb_none, onb_some, cond_true, cond_false, abound_none, abound_int, Option.bind_some, Option.bind_none, nth, nw, Value.cells, BK, List.getElem?_cons_zero, List.getElem?_cons_succ, List.toList_toArray, Nat.zero_add, Nat.add_zero, List.length_cons, List.length_nil, List.length_replicate, List.length_map, List.length_set, List.all_cons, List.all_nil, setMany, List.set_cons_zero, List.set_cons_succ, List.drop_zero, List.take_zero, List.take_succ_cons, List.drop_succ_cons, List.take_nil, List.drop_nil, if_true, if_false, Bool.and_true, Bool.true_and, Nat.reduceAdd, Nat.reduceLeDiff, Nat.reduceMul, Nat.reduceMod, Nat.reduceDiv, Nat.reduceSub, Nat.reduceEqDiff, Nat.lt_irrefl, Int.reduceEq, Int.reduceLT, Int.reduceLE, Int.reduceAdd, Int.reduceSub, Int.reduceMul, Int.reduceNeg, Int.reduceToNat, and_true, true_and, Nat.le_refl, dec_t, dec_f, nxt_push, nxt_set, ro_pushk, ro_setk, next_lock, ro_lock, get_lock, get_push_self, get_push_eq, get_push_lt, get_set_self, get_set_ne, ne_eq, lt_add1, lt_add, sto, ldn, ld1, not_false_eq_true, not_true_eq_false, Bool.not_true, Bool.not_false, Bool.and_false, Bool.false_and, beq_self_eq_true, al_3, al_58, al_69, as_58, as_69, eql0_58, eql0_69, eql_58, eql_69, fa_60_0, fa_60_1, ix_58, mk_58, hb, hq, hw, hc1, Int.toNat_natCast, Nat.mul_one, hgg, gptr]
      exact ⟨rfl, .inl ⟨rfl, fun k hk => hn _ ho k hk⟩⟩
    | some g =>
      simp only [axt_20, axt_21, opt_some, optH_some, nb_cons, nb_nil, CD_true, CD_false, GD_tt, GD_ff, GD_tf, GD_ft, GD_un, pk_true, pk_false, nck_ptr, rv_one, rv_two, b_lss, b_leq, b_gtr, b_geq, b_eql, b_neq, b_add, b_sub, b_mul, b_quo, b_rem, b_shl, b_shr, b_and, b_or, b_xor, b_andNot, u_not, u_neg, nob_bool, nob_int, nob_string, nob_ptr, nob_slice, nob_map, nob_func, nob_nilf, nob_iface, nob_nili, nob_agg, nob_tuple, cok_bool, cok_int, cok_string, cok_ptr, cok_slice, cok_map, cok_func, nobot_nil, nobot_cons, onb_none, onb_some, cond_true, cond_false, abound_none, abound_int, Option.bind_some, Option.bind_none, nth, nw, Value.cells, BK, List.getElem?_cons_zero, List.getElem?_cons_succ, List.toList_toArray, Nat.zero_add, Nat.add_zero, List.length_cons, List.length_nil, List.length_replicate, List.length_map, List.length_set, List.all_cons, List.all_nil, setMany, List.set_cons_zero, List.set_cons_succ, List.drop_zero, List.take_zero, List.take_succ_cons, List.drop_succ_cons, List.take_nil, List.drop_nil, if_true, if_false, Bool.and_true, Bool.true_and, Nat.reduceAdd, Nat.reduceLeDiff, Nat.reduceMul, Nat.reduceMod, Nat.reduceDiv, Nat.reduceSub, Nat.reduceEqDiff, Nat.lt_irrefl, Int.reduceEq, Int.reduceLT, Int.reduceLE, Int.reduceAdd, Int.reduceSub, Int.reduceMul, Int.reduceNeg, Int.reduceToNat, and_true, true_and, Nat.le_refl, dec_t, dec_f, nxt_push, nxt_set, ro_pushk, ro_setk, next_lock, ro_lock, get_lock, get_push_self, get_push_eq, get_push_lt, get_set_self, get_set_ne, ne_eq, lt_add1, lt_add, sto, ldn, ld1, not_false_eq_true, not_true_eq_false, Bool.not_true, Bool.not_false, Bool.and_false, Bool.false_and, beq_self_eq_true, al_3, al_58, al_69, as_58, as_69, eql0_58, eql0_69, eql_58, eql_69, fa_60_0, fa_60_1, ix_58, mk_58, hb, hq, hw, hc1, Int.toNat_natCast, Nat.mul_one, hgg, gptr]
      exact ⟨rfl, .inr ⟨g, rfl, hg _ g ho⟩⟩
/-- The page of a byte. -/
def MadeW (h : AHeap) (p : Nat) (B : MB) (F : Nat → Prop) (a : Int) (v : Value) (h1 : AHeap) : Prop :=
  ∃ g q c gs F', v = gptr (some g) ∧ h1.get p = some (.cells [.int .i64 B.size, .slice (some ⟨q, 0, none⟩) gs.length c, .bool B.freed] 60) ∧ FullH h1 q gs B F' ∧ gs[a.toNat / 64]? = some (some g) ∧ F' p ∧ Eff F h h1 ∧ (∀ b, F' b → F b ∨ h.next ≤ b) ∧ ∀ b, F' b → h1.ro ≤ b ∧ b < h1.next
theorem MadeW.mk {h h1 : AHeap} {p q c g : Nat} {gs : List (Option Nat)} {B : MB} {F : Nat → Prop} {a : Int} (fp : F p) (ok : ∀ b, F b → h.ro ≤ b ∧ b < h.next) (hl : gs.length = (B.size + 63) / 64) (hj : gs[a.toNat / 64]? = some none) (fq : F q ∨ h.next ≤ q)
    (hg : ∀ (j g : Nat), gs[j]? = some (some g) → F g ∧ PageH h g (fun k => B.byte (64 * j + k))) (hn : ∀ j : Nat, gs[j]? = some none → ∀ k, k < 64 → B.byte (64 * j + k) = unk)
    (hd : ∀ i j g : Nat, gs[i]? = some (some g) → gs[j]? = some (some g) → i = j) (ht : ∀ k, 64 * gs.length ≤ k → B.byte k = unk)
    (eff : Eff F h h1) (hqn : q < h1.next) (hgn : h.next ≤ g ∧ g < h1.next) (hro : h.ro ≤ h.next)
    (hp1 : h1.get p = some (.cells [.int .i64 B.size, .slice (some ⟨q, 0, none⟩) gs.length c, .bool B.freed] 60)) (hq1 : h1.get q = some (.cells ((gs.set (a.toNat / 64) (some g)).map gptr) 69)) (hg1 : h1.get g = some (.cells zp 81))
    (hold : ∀ (i g : Nat), gs[i]? = some (some g) → h1.get g = h.get g) : MadeW h p B F a (.pointer (some ⟨g, 0, none⟩)) h1 := by
  have P := pages_put (F := fun b => F b ∨ b = q) (h1 := h1) hl (fun j g hj => ⟨.inl (hg j g hj).1, (hg j g hj).2⟩) hn hd ht hj hq1 (.inr rfl) hold hg1 (by
    rintro (e | e)
    · have := ok _ e; omega
    · subst e; rw [hq1] at hg1; simp at hg1)
  have hlt : a.toNat / 64 < gs.length := by
    rcases Nat.lt_or_ge (a.toNat / 64) gs.length with e | e
    · exact e
    · rw [List.getElem?_eq_none e] at hj; cases hj
  refine ⟨g, q, c, _, _, rfl, by rw [List.length_set]; exact hp1, P, List.getElem?_set_self hlt, .inl (.inl fp), eff, fun b hb => ?_, fun b hb => ?_⟩
  · rcases hb with (hb | hb) | hb
    · exact .inl hb
    · subst hb; exact fq
    · subst hb; exact .inr hgn.1
  · have n1 := eff.next
    have n2 := eff.ro
    rcases hb with (hb | hb) | hb
    · have := ok b hb; omega
    · subst hb
      rcases fq with fq | fq
      · have := ok b fq; omega
      · omega
    · subst hb; omega
/-- A page looked for, made if there is none. -/
theorem made_w (hb : h.get p = some (.cells [.int .i64 B.size, pg, .bool B.freed] 60)) (x : PagesH h pg B F) (fp : F p) (ok : ∀ b, F b → h.ro ≤ b ∧ b < h.next) (hro : h.ro ≤ h.next) (h0 : 0 ≤ a) (h1 : a < B.size) (hz : B.size < 2147483648) :
    DC Try.prog 28 [.pointer (some ⟨p, 0, none⟩), .int .i64 a, .bool true] h (MadeW h p B F a) := by
  apply W_made_ok
  unfold W_made
  have hw := div_w h0 (by omega)
  have okp := ok p fp
  have hpn : ¬ p = h.next := by omega
  have hnp : ¬ h.next = p := by omega
  have hpn1 : ¬ p = h.next + 1 := by omega
  cases x with
  | empty e u =>
    subst e
    have hn1 : IntKind.wrap .i64 ((B.size : Int) + 64) = (B.size : Int) + 64 := w64 (by omega) (by omega)
    have hn2 : IntKind.wrap .i64 ((B.size : Int) + 64 - 1) = ((B.size + 63 : Nat) : Int) := by rw [w64 (by omega) (by omega)]; omega
    have hn3 : IntKind.wrap .i64 (((B.size + 63 : Nat) : Int).tdiv 64) = (((B.size + 63) / 64 : Nat) : Int) := by
      rw [Int.tdiv_eq_ediv_of_nonneg (by omega), w64 (by omega) (by omega)]; omega
    have hm := mk_58 .i64 .i64 (((B.size + 63) / 64 : Nat) : Int) (((B.size + 63) / 64 : Nat) : Int) h (by omega) (by omega) (by omega)
    have hj : a.toNat / 64 < (B.size + 63) / 64 := by omega
    have hj1 : a.toNat / 64 + 1 ≤ (B.size + 63) / 64 := hj
    have hc1 : 0 ≤ ((a.toNat / 64 : Nat) : Int) ∧ ((a.toNat / 64 : Nat) : Int) < (((B.size + 63) / 64 : Nat) : Int) := by omega
    have hrep : (List.replicate ((B.size + 63) / 64) (Value.pointer none))[a.toNat / 64]? = some (.pointer none) := by simp [hj]
    have hset : ∀ v : Value, ((List.replicate ((B.size + 63) / 64) (Value.pointer none)).set (a.toNat / 64) v)[a.toNat / 64]? = some v := fun v => List.getElem?_set_self (by simpa using hj)
    simp only [Int.toNat_natCast, zc_one] at hm
    simp only [axt_20, axt_21, opt_some, optH_some, nb_cons, nb_nil, CD_true, CD_false, GD_tt, GD_ff, GD_tf, GD_ft, GD_un, pk_true, pk_false, nck_ptr, rv_one, rv_two, b_lss, b_leq, b_gtr, b_geq, b_eql, b_neq, b_add, b_sub, b_mul, b_quo, b_rem, b_shl, b_shr, b_and, b_or, b_xor, b_andNot, u_not, u_neg, nob_bool, nob_int, nob_string, nob_ptr, nob_slice, nob_map, nob_func, nob_nilf, nob_iface, nob_nili, nob_agg, nob_tuple, cok_bool, cok_int, cok_string, cok_ptr, cok_slice, cok_map, cok_func, nobot_nil, nobot_cons, onb_none, onb_some, cond_true, cond_false, abound_none, abound_int, Option.bind_some, Option.bind_none, nth, nw, Value.cells, BK, List.getElem?_cons_zero, List.getElem?_cons_succ, List.toList_toArray, Nat.zero_add, Nat.add_zero, List.length_cons, List.length_nil, List.length_replicate, List.length_map, List.length_set, List.all_cons, List.all_nil, setMany, List.set_cons_zero, List.set_cons_succ, List.drop_zero, List.take_zero, List.take_succ_cons, List.drop_succ_cons, List.take_nil, List.drop_nil, if_true, if_false, Bool.and_true, Bool.true_and, Nat.reduceAdd, Nat.reduceLeDiff, Nat.reduceMul, Nat.reduceMod, Nat.reduceDiv, Nat.reduceSub, Nat.reduceEqDiff, Nat.lt_irrefl, Int.reduceEq, Int.reduceLT, Int.reduceLE, Int.reduceAdd, Int.reduceSub, Int.reduceMul, Int.reduceNeg, Int.reduceToNat, and_true, true_and, Nat.le_refl, dec_t, dec_f, nxt_push, nxt_set, ro_pushk, ro_setk, next_lock, ro_lock, get_lock, get_push_self, get_push_eq, get_push_lt, get_set_self, get_set_ne, ne_eq, lt_add1, lt_add, sto, ldn, ld1, not_false_eq_true, not_true_eq_false, Bool.not_true, Bool.not_false, Bool.and_false, Bool.false_and, beq_self_eq_true, al_3, al_58, al_69, as_58, as_69, eql0_58, eql0_69, eql_58, eql_69, fa_60_0, fa_60_1, ix_58, mk_58, hb, hn1, hn2, hn3, hm, okp, hpn, hnp, hpn1, hw, hc1, Int.toNat_natCast, Nat.mul_one, hrep, bd_81, hj1, hro, hset]
    have hnn : ¬ h.next + 1 = h.next := by omega
    have hrl : (List.replicate ((B.size + 63) / 64) (none : Option Nat)).length = (B.size + 63) / 64 := List.length_replicate
    refine MadeW.mk (q := h.next) (c := (B.size + 63) / 64 + 2) (gs := List.replicate ((B.size + 63) / 64) none) fp ok hrl (by simp [hj]) (.inr (Nat.le_refl _)) (fun j g hj => (rep_none hj).elim) (fun _ _ k _ => u _) (fun i j g hi => (rep_none hi).elim) (fun k _ => u k)
      ?_ ?_ ?_ hro ?_ ?_ ?_ (fun i g hi => (rep_none hi).elim)
    · exact ((((Eff.refl F h).push _).set (.inl fp) _).push _).set (.inr (Nat.le_refl _)) _
    · simp only [nxt_set, nxt_push]; omega
    · simp only [nxt_set, nxt_push]; omega
    · rw [hrl]; simp only [axt_20, axt_21, opt_some, optH_some, nb_cons, nb_nil, CD_true, CD_false, GD_tt, GD_ff, GD_tf, GD_ft, GD_un, pk_true, pk_false, nck_ptr, rv_one, rv_two, b_lss, b_leq, b_gtr, b_geq, b_eql, b_neq, b_add, b_sub, b_mul, b_quo, b_rem, b_shl, b_shr, b_and, b_or, b_xor, b_andNot, u_not, u_neg, nob_bool, nob_int, nob_string, nob_ptr, nob_slice, nob_map, nob_func, nob_nilf, nob_iface, nob_nili, nob_agg, nob_tuple, cok_bool, cok_int, cok_string, cok_ptr, cok_slice, cok_map, cok_func, nobot_nil, nobot_cons, onb_none, onb_some, cond_true, cond_false, abound_none, abound_int, Option.bind_some, Option.bind_none, nth, nw, Value.cells, BK, List.getElem?_cons_zero, List.getElem?_cons_succ, List.toList_toArray, Nat.zero_add, Nat.add_zero, List.length_cons, List.length_nil, List.length_replicate, List.length_map, List.length_set, List.all_cons, List.all_nil, setMany, List.set_cons_zero, List.set_cons_succ, List.drop_zero, List.take_zero, List.take_succ_cons, List.drop_succ_cons, List.take_nil, List.drop_nil, if_true, if_false, Bool.and_true, Bool.true_and, Nat.reduceAdd, Nat.reduceLeDiff, Nat.reduceMul, Nat.reduceMod, Nat.reduceDiv, Nat.reduceSub, Nat.reduceEqDiff, Nat.lt_irrefl, Int.reduceEq, Int.reduceLT, Int.reduceLE, Int.reduceAdd, Int.reduceSub, Int.reduceMul, Int.reduceNeg, Int.reduceToNat, and_true, true_and, Nat.le_refl, dec_t, dec_f, nxt_push, nxt_set, ro_pushk, ro_setk, next_lock, ro_lock, get_lock, get_push_self, get_push_eq, get_push_lt, get_set_self, get_set_ne, ne_eq, lt_add1, lt_add, sto, ldn, ld1, not_false_eq_true, not_true_eq_false, Bool.not_true, Bool.not_false, Bool.and_false, Bool.false_and, beq_self_eq_true, hpn, hpn1, hnp, okp]
    · simp only [axt_20, axt_21, opt_some, optH_some, nb_cons, nb_nil, CD_true, CD_false, GD_tt, GD_ff, GD_tf, GD_ft, GD_un, pk_true, pk_false, nck_ptr, rv_one, rv_two, b_lss, b_leq, b_gtr, b_geq, b_eql, b_neq, b_add, b_sub, b_mul, b_quo, b_rem, b_shl, b_shr, b_and, b_or, b_xor, b_andNot, u_not, u_neg, nob_bool, nob_int, nob_string, nob_ptr, nob_slice, nob_map, nob_func, nob_nilf, nob_iface, nob_nili, nob_agg, nob_tuple, cok_bool, cok_int, cok_string, cok_ptr, cok_slice, cok_map, cok_func, nobot_nil, nobot_cons, onb_none, onb_some, cond_true, cond_false, abound_none, abound_int, Option.bind_some, Option.bind_none, nth, nw, Value.cells, BK, List.getElem?_cons_zero, List.getElem?_cons_succ, List.toList_toArray, Nat.zero_add, Nat.add_zero, List.length_cons, List.length_nil, List.length_replicate, List.length_map, List.length_set, List.all_cons, List.all_nil, setMany, List.set_cons_zero, List.set_cons_succ, List.drop_zero, List.take_zero, List.take_succ_cons, List.drop_succ_cons, List.take_nil, List.drop_nil, if_true, if_false, Bool.and_true, Bool.true_and, Nat.reduceAdd, Nat.reduceLeDiff, Nat.reduceMul, Nat.reduceMod, Nat.reduceDiv, Nat.reduceSub, Nat.reduceEqDiff, Nat.lt_irrefl, Int.reduceEq, Int.reduceLT, Int.reduceLE, Int.reduceAdd, Int.reduceSub, Int.reduceMul, Int.reduceNeg, Int.reduceToNat, and_true, true_and, Nat.le_refl, dec_t, dec_f, nxt_push, nxt_set, ro_pushk, ro_setk, next_lock, ro_lock, get_lock, get_push_self, get_push_eq, get_push_lt, get_set_self, get_set_ne, ne_eq, lt_add1, lt_add, sto, ldn, ld1, not_false_eq_true, not_true_eq_false, Bool.not_true, Bool.not_false, Bool.and_false, Bool.false_and, beq_self_eq_true]; rw [← gptr_set, List.map_replicate]; rfl
    · simp only [axt_20, axt_21, opt_some, optH_some, nb_cons, nb_nil, CD_true, CD_false, GD_tt, GD_ff, GD_tf, GD_ft, GD_un, pk_true, pk_false, nck_ptr, rv_one, rv_two, b_lss, b_leq, b_gtr, b_geq, b_eql, b_neq, b_add, b_sub, b_mul, b_quo, b_rem, b_shl, b_shr, b_and, b_or, b_xor, b_andNot, u_not, u_neg, nob_bool, nob_int, nob_string, nob_ptr, nob_slice, nob_map, nob_func, nob_nilf, nob_iface, nob_nili, nob_agg, nob_tuple, cok_bool, cok_int, cok_string, cok_ptr, cok_slice, cok_map, cok_func, nobot_nil, nobot_cons, onb_none, onb_some, cond_true, cond_false, abound_none, abound_int, Option.bind_some, Option.bind_none, nth, nw, Value.cells, BK, List.getElem?_cons_zero, List.getElem?_cons_succ, List.toList_toArray, Nat.zero_add, Nat.add_zero, List.length_cons, List.length_nil, List.length_replicate, List.length_map, List.length_set, List.all_cons, List.all_nil, setMany, List.set_cons_zero, List.set_cons_succ, List.drop_zero, List.take_zero, List.take_succ_cons, List.drop_succ_cons, List.take_nil, List.drop_nil, if_true, if_false, Bool.and_true, Bool.true_and, Nat.reduceAdd, Nat.reduceLeDiff, Nat.reduceMul, Nat.reduceMod, Nat.reduceDiv, Nat.reduceSub, Nat.reduceEqDiff, Nat.lt_irrefl, Int.reduceEq, Int.reduceLT, Int.reduceLE, Int.reduceAdd, Int.reduceSub, Int.reduceMul, Int.reduceNeg, Int.reduceToNat, and_true, true_and, Nat.le_refl, dec_t, dec_f, nxt_push, nxt_set, ro_pushk, ro_setk, next_lock, ro_lock, get_lock, get_push_self, get_push_eq, get_push_lt, get_set_self, get_set_ne, ne_eq, lt_add1, lt_add, sto, ldn, ld1, not_false_eq_true, not_true_eq_false, Bool.not_true, Bool.not_false, Bool.and_false, Bool.false_and, beq_self_eq_true, hnn]
  | full q c gs e x =>
    obtain ⟨hl, fq, hq, hg, hn, hd, ht⟩ := x
    subst e
    have hj : a.toNat / 64 < gs.length := by rw [hl]; omega
    have hj1 : a.toNat / 64 + 1 ≤ gs.length := hj
    obtain ⟨o, ho⟩ : ∃ o, gs[a.toNat / 64]? = some o := ⟨_, List.getElem?_eq_getElem hj⟩
    have hgg := gptr_get ho
    have hc1 : 0 ≤ ((a.toNat / 64 : Nat) : Int) ∧ ((a.toNat / 64 : Nat) : Int) < (gs.length : Int) := by omega
    have okq := ok q fq
    cases o with
    | some g =>
      simp only [axt_20, axt_21, opt_some, optH_some, nb_cons, nb_nil, CD_true, CD_false, GD_tt, GD_ff, GD_tf, GD_ft, GD_un, pk_true, pk_false, nck_ptr, rv_one, rv_two, b_lss, b_leq, b_gtr, b_geq, b_eql, b_neq, b_add, b_sub, b_mul, b_quo, b_rem, b_shl, b_shr, b_and, b_or, b_xor, b_andNot, u_not, u_neg, nob_bool, nob_int, nob_string, nob_ptr, nob_slice, nob_map, nob_func, nob_nilf, nob_iface, nob_nili, nob_agg, nob_tuple, cok_bool, cok_int, cok_string, cok_ptr, cok_slice, cok_map, cok_func, nobot_nil, nobot_cons, onb_none, onb_some, cond_true, cond_false, abound_none, abound_int, Option.bind_some, Option.bind_none, nth, nw, Value.cells, BK, List.getElem?_cons_zero, List.getElem?_cons_succ, List.toList_toArray, Nat.zero_add, Nat.add_zero, List.length_cons, List.length_nil, List.length_replicate, List.length_map, List.length_set, List.all_cons, List.all_nil, setMany, List.set_cons_zero, List.set_cons_succ, List.drop_zero, List.take_zero, List.take_succ_cons, List.drop_succ_cons, List.take_nil, List.drop_nil, if_true, if_false, Bool.and_true, Bool.true_and, Nat.reduceAdd, Nat.reduceLeDiff, Nat.reduceMul, Nat.reduceMod, Nat.reduceDiv, Nat.reduceSub, Nat.reduceEqDiff, Nat.lt_irrefl, Int.reduceEq, Int.reduceLT, Int.reduceLE, Int.reduceAdd, Int.reduceSub, Int.reduceMul, Int.reduceNeg, Int.reduceToNat, and_true, true_and, Nat.le_refl, dec_t, dec_f, nxt_push, nxt_set, ro_pushk, ro_setk, next_lock, ro_lock, get_lock, get_push_self, get_push_eq, get_push_lt, get_set_self, get_set_ne, ne_eq, lt_add1, lt_add, sto, ldn, ld1, not_false_eq_true, not_true_eq_false, Bool.not_true, Bool.not_false, Bool.and_false, Bool.false_and, beq_self_eq_true, al_3, al_58, al_69, as_58, as_69, eql0_58, eql0_69, eql_58, eql_69, fa_60_0, fa_60_1, ix_58, mk_58, hb, hq, hw, hc1, Int.toNat_natCast, Nat.mul_one, hgg, gptr]
      exact ⟨g, q, c, gs, F, rfl, hb, ⟨hl, fq, hq, hg, hn, hd, ht⟩, ho, fp, .refl _ _, fun b hb => .inl hb, ok⟩
    | none =>
      have hqn : ¬ q = h.next := by omega
      have hnq : ¬ h.next = q := by omega
      have hpq : ¬ p = q := by intro e; subst e; rw [hb] at hq; simp at hq
      have hset : ∀ v : Value, ((gs.map gptr).set (a.toNat / 64) v)[a.toNat / 64]? = some v := fun v => List.getElem?_set_self (by simpa using hj)
      simp only [axt_20, axt_21, opt_some, optH_some, nb_cons, nb_nil, CD_true, CD_false, GD_tt, GD_ff, GD_tf, GD_ft, GD_un, pk_true, pk_false, nck_ptr, rv_one, rv_two, b_lss, b_leq, b_gtr, b_geq, b_eql, b_neq, b_add, b_sub, b_mul, b_quo, b_rem, b_shl, b_shr, b_and, b_or, b_xor, b_andNot, u_not, u_neg, nob_bool, nob_int, nob_string, nob_ptr, nob_slice, nob_map, nob_func, nob_nilf, nob_iface, nob_nili, nob_agg, nob_tuple, cok_bool, cok_int, cok_string, cok_ptr, cok_slice, cok_map, cok_func, nobot_nil, nobot_cons, onb_none, onb_some, cond_true, cond_false, abound_none, abound_int, Option.bind_some, Option.bind_none, nth, nw, Value.cells, BK, List.getElem?_cons_zero, List.getElem?_cons_succ, List.toList_toArray, Nat.zero_add, Nat.add_zero, List.length_cons, List.length_nil, List.length_replicate, List.length_map, List.length_set, List.all_cons, List.all_nil, setMany, List.set_cons_zero, List.set_cons_succ, List.drop_zero, List.take_zero, List.take_succ_cons, List.drop_succ_cons, List.take_nil, List.drop_nil, if_true, if_false, Bool.and_true, Bool.true_and, Nat.reduceAdd, Nat.reduceLeDiff, Nat.reduceMul, Nat.reduceMod, Nat.reduceDiv, Nat.reduceSub, Nat.reduceEqDiff, Nat.lt_irrefl, Int.reduceEq, Int.reduceLT, Int.reduceLE, Int.reduceAdd, Int.reduceSub, Int.reduceMul, Int.reduceNeg, Int.reduceToNat, and_true, true_and, Nat.le_refl, dec_t, dec_f, nxt_push, nxt_set, ro_pushk, ro_setk, next_lock, ro_lock, get_lock, get_push_self, get_push_eq, get_push_lt, get_set_self, get_set_ne, ne_eq, lt_add1, lt_add, sto, ldn, ld1, not_false_eq_true, not_true_eq_false, Bool.not_true, Bool.not_false, Bool.and_false, Bool.false_and, beq_self_eq_true, al_3, al_58, al_69, as_58, as_69, eql0_58, eql0_69, eql_58, eql_69, fa_60_0, fa_60_1, ix_58, mk_58, hb, hq, hw, hc1, Int.toNat_natCast, Nat.mul_one, hgg, gptr, bd_81, okq, okp, hqn, hnq, hpn, hnp, hj1, hset, hpq]
      refine MadeW.mk (q := q) (c := c) (gs := gs) fp ok hl ho (.inl fq) hg hn hd ht ?_ ?_ ?_ hro ?_ ?_ ?_ (fun i g hi => ?_)
      · exact ((Eff.refl F h).push _).set (.inl fq) _
      · simp only [nxt_set, nxt_push]; omega
      · simp only [nxt_set, nxt_push]; omega
      · simp only [axt_20, axt_21, opt_some, optH_some, nb_cons, nb_nil, CD_true, CD_false, GD_tt, GD_ff, GD_tf, GD_ft, GD_un, pk_true, pk_false, nck_ptr, rv_one, rv_two, b_lss, b_leq, b_gtr, b_geq, b_eql, b_neq, b_add, b_sub, b_mul, b_quo, b_rem, b_shl, b_shr, b_and, b_or, b_xor, b_andNot, u_not, u_neg, nob_bool, nob_int, nob_string, nob_ptr, nob_slice, nob_map, nob_func, nob_nilf, nob_iface, nob_nili, nob_agg, nob_tuple, cok_bool, cok_int, cok_string, cok_ptr, cok_slice, cok_map, cok_func, nobot_nil, nobot_cons, onb_none, onb_some, cond_true, cond_false, abound_none, abound_int, Option.bind_some, Option.bind_none, nth, nw, Value.cells, BK, List.getElem?_cons_zero, List.getElem?_cons_succ, List.toList_toArray, Nat.zero_add, Nat.add_zero, List.length_cons, List.length_nil, List.length_replicate, List.length_map, List.length_set, List.all_cons, List.all_nil, setMany, List.set_cons_zero, List.set_cons_succ, List.drop_zero, List.take_zero, List.take_succ_cons, List.drop_succ_cons, List.take_nil, List.drop_nil, if_true, if_false, Bool.and_true, Bool.true_and, Nat.reduceAdd, Nat.reduceLeDiff, Nat.reduceMul, Nat.reduceMod, Nat.reduceDiv, Nat.reduceSub, Nat.reduceEqDiff, Nat.lt_irrefl, Int.reduceEq, Int.reduceLT, Int.reduceLE, Int.reduceAdd, Int.reduceSub, Int.reduceMul, Int.reduceNeg, Int.reduceToNat, and_true, true_and, Nat.le_refl, dec_t, dec_f, nxt_push, nxt_set, ro_pushk, ro_setk, next_lock, ro_lock, get_lock, get_push_self, get_push_eq, get_push_lt, get_set_self, get_set_ne, ne_eq, lt_add1, lt_add, sto, ldn, ld1, not_false_eq_true, not_true_eq_false, Bool.not_true, Bool.not_false, Bool.and_false, Bool.false_and, beq_self_eq_true, hpn, hpq, okp, hb]
      · simp only [axt_20, axt_21, opt_some, optH_some, nb_cons, nb_nil, CD_true, CD_false, GD_tt, GD_ff, GD_tf, GD_ft, GD_un, pk_true, pk_false, nck_ptr, rv_one, rv_two, b_lss, b_leq, b_gtr, b_geq, b_eql, b_neq, b_add, b_sub, b_mul, b_quo, b_rem, b_shl, b_shr, b_and, b_or, b_xor, b_andNot, u_not, u_neg, nob_bool, nob_int, nob_string, nob_ptr, nob_slice, nob_map, nob_func, nob_nilf, nob_iface, nob_nili, nob_agg, nob_tuple, cok_bool, cok_int, cok_string, cok_ptr, cok_slice, cok_map, cok_func, nobot_nil, nobot_cons, onb_none, onb_some, cond_true, cond_false, abound_none, abound_int, Option.bind_some, Option.bind_none, nth, nw, Value.cells, BK, List.getElem?_cons_zero, List.getElem?_cons_succ, List.toList_toArray, Nat.zero_add, Nat.add_zero, List.length_cons, List.length_nil, List.length_replicate, List.length_map, List.length_set, List.all_cons, List.all_nil, setMany, List.set_cons_zero, List.set_cons_succ, List.drop_zero, List.take_zero, List.take_succ_cons, List.drop_succ_cons, List.take_nil, List.drop_nil, if_true, if_false, Bool.and_true, Bool.true_and, Nat.reduceAdd, Nat.reduceLeDiff, Nat.reduceMul, Nat.reduceMod, Nat.reduceDiv, Nat.reduceSub, Nat.reduceEqDiff, Nat.lt_irrefl, Int.reduceEq, Int.reduceLT, Int.reduceLE, Int.reduceAdd, Int.reduceSub, Int.reduceMul, Int.reduceNeg, Int.reduceToNat, and_true, true_and, Nat.le_refl, dec_t, dec_f, nxt_push, nxt_set, ro_pushk, ro_setk, next_lock, ro_lock, get_lock, get_push_self, get_push_eq, get_push_lt, get_set_self, get_set_ne, ne_eq, lt_add1, lt_add, sto, ldn, ld1, not_false_eq_true, not_true_eq_false, Bool.not_true, Bool.not_false, Bool.and_false, Bool.false_and, beq_self_eq_true]; rw [← gptr_set]
      · simp only [axt_20, axt_21, opt_some, optH_some, nb_cons, nb_nil, CD_true, CD_false, GD_tt, GD_ff, GD_tf, GD_ft, GD_un, pk_true, pk_false, nck_ptr, rv_one, rv_two, b_lss, b_leq, b_gtr, b_geq, b_eql, b_neq, b_add, b_sub, b_mul, b_quo, b_rem, b_shl, b_shr, b_and, b_or, b_xor, b_andNot, u_not, u_neg, nob_bool, nob_int, nob_string, nob_ptr, nob_slice, nob_map, nob_func, nob_nilf, nob_iface, nob_nili, nob_agg, nob_tuple, cok_bool, cok_int, cok_string, cok_ptr, cok_slice, cok_map, cok_func, nobot_nil, nobot_cons, onb_none, onb_some, cond_true, cond_false, abound_none, abound_int, Option.bind_some, Option.bind_none, nth, nw, Value.cells, BK, List.getElem?_cons_zero, List.getElem?_cons_succ, List.toList_toArray, Nat.zero_add, Nat.add_zero, List.length_cons, List.length_nil, List.length_replicate, List.length_map, List.length_set, List.all_cons, List.all_nil, setMany, List.set_cons_zero, List.set_cons_succ, List.drop_zero, List.take_zero, List.take_succ_cons, List.drop_succ_cons, List.take_nil, List.drop_nil, if_true, if_false, Bool.and_true, Bool.true_and, Nat.reduceAdd, Nat.reduceLeDiff, Nat.reduceMul, Nat.reduceMod, Nat.reduceDiv, Nat.reduceSub, Nat.reduceEqDiff, Nat.lt_irrefl, Int.reduceEq, Int.reduceLT, Int.reduceLE, Int.reduceAdd, Int.reduceSub, Int.reduceMul, Int.reduceNeg, Int.reduceToNat, and_true, true_and, Nat.le_refl, dec_t, dec_f, nxt_push, nxt_set, ro_pushk, ro_setk, next_lock, ro_lock, get_lock, get_push_self, get_push_eq, get_push_lt, get_set_self, get_set_ne, ne_eq, lt_add1, lt_add, sto, ldn, ld1, not_false_eq_true, not_true_eq_false, Bool.not_true, Bool.not_false, Bool.and_false, Bool.false_and, beq_self_eq_true, hnq]
      · have hgq : ¬ g = q := by
          intro e; subst e
          obtain ⟨cs, e1, _⟩ := (hg i g hi).2
          rw [hq] at e1; simp at e1
        have := (ok g (hg i g hi).1).2
        simp only [axt_20, axt_21, opt_some, optH_some, nb_cons, nb_nil, CD_true, CD_false, GD_tt, GD_ff, GD_tf, GD_ft, GD_un, pk_true, pk_false, nck_ptr, rv_one, rv_two, b_lss, b_leq, b_gtr, b_geq, b_eql, b_neq, b_add, b_sub, b_mul, b_quo, b_rem, b_shl, b_shr, b_and, b_or, b_xor, b_andNot, u_not, u_neg, nob_bool, nob_int, nob_string, nob_ptr, nob_slice, nob_map, nob_func, nob_nilf, nob_iface, nob_nili, nob_agg, nob_tuple, cok_bool, cok_int, cok_string, cok_ptr, cok_slice, cok_map, cok_func, nobot_nil, nobot_cons, onb_none, onb_some, cond_true, cond_false, abound_none, abound_int, Option.bind_some, Option.bind_none, nth, nw, Value.cells, BK, List.getElem?_cons_zero, List.getElem?_cons_succ, List.toList_toArray, Nat.zero_add, Nat.add_zero, List.length_cons, List.length_nil, List.length_replicate, List.length_map, List.length_set, List.all_cons, List.all_nil, setMany, List.set_cons_zero, List.set_cons_succ, List.drop_zero, List.take_zero, List.take_succ_cons, List.drop_succ_cons, List.take_nil, List.drop_nil, if_true, if_false, Bool.and_true, Bool.true_and, Nat.reduceAdd, Nat.reduceLeDiff, Nat.reduceMul, Nat.reduceMod, Nat.reduceDiv, Nat.reduceSub, Nat.reduceEqDiff, Nat.lt_irrefl, Int.reduceEq, Int.reduceLT, Int.reduceLE, Int.reduceAdd, Int.reduceSub, Int.reduceMul, Int.reduceNeg, Int.reduceToNat, and_true, true_and, Nat.le_refl, dec_t, dec_f, nxt_push, nxt_set, ro_pushk, ro_setk, next_lock, ro_lock, get_lock, get_push_self, get_push_eq, get_push_lt, get_set_self, get_set_ne, ne_eq, lt_add1, lt_add, sto, ldn, ld1, not_false_eq_true, not_true_eq_false, Bool.not_true, Bool.not_false, Bool.and_false, Bool.false_and, beq_self_eq_true, hgq, this]
end
end Go.Mem
