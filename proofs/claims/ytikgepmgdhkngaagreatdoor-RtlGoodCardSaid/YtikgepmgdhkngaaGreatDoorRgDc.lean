/-
  RTL: loops over functions; the registers that an instruction reads, and the nodes that it goes on at, told one by one.
-/
import Derived.Test.YtikgepmgdhkngaaGreatDoorRgDb
namespace Go.Rtl
open Go.Ai Go.Proofs
set_option linter.unusedVariables false
set_option linter.unusedSimpArgs false
set_option maxRecDepth 10000
theorem get_env (n i : Nat) : (Env.enter [] n).get i = undef := by rw [Env.get_enter]; rfl
theorem size_envT (n : Nat) (l : List (Nat × Value)) : (envT n l).size = n := by
  induction l with
  | nil => simp [envT, Env.enter_eq]
  | cons p l ih => obtain ⟨k, v⟩ := p; exact ih
theorem get_envT (n t : Nat) (z : Value) (l : List (Nat × Value)) (hl : ∀ p, p ∈ l → p.1 ≠ t) (i : Nat) : (envT n (l ++ [(t, z)])).get i = if i = t then z else (envT n l).get i := by
  induction l with
  | nil => simp only [List.nil_append, envT, Env.get_set]
  | cons p l ih =>
    obtain ⟨k, v⟩ := p
    have hk : k ≠ t := hl _ List.mem_cons_self
    have := ih fun p hp => hl p (List.mem_cons_of_mem _ hp)
    simp only [List.cons_append, envT, Env.get_set, this]
    by_cases h1 : i = k
    · subst h1; simp [hk]
    · simp [h1]
theorem le_round {n t : Nat} {l : List (Nat × Value)} {s1 : Env} (z : Value) (h : Le (envT n l) s1) (ht : t < n) (hl' : (l.all fun p => !Nat.beq p.1 t) = true) : ∃ s0, roundEnv [t] [z] s1 = some s0 ∧ Le (envT n (l ++ [(t, z)])) s0 := by
  have hs : s1.size = n := by rw [← h.size, size_envT]
  have hl : ∀ p, p ∈ l → p.1 ≠ t := fun p hp e => by
    rw [List.all_eq_true] at hl'
    have := hl' p hp
    rw [e] at this
    simp at this
  refine ⟨s1.set t z, ?_, ⟨by rw [size_envT, Env.size_set, hs], fun i => ?_⟩⟩
  · have : s1.put (some t) z = some (s1.set t z) := by
      simp only [Env.put]
      have : Nat.blt t s1.size = true := by rw [hs]; simpa [Nat.blt_eq] using ht
      simp [this]
    simp only [roundEnv, this]
  · rw [get_envT n t z l hl, Env.get_set]
    by_cases h1 : i = t
    · simp [h1]
    · simp only [h1, if_false]; exact h.get i
/-- All rounds went on. -/
structure RunI (h0 : AHeap) (A0 : ALoop) (h : AHeap) : Prop where
  next : h0.next < h.next
  ro : h.ro = h0.ro
  loop : h.get h0.next = some (.loop A0)
  ready : A0.state = .ready ∧ A0.pending = none
  old : ∀ b, b < h0.next → h.get b = h0.get b
/-- The last round left, the answer no. -/
structure StopI (h0 : AHeap) (A0 : ALoop) (br : Nat) (h : AHeap) : Prop where
  next : h0.next < h.next
  ro : h.ro = h0.ro
  loop : h.get h0.next = some (.loop { A0 with state := .done, pending := some .ret })
  old : ∀ b, b < h0.next → b ≠ br → h.get b = h0.get b
  res : h.get br = some (.cells [.bool false] 4)
theorem RunI.older {h0 h : AHeap} {A0 : ALoop} (r : RunI h0 A0 h) : Old h0 h := ⟨Nat.le_of_lt r.next, r.ro, r.old⟩
/-- What a round does. -/
def Yc (h0 : AHeap) (br : Nat) (A0 : ALoop) (test : Int → Bool) : Prop := ∀ (z : Int) (h : AHeap) (K : Value → AHeap → Prop), RunI h0 A0 h →
  (test z = true → ∀ h', RunI h0 A0 h' → K (.bool true) h') → (test z = false → ∀ h', StopI h0 A0 br h' → K (.bool false) h') → yldN Tryz.prog h0.next [.int .i64 z] h K
def Ended (h0 : AHeap) (br : Nat) (A0 : ALoop) (test : Int → Bool) (zs : List Int) (_ : Value) (h1 : AHeap) : Prop := (zs.all test = true ∧ RunI h0 A0 h1) ∨ (zs.all test = false ∧ StopI h0 A0 br h1)
/-- A function that tells numbers. -/
def Iter (g : FuncId) (ptr : Value) (zs : List Int) (h0 : AHeap) : Prop := ∀ (br : Nat) (A0 : ALoop) (h : AHeap) (test : Int → Bool), RunI h0 A0 h → Yc h0 br A0 test →
  DC Tryz.prog g [.func (.yield h0.next) #[] #[], ptr] h (Ended h0 br A0 test zs)
theorem callV_y {L : Nat} {args : List Value} {h : AHeap} {K : Value → AHeap → Prop} (hy : yldN Tryz.prog L args h K) : callV Tryz.prog (.func (.yield L) #[] #[]) args h K := ⟨rfl, rfl, hy⟩
theorem all_app_no {test : Int → Bool} {a b : List Int} {z : Int} (hz : test z = false) (hm : z ∈ a) : (a ++ b).all test = false := by
  rw [List.all_eq_false]; exact ⟨z, List.mem_append_left _ hm, by simp [hz]⟩
theorem range_ok {g : FuncId} {ptr : Value} {zs : List Int} {h0 : AHeap} {br : Nat} {test : Int → Bool} {n : Nat} {l : List (Nat × Value)} {ps : Array Tmp} {asn bd : Code} {nrm ret : AHeap → Prop} {ext : Nat → AHeap → Prop}
    (hc : callable Tryz.prog g = true) (hro : h0.ro ≤ h0.next) (hbr : br < h0.next) (it : Iter g ptr zs h0)
    (hy : ∀ s1, Le (envT n l) s1 → Yc h0 br { state := .ready, pending := none, s := s1, params := ps, assign := asn, body := bd } test)
    (hn : ∀ h', zs.all test = true → Old h0 h' → nrm h') (hr : ∀ h', zs.all test = false → h0.next ≤ h'.next → h'.ro = h0.ro → h'.get br = some (.cells [.bool false] 4) → ret h') :
    RF Tryz.prog (.func (.func g) #[] #[ptr]) ps asn bd (envT n l) h0 nrm ret ext := by
  refine ⟨hc, fun s1 hl => ?_⟩
  have r0 : RunI h0 { state := .ready, pending := none, s := s1, params := ps, assign := asn, body := bd } (h0.push (.loop { state := .ready, pending := none, s := s1, params := ps, assign := asn, body := bd })) :=
    ⟨Nat.lt_succ_self _, rfl, get_push_self, ⟨rfl, rfl⟩, fun b hb => get_push_lt hb⟩
  refine (it br _ _ test r0 (hy s1 hl)).mono ?_
  rintro _ h1 (⟨ha, r⟩ | ⟨ha, r⟩)
  · refine ⟨_, r.loop, rfl, by rw [r.ro]; exact hro, .normal, rfl, hn _ ha ⟨Nat.le_of_lt r.next, r.ro, fun b hb => ?_⟩⟩
    rw [get_set_ne (by omega)]; exact r.old b hb
  · refine ⟨_, r.loop, rfl, by rw [r.ro]; exact hro, .ret, rfl, hr _ ha (Nat.le_of_lt r.next) r.ro ?_⟩
    rw [get_set_ne (by omega)]; exact r.res
theorem rv_zero {h : AHeap} {R : Value → AHeap → Prop} : rv [] h R = R (.tuple #[]) h := by
  apply propext; simp only [rv, nobot, aresult, true_and]
theorem mem_A {x : Ins} (ha : useA x.op = true) (h1 : ¬ x.a = -1) : lA x = [x.a] := by simp [lA, ha, h1]
theorem mem_B {x : Ins} (ha : useB x.op = true) (h1 : ¬ x.b = -1) : lB x = [x.b] := by simp [lB, ha, h1]
section
variable {h0 h : AHeap} {A0 : ALoop} {br b : Nat} {test : Int → Bool} {x : Ins} {vs : List Value}
theorem u20 (I : SliceI h0 x.av x.args) (few : x.args.length ≤ 17592186043904) (hb : b < h0.next) (hg : h0.get b = some (xcells x)) (y : Yc h0 br A0 test) (r : RunI h0 A0 h) (hpre : (lA x ++ lB x).all test = true) :
    X_Uses1_20 (.pointer (some ⟨b, 0, none⟩)) (Ended h0 br A0 test (usesI x)) (.func (.yield h0.next) #[] #[]) vs h := by
  have gh := r.older.got hb hg
  have an := I.nob
  by_cases h10 : x.op = 10
  · have hC : lC x = x.args := by simp [lC, h10]
    have hl := (I.old r.older).len22 3 h
    simp -implicitDefEqProofs only [EE, cond_true, cond_false, nth, ↓nw, Value.cells, ↓BK, setMany, if_true, if_false, Nat.reduceAdd, Nat.reduceLeDiff, Nat.reduceMul, Nat.reduceMod, Nat.reduceDiv, Nat.reduceSub, Nat.reduceEqDiff, Int.reduceEq, Int.reduceLT, Int.reduceLE, Int.reduceAdd, Int.reduceSub, Int.reduceMul, Int.reduceNeg, Int.reduceToNat, ne_eq, sto, ldn, ld1, beq_self_eq_true, al_22, al_3, fa_43_0, fa_43_2, fa_43_3, fa_43_6, ix_22, len_22, X_Uses1_18, X_Uses1_19, X_Uses1_20, gh, h10, an, hl, rv_zero]
    refine LP_upQ1 (RunI h0 A0) x.args.length (atB x.args test) r ?_
    intro i h2 J hi r2 hq hJ
    have S2 := I.old r2.older
    rcases Nat.lt_or_ge i x.args.length with hlt | hge
    · obtain ⟨z, hz, hm⟩ := get_some hlt
      obtain ⟨b', o', c', t', ha', hbb', hgt', hco'⟩ := S2.at hz
      have hlt' : (i : Int) < (x.args.length : Int) := by omega
      have hinc : IntKind.wrap .i64 ((i : Int) + 1) = ((i + 1 : Nat) : Int) := inc (by omega)
      simp -implicitDefEqProofs only [EE, cond_true, cond_false, nth, ↓nw, Value.cells, ↓BK, setMany, if_true, if_false, Nat.reduceAdd, Nat.reduceLeDiff, Nat.reduceMul, Nat.reduceMod, Nat.reduceDiv, Nat.reduceSub, Nat.reduceEqDiff, Int.reduceEq, Int.reduceLT, Int.reduceLE, Int.reduceAdd, Int.reduceSub, Int.reduceMul, Int.reduceNeg, Int.reduceToNat, ne_eq, sto, ldn, ld1, beq_self_eq_true, al_22, al_3, fa_43_0, fa_43_2, fa_43_3, fa_43_6, ix_22, len_22, X_Uses1_16, X_Uses1_17, X_Uses1_18, hlt', ha', hgt', hco', rv_zero]
      refine callV_y (y z h2 _ r2 (fun ht h3 r3 => ?_) (fun ht h3 r3 => ?_))
      · simp -implicitDefEqProofs only [EE, cond_true, cond_false, nth, ↓nw, Value.cells, ↓BK, setMany, if_true, if_false, Nat.reduceAdd, Nat.reduceLeDiff, Nat.reduceMul, Nat.reduceMod, Nat.reduceDiv, Nat.reduceSub, Nat.reduceEqDiff, Int.reduceEq, Int.reduceLT, Int.reduceLE, Int.reduceAdd, Int.reduceSub, Int.reduceMul, Int.reduceNeg, Int.reduceToNat, ne_eq, sto, ldn, ld1, beq_self_eq_true, al_22, al_3, fa_43_0, fa_43_2, fa_43_3, fa_43_6, ix_22, len_22, X_Uses1_16, X_Uses1_17, X_Uses1_18, hinc, rv_zero]
        exact hJ _ hlt (by rw [atB_of hz]; exact ht) r3
      · simp -implicitDefEqProofs only [EE, cond_true, cond_false, nth, ↓nw, Value.cells, ↓BK, setMany, if_true, if_false, Nat.reduceAdd, Nat.reduceLeDiff, Nat.reduceMul, Nat.reduceMod, Nat.reduceDiv, Nat.reduceSub, Nat.reduceEqDiff, Int.reduceEq, Int.reduceLT, Int.reduceLE, Int.reduceAdd, Int.reduceSub, Int.reduceMul, Int.reduceNeg, Int.reduceToNat, ne_eq, sto, ldn, ld1, beq_self_eq_true, al_22, al_3, fa_43_0, fa_43_2, fa_43_3, fa_43_6, ix_22, len_22, X_Uses1_16, X_Uses1_17, X_Uses1_18, rv_zero]
        refine .inr ⟨?_, r3⟩
        unfold usesI
        rw [hC, List.all_append, not_all (B := test) hz ht, Bool.and_false]
    · have hlt' : ¬ (i : Int) < (x.args.length : Int) := by omega
      simp -implicitDefEqProofs only [EE, cond_true, cond_false, nth, ↓nw, Value.cells, ↓BK, setMany, if_true, if_false, Nat.reduceAdd, Nat.reduceLeDiff, Nat.reduceMul, Nat.reduceMod, Nat.reduceDiv, Nat.reduceSub, Nat.reduceEqDiff, Int.reduceEq, Int.reduceLT, Int.reduceLE, Int.reduceAdd, Int.reduceSub, Int.reduceMul, Int.reduceNeg, Int.reduceToNat, ne_eq, sto, ldn, ld1, beq_self_eq_true, al_22, al_3, fa_43_0, fa_43_2, fa_43_3, fa_43_6, ix_22, len_22, X_Uses1_18, hlt', rv_zero]
      refine .inl ⟨?_, r2⟩
      unfold usesI
      rw [hC, List.all_append, hpre, Bool.true_and]
      exact all_of_at fun k hk => hq k (by omega)
  · simp -implicitDefEqProofs only [EE, cond_true, cond_false, nth, ↓nw, Value.cells, ↓BK, setMany, if_true, if_false, Nat.reduceAdd, Nat.reduceLeDiff, Nat.reduceMul, Nat.reduceMod, Nat.reduceDiv, Nat.reduceSub, Nat.reduceEqDiff, Int.reduceEq, Int.reduceLT, Int.reduceLE, Int.reduceAdd, Int.reduceSub, Int.reduceMul, Int.reduceNeg, Int.reduceToNat, ne_eq, sto, ldn, ld1, beq_self_eq_true, al_22, al_3, fa_43_0, fa_43_2, fa_43_3, fa_43_6, ix_22, len_22, X_Uses1_20, gh, h10, rv_zero]
    refine .inl ⟨?_, r⟩
    have hC : lC x = [] := by simp [lC, h10]
    unfold usesI
    rw [hC, List.append_nil]; exact hpre
theorem u15 (I : SliceI h0 x.av x.args) (few : x.args.length ≤ 17592186043904) (hb : b < h0.next) (hg : h0.get b = some (xcells x)) (y : Yc h0 br A0 test) (r : RunI h0 A0 h) (hpre : (lA x).all test = true) :
    X_Uses1_15 (.int .i64 x.op) h (.pointer (some ⟨b, 0, none⟩)) (.func (.yield h0.next) #[] #[]) (Ended h0 br A0 test (usesI x)) (X_Uses1_20 (.pointer (some ⟨b, 0, none⟩)) (Ended h0 br A0 test (usesI x)) (.func (.yield h0.next) #[] #[])) := by
  have gh := r.older.got hb hg
  cases hU : useB x.op with
  | false =>
    have hB : lB x = [] := by simp [lB, hU]
    have h5 : ¬ x.op = 5 := by intro q; simp [useB, q] at hU
    have h7 : ¬ x.op = 7 := by intro q; simp [useB, q] at hU
    have h11 : ¬ x.op = 11 := by intro q; simp [useB, q] at hU
    simp -implicitDefEqProofs only [EE, cond_true, cond_false, nth, ↓nw, Value.cells, ↓BK, setMany, if_true, if_false, Nat.reduceAdd, Nat.reduceLeDiff, Nat.reduceMul, Nat.reduceMod, Nat.reduceDiv, Nat.reduceSub, Nat.reduceEqDiff, Int.reduceEq, Int.reduceLT, Int.reduceLE, Int.reduceAdd, Int.reduceSub, Int.reduceMul, Int.reduceNeg, Int.reduceToNat, ne_eq, sto, ldn, ld1, beq_self_eq_true, al_22, al_3, fa_43_0, fa_43_2, fa_43_3, fa_43_6, ix_22, len_22, X_Uses1_11, X_Uses1_12, X_Uses1_13, X_Uses1_14, X_Uses1_15, h5, h7, h11]
    exact u20 I few hb hg y r (by rw [hB, List.append_nil]; exact hpre)
  | true =>
    have key : X_Uses1_14 (.pointer (some ⟨b, 0, none⟩)) h (.func (.yield h0.next) #[] #[]) (Ended h0 br A0 test (usesI x)) (X_Uses1_20 (.pointer (some ⟨b, 0, none⟩)) (Ended h0 br A0 test (usesI x)) (.func (.yield h0.next) #[] #[])) := by
      by_cases hb1 : x.b = -1
      · simp -implicitDefEqProofs only [EE, cond_true, cond_false, nth, ↓nw, Value.cells, ↓BK, setMany, if_true, if_false, Nat.reduceAdd, Nat.reduceLeDiff, Nat.reduceMul, Nat.reduceMod, Nat.reduceDiv, Nat.reduceSub, Nat.reduceEqDiff, Int.reduceEq, Int.reduceLT, Int.reduceLE, Int.reduceAdd, Int.reduceSub, Int.reduceMul, Int.reduceNeg, Int.reduceToNat, ne_eq, sto, ldn, ld1, beq_self_eq_true, al_22, al_3, fa_43_0, fa_43_2, fa_43_3, fa_43_6, ix_22, len_22, X_Uses1_12, X_Uses1_13, X_Uses1_14, gh, hb1]
        exact u20 I few hb hg y r (by simp only [lB, hb1, not_true_eq_false, and_false, if_false, List.append_nil]; exact hpre)
      · simp -implicitDefEqProofs only [EE, cond_true, cond_false, nth, ↓nw, Value.cells, ↓BK, setMany, if_true, if_false, Nat.reduceAdd, Nat.reduceLeDiff, Nat.reduceMul, Nat.reduceMod, Nat.reduceDiv, Nat.reduceSub, Nat.reduceEqDiff, Int.reduceEq, Int.reduceLT, Int.reduceLE, Int.reduceAdd, Int.reduceSub, Int.reduceMul, Int.reduceNeg, Int.reduceToNat, ne_eq, sto, ldn, ld1, beq_self_eq_true, al_22, al_3, fa_43_0, fa_43_2, fa_43_3, fa_43_6, ix_22, len_22, X_Uses1_12, X_Uses1_13, X_Uses1_14, gh, hb1]
        refine callV_y (y x.b h _ r (fun ht h3 r3 => ?_) (fun ht h3 r3 => ?_))
        · simp -implicitDefEqProofs only [EE, cond_true, cond_false, nth, ↓nw, Value.cells, ↓BK, setMany, if_true, if_false, Nat.reduceAdd, Nat.reduceLeDiff, Nat.reduceMul, Nat.reduceMod, Nat.reduceDiv, Nat.reduceSub, Nat.reduceEqDiff, Int.reduceEq, Int.reduceLT, Int.reduceLE, Int.reduceAdd, Int.reduceSub, Int.reduceMul, Int.reduceNeg, Int.reduceToNat, ne_eq, sto, ldn, ld1, beq_self_eq_true, al_22, al_3, fa_43_0, fa_43_2, fa_43_3, fa_43_6, ix_22, len_22, X_Uses1_12, X_Uses1_13, X_Uses1_14]
          exact u20 I few hb hg y r3 (by rw [mem_B hU hb1, List.all_append, hpre]; simp [ht])
        · simp -implicitDefEqProofs only [EE, cond_true, cond_false, nth, ↓nw, Value.cells, ↓BK, setMany, if_true, if_false, Nat.reduceAdd, Nat.reduceLeDiff, Nat.reduceMul, Nat.reduceMod, Nat.reduceDiv, Nat.reduceSub, Nat.reduceEqDiff, Int.reduceEq, Int.reduceLT, Int.reduceLE, Int.reduceAdd, Int.reduceSub, Int.reduceMul, Int.reduceNeg, Int.reduceToNat, ne_eq, sto, ldn, ld1, beq_self_eq_true, al_22, al_3, fa_43_0, fa_43_2, fa_43_3, fa_43_6, ix_22, len_22, X_Uses1_12, X_Uses1_13, X_Uses1_14, rv_zero]
          refine .inr ⟨?_, r3⟩
          unfold usesI
          rw [mem_B hU hb1, List.all_append, List.all_append]; simp [ht]
    by_cases h5 : x.op = 5
    · simp -implicitDefEqProofs only [EE, cond_true, cond_false, nth, ↓nw, Value.cells, ↓BK, setMany, if_true, if_false, Nat.reduceAdd, Nat.reduceLeDiff, Nat.reduceMul, Nat.reduceMod, Nat.reduceDiv, Nat.reduceSub, Nat.reduceEqDiff, Int.reduceEq, Int.reduceLT, Int.reduceLE, Int.reduceAdd, Int.reduceSub, Int.reduceMul, Int.reduceNeg, Int.reduceToNat, ne_eq, sto, ldn, ld1, beq_self_eq_true, al_22, al_3, fa_43_0, fa_43_2, fa_43_3, fa_43_6, ix_22, len_22, X_Uses1_15, h5]; rw [h5] at *; exact key
    by_cases h11 : x.op = 11
    · simp -implicitDefEqProofs only [EE, cond_true, cond_false, nth, ↓nw, Value.cells, ↓BK, setMany, if_true, if_false, Nat.reduceAdd, Nat.reduceLeDiff, Nat.reduceMul, Nat.reduceMod, Nat.reduceDiv, Nat.reduceSub, Nat.reduceEqDiff, Int.reduceEq, Int.reduceLT, Int.reduceLE, Int.reduceAdd, Int.reduceSub, Int.reduceMul, Int.reduceNeg, Int.reduceToNat, ne_eq, sto, ldn, ld1, beq_self_eq_true, al_22, al_3, fa_43_0, fa_43_2, fa_43_3, fa_43_6, ix_22, len_22, X_Uses1_11, X_Uses1_15, h5, h11]; exact key
    by_cases h7 : x.op = 7
    · simp -implicitDefEqProofs only [EE, cond_true, cond_false, nth, ↓nw, Value.cells, ↓BK, setMany, if_true, if_false, Nat.reduceAdd, Nat.reduceLeDiff, Nat.reduceMul, Nat.reduceMod, Nat.reduceDiv, Nat.reduceSub, Nat.reduceEqDiff, Int.reduceEq, Int.reduceLT, Int.reduceLE, Int.reduceAdd, Int.reduceSub, Int.reduceMul, Int.reduceNeg, Int.reduceToNat, ne_eq, sto, ldn, ld1, beq_self_eq_true, al_22, al_3, fa_43_0, fa_43_2, fa_43_3, fa_43_6, ix_22, len_22, X_Uses1_11, X_Uses1_15, h5, h11, h7]; exact key
    simp [useB, h5, h7, h11] at hU
end
end Go.Rtl
namespace Go.Rtl
open Go.Ai Go.Proofs
set_option linter.unusedVariables false
set_option linter.unusedSimpArgs false
set_option maxRecDepth 10000
section
variable {h0 h : AHeap} {b : Nat} {x : Ins}
theorem uses_iter (I : SliceI h0 x.av x.args) (few : x.args.length ≤ 17592186043904) (hb : b < h0.next) (hg : h0.get b = some (xcells x)) : Iter 21 (.pointer (some ⟨b, 0, none⟩)) (usesI x) h0 := by
  intro br A0 h test r y
  apply X_Uses1_ok
  unfold X_Uses1
  have gh := r.older.got hb hg
  have tail : ∀ h, RunI h0 A0 h → (lA x).all test = true → X_Uses1_15 (.int .i64 x.op) h (.pointer (some ⟨b, 0, none⟩)) (.func (.yield h0.next) #[] #[]) (Ended h0 br A0 test (usesI x)) (X_Uses1_20 (.pointer (some ⟨b, 0, none⟩)) (Ended h0 br A0 test (usesI x)) (.func (.yield h0.next) #[] #[])) := fun h r hp => u15 I few hb hg y r hp
  cases hU : useA x.op with
  | false =>
    have hA : lA x = [] := by simp [lA, hU]
    have n3 : ¬ x.op = 3 := by intro q; simp [useA, q] at hU
    have n4 : ¬ x.op = 4 := by intro q; simp [useA, q] at hU
    have n5 : ¬ x.op = 5 := by intro q; simp [useA, q] at hU
    have n6 : ¬ x.op = 6 := by intro q; simp [useA, q] at hU
    have n7 : ¬ x.op = 7 := by intro q; simp [useA, q] at hU
    have n11 : ¬ x.op = 11 := by intro q; simp [useA, q] at hU
    have n12 : ¬ x.op = 12 := by intro q; simp [useA, q] at hU
    have n14 : ¬ x.op = 14 := by intro q; simp [useA, q] at hU
    simp -implicitDefEqProofs only [EE, cond_true, cond_false, nth, ↓nw, Value.cells, ↓BK, setMany, if_true, if_false, Nat.reduceAdd, Nat.reduceLeDiff, Nat.reduceMul, Nat.reduceMod, Nat.reduceDiv, Nat.reduceSub, Nat.reduceEqDiff, Int.reduceEq, Int.reduceLT, Int.reduceLE, Int.reduceAdd, Int.reduceSub, Int.reduceMul, Int.reduceNeg, Int.reduceToNat, ne_eq, sto, ldn, ld1, beq_self_eq_true, al_22, al_3, fa_43_0, fa_43_2, fa_43_3, fa_43_6, ix_22, len_22, X_Uses1_1, X_Uses1_2, X_Uses1_3, X_Uses1_4, X_Uses1_5, X_Uses1_6, X_Uses1_7, X_Uses1_8, X_Uses1_9, X_Uses1_10, gh, n3, n4, n5, n6, n7, n11, n12, n14]
    exact tail h r (by rw [hA]; rfl)
  | true =>
    have key : ∀ J : List Value → AHeap → Prop, (∀ h', RunI h0 A0 h' → (lA x).all test = true → J [] h') → X_Uses1_9 (.pointer (some ⟨b, 0, none⟩)) h (.func (.yield h0.next) #[] #[]) (Ended h0 br A0 test (usesI x)) J := by
      intro J hJ
      by_cases ha1 : x.a = -1
      · simp -implicitDefEqProofs only [EE, cond_true, cond_false, nth, ↓nw, Value.cells, ↓BK, setMany, if_true, if_false, Nat.reduceAdd, Nat.reduceLeDiff, Nat.reduceMul, Nat.reduceMod, Nat.reduceDiv, Nat.reduceSub, Nat.reduceEqDiff, Int.reduceEq, Int.reduceLT, Int.reduceLE, Int.reduceAdd, Int.reduceSub, Int.reduceMul, Int.reduceNeg, Int.reduceToNat, ne_eq, sto, ldn, ld1, beq_self_eq_true, al_22, al_3, fa_43_0, fa_43_2, fa_43_3, fa_43_6, ix_22, len_22, X_Uses1_7, X_Uses1_8, X_Uses1_9, gh, ha1]
        exact hJ h r (by simp only [lA, ha1, not_true_eq_false, and_false, if_false]; rfl)
      · simp -implicitDefEqProofs only [EE, cond_true, cond_false, nth, ↓nw, Value.cells, ↓BK, setMany, if_true, if_false, Nat.reduceAdd, Nat.reduceLeDiff, Nat.reduceMul, Nat.reduceMod, Nat.reduceDiv, Nat.reduceSub, Nat.reduceEqDiff, Int.reduceEq, Int.reduceLT, Int.reduceLE, Int.reduceAdd, Int.reduceSub, Int.reduceMul, Int.reduceNeg, Int.reduceToNat, ne_eq, sto, ldn, ld1, beq_self_eq_true, al_22, al_3, fa_43_0, fa_43_2, fa_43_3, fa_43_6, ix_22, len_22, X_Uses1_7, X_Uses1_8, X_Uses1_9, gh, ha1]
        refine callV_y (y x.a h _ r (fun ht h3 r3 => ?_) (fun ht h3 r3 => ?_))
        · simp -implicitDefEqProofs only [EE, cond_true, cond_false, nth, ↓nw, Value.cells, ↓BK, setMany, if_true, if_false, Nat.reduceAdd, Nat.reduceLeDiff, Nat.reduceMul, Nat.reduceMod, Nat.reduceDiv, Nat.reduceSub, Nat.reduceEqDiff, Int.reduceEq, Int.reduceLT, Int.reduceLE, Int.reduceAdd, Int.reduceSub, Int.reduceMul, Int.reduceNeg, Int.reduceToNat, ne_eq, sto, ldn, ld1, beq_self_eq_true, al_22, al_3, fa_43_0, fa_43_2, fa_43_3, fa_43_6, ix_22, len_22, X_Uses1_7, X_Uses1_8, X_Uses1_9]
          exact hJ h3 r3 (by rw [mem_A hU ha1]; simp [ht])
        · simp -implicitDefEqProofs only [EE, cond_true, cond_false, nth, ↓nw, Value.cells, ↓BK, setMany, if_true, if_false, Nat.reduceAdd, Nat.reduceLeDiff, Nat.reduceMul, Nat.reduceMod, Nat.reduceDiv, Nat.reduceSub, Nat.reduceEqDiff, Int.reduceEq, Int.reduceLT, Int.reduceLE, Int.reduceAdd, Int.reduceSub, Int.reduceMul, Int.reduceNeg, Int.reduceToNat, ne_eq, sto, ldn, ld1, beq_self_eq_true, al_22, al_3, fa_43_0, fa_43_2, fa_43_3, fa_43_6, ix_22, len_22, X_Uses1_7, X_Uses1_8, X_Uses1_9, rv_zero]
          refine .inr ⟨?_, r3⟩
          unfold usesI
          rw [mem_A hU ha1, List.all_append, List.all_append]; simp [ht]
    by_cases h3 : x.op = 3
    · simp -implicitDefEqProofs only [EE, cond_true, cond_false, nth, ↓nw, Value.cells, ↓BK, setMany, if_true, if_false, Nat.reduceAdd, Nat.reduceLeDiff, Nat.reduceMul, Nat.reduceMod, Nat.reduceDiv, Nat.reduceSub, Nat.reduceEqDiff, Int.reduceEq, Int.reduceLT, Int.reduceLE, Int.reduceAdd, Int.reduceSub, Int.reduceMul, Int.reduceNeg, Int.reduceToNat, ne_eq, sto, ldn, ld1, beq_self_eq_true, al_22, al_3, fa_43_0, fa_43_2, fa_43_3, fa_43_6, ix_22, len_22, X_Uses1_10, gh, h3]; exact key _ fun h' r' hp => (by have g' := r'.older.got hb hg; simp -implicitDefEqProofs only [EE, cond_true, cond_false, nth, ↓nw, Value.cells, ↓BK, setMany, if_true, if_false, Nat.reduceAdd, Nat.reduceLeDiff, Nat.reduceMul, Nat.reduceMod, Nat.reduceDiv, Nat.reduceSub, Nat.reduceEqDiff, Int.reduceEq, Int.reduceLT, Int.reduceLE, Int.reduceAdd, Int.reduceSub, Int.reduceMul, Int.reduceNeg, Int.reduceToNat, ne_eq, sto, ldn, ld1, beq_self_eq_true, al_22, al_3, fa_43_0, fa_43_2, fa_43_3, fa_43_6, ix_22, len_22, g']; exact tail h' r' hp)
    by_cases h4 : x.op = 4
    · simp -implicitDefEqProofs only [EE, cond_true, cond_false, nth, ↓nw, Value.cells, ↓BK, setMany, if_true, if_false, Nat.reduceAdd, Nat.reduceLeDiff, Nat.reduceMul, Nat.reduceMod, Nat.reduceDiv, Nat.reduceSub, Nat.reduceEqDiff, Int.reduceEq, Int.reduceLT, Int.reduceLE, Int.reduceAdd, Int.reduceSub, Int.reduceMul, Int.reduceNeg, Int.reduceToNat, ne_eq, sto, ldn, ld1, beq_self_eq_true, al_22, al_3, fa_43_0, fa_43_2, fa_43_3, fa_43_6, ix_22, len_22, X_Uses1_6, X_Uses1_10, gh, h3, h4]; exact key _ fun h' r' hp => (by have g' := r'.older.got hb hg; simp -implicitDefEqProofs only [EE, cond_true, cond_false, nth, ↓nw, Value.cells, ↓BK, setMany, if_true, if_false, Nat.reduceAdd, Nat.reduceLeDiff, Nat.reduceMul, Nat.reduceMod, Nat.reduceDiv, Nat.reduceSub, Nat.reduceEqDiff, Int.reduceEq, Int.reduceLT, Int.reduceLE, Int.reduceAdd, Int.reduceSub, Int.reduceMul, Int.reduceNeg, Int.reduceToNat, ne_eq, sto, ldn, ld1, beq_self_eq_true, al_22, al_3, fa_43_0, fa_43_2, fa_43_3, fa_43_6, ix_22, len_22, g']; exact tail h' r' hp)
    by_cases h6 : x.op = 6
    · simp -implicitDefEqProofs only [EE, cond_true, cond_false, nth, ↓nw, Value.cells, ↓BK, setMany, if_true, if_false, Nat.reduceAdd, Nat.reduceLeDiff, Nat.reduceMul, Nat.reduceMod, Nat.reduceDiv, Nat.reduceSub, Nat.reduceEqDiff, Int.reduceEq, Int.reduceLT, Int.reduceLE, Int.reduceAdd, Int.reduceSub, Int.reduceMul, Int.reduceNeg, Int.reduceToNat, ne_eq, sto, ldn, ld1, beq_self_eq_true, al_22, al_3, fa_43_0, fa_43_2, fa_43_3, fa_43_6, ix_22, len_22, X_Uses1_5, X_Uses1_6, X_Uses1_10, gh, h3, h4, h6]; exact key _ fun h' r' hp => (by have g' := r'.older.got hb hg; simp -implicitDefEqProofs only [EE, cond_true, cond_false, nth, ↓nw, Value.cells, ↓BK, setMany, if_true, if_false, Nat.reduceAdd, Nat.reduceLeDiff, Nat.reduceMul, Nat.reduceMod, Nat.reduceDiv, Nat.reduceSub, Nat.reduceEqDiff, Int.reduceEq, Int.reduceLT, Int.reduceLE, Int.reduceAdd, Int.reduceSub, Int.reduceMul, Int.reduceNeg, Int.reduceToNat, ne_eq, sto, ldn, ld1, beq_self_eq_true, al_22, al_3, fa_43_0, fa_43_2, fa_43_3, fa_43_6, ix_22, len_22, g']; exact tail h' r' hp)
    by_cases h12 : x.op = 12
    · simp -implicitDefEqProofs only [EE, cond_true, cond_false, nth, ↓nw, Value.cells, ↓BK, setMany, if_true, if_false, Nat.reduceAdd, Nat.reduceLeDiff, Nat.reduceMul, Nat.reduceMod, Nat.reduceDiv, Nat.reduceSub, Nat.reduceEqDiff, Int.reduceEq, Int.reduceLT, Int.reduceLE, Int.reduceAdd, Int.reduceSub, Int.reduceMul, Int.reduceNeg, Int.reduceToNat, ne_eq, sto, ldn, ld1, beq_self_eq_true, al_22, al_3, fa_43_0, fa_43_2, fa_43_3, fa_43_6, ix_22, len_22, X_Uses1_4, X_Uses1_5, X_Uses1_6, X_Uses1_10, gh, h3, h4, h6, h12]; exact key _ fun h' r' hp => (by have g' := r'.older.got hb hg; simp -implicitDefEqProofs only [EE, cond_true, cond_false, nth, ↓nw, Value.cells, ↓BK, setMany, if_true, if_false, Nat.reduceAdd, Nat.reduceLeDiff, Nat.reduceMul, Nat.reduceMod, Nat.reduceDiv, Nat.reduceSub, Nat.reduceEqDiff, Int.reduceEq, Int.reduceLT, Int.reduceLE, Int.reduceAdd, Int.reduceSub, Int.reduceMul, Int.reduceNeg, Int.reduceToNat, ne_eq, sto, ldn, ld1, beq_self_eq_true, al_22, al_3, fa_43_0, fa_43_2, fa_43_3, fa_43_6, ix_22, len_22, g']; exact tail h' r' hp)
    by_cases h14 : x.op = 14
    · simp -implicitDefEqProofs only [EE, cond_true, cond_false, nth, ↓nw, Value.cells, ↓BK, setMany, if_true, if_false, Nat.reduceAdd, Nat.reduceLeDiff, Nat.reduceMul, Nat.reduceMod, Nat.reduceDiv, Nat.reduceSub, Nat.reduceEqDiff, Int.reduceEq, Int.reduceLT, Int.reduceLE, Int.reduceAdd, Int.reduceSub, Int.reduceMul, Int.reduceNeg, Int.reduceToNat, ne_eq, sto, ldn, ld1, beq_self_eq_true, al_22, al_3, fa_43_0, fa_43_2, fa_43_3, fa_43_6, ix_22, len_22, X_Uses1_3, X_Uses1_4, X_Uses1_5, X_Uses1_6, X_Uses1_10, gh, h3, h4, h6, h12, h14]; exact key _ fun h' r' hp => (by have g' := r'.older.got hb hg; simp -implicitDefEqProofs only [EE, cond_true, cond_false, nth, ↓nw, Value.cells, ↓BK, setMany, if_true, if_false, Nat.reduceAdd, Nat.reduceLeDiff, Nat.reduceMul, Nat.reduceMod, Nat.reduceDiv, Nat.reduceSub, Nat.reduceEqDiff, Int.reduceEq, Int.reduceLT, Int.reduceLE, Int.reduceAdd, Int.reduceSub, Int.reduceMul, Int.reduceNeg, Int.reduceToNat, ne_eq, sto, ldn, ld1, beq_self_eq_true, al_22, al_3, fa_43_0, fa_43_2, fa_43_3, fa_43_6, ix_22, len_22, g']; exact tail h' r' hp)
    by_cases h5 : x.op = 5
    · simp -implicitDefEqProofs only [EE, cond_true, cond_false, nth, ↓nw, Value.cells, ↓BK, setMany, if_true, if_false, Nat.reduceAdd, Nat.reduceLeDiff, Nat.reduceMul, Nat.reduceMod, Nat.reduceDiv, Nat.reduceSub, Nat.reduceEqDiff, Int.reduceEq, Int.reduceLT, Int.reduceLE, Int.reduceAdd, Int.reduceSub, Int.reduceMul, Int.reduceNeg, Int.reduceToNat, ne_eq, sto, ldn, ld1, beq_self_eq_true, al_22, al_3, fa_43_0, fa_43_2, fa_43_3, fa_43_6, ix_22, len_22, X_Uses1_2, X_Uses1_3, X_Uses1_4, X_Uses1_5, X_Uses1_6, X_Uses1_10, gh, h3, h4, h6, h12, h14, h5]; exact key _ fun h' r' hp => (by have g' := r'.older.got hb hg; simp -implicitDefEqProofs only [EE, cond_true, cond_false, nth, ↓nw, Value.cells, ↓BK, setMany, if_true, if_false, Nat.reduceAdd, Nat.reduceLeDiff, Nat.reduceMul, Nat.reduceMod, Nat.reduceDiv, Nat.reduceSub, Nat.reduceEqDiff, Int.reduceEq, Int.reduceLT, Int.reduceLE, Int.reduceAdd, Int.reduceSub, Int.reduceMul, Int.reduceNeg, Int.reduceToNat, ne_eq, sto, ldn, ld1, beq_self_eq_true, al_22, al_3, fa_43_0, fa_43_2, fa_43_3, fa_43_6, ix_22, len_22, g']; exact tail h' r' hp)
    by_cases h11 : x.op = 11
    · simp -implicitDefEqProofs only [EE, cond_true, cond_false, nth, ↓nw, Value.cells, ↓BK, setMany, if_true, if_false, Nat.reduceAdd, Nat.reduceLeDiff, Nat.reduceMul, Nat.reduceMod, Nat.reduceDiv, Nat.reduceSub, Nat.reduceEqDiff, Int.reduceEq, Int.reduceLT, Int.reduceLE, Int.reduceAdd, Int.reduceSub, Int.reduceMul, Int.reduceNeg, Int.reduceToNat, ne_eq, sto, ldn, ld1, beq_self_eq_true, al_22, al_3, fa_43_0, fa_43_2, fa_43_3, fa_43_6, ix_22, len_22, X_Uses1_1, X_Uses1_2, X_Uses1_3, X_Uses1_4, X_Uses1_5, X_Uses1_6, X_Uses1_10, gh, h3, h4, h6, h12, h14, h5, h11]; exact key _ fun h' r' hp => (by have g' := r'.older.got hb hg; simp -implicitDefEqProofs only [EE, cond_true, cond_false, nth, ↓nw, Value.cells, ↓BK, setMany, if_true, if_false, Nat.reduceAdd, Nat.reduceLeDiff, Nat.reduceMul, Nat.reduceMod, Nat.reduceDiv, Nat.reduceSub, Nat.reduceEqDiff, Int.reduceEq, Int.reduceLT, Int.reduceLE, Int.reduceAdd, Int.reduceSub, Int.reduceMul, Int.reduceNeg, Int.reduceToNat, ne_eq, sto, ldn, ld1, beq_self_eq_true, al_22, al_3, fa_43_0, fa_43_2, fa_43_3, fa_43_6, ix_22, len_22, g']; exact tail h' r' hp)
    by_cases h7 : x.op = 7
    · simp -implicitDefEqProofs only [EE, cond_true, cond_false, nth, ↓nw, Value.cells, ↓BK, setMany, if_true, if_false, Nat.reduceAdd, Nat.reduceLeDiff, Nat.reduceMul, Nat.reduceMod, Nat.reduceDiv, Nat.reduceSub, Nat.reduceEqDiff, Int.reduceEq, Int.reduceLT, Int.reduceLE, Int.reduceAdd, Int.reduceSub, Int.reduceMul, Int.reduceNeg, Int.reduceToNat, ne_eq, sto, ldn, ld1, beq_self_eq_true, al_22, al_3, fa_43_0, fa_43_2, fa_43_3, fa_43_6, ix_22, len_22, X_Uses1_1, X_Uses1_2, X_Uses1_3, X_Uses1_4, X_Uses1_5, X_Uses1_6, X_Uses1_10, gh, h3, h4, h6, h12, h14, h5, h11, h7]; exact key _ fun h' r' hp => (by have g' := r'.older.got hb hg; simp -implicitDefEqProofs only [EE, cond_true, cond_false, nth, ↓nw, Value.cells, ↓BK, setMany, if_true, if_false, Nat.reduceAdd, Nat.reduceLeDiff, Nat.reduceMul, Nat.reduceMod, Nat.reduceDiv, Nat.reduceSub, Nat.reduceEqDiff, Int.reduceEq, Int.reduceLT, Int.reduceLE, Int.reduceAdd, Int.reduceSub, Int.reduceMul, Int.reduceNeg, Int.reduceToNat, ne_eq, sto, ldn, ld1, beq_self_eq_true, al_22, al_3, fa_43_0, fa_43_2, fa_43_3, fa_43_6, ix_22, len_22, g']; exact tail h' r' hp)
    simp [useA, h3, h4, h5, h6, h7, h11, h12, h14] at hU
theorem succs_iter (hb : b < h0.next) (hg : h0.get b = some (xcells x)) : Iter 20 (.pointer (some ⟨b, 0, none⟩)) (succsI x) h0 := by
  intro br A0 h test r y
  apply X_Succs1_ok
  unfold X_Succs1
  have gh := r.older.got hb hg
  by_cases h12 : x.op = 12
  · have h11 : ¬ x.op = 11 := by omega
    simp -implicitDefEqProofs only [EE, cond_true, cond_false, nth, ↓nw, Value.cells, ↓BK, setMany, if_true, if_false, Nat.reduceAdd, Nat.reduceLeDiff, Nat.reduceMul, Nat.reduceMod, Nat.reduceDiv, Nat.reduceSub, Nat.reduceEqDiff, Int.reduceEq, Int.reduceLT, Int.reduceLE, Int.reduceAdd, Int.reduceSub, Int.reduceMul, Int.reduceNeg, Int.reduceToNat, ne_eq, sto, ldn, ld1, beq_self_eq_true, al_3, fa_43_0, fa_43_7, fa_43_8, X_Succs1_1, X_Succs1_2, X_Succs1_3, gh, h12, h11, rv_zero]
    exact .inl ⟨by simp [succsI, h12], r⟩
  · simp -implicitDefEqProofs only [EE, cond_true, cond_false, nth, ↓nw, Value.cells, ↓BK, setMany, if_true, if_false, Nat.reduceAdd, Nat.reduceLeDiff, Nat.reduceMul, Nat.reduceMod, Nat.reduceDiv, Nat.reduceSub, Nat.reduceEqDiff, Int.reduceEq, Int.reduceLT, Int.reduceLE, Int.reduceAdd, Int.reduceSub, Int.reduceMul, Int.reduceNeg, Int.reduceToNat, ne_eq, sto, ldn, ld1, beq_self_eq_true, al_3, fa_43_0, fa_43_7, fa_43_8, X_Succs1_1, X_Succs1_2, X_Succs1_3, gh, h12]
    refine callV_y (y x.s h _ r (fun ht h3 r3 => ?_) (fun ht h3 r3 => ?_))
    · have g3 := r3.older.got hb hg
      by_cases h11 : x.op = 11
      · simp -implicitDefEqProofs only [EE, cond_true, cond_false, nth, ↓nw, Value.cells, ↓BK, setMany, if_true, if_false, Nat.reduceAdd, Nat.reduceLeDiff, Nat.reduceMul, Nat.reduceMod, Nat.reduceDiv, Nat.reduceSub, Nat.reduceEqDiff, Int.reduceEq, Int.reduceLT, Int.reduceLE, Int.reduceAdd, Int.reduceSub, Int.reduceMul, Int.reduceNeg, Int.reduceToNat, ne_eq, sto, ldn, ld1, beq_self_eq_true, al_3, fa_43_0, fa_43_7, fa_43_8, X_Succs1_1, X_Succs1_2, X_Succs1_3, g3, h12, h11]
        refine callV_y (y x.t h3 _ r3 (fun ht2 h4 r4 => ?_) (fun ht2 h4 r4 => ?_))
        · simp -implicitDefEqProofs only [EE, cond_true, cond_false, nth, ↓nw, Value.cells, ↓BK, setMany, if_true, if_false, Nat.reduceAdd, Nat.reduceLeDiff, Nat.reduceMul, Nat.reduceMod, Nat.reduceDiv, Nat.reduceSub, Nat.reduceEqDiff, Int.reduceEq, Int.reduceLT, Int.reduceLE, Int.reduceAdd, Int.reduceSub, Int.reduceMul, Int.reduceNeg, Int.reduceToNat, ne_eq, sto, ldn, ld1, beq_self_eq_true, al_3, fa_43_0, fa_43_7, fa_43_8, X_Succs1_1, X_Succs1_2, X_Succs1_3, rv_zero]
          exact .inl ⟨by simp [succsI, h11, ht, ht2], r4⟩
        · simp -implicitDefEqProofs only [EE, cond_true, cond_false, nth, ↓nw, Value.cells, ↓BK, setMany, if_true, if_false, Nat.reduceAdd, Nat.reduceLeDiff, Nat.reduceMul, Nat.reduceMod, Nat.reduceDiv, Nat.reduceSub, Nat.reduceEqDiff, Int.reduceEq, Int.reduceLT, Int.reduceLE, Int.reduceAdd, Int.reduceSub, Int.reduceMul, Int.reduceNeg, Int.reduceToNat, ne_eq, sto, ldn, ld1, beq_self_eq_true, al_3, fa_43_0, fa_43_7, fa_43_8, X_Succs1_1, X_Succs1_2, X_Succs1_3, rv_zero]
          exact .inr ⟨by simp [succsI, h11, ht, ht2], r4⟩
      · simp -implicitDefEqProofs only [EE, cond_true, cond_false, nth, ↓nw, Value.cells, ↓BK, setMany, if_true, if_false, Nat.reduceAdd, Nat.reduceLeDiff, Nat.reduceMul, Nat.reduceMod, Nat.reduceDiv, Nat.reduceSub, Nat.reduceEqDiff, Int.reduceEq, Int.reduceLT, Int.reduceLE, Int.reduceAdd, Int.reduceSub, Int.reduceMul, Int.reduceNeg, Int.reduceToNat, ne_eq, sto, ldn, ld1, beq_self_eq_true, al_3, fa_43_0, fa_43_7, fa_43_8, X_Succs1_1, X_Succs1_2, X_Succs1_3, g3, h12, h11, rv_zero]
        exact .inl ⟨by simp [succsI, h12, h11, ht], r3⟩
    · simp -implicitDefEqProofs only [EE, cond_true, cond_false, nth, ↓nw, Value.cells, ↓BK, setMany, if_true, if_false, Nat.reduceAdd, Nat.reduceLeDiff, Nat.reduceMul, Nat.reduceMod, Nat.reduceDiv, Nat.reduceSub, Nat.reduceEqDiff, Int.reduceEq, Int.reduceLT, Int.reduceLE, Int.reduceAdd, Int.reduceSub, Int.reduceMul, Int.reduceNeg, Int.reduceToNat, ne_eq, sto, ldn, ld1, beq_self_eq_true, al_3, fa_43_0, fa_43_7, fa_43_8, X_Succs1_1, X_Succs1_2, X_Succs1_3, h12, rv_zero]
      refine .inr ⟨?_, r3⟩
      by_cases h11 : x.op = 11
      · simp [succsI, h11, ht]
      · simp [succsI, h12, h11, ht]
end
/-- In a round. -/
structure Busy (h0 : AHeap) (A0 : ALoop) (h : AHeap) : Prop where
  next : h0.next < h.next
  ro : h.ro = h0.ro
  loop : h.get h0.next = some (.loop { A0 with state := .busy })
  ready : A0.state = .ready ∧ A0.pending = none
  old : ∀ b, b < h0.next → h.get b = h0.get b
theorem Busy.older {h0 h : AHeap} {A0 : ALoop} (r : Busy h0 A0 h) : Old h0 h := ⟨Nat.le_of_lt r.next, r.ro, r.old⟩
theorem ra_of {h0 h : AHeap} {A0 : ALoop} (r : RunI h0 A0 h) (hro : h0.ro ≤ h0.next) {K : AHeap → Prop} (hk : ∀ hb, Busy h0 A0 hb → K hb) : RA h0.next h K :=
  ⟨A0, r.loop, r.ready.1, by rw [r.ro]; exact hro, hk _ ⟨r.next, r.ro, get_set_self, r.ready, fun b hb => by rw [get_set_ne (by omega)]; exact r.old b hb⟩⟩
theorem fin_go {h0 hb : AHeap} {A0 : ALoop} (r : Busy h0 A0 hb) (hro : h0.ro ≤ h0.next) {K : Value → AHeap → Prop} (hk : ∀ h', RunI h0 A0 h' → K (.bool true) h') : Fin h0.next K .normal hb := by
  refine ⟨_, r.loop, by rw [r.ro]; exact hro, hk _ ⟨r.next, r.ro, ?_, r.ready, fun b hb => by rw [get_set_ne (by omega)]; exact r.old b hb⟩⟩
  rw [get_set_self]
  obtain ⟨st, pe, s, ps, asn, bd⟩ := A0
  obtain ⟨r1, r2⟩ := r.ready
  simp only at r1 r2
  subst r1 r2
  rfl
theorem fin_end {h0 hb h2 : AHeap} {A0 : ALoop} {br : Nat} (r : Busy h0 A0 hb) (hro : h0.ro ≤ h0.next) (hbr : br < h0.next) (he : h2 = hb.set br (some (.cells [.bool false] 4))) {K : Value → AHeap → Prop} (hk : ∀ h', StopI h0 A0 br h' → K (.bool false) h') : Fin h0.next K .ret h2 := by
  subst he
  refine ⟨{ A0 with state := .busy }, by rw [get_set_ne (by omega)]; exact r.loop, by show hb.ro ≤ _; rw [r.ro]; exact hro, hk _ ⟨r.next, r.ro, get_set_self, fun b h1 h3 => ?_, ?_⟩⟩
  · rw [get_set_ne (by omega), get_set_ne h3]; exact r.old b h1
  · rw [get_set_ne (by omega), get_set_self]
end Go.Rtl
namespace Go.Rtl
open Go.Ai Go.Proofs
set_option linter.unusedVariables false
set_option linter.unusedSimpArgs false
set_option maxRecDepth 10000
theorem uses_q (x : Ins) (h : AHeap) (hn : isBot x.av = false) : DC Tryz.prog 12 [x.val] h (fun v h1 => v = .func (.func 21) #[] #[.pointer (some ⟨h.next, 0, none⟩)] ∧ h1 = h.push (xcells x)) := by
  apply X_Uses_ok
  unfold X_Uses
  simp -implicitDefEqProofs only [EE, cond_true, cond_false, nth, ↓nw, Value.cells, ↓BK, setMany, if_true, if_false, Nat.reduceAdd, Nat.reduceLeDiff, Nat.reduceMul, Nat.reduceMod, Nat.reduceDiv, Nat.reduceSub, Nat.reduceEqDiff, Int.reduceEq, Int.reduceLT, Int.reduceLE, Int.reduceAdd, Int.reduceSub, Int.reduceMul, Int.reduceNeg, Int.reduceToNat, ne_eq, sto, ldn, ld1, beq_self_eq_true, hn, List.nil_append]
theorem succs_q (x : Ins) (h : AHeap) (hn : isBot x.av = false) : DC Tryz.prog 11 [x.val] h (fun v h1 => v = .func (.func 20) #[] #[.pointer (some ⟨h.next, 0, none⟩)] ∧ h1 = h.push (xcells x)) := by
  apply X_Succs_ok
  unfold X_Succs
  simp -implicitDefEqProofs only [EE, cond_true, cond_false, nth, ↓nw, Value.cells, ↓BK, setMany, if_true, if_false, Nat.reduceAdd, Nat.reduceLeDiff, Nat.reduceMul, Nat.reduceMod, Nat.reduceDiv, Nat.reduceSub, Nat.reduceEqDiff, Int.reduceEq, Int.reduceLT, Int.reduceLE, Int.reduceAdd, Int.reduceSub, Int.reduceMul, Int.reduceNeg, Int.reduceToNat, ne_eq, sto, ldn, ld1, beq_self_eq_true, hn, List.nil_append]
theorem ax20v (a b : Value) (ha : isBot a = false) (hb : isBot b = false) : axt (.tuple #[a, b]) 0 = some a := by rw [axt_of (by simp only [nobot_cons, ha, hb, nobot_nil])]; rfl
theorem ax21v (a b : Value) (ha : isBot a = false) (hb : isBot b = false) : axt (.tuple #[a, b]) 1 = some b := by rw [axt_of (by simp only [nobot_cons, ha, hb, nobot_nil])]; rfl
end Go.Rtl
namespace Go.Rtl
open Go.Ai Go.Proofs
set_option linter.unusedVariables false
set_option linter.unusedSimpArgs false
set_option maxRecDepth 10000
theorem rps0 : (rangeAt Tryz.prog 31 0).1 = #[19] := by kernel_rfl
theorem rps1 : (rangeAt Tryz.prog 31 1).1 = #[28] := by kernel_rfl
section
variable {h0 : AHeap} {b1 br : Nat} {f : Fn} {t0 t1 t3 t9 t10 t11 t12 t13 t14 t15 t16 t17 t18 t26 t27 : Value}
theorem r_round0 (hro : h0.ro ≤ h0.next) (hbr : br < h0.next) (hg : h0.get br = some (.cells [.bool false] 4)) (hrb : h0.ro ≤ br) (hb1 : b1 < h0.next) (hf : h0.get b1 = some (fcells f)) (hc : SliceR h0 f.cv 9 (f.code.map Ins.row))
    {s1 : Env} (hl : Le (envT 125 [(0, t0), (1, t1), (2, .pointer (some ⟨b1, 0, none⟩)), (3, t3), (4, .pointer (some ⟨br, 0, none⟩)), (9, t9), (10, t10), (11, t11), (12, t12), (13, t13), (14, t14), (15, t15), (16, t16), (17, t17), (18, t18)]) s1) :
    Yc h0 br { state := .ready, pending := none, s := s1, params := (rangeAt Tryz.prog 31 0).1, assign := (rangeAt Tryz.prog 31 0).2.1, body := (rangeAt Tryz.prog 31 0).2.2 } (fun s => withinB s f.code.length) := by
  intro z h K r hgo hst
  obtain ⟨s0, e0, l0⟩ := le_round (.int .i64 z) hl (t := 19) (by decide) rfl
  refine yldN_of (drawW_ok (q := qs) mixed) (n := 150) (lv := 52) (lv' := 0) (h := h) r.loop (s0 := s0) (by rw [rps0]; exact e0) l0 rfl ?_
  show RndW Tryz.prog (drawW Tryz.prog qs) 150 52 0 h0.next (rangeAt Tryz.prog 31 0).2.1 (rangeAt Tryz.prog 31 0).2.2 (envT 125 [(0, t0), (1, t1), (2, .pointer (some ⟨b1, 0, none⟩)), (3, t3), (4, .pointer (some ⟨br, 0, none⟩)), (9, t9), (10, t10), (11, t11), (12, t12), (13, t13), (14, t14), (15, t15), (16, t16), (17, t17), (18, t18), (19, .int .i64 z)]) h K
  rw [X_rInstr_r0_eq]
  unfold X_rInstr_r0
  refine ra_of r hro fun hb B => ?_
  have gf := B.older.got hb1 hf
  have c2 := hc.old B.older
  have cn := c2.nob
  have cl := c2.len46 3 hb
  rw [List.length_map] at cl
  simp -implicitDefEqProofs only [EE, cond_true, cond_false, nth, ↓nw, Value.cells, ↓BK, setMany, if_true, if_false, Nat.reduceAdd, Nat.reduceLeDiff, Nat.reduceMul, Nat.reduceMod, Nat.reduceDiv, Nat.reduceSub, Nat.reduceEqDiff, Int.reduceEq, Int.reduceLT, Int.reduceLE, Int.reduceAdd, Int.reduceSub, Int.reduceMul, Int.reduceNeg, Int.reduceToNat, ne_eq, sto, ldn, ld1, beq_self_eq_true, al_2, al_3, al_4, al_43, al_46, as_4, az_4, fa_43_0, fa_43_1, fa_43_2, fa_43_3, fa_43_4, fa_43_5, fa_48_2, fa_48_3, fa_48_5, len_46, X_rInstr_2, gf, cn, cl]
  refine callV_q (by kernel_rfl) rfl (within_q z _ hb) ?_
  cases ht : withinB z f.code.length with
  | true =>
    simp -implicitDefEqProofs only [EE, cond_true, cond_false, nth, ↓nw, Value.cells, ↓BK, setMany, if_true, if_false, Nat.reduceAdd, Nat.reduceLeDiff, Nat.reduceMul, Nat.reduceMod, Nat.reduceDiv, Nat.reduceSub, Nat.reduceEqDiff, Int.reduceEq, Int.reduceLT, Int.reduceLE, Int.reduceAdd, Int.reduceSub, Int.reduceMul, Int.reduceNeg, Int.reduceToNat, ne_eq, sto, ldn, ld1, beq_self_eq_true, al_2, al_3, al_4, al_43, al_46, as_4, az_4, fa_43_0, fa_43_1, fa_43_2, fa_43_3, fa_43_4, fa_43_5, fa_48_2, fa_48_3, fa_48_5, len_46, X_rInstr_1]
    exact fin_go B hro (hgo ht)
  | false =>
    have g2 : hb.get br = some (.cells [.bool false] 4) := by rw [B.old br hbr]; exact hg
    have rb : hb.ro ≤ br := by rw [B.ro]; exact hrb
    simp -implicitDefEqProofs only [EE, cond_true, cond_false, nth, ↓nw, Value.cells, ↓BK, setMany, if_true, if_false, Nat.reduceAdd, Nat.reduceLeDiff, Nat.reduceMul, Nat.reduceMod, Nat.reduceDiv, Nat.reduceSub, Nat.reduceEqDiff, Int.reduceEq, Int.reduceLT, Int.reduceLE, Int.reduceAdd, Int.reduceSub, Int.reduceMul, Int.reduceNeg, Int.reduceToNat, ne_eq, sto, ldn, ld1, beq_self_eq_true, al_2, al_3, al_4, al_43, al_46, as_4, az_4, fa_43_0, fa_43_1, fa_43_2, fa_43_3, fa_43_4, fa_43_5, fa_48_2, fa_48_3, fa_48_5, len_46, X_rInstr_1, g2, rb]
    exact fin_end B hro hbr rfl (hst ht)
theorem r_round1 (hro : h0.ro ≤ h0.next) (hbr : br < h0.next) (hg : h0.get br = some (.cells [.bool false] 4)) (hrb : h0.ro ≤ br) (hb1 : b1 < h0.next) (hf : h0.get b1 = some (fcells f))
    {s1 : Env} (hl : Le (envT 125 [(0, t0), (1, t1), (2, .pointer (some ⟨b1, 0, none⟩)), (3, t3), (4, .pointer (some ⟨br, 0, none⟩)), (9, t9), (10, t10), (11, t11), (12, t12), (13, t13), (14, t14), (15, t15), (16, t16), (17, t17), (18, t18), (26, t26), (27, t27)]) s1) :
    Yc h0 br { state := .ready, pending := none, s := s1, params := (rangeAt Tryz.prog 31 1).1, assign := (rangeAt Tryz.prog 31 1).2.1, body := (rangeAt Tryz.prog 31 1).2.2 } (fun u => withinB u f.regs) := by
  intro z h K r hgo hst
  obtain ⟨s0, e0, l0⟩ := le_round (.int .i64 z) hl (t := 28) (by decide) rfl
  refine yldN_of (drawW_ok (q := qs) mixed) (n := 150) (lv := 84) (lv' := 0) (h := h) r.loop (s0 := s0) (by rw [rps1]; exact e0) l0 rfl ?_
  show RndW Tryz.prog (drawW Tryz.prog qs) 150 84 0 h0.next (rangeAt Tryz.prog 31 1).2.1 (rangeAt Tryz.prog 31 1).2.2 (envT 125 [(0, t0), (1, t1), (2, .pointer (some ⟨b1, 0, none⟩)), (3, t3), (4, .pointer (some ⟨br, 0, none⟩)), (9, t9), (10, t10), (11, t11), (12, t12), (13, t13), (14, t14), (15, t15), (16, t16), (17, t17), (18, t18), (26, t26), (27, t27), (28, .int .i64 z)]) h K
  rw [X_rInstr_r1_eq]
  unfold X_rInstr_r1
  refine ra_of r hro fun hb B => ?_
  have gf := B.older.got hb1 hf
  simp -implicitDefEqProofs only [EE, cond_true, cond_false, nth, ↓nw, Value.cells, ↓BK, setMany, if_true, if_false, Nat.reduceAdd, Nat.reduceLeDiff, Nat.reduceMul, Nat.reduceMod, Nat.reduceDiv, Nat.reduceSub, Nat.reduceEqDiff, Int.reduceEq, Int.reduceLT, Int.reduceLE, Int.reduceAdd, Int.reduceSub, Int.reduceMul, Int.reduceNeg, Int.reduceToNat, ne_eq, sto, ldn, ld1, beq_self_eq_true, al_2, al_3, al_4, al_43, al_46, as_4, az_4, fa_43_0, fa_43_1, fa_43_2, fa_43_3, fa_43_4, fa_43_5, fa_48_2, fa_48_3, fa_48_5, len_46, X_rInstr_6, gf]
  refine callV_q (by kernel_rfl) rfl (within_q z _ hb) ?_
  cases ht : withinB z f.regs with
  | true =>
    simp -implicitDefEqProofs only [EE, cond_true, cond_false, nth, ↓nw, Value.cells, ↓BK, setMany, if_true, if_false, Nat.reduceAdd, Nat.reduceLeDiff, Nat.reduceMul, Nat.reduceMod, Nat.reduceDiv, Nat.reduceSub, Nat.reduceEqDiff, Int.reduceEq, Int.reduceLT, Int.reduceLE, Int.reduceAdd, Int.reduceSub, Int.reduceMul, Int.reduceNeg, Int.reduceToNat, ne_eq, sto, ldn, ld1, beq_self_eq_true, al_2, al_3, al_4, al_43, al_46, as_4, az_4, fa_43_0, fa_43_1, fa_43_2, fa_43_3, fa_43_4, fa_43_5, fa_48_2, fa_48_3, fa_48_5, len_46, X_rInstr_5]
    exact fin_go B hro (hgo ht)
  | false =>
    have g2 : hb.get br = some (.cells [.bool false] 4) := by rw [B.old br hbr]; exact hg
    have rb : hb.ro ≤ br := by rw [B.ro]; exact hrb
    simp -implicitDefEqProofs only [EE, cond_true, cond_false, nth, ↓nw, Value.cells, ↓BK, setMany, if_true, if_false, Nat.reduceAdd, Nat.reduceLeDiff, Nat.reduceMul, Nat.reduceMod, Nat.reduceDiv, Nat.reduceSub, Nat.reduceEqDiff, Int.reduceEq, Int.reduceLT, Int.reduceLE, Int.reduceAdd, Int.reduceSub, Int.reduceMul, Int.reduceNeg, Int.reduceToNat, ne_eq, sto, ldn, ld1, beq_self_eq_true, al_2, al_3, al_4, al_43, al_46, as_4, az_4, fa_43_0, fa_43_1, fa_43_2, fa_43_3, fa_43_4, fa_43_5, fa_48_2, fa_48_3, fa_48_5, len_46, X_rInstr_5, g2, rb]
    exact fin_end B hro hbr rfl (hst ht)
end
def writeOk (f : Fn) (x : Ins) : Bool := !wr x.op || withinB x.d f.regs
def lastB (f : Fn) (x : Ins) : Bool := opOk f x && writeOk f x
def midB (f : Fn) (x : Ins) : Bool := !bad1 x && (!bad2 x && (decide (x.op = 10) && decide (x.d = -1) || lastB f x))
def rInsB (f : Fn) (x : Ins) : Bool := decide (1 ≤ x.op) && (decide (x.op ≤ 14) && ((succsI x).all (fun s => withinB s f.code.length) && ((usesI x).all (fun u => withinB u f.regs) && midB f x)))
section
variable {h : AHeap} {b1 b2 br : Nat} {f : Fn} {x : Ins} {vs : List Value} {B : Bool}
/-- The last test: what is written. -/
theorem r46 (W : Bx h b1 b2 f x) (hg : h.get br = some (.cells [.bool false] 4)) (hrb : h.ro ≤ br) (hB : B = writeOk f x) : X_rInstr_46 (.pointer (some ⟨b2, 0, none⟩)) (.pointer (some ⟨b1, 0, none⟩)) (.pointer (some ⟨br, 0, none⟩)) (isB B) vs h := by
  have g1 := W.g1
  have g2 := W.g2
  unfold writeOk at hB
  cases hw : wr x.op with
  | false =>
    have n2 : ¬ x.op = 2 := by intro q; simp [wr, q] at hw
    have n3 : ¬ x.op = 3 := by intro q; simp [wr, q] at hw
    have n4 : ¬ x.op = 4 := by intro q; simp [wr, q] at hw
    have n5 : ¬ x.op = 5 := by intro q; simp [wr, q] at hw
    have n6 : ¬ x.op = 6 := by intro q; simp [wr, q] at hw
    have n8 : ¬ x.op = 8 := by intro q; simp [wr, q] at hw
    have n9 : ¬ x.op = 9 := by intro q; simp [wr, q] at hw
    have n10 : ¬ x.op = 10 := by intro q; simp [wr, q] at hw
    have n13 : ¬ x.op = 13 := by intro q; simp [wr, q] at hw
    simp -implicitDefEqProofs only [EE, cond_true, cond_false, nth, ↓nw, Value.cells, ↓BK, setMany, if_true, if_false, Nat.reduceAdd, Nat.reduceLeDiff, Nat.reduceMul, Nat.reduceMod, Nat.reduceDiv, Nat.reduceSub, Nat.reduceEqDiff, Int.reduceEq, Int.reduceLT, Int.reduceLE, Int.reduceAdd, Int.reduceSub, Int.reduceMul, Int.reduceNeg, Int.reduceToNat, ne_eq, sto, ldn, ld1, beq_self_eq_true, al_2, al_3, al_4, al_43, al_46, as_4, az_4, fa_43_0, fa_43_1, fa_43_2, fa_43_3, fa_43_4, fa_43_5, fa_48_2, fa_48_3, fa_48_5, len_46, X_rInstr_37, X_rInstr_38, X_rInstr_39, X_rInstr_40, X_rInstr_41, X_rInstr_42, X_rInstr_43, X_rInstr_44, X_rInstr_45, X_rInstr_46, g2, hg, hrb, n2, n3, n4, n5, n6, n8, n9, n10, n13]
    rw [hB, hw]; rfl
  | true =>
    have key : ∀ J, X_rInstr_44 (.pointer (some ⟨b2, 0, none⟩)) h (.pointer (some ⟨b1, 0, none⟩)) (.pointer (some ⟨br, 0, none⟩)) (isB B) J := by
      intro J
      simp -implicitDefEqProofs only [EE, cond_true, cond_false, nth, ↓nw, Value.cells, ↓BK, setMany, if_true, if_false, Nat.reduceAdd, Nat.reduceLeDiff, Nat.reduceMul, Nat.reduceMod, Nat.reduceDiv, Nat.reduceSub, Nat.reduceEqDiff, Int.reduceEq, Int.reduceLT, Int.reduceLE, Int.reduceAdd, Int.reduceSub, Int.reduceMul, Int.reduceNeg, Int.reduceToNat, ne_eq, sto, ldn, ld1, beq_self_eq_true, al_2, al_3, al_4, al_43, al_46, as_4, az_4, fa_43_0, fa_43_1, fa_43_2, fa_43_3, fa_43_4, fa_43_5, fa_48_2, fa_48_3, fa_48_5, len_46, X_rInstr_44, g1, g2]
      refine callV_q (by kernel_rfl) rfl (within_q x.d f.regs h) ?_
      simp -implicitDefEqProofs only [EE, cond_true, cond_false, nth, ↓nw, Value.cells, ↓BK, setMany, if_true, if_false, Nat.reduceAdd, Nat.reduceLeDiff, Nat.reduceMul, Nat.reduceMod, Nat.reduceDiv, Nat.reduceSub, Nat.reduceEqDiff, Int.reduceEq, Int.reduceLT, Int.reduceLE, Int.reduceAdd, Int.reduceSub, Int.reduceMul, Int.reduceNeg, Int.reduceToNat, ne_eq, sto, ldn, ld1, beq_self_eq_true, al_2, al_3, al_4, al_43, al_46, as_4, az_4, fa_43_0, fa_43_1, fa_43_2, fa_43_3, fa_43_4, fa_43_5, fa_48_2, fa_48_3, fa_48_5, len_46, X_rInstr_44, hg, hrb]
      rw [hB, hw]; rfl
    by_cases h2 : x.op = 2
    · simp -implicitDefEqProofs only [EE, cond_true, cond_false, nth, ↓nw, Value.cells, ↓BK, setMany, if_true, if_false, Nat.reduceAdd, Nat.reduceLeDiff, Nat.reduceMul, Nat.reduceMod, Nat.reduceDiv, Nat.reduceSub, Nat.reduceEqDiff, Int.reduceEq, Int.reduceLT, Int.reduceLE, Int.reduceAdd, Int.reduceSub, Int.reduceMul, Int.reduceNeg, Int.reduceToNat, ne_eq, sto, ldn, ld1, beq_self_eq_true, al_2, al_3, al_4, al_43, al_46, as_4, az_4, fa_43_0, fa_43_1, fa_43_2, fa_43_3, fa_43_4, fa_43_5, fa_48_2, fa_48_3, fa_48_5, len_46, X_rInstr_45, X_rInstr_46, g2, h2]; exact key _
    by_cases h3 : x.op = 3
    · simp -implicitDefEqProofs only [EE, cond_true, cond_false, nth, ↓nw, Value.cells, ↓BK, setMany, if_true, if_false, Nat.reduceAdd, Nat.reduceLeDiff, Nat.reduceMul, Nat.reduceMod, Nat.reduceDiv, Nat.reduceSub, Nat.reduceEqDiff, Int.reduceEq, Int.reduceLT, Int.reduceLE, Int.reduceAdd, Int.reduceSub, Int.reduceMul, Int.reduceNeg, Int.reduceToNat, ne_eq, sto, ldn, ld1, beq_self_eq_true, al_2, al_3, al_4, al_43, al_46, as_4, az_4, fa_43_0, fa_43_1, fa_43_2, fa_43_3, fa_43_4, fa_43_5, fa_48_2, fa_48_3, fa_48_5, len_46, X_rInstr_43, X_rInstr_45, X_rInstr_46, g2, h2, h3]; exact key _
    by_cases h4 : x.op = 4
    · simp -implicitDefEqProofs only [EE, cond_true, cond_false, nth, ↓nw, Value.cells, ↓BK, setMany, if_true, if_false, Nat.reduceAdd, Nat.reduceLeDiff, Nat.reduceMul, Nat.reduceMod, Nat.reduceDiv, Nat.reduceSub, Nat.reduceEqDiff, Int.reduceEq, Int.reduceLT, Int.reduceLE, Int.reduceAdd, Int.reduceSub, Int.reduceMul, Int.reduceNeg, Int.reduceToNat, ne_eq, sto, ldn, ld1, beq_self_eq_true, al_2, al_3, al_4, al_43, al_46, as_4, az_4, fa_43_0, fa_43_1, fa_43_2, fa_43_3, fa_43_4, fa_43_5, fa_48_2, fa_48_3, fa_48_5, len_46, X_rInstr_42, X_rInstr_43, X_rInstr_45, X_rInstr_46, g2, h2, h3, h4]; exact key _
    by_cases h5 : x.op = 5
    · simp -implicitDefEqProofs only [EE, cond_true, cond_false, nth, ↓nw, Value.cells, ↓BK, setMany, if_true, if_false, Nat.reduceAdd, Nat.reduceLeDiff, Nat.reduceMul, Nat.reduceMod, Nat.reduceDiv, Nat.reduceSub, Nat.reduceEqDiff, Int.reduceEq, Int.reduceLT, Int.reduceLE, Int.reduceAdd, Int.reduceSub, Int.reduceMul, Int.reduceNeg, Int.reduceToNat, ne_eq, sto, ldn, ld1, beq_self_eq_true, al_2, al_3, al_4, al_43, al_46, as_4, az_4, fa_43_0, fa_43_1, fa_43_2, fa_43_3, fa_43_4, fa_43_5, fa_48_2, fa_48_3, fa_48_5, len_46, X_rInstr_41, X_rInstr_42, X_rInstr_43, X_rInstr_45, X_rInstr_46, g2, h2, h3, h4, h5]; exact key _
    by_cases h6 : x.op = 6
    · simp -implicitDefEqProofs only [EE, cond_true, cond_false, nth, ↓nw, Value.cells, ↓BK, setMany, if_true, if_false, Nat.reduceAdd, Nat.reduceLeDiff, Nat.reduceMul, Nat.reduceMod, Nat.reduceDiv, Nat.reduceSub, Nat.reduceEqDiff, Int.reduceEq, Int.reduceLT, Int.reduceLE, Int.reduceAdd, Int.reduceSub, Int.reduceMul, Int.reduceNeg, Int.reduceToNat, ne_eq, sto, ldn, ld1, beq_self_eq_true, al_2, al_3, al_4, al_43, al_46, as_4, az_4, fa_43_0, fa_43_1, fa_43_2, fa_43_3, fa_43_4, fa_43_5, fa_48_2, fa_48_3, fa_48_5, len_46, X_rInstr_40, X_rInstr_41, X_rInstr_42, X_rInstr_43, X_rInstr_45, X_rInstr_46, g2, h2, h3, h4, h5, h6]; exact key _
    by_cases h8 : x.op = 8
    · simp -implicitDefEqProofs only [EE, cond_true, cond_false, nth, ↓nw, Value.cells, ↓BK, setMany, if_true, if_false, Nat.reduceAdd, Nat.reduceLeDiff, Nat.reduceMul, Nat.reduceMod, Nat.reduceDiv, Nat.reduceSub, Nat.reduceEqDiff, Int.reduceEq, Int.reduceLT, Int.reduceLE, Int.reduceAdd, Int.reduceSub, Int.reduceMul, Int.reduceNeg, Int.reduceToNat, ne_eq, sto, ldn, ld1, beq_self_eq_true, al_2, al_3, al_4, al_43, al_46, as_4, az_4, fa_43_0, fa_43_1, fa_43_2, fa_43_3, fa_43_4, fa_43_5, fa_48_2, fa_48_3, fa_48_5, len_46, X_rInstr_39, X_rInstr_40, X_rInstr_41, X_rInstr_42, X_rInstr_43, X_rInstr_45, X_rInstr_46, g2, h2, h3, h4, h5, h6, h8]; exact key _
    by_cases h9 : x.op = 9
    · simp -implicitDefEqProofs only [EE, cond_true, cond_false, nth, ↓nw, Value.cells, ↓BK, setMany, if_true, if_false, Nat.reduceAdd, Nat.reduceLeDiff, Nat.reduceMul, Nat.reduceMod, Nat.reduceDiv, Nat.reduceSub, Nat.reduceEqDiff, Int.reduceEq, Int.reduceLT, Int.reduceLE, Int.reduceAdd, Int.reduceSub, Int.reduceMul, Int.reduceNeg, Int.reduceToNat, ne_eq, sto, ldn, ld1, beq_self_eq_true, al_2, al_3, al_4, al_43, al_46, as_4, az_4, fa_43_0, fa_43_1, fa_43_2, fa_43_3, fa_43_4, fa_43_5, fa_48_2, fa_48_3, fa_48_5, len_46, X_rInstr_38, X_rInstr_39, X_rInstr_40, X_rInstr_41, X_rInstr_42, X_rInstr_43, X_rInstr_45, X_rInstr_46, g2, h2, h3, h4, h5, h6, h8, h9]; exact key _
    by_cases h13 : x.op = 13
    · simp -implicitDefEqProofs only [EE, cond_true, cond_false, nth, ↓nw, Value.cells, ↓BK, setMany, if_true, if_false, Nat.reduceAdd, Nat.reduceLeDiff, Nat.reduceMul, Nat.reduceMod, Nat.reduceDiv, Nat.reduceSub, Nat.reduceEqDiff, Int.reduceEq, Int.reduceLT, Int.reduceLE, Int.reduceAdd, Int.reduceSub, Int.reduceMul, Int.reduceNeg, Int.reduceToNat, ne_eq, sto, ldn, ld1, beq_self_eq_true, al_2, al_3, al_4, al_43, al_46, as_4, az_4, fa_43_0, fa_43_1, fa_43_2, fa_43_3, fa_43_4, fa_43_5, fa_48_2, fa_48_3, fa_48_5, len_46, X_rInstr_37, X_rInstr_38, X_rInstr_39, X_rInstr_40, X_rInstr_41, X_rInstr_42, X_rInstr_43, X_rInstr_45, X_rInstr_46, g2, h2, h3, h4, h5, h6, h8, h9, h13]; exact key _
    by_cases h10 : x.op = 10
    · simp -implicitDefEqProofs only [EE, cond_true, cond_false, nth, ↓nw, Value.cells, ↓BK, setMany, if_true, if_false, Nat.reduceAdd, Nat.reduceLeDiff, Nat.reduceMul, Nat.reduceMod, Nat.reduceDiv, Nat.reduceSub, Nat.reduceEqDiff, Int.reduceEq, Int.reduceLT, Int.reduceLE, Int.reduceAdd, Int.reduceSub, Int.reduceMul, Int.reduceNeg, Int.reduceToNat, ne_eq, sto, ldn, ld1, beq_self_eq_true, al_2, al_3, al_4, al_43, al_46, as_4, az_4, fa_43_0, fa_43_1, fa_43_2, fa_43_3, fa_43_4, fa_43_5, fa_48_2, fa_48_3, fa_48_5, len_46, X_rInstr_37, X_rInstr_38, X_rInstr_39, X_rInstr_40, X_rInstr_41, X_rInstr_42, X_rInstr_43, X_rInstr_45, X_rInstr_46, g2, h2, h3, h4, h5, h6, h8, h9, h13, h10]; exact key _
    simp [wr, h2, h3, h4, h5, h6, h8, h9, h10, h13] at hw
/-- The tests by operation. -/
theorem r36 (W : Bx h b1 b2 f x) (hg : h.get br = some (.cells [.bool false] 4)) (hrb : h.ro ≤ br) (ho : 1 ≤ x.op ∧ x.op ≤ 14) (hB : B = lastB f x) : X_rInstr_36 (.int .i64 x.op) (.pointer (some ⟨b2, 0, none⟩)) h (.pointer (some ⟨br, 0, none⟩)) (isB B) (.pointer (some ⟨b1, 0, none⟩)) (X_rInstr_46 (.pointer (some ⟨b2, 0, none⟩)) (.pointer (some ⟨b1, 0, none⟩)) (.pointer (some ⟨br, 0, none⟩)) (isB B)) := by
  have g1 := W.g1
  have g2 := W.g2
  have go : ∀ vs, opOk f x = true → X_rInstr_46 (.pointer (some ⟨b2, 0, none⟩)) (.pointer (some ⟨b1, 0, none⟩)) (.pointer (some ⟨br, 0, none⟩)) (isB B) vs h := fun vs q => r46 W hg hrb (by rw [hB, lastB, q, Bool.true_and])
  have no : ∀ h', opOk f x = false → isB B (.bool false) h' := fun h' q => by rw [hB, lastB, q, Bool.false_and]; rfl
  by_cases h4 : x.op = 4
  · have e : opOk f x = (decide (1 ≤ x.sub) && decide (x.sub ≤ 4)) := by simp [opOk, h4]
    rw [e] at go no
    by_cases c1 : x.sub < 1
    · have c1' : ¬ 1 ≤ x.sub := by omega
      simp -implicitDefEqProofs only [EE, cond_true, cond_false, nth, ↓nw, Value.cells, ↓BK, setMany, if_true, if_false, Nat.reduceAdd, Nat.reduceLeDiff, Nat.reduceMul, Nat.reduceMod, Nat.reduceDiv, Nat.reduceSub, Nat.reduceEqDiff, Int.reduceEq, Int.reduceLT, Int.reduceLE, Int.reduceAdd, Int.reduceSub, Int.reduceMul, Int.reduceNeg, Int.reduceToNat, ne_eq, sto, ldn, ld1, beq_self_eq_true, al_2, al_3, al_4, al_43, al_46, as_4, az_4, fa_43_0, fa_43_1, fa_43_2, fa_43_3, fa_43_4, fa_43_5, fa_48_2, fa_48_3, fa_48_5, len_46, X_rInstr_21, X_rInstr_22, X_rInstr_34, X_rInstr_36, g2, hg, hrb, h4, c1]
      exact no _ (by simp [c1'])
    by_cases c4 : 4 < x.sub
    · have c4' : ¬ x.sub ≤ 4 := by omega
      simp -implicitDefEqProofs only [EE, cond_true, cond_false, nth, ↓nw, Value.cells, ↓BK, setMany, if_true, if_false, Nat.reduceAdd, Nat.reduceLeDiff, Nat.reduceMul, Nat.reduceMod, Nat.reduceDiv, Nat.reduceSub, Nat.reduceEqDiff, Int.reduceEq, Int.reduceLT, Int.reduceLE, Int.reduceAdd, Int.reduceSub, Int.reduceMul, Int.reduceNeg, Int.reduceToNat, ne_eq, sto, ldn, ld1, beq_self_eq_true, al_2, al_3, al_4, al_43, al_46, as_4, az_4, fa_43_0, fa_43_1, fa_43_2, fa_43_3, fa_43_4, fa_43_5, fa_48_2, fa_48_3, fa_48_5, len_46, X_rInstr_21, X_rInstr_22, X_rInstr_34, X_rInstr_36, g2, hg, hrb, h4, c1, c4]
      exact no _ (by simp [c4'])
    · have c1' : 1 ≤ x.sub := by omega
      have c4' : x.sub ≤ 4 := by omega
      simp -implicitDefEqProofs only [EE, cond_true, cond_false, nth, ↓nw, Value.cells, ↓BK, setMany, if_true, if_false, Nat.reduceAdd, Nat.reduceLeDiff, Nat.reduceMul, Nat.reduceMod, Nat.reduceDiv, Nat.reduceSub, Nat.reduceEqDiff, Int.reduceEq, Int.reduceLT, Int.reduceLE, Int.reduceAdd, Int.reduceSub, Int.reduceMul, Int.reduceNeg, Int.reduceToNat, ne_eq, sto, ldn, ld1, beq_self_eq_true, al_2, al_3, al_4, al_43, al_46, as_4, az_4, fa_43_0, fa_43_1, fa_43_2, fa_43_3, fa_43_4, fa_43_5, fa_48_2, fa_48_3, fa_48_5, len_46, X_rInstr_21, X_rInstr_22, X_rInstr_34, X_rInstr_36, g2, hg, hrb, h4, c1, c4]
      exact go _ (by simp [c1', c4'])
  by_cases h5 : x.op = 5
  · have e : opOk f x = operB x.sub := by simp [opOk, h5]
    rw [e] at go no
    simp -implicitDefEqProofs only [EE, cond_true, cond_false, nth, ↓nw, Value.cells, ↓BK, setMany, if_true, if_false, Nat.reduceAdd, Nat.reduceLeDiff, Nat.reduceMul, Nat.reduceMod, Nat.reduceDiv, Nat.reduceSub, Nat.reduceEqDiff, Int.reduceEq, Int.reduceLT, Int.reduceLE, Int.reduceAdd, Int.reduceSub, Int.reduceMul, Int.reduceNeg, Int.reduceToNat, ne_eq, sto, ldn, ld1, beq_self_eq_true, al_2, al_3, al_4, al_43, al_46, as_4, az_4, fa_43_0, fa_43_1, fa_43_2, fa_43_3, fa_43_4, fa_43_5, fa_48_2, fa_48_3, fa_48_5, len_46, X_rInstr_35, X_rInstr_36, g2, h4, h5]
    refine callV_q (by kernel_rfl) rfl (oper_q x.sub h) ?_
    cases hc : operB x.sub with
    | true => simp -implicitDefEqProofs only [EE, cond_true, cond_false, nth, ↓nw, Value.cells, ↓BK, setMany, if_true, if_false, Nat.reduceAdd, Nat.reduceLeDiff, Nat.reduceMul, Nat.reduceMod, Nat.reduceDiv, Nat.reduceSub, Nat.reduceEqDiff, Int.reduceEq, Int.reduceLT, Int.reduceLE, Int.reduceAdd, Int.reduceSub, Int.reduceMul, Int.reduceNeg, Int.reduceToNat, ne_eq, sto, ldn, ld1, beq_self_eq_true, al_2, al_3, al_4, al_43, al_46, as_4, az_4, fa_43_0, fa_43_1, fa_43_2, fa_43_3, fa_43_4, fa_43_5, fa_48_2, fa_48_3, fa_48_5, len_46, X_rInstr_23]; exact go _ hc
    | false => simp -implicitDefEqProofs only [EE, cond_true, cond_false, nth, ↓nw, Value.cells, ↓BK, setMany, if_true, if_false, Nat.reduceAdd, Nat.reduceLeDiff, Nat.reduceMul, Nat.reduceMod, Nat.reduceDiv, Nat.reduceSub, Nat.reduceEqDiff, Int.reduceEq, Int.reduceLT, Int.reduceLE, Int.reduceAdd, Int.reduceSub, Int.reduceMul, Int.reduceNeg, Int.reduceToNat, ne_eq, sto, ldn, ld1, beq_self_eq_true, al_2, al_3, al_4, al_43, al_46, as_4, az_4, fa_43_0, fa_43_1, fa_43_2, fa_43_3, fa_43_4, fa_43_5, fa_48_2, fa_48_3, fa_48_5, len_46, X_rInstr_23, hg, hrb]; exact no _ hc
  by_cases h11 : x.op = 11
  · have e : opOk f x = flipB x.sub := by simp [opOk, h11]
    rw [e] at go no
    simp -implicitDefEqProofs only [EE, cond_true, cond_false, nth, ↓nw, Value.cells, ↓BK, setMany, if_true, if_false, Nat.reduceAdd, Nat.reduceLeDiff, Nat.reduceMul, Nat.reduceMod, Nat.reduceDiv, Nat.reduceSub, Nat.reduceEqDiff, Int.reduceEq, Int.reduceLT, Int.reduceLE, Int.reduceAdd, Int.reduceSub, Int.reduceMul, Int.reduceNeg, Int.reduceToNat, ne_eq, sto, ldn, ld1, beq_self_eq_true, al_2, al_3, al_4, al_43, al_46, as_4, az_4, fa_43_0, fa_43_1, fa_43_2, fa_43_3, fa_43_4, fa_43_5, fa_48_2, fa_48_3, fa_48_5, len_46, X_rInstr_33, X_rInstr_35, X_rInstr_36, g2, h4, h5, h11]
    refine callV_of (by kernel_rfl) rfl (flip_ok x.sub h) ?_
    rintro _ h' ⟨⟨a, rfl⟩, rfl⟩
    cases hc : flipB x.sub with
    | true => simp -implicitDefEqProofs only [EE, cond_true, cond_false, nth, ↓nw, Value.cells, ↓BK, setMany, if_true, if_false, Nat.reduceAdd, Nat.reduceLeDiff, Nat.reduceMul, Nat.reduceMod, Nat.reduceDiv, Nat.reduceSub, Nat.reduceEqDiff, Int.reduceEq, Int.reduceLT, Int.reduceLE, Int.reduceAdd, Int.reduceSub, Int.reduceMul, Int.reduceNeg, Int.reduceToNat, ne_eq, sto, ldn, ld1, beq_self_eq_true, al_2, al_3, al_4, al_43, al_46, as_4, az_4, fa_43_0, fa_43_1, fa_43_2, fa_43_3, fa_43_4, fa_43_5, fa_48_2, fa_48_3, fa_48_5, len_46, X_rInstr_24]; exact go _ hc
    | false => simp -implicitDefEqProofs only [EE, cond_true, cond_false, nth, ↓nw, Value.cells, ↓BK, setMany, if_true, if_false, Nat.reduceAdd, Nat.reduceLeDiff, Nat.reduceMul, Nat.reduceMod, Nat.reduceDiv, Nat.reduceSub, Nat.reduceEqDiff, Int.reduceEq, Int.reduceLT, Int.reduceLE, Int.reduceAdd, Int.reduceSub, Int.reduceMul, Int.reduceNeg, Int.reduceToNat, ne_eq, sto, ldn, ld1, beq_self_eq_true, al_2, al_3, al_4, al_43, al_46, as_4, az_4, fa_43_0, fa_43_1, fa_43_2, fa_43_3, fa_43_4, fa_43_5, fa_48_2, fa_48_3, fa_48_5, len_46, X_rInstr_24, hg, hrb]; exact no _ hc
  by_cases h67 : x.op = 6 ∨ x.op = 7
  · have e : opOk f x = chunkB x.sub := by rcases h67 with q | q <;> simp [opOk, q]
    rw [e] at go no
    have key : ∀ J : List Value → AHeap → Prop, (∀ vs, J vs h = X_rInstr_46 (.pointer (some ⟨b2, 0, none⟩)) (.pointer (some ⟨b1, 0, none⟩)) (.pointer (some ⟨br, 0, none⟩)) (isB B) [] h) → X_rInstr_30 (.pointer (some ⟨b2, 0, none⟩)) h (.pointer (some ⟨br, 0, none⟩)) (isB B) J := by
      intro J hJ
      simp -implicitDefEqProofs only [EE, cond_true, cond_false, nth, ↓nw, Value.cells, ↓BK, setMany, if_true, if_false, Nat.reduceAdd, Nat.reduceLeDiff, Nat.reduceMul, Nat.reduceMod, Nat.reduceDiv, Nat.reduceSub, Nat.reduceEqDiff, Int.reduceEq, Int.reduceLT, Int.reduceLE, Int.reduceAdd, Int.reduceSub, Int.reduceMul, Int.reduceNeg, Int.reduceToNat, ne_eq, sto, ldn, ld1, beq_self_eq_true, al_2, al_3, al_4, al_43, al_46, as_4, az_4, fa_43_0, fa_43_1, fa_43_2, fa_43_3, fa_43_4, fa_43_5, fa_48_2, fa_48_3, fa_48_5, len_46, X_rInstr_30, g2]
      refine callV_q (by kernel_rfl) rfl (chunk_q x.sub h) ?_
      cases hc : chunkB x.sub with
      | true => simp -implicitDefEqProofs only [EE, cond_true, cond_false, nth, ↓nw, Value.cells, ↓BK, setMany, if_true, if_false, Nat.reduceAdd, Nat.reduceLeDiff, Nat.reduceMul, Nat.reduceMod, Nat.reduceDiv, Nat.reduceSub, Nat.reduceEqDiff, Int.reduceEq, Int.reduceLT, Int.reduceLE, Int.reduceAdd, Int.reduceSub, Int.reduceMul, Int.reduceNeg, Int.reduceToNat, ne_eq, sto, ldn, ld1, beq_self_eq_true, al_2, al_3, al_4, al_43, al_46, as_4, az_4, fa_43_0, fa_43_1, fa_43_2, fa_43_3, fa_43_4, fa_43_5, fa_48_2, fa_48_3, fa_48_5, len_46, X_rInstr_25]; rw [hJ]; exact go _ hc
      | false => simp -implicitDefEqProofs only [EE, cond_true, cond_false, nth, ↓nw, Value.cells, ↓BK, setMany, if_true, if_false, Nat.reduceAdd, Nat.reduceLeDiff, Nat.reduceMul, Nat.reduceMod, Nat.reduceDiv, Nat.reduceSub, Nat.reduceEqDiff, Int.reduceEq, Int.reduceLT, Int.reduceLE, Int.reduceAdd, Int.reduceSub, Int.reduceMul, Int.reduceNeg, Int.reduceToNat, ne_eq, sto, ldn, ld1, beq_self_eq_true, al_2, al_3, al_4, al_43, al_46, as_4, az_4, fa_43_0, fa_43_1, fa_43_2, fa_43_3, fa_43_4, fa_43_5, fa_48_2, fa_48_3, fa_48_5, len_46, X_rInstr_25, hg, hrb]; exact no _ hc
    by_cases h6 : x.op = 6
    · simp -implicitDefEqProofs only [EE, cond_true, cond_false, nth, ↓nw, Value.cells, ↓BK, setMany, if_true, if_false, Nat.reduceAdd, Nat.reduceLeDiff, Nat.reduceMul, Nat.reduceMod, Nat.reduceDiv, Nat.reduceSub, Nat.reduceEqDiff, Int.reduceEq, Int.reduceLT, Int.reduceLE, Int.reduceAdd, Int.reduceSub, Int.reduceMul, Int.reduceNeg, Int.reduceToNat, ne_eq, sto, ldn, ld1, beq_self_eq_true, al_2, al_3, al_4, al_43, al_46, as_4, az_4, fa_43_0, fa_43_1, fa_43_2, fa_43_3, fa_43_4, fa_43_5, fa_48_2, fa_48_3, fa_48_5, len_46, X_rInstr_32, X_rInstr_33, X_rInstr_35, X_rInstr_36, g2, h4, h5, h11, h6]
      exact key _ fun _ => rfl
    · have h7 : x.op = 7 := by omega
      simp -implicitDefEqProofs only [EE, cond_true, cond_false, nth, ↓nw, Value.cells, ↓BK, setMany, if_true, if_false, Nat.reduceAdd, Nat.reduceLeDiff, Nat.reduceMul, Nat.reduceMod, Nat.reduceDiv, Nat.reduceSub, Nat.reduceEqDiff, Int.reduceEq, Int.reduceLT, Int.reduceLE, Int.reduceAdd, Int.reduceSub, Int.reduceMul, Int.reduceNeg, Int.reduceToNat, ne_eq, sto, ldn, ld1, beq_self_eq_true, al_2, al_3, al_4, al_43, al_46, as_4, az_4, fa_43_0, fa_43_1, fa_43_2, fa_43_3, fa_43_4, fa_43_5, fa_48_2, fa_48_3, fa_48_5, len_46, X_rInstr_32, X_rInstr_33, X_rInstr_35, X_rInstr_36, g2, h4, h5, h11, h6, h7]
      exact key _ fun _ => rfl
  have h6 : ¬ x.op = 6 := fun q => h67 (.inl q)
  have h7 : ¬ x.op = 7 := fun q => h67 (.inr q)
  by_cases h9 : x.op = 9
  · have e : opOk f x = (decide (0 ≤ x.k) && decide (x.k ≤ f.frame)) := by simp [opOk, h9]
    rw [e] at go no
    by_cases c0 : x.k < 0
    · have c0' : ¬ 0 ≤ x.k := by omega
      simp -implicitDefEqProofs only [EE, cond_true, cond_false, nth, ↓nw, Value.cells, ↓BK, setMany, if_true, if_false, Nat.reduceAdd, Nat.reduceLeDiff, Nat.reduceMul, Nat.reduceMod, Nat.reduceDiv, Nat.reduceSub, Nat.reduceEqDiff, Int.reduceEq, Int.reduceLT, Int.reduceLE, Int.reduceAdd, Int.reduceSub, Int.reduceMul, Int.reduceNeg, Int.reduceToNat, ne_eq, sto, ldn, ld1, beq_self_eq_true, al_2, al_3, al_4, al_43, al_46, as_4, az_4, fa_43_0, fa_43_1, fa_43_2, fa_43_3, fa_43_4, fa_43_5, fa_48_2, fa_48_3, fa_48_5, len_46, X_rInstr_26, X_rInstr_27, X_rInstr_28, X_rInstr_29, X_rInstr_31, X_rInstr_32, X_rInstr_33, X_rInstr_35, X_rInstr_36, g1, g2, hg, hrb, h4, h5, h11, h6, h7, h9, c0]
      exact no _ (by simp [c0'])
    by_cases c1 : f.frame < x.k
    · have c1' : ¬ x.k ≤ f.frame := by omega
      simp -implicitDefEqProofs only [EE, cond_true, cond_false, nth, ↓nw, Value.cells, ↓BK, setMany, if_true, if_false, Nat.reduceAdd, Nat.reduceLeDiff, Nat.reduceMul, Nat.reduceMod, Nat.reduceDiv, Nat.reduceSub, Nat.reduceEqDiff, Int.reduceEq, Int.reduceLT, Int.reduceLE, Int.reduceAdd, Int.reduceSub, Int.reduceMul, Int.reduceNeg, Int.reduceToNat, ne_eq, sto, ldn, ld1, beq_self_eq_true, al_2, al_3, al_4, al_43, al_46, as_4, az_4, fa_43_0, fa_43_1, fa_43_2, fa_43_3, fa_43_4, fa_43_5, fa_48_2, fa_48_3, fa_48_5, len_46, X_rInstr_26, X_rInstr_27, X_rInstr_28, X_rInstr_29, X_rInstr_31, X_rInstr_32, X_rInstr_33, X_rInstr_35, X_rInstr_36, g1, g2, hg, hrb, h4, h5, h11, h6, h7, h9, c0, c1]
      exact no _ (by simp [c1'])
    · have c0' : 0 ≤ x.k := by omega
      have c1' : x.k ≤ f.frame := by omega
      simp -implicitDefEqProofs only [EE, cond_true, cond_false, nth, ↓nw, Value.cells, ↓BK, setMany, if_true, if_false, Nat.reduceAdd, Nat.reduceLeDiff, Nat.reduceMul, Nat.reduceMod, Nat.reduceDiv, Nat.reduceSub, Nat.reduceEqDiff, Int.reduceEq, Int.reduceLT, Int.reduceLE, Int.reduceAdd, Int.reduceSub, Int.reduceMul, Int.reduceNeg, Int.reduceToNat, ne_eq, sto, ldn, ld1, beq_self_eq_true, al_2, al_3, al_4, al_43, al_46, as_4, az_4, fa_43_0, fa_43_1, fa_43_2, fa_43_3, fa_43_4, fa_43_5, fa_48_2, fa_48_3, fa_48_5, len_46, X_rInstr_26, X_rInstr_27, X_rInstr_28, X_rInstr_29, X_rInstr_31, X_rInstr_32, X_rInstr_33, X_rInstr_35, X_rInstr_36, g1, g2, hg, hrb, h4, h5, h11, h6, h7, h9, c0, c1]
      exact go _ (by simp [c0', c1'])
  have e : opOk f x = true := by
    unfold opOk
    rw [if_pos]
    omega
  simp -implicitDefEqProofs only [EE, cond_true, cond_false, nth, ↓nw, Value.cells, ↓BK, setMany, if_true, if_false, Nat.reduceAdd, Nat.reduceLeDiff, Nat.reduceMul, Nat.reduceMod, Nat.reduceDiv, Nat.reduceSub, Nat.reduceEqDiff, Int.reduceEq, Int.reduceLT, Int.reduceLE, Int.reduceAdd, Int.reduceSub, Int.reduceMul, Int.reduceNeg, Int.reduceToNat, ne_eq, sto, ldn, ld1, beq_self_eq_true, al_2, al_3, al_4, al_43, al_46, as_4, az_4, fa_43_0, fa_43_1, fa_43_2, fa_43_3, fa_43_4, fa_43_5, fa_48_2, fa_48_3, fa_48_5, len_46, X_rInstr_31, X_rInstr_32, X_rInstr_33, X_rInstr_35, X_rInstr_36, g2, h4, h5, h11, h6, h7, h9]
  exact go _ e
/-- The tests of A, B, D. -/
theorem r47 (W : Bx h b1 b2 f x) (hg : h.get br = some (.cells [.bool false] 4)) (hrb : h.ro ≤ br) (ho : 1 ≤ x.op ∧ x.op ≤ 14) (hB : B = midB f x) : X_rInstr_47 (.pointer (some ⟨b2, 0, none⟩)) (.pointer (some ⟨br, 0, none⟩)) (isB B) (.pointer (some ⟨b1, 0, none⟩)) vs h := by
  have g1 := W.g1
  have g2 := W.g2
  have no : ∀ h', midB f x = false → isB B (.bool false) h' := fun h' q => by rw [hB, q]; rfl
  have go : midB f x = lastB f x → X_rInstr_36 (.int .i64 x.op) (.pointer (some ⟨b2, 0, none⟩)) h (.pointer (some ⟨br, 0, none⟩)) (isB B) (.pointer (some ⟨b1, 0, none⟩)) (X_rInstr_46 (.pointer (some ⟨b2, 0, none⟩)) (.pointer (some ⟨b1, 0, none⟩)) (.pointer (some ⟨br, 0, none⟩)) (isB B)) := fun q => r36 W hg hrb ho (by rw [hB, q])
  simp -implicitDefEqProofs only [EE, cond_true, cond_false, nth, ↓nw, Value.cells, ↓BK, setMany, if_true, if_false, Nat.reduceAdd, Nat.reduceLeDiff, Nat.reduceMul, Nat.reduceMod, Nat.reduceDiv, Nat.reduceSub, Nat.reduceEqDiff, Int.reduceEq, Int.reduceLT, Int.reduceLE, Int.reduceAdd, Int.reduceSub, Int.reduceMul, Int.reduceNeg, Int.reduceToNat, ne_eq, sto, ldn, ld1, beq_self_eq_true, al_2, al_3, al_4, al_43, al_46, as_4, az_4, fa_43_0, fa_43_1, fa_43_2, fa_43_3, fa_43_4, fa_43_5, fa_48_2, fa_48_3, fa_48_5, len_46, X_rInstr_47, g2]
  by_cases h7 : x.op = 7
  · by_cases ca : x.a = -1
    · simp -implicitDefEqProofs only [EE, cond_true, cond_false, nth, ↓nw, Value.cells, ↓BK, setMany, if_true, if_false, Nat.reduceAdd, Nat.reduceLeDiff, Nat.reduceMul, Nat.reduceMod, Nat.reduceDiv, Nat.reduceSub, Nat.reduceEqDiff, Int.reduceEq, Int.reduceLT, Int.reduceLE, Int.reduceAdd, Int.reduceSub, Int.reduceMul, Int.reduceNeg, Int.reduceToNat, ne_eq, sto, ldn, ld1, beq_self_eq_true, al_2, al_3, al_4, al_43, al_46, as_4, az_4, fa_43_0, fa_43_1, fa_43_2, fa_43_3, fa_43_4, fa_43_5, fa_48_2, fa_48_3, fa_48_5, len_46, X_rInstr_9, X_rInstr_10, X_rInstr_11, X_rInstr_12, X_rInstr_13, X_rInstr_14, X_rInstr_15, X_rInstr_16, X_rInstr_17, X_rInstr_18, X_rInstr_19, X_rInstr_20, g2, hg, hrb, h7, ca]
      exact no _ (by simp [midB, bad1, needA, h7, ca])
    by_cases cb : x.b = -1
    · simp -implicitDefEqProofs only [EE, cond_true, cond_false, nth, ↓nw, Value.cells, ↓BK, setMany, if_true, if_false, Nat.reduceAdd, Nat.reduceLeDiff, Nat.reduceMul, Nat.reduceMod, Nat.reduceDiv, Nat.reduceSub, Nat.reduceEqDiff, Int.reduceEq, Int.reduceLT, Int.reduceLE, Int.reduceAdd, Int.reduceSub, Int.reduceMul, Int.reduceNeg, Int.reduceToNat, ne_eq, sto, ldn, ld1, beq_self_eq_true, al_2, al_3, al_4, al_43, al_46, as_4, az_4, fa_43_0, fa_43_1, fa_43_2, fa_43_3, fa_43_4, fa_43_5, fa_48_2, fa_48_3, fa_48_5, len_46, X_rInstr_9, X_rInstr_10, X_rInstr_11, X_rInstr_12, X_rInstr_13, X_rInstr_14, X_rInstr_15, X_rInstr_16, X_rInstr_17, X_rInstr_18, X_rInstr_19, X_rInstr_20, g2, hg, hrb, h7, ca, cb]
      exact no _ (by simp [midB, bad2, needB, h7, cb])
    · simp -implicitDefEqProofs only [EE, cond_true, cond_false, nth, ↓nw, Value.cells, ↓BK, setMany, if_true, if_false, Nat.reduceAdd, Nat.reduceLeDiff, Nat.reduceMul, Nat.reduceMod, Nat.reduceDiv, Nat.reduceSub, Nat.reduceEqDiff, Int.reduceEq, Int.reduceLT, Int.reduceLE, Int.reduceAdd, Int.reduceSub, Int.reduceMul, Int.reduceNeg, Int.reduceToNat, ne_eq, sto, ldn, ld1, beq_self_eq_true, al_2, al_3, al_4, al_43, al_46, as_4, az_4, fa_43_0, fa_43_1, fa_43_2, fa_43_3, fa_43_4, fa_43_5, fa_48_2, fa_48_3, fa_48_5, len_46, X_rInstr_9, X_rInstr_10, X_rInstr_11, X_rInstr_12, X_rInstr_13, X_rInstr_14, X_rInstr_15, X_rInstr_16, X_rInstr_17, X_rInstr_18, X_rInstr_19, X_rInstr_20, g2, hg, hrb, h7, ca, cb]
      rw [h7] at go
      exact go (by simp [midB, bad1, bad2, h7, ca, cb])
  by_cases h10 : x.op = 10
  · have n1 : bad1 x = false := by simp [bad1, needA, h10]
    have n2 : bad2 x = false := by simp [bad2, needB, h10]
    by_cases cd : x.d = -1
    · simp -implicitDefEqProofs only [EE, cond_true, cond_false, nth, ↓nw, Value.cells, ↓BK, setMany, if_true, if_false, Nat.reduceAdd, Nat.reduceLeDiff, Nat.reduceMul, Nat.reduceMod, Nat.reduceDiv, Nat.reduceSub, Nat.reduceEqDiff, Int.reduceEq, Int.reduceLT, Int.reduceLE, Int.reduceAdd, Int.reduceSub, Int.reduceMul, Int.reduceNeg, Int.reduceToNat, ne_eq, sto, ldn, ld1, beq_self_eq_true, al_2, al_3, al_4, al_43, al_46, as_4, az_4, fa_43_0, fa_43_1, fa_43_2, fa_43_3, fa_43_4, fa_43_5, fa_48_2, fa_48_3, fa_48_5, len_46, X_rInstr_9, X_rInstr_10, X_rInstr_11, X_rInstr_12, X_rInstr_13, X_rInstr_14, X_rInstr_15, X_rInstr_16, X_rInstr_17, X_rInstr_18, X_rInstr_19, X_rInstr_20, g2, hg, hrb, h10, cd]
      rw [hB]
      simp [isB, midB, n1, n2, h10, cd]
    · simp -implicitDefEqProofs only [EE, cond_true, cond_false, nth, ↓nw, Value.cells, ↓BK, setMany, if_true, if_false, Nat.reduceAdd, Nat.reduceLeDiff, Nat.reduceMul, Nat.reduceMod, Nat.reduceDiv, Nat.reduceSub, Nat.reduceEqDiff, Int.reduceEq, Int.reduceLT, Int.reduceLE, Int.reduceAdd, Int.reduceSub, Int.reduceMul, Int.reduceNeg, Int.reduceToNat, ne_eq, sto, ldn, ld1, beq_self_eq_true, al_2, al_3, al_4, al_43, al_46, as_4, az_4, fa_43_0, fa_43_1, fa_43_2, fa_43_3, fa_43_4, fa_43_5, fa_48_2, fa_48_3, fa_48_5, len_46, X_rInstr_9, X_rInstr_10, X_rInstr_11, X_rInstr_12, X_rInstr_13, X_rInstr_14, X_rInstr_15, X_rInstr_16, X_rInstr_17, X_rInstr_18, X_rInstr_19, X_rInstr_20, g2, hg, hrb, h10, cd]
      rw [h10] at go
      exact go (by simp [midB, n1, n2, h10, cd])
  have n2 : bad2 x = false := by simp [bad2, needB, h7]
  cases hA : needA x.op with
  | false =>
    have n1 : bad1 x = false := by simp [bad1, hA]
    have h3 : ¬ x.op = 3 := by intro q; simp [needA, q] at hA
    have h4 : ¬ x.op = 4 := by intro q; simp [needA, q] at hA
    have h5 : ¬ x.op = 5 := by intro q; simp [needA, q] at hA
    have h6 : ¬ x.op = 6 := by intro q; simp [needA, q] at hA
    have h11 : ¬ x.op = 11 := by intro q; simp [needA, q] at hA
    have h14 : ¬ x.op = 14 := by intro q; simp [needA, q] at hA
    simp -implicitDefEqProofs only [EE, cond_true, cond_false, nth, ↓nw, Value.cells, ↓BK, setMany, if_true, if_false, Nat.reduceAdd, Nat.reduceLeDiff, Nat.reduceMul, Nat.reduceMod, Nat.reduceDiv, Nat.reduceSub, Nat.reduceEqDiff, Int.reduceEq, Int.reduceLT, Int.reduceLE, Int.reduceAdd, Int.reduceSub, Int.reduceMul, Int.reduceNeg, Int.reduceToNat, ne_eq, sto, ldn, ld1, beq_self_eq_true, al_2, al_3, al_4, al_43, al_46, as_4, az_4, fa_43_0, fa_43_1, fa_43_2, fa_43_3, fa_43_4, fa_43_5, fa_48_2, fa_48_3, fa_48_5, len_46, X_rInstr_9, X_rInstr_10, X_rInstr_11, X_rInstr_12, X_rInstr_13, X_rInstr_14, X_rInstr_15, X_rInstr_16, X_rInstr_17, X_rInstr_18, X_rInstr_19, X_rInstr_20, g2, h3, h4, h5, h6, h11, h14, h7, h10]
    exact go (by simp [midB, n1, n2, h10])
  | true =>
    have key : ∀ J : List Value → AHeap → Prop, (x.a ≠ -1 → J [] h) → X_rInstr_18 (.pointer (some ⟨b2, 0, none⟩)) h (.pointer (some ⟨br, 0, none⟩)) (isB B) J := by
      intro J hJ
      by_cases ca : x.a = -1
      · simp -implicitDefEqProofs only [EE, cond_true, cond_false, nth, ↓nw, Value.cells, ↓BK, setMany, if_true, if_false, Nat.reduceAdd, Nat.reduceLeDiff, Nat.reduceMul, Nat.reduceMod, Nat.reduceDiv, Nat.reduceSub, Nat.reduceEqDiff, Int.reduceEq, Int.reduceLT, Int.reduceLE, Int.reduceAdd, Int.reduceSub, Int.reduceMul, Int.reduceNeg, Int.reduceToNat, ne_eq, sto, ldn, ld1, beq_self_eq_true, al_2, al_3, al_4, al_43, al_46, as_4, az_4, fa_43_0, fa_43_1, fa_43_2, fa_43_3, fa_43_4, fa_43_5, fa_48_2, fa_48_3, fa_48_5, len_46, X_rInstr_18, g2, hg, hrb, ca]
        exact no _ (by simp [midB, bad1, hA, ca])
      · simp -implicitDefEqProofs only [EE, cond_true, cond_false, nth, ↓nw, Value.cells, ↓BK, setMany, if_true, if_false, Nat.reduceAdd, Nat.reduceLeDiff, Nat.reduceMul, Nat.reduceMod, Nat.reduceDiv, Nat.reduceSub, Nat.reduceEqDiff, Int.reduceEq, Int.reduceLT, Int.reduceLE, Int.reduceAdd, Int.reduceSub, Int.reduceMul, Int.reduceNeg, Int.reduceToNat, ne_eq, sto, ldn, ld1, beq_self_eq_true, al_2, al_3, al_4, al_43, al_46, as_4, az_4, fa_43_0, fa_43_1, fa_43_2, fa_43_3, fa_43_4, fa_43_5, fa_48_2, fa_48_3, fa_48_5, len_46, X_rInstr_18, g2, hg, hrb, ca]
        exact hJ ca
    have fin : x.a ≠ -1 → midB f x = lastB f x := fun ca => by simp [midB, bad1, n2, h10, ca]
    have step : ∀ J : List Value → AHeap → Prop, (midB f x = lastB f x → J [] h) → X_rInstr_18 (.pointer (some ⟨b2, 0, none⟩)) h (.pointer (some ⟨br, 0, none⟩)) (isB B) J := fun J hJ => key J fun ca => hJ (fin ca)
    by_cases h3 : x.op = 3
    · simp -implicitDefEqProofs only [EE, cond_true, cond_false, nth, ↓nw, Value.cells, ↓BK, setMany, if_true, if_false, Nat.reduceAdd, Nat.reduceLeDiff, Nat.reduceMul, Nat.reduceMod, Nat.reduceDiv, Nat.reduceSub, Nat.reduceEqDiff, Int.reduceEq, Int.reduceLT, Int.reduceLE, Int.reduceAdd, Int.reduceSub, Int.reduceMul, Int.reduceNeg, Int.reduceToNat, ne_eq, sto, ldn, ld1, beq_self_eq_true, al_2, al_3, al_4, al_43, al_46, as_4, az_4, fa_43_0, fa_43_1, fa_43_2, fa_43_3, fa_43_4, fa_43_5, fa_48_2, fa_48_3, fa_48_5, len_46, X_rInstr_20, g2, h3]
      rw [h3] at go
      refine step _ fun q => ?_
      simp -implicitDefEqProofs only [EE, cond_true, cond_false, nth, ↓nw, Value.cells, ↓BK, setMany, if_true, if_false, Nat.reduceAdd, Nat.reduceLeDiff, Nat.reduceMul, Nat.reduceMod, Nat.reduceDiv, Nat.reduceSub, Nat.reduceEqDiff, Int.reduceEq, Int.reduceLT, Int.reduceLE, Int.reduceAdd, Int.reduceSub, Int.reduceMul, Int.reduceNeg, Int.reduceToNat, ne_eq, sto, ldn, ld1, beq_self_eq_true, al_2, al_3, al_4, al_43, al_46, as_4, az_4, fa_43_0, fa_43_1, fa_43_2, fa_43_3, fa_43_4, fa_43_5, fa_48_2, fa_48_3, fa_48_5, len_46, g2, h3]
      exact go q
    by_cases h4 : x.op = 4
    · simp -implicitDefEqProofs only [EE, cond_true, cond_false, nth, ↓nw, Value.cells, ↓BK, setMany, if_true, if_false, Nat.reduceAdd, Nat.reduceLeDiff, Nat.reduceMul, Nat.reduceMod, Nat.reduceDiv, Nat.reduceSub, Nat.reduceEqDiff, Int.reduceEq, Int.reduceLT, Int.reduceLE, Int.reduceAdd, Int.reduceSub, Int.reduceMul, Int.reduceNeg, Int.reduceToNat, ne_eq, sto, ldn, ld1, beq_self_eq_true, al_2, al_3, al_4, al_43, al_46, as_4, az_4, fa_43_0, fa_43_1, fa_43_2, fa_43_3, fa_43_4, fa_43_5, fa_48_2, fa_48_3, fa_48_5, len_46, X_rInstr_12, X_rInstr_20, g2, h3, h4]
      rw [h4] at go
      refine step _ fun q => ?_
      simp -implicitDefEqProofs only [EE, cond_true, cond_false, nth, ↓nw, Value.cells, ↓BK, setMany, if_true, if_false, Nat.reduceAdd, Nat.reduceLeDiff, Nat.reduceMul, Nat.reduceMod, Nat.reduceDiv, Nat.reduceSub, Nat.reduceEqDiff, Int.reduceEq, Int.reduceLT, Int.reduceLE, Int.reduceAdd, Int.reduceSub, Int.reduceMul, Int.reduceNeg, Int.reduceToNat, ne_eq, sto, ldn, ld1, beq_self_eq_true, al_2, al_3, al_4, al_43, al_46, as_4, az_4, fa_43_0, fa_43_1, fa_43_2, fa_43_3, fa_43_4, fa_43_5, fa_48_2, fa_48_3, fa_48_5, len_46, g2, h4]
      exact go q
    by_cases h6 : x.op = 6
    · simp -implicitDefEqProofs only [EE, cond_true, cond_false, nth, ↓nw, Value.cells, ↓BK, setMany, if_true, if_false, Nat.reduceAdd, Nat.reduceLeDiff, Nat.reduceMul, Nat.reduceMod, Nat.reduceDiv, Nat.reduceSub, Nat.reduceEqDiff, Int.reduceEq, Int.reduceLT, Int.reduceLE, Int.reduceAdd, Int.reduceSub, Int.reduceMul, Int.reduceNeg, Int.reduceToNat, ne_eq, sto, ldn, ld1, beq_self_eq_true, al_2, al_3, al_4, al_43, al_46, as_4, az_4, fa_43_0, fa_43_1, fa_43_2, fa_43_3, fa_43_4, fa_43_5, fa_48_2, fa_48_3, fa_48_5, len_46, X_rInstr_11, X_rInstr_12, X_rInstr_20, g2, h3, h4, h6]
      rw [h6] at go
      refine step _ fun q => ?_
      simp -implicitDefEqProofs only [EE, cond_true, cond_false, nth, ↓nw, Value.cells, ↓BK, setMany, if_true, if_false, Nat.reduceAdd, Nat.reduceLeDiff, Nat.reduceMul, Nat.reduceMod, Nat.reduceDiv, Nat.reduceSub, Nat.reduceEqDiff, Int.reduceEq, Int.reduceLT, Int.reduceLE, Int.reduceAdd, Int.reduceSub, Int.reduceMul, Int.reduceNeg, Int.reduceToNat, ne_eq, sto, ldn, ld1, beq_self_eq_true, al_2, al_3, al_4, al_43, al_46, as_4, az_4, fa_43_0, fa_43_1, fa_43_2, fa_43_3, fa_43_4, fa_43_5, fa_48_2, fa_48_3, fa_48_5, len_46, g2, h6]
      exact go q
    by_cases h14 : x.op = 14
    · simp -implicitDefEqProofs only [EE, cond_true, cond_false, nth, ↓nw, Value.cells, ↓BK, setMany, if_true, if_false, Nat.reduceAdd, Nat.reduceLeDiff, Nat.reduceMul, Nat.reduceMod, Nat.reduceDiv, Nat.reduceSub, Nat.reduceEqDiff, Int.reduceEq, Int.reduceLT, Int.reduceLE, Int.reduceAdd, Int.reduceSub, Int.reduceMul, Int.reduceNeg, Int.reduceToNat, ne_eq, sto, ldn, ld1, beq_self_eq_true, al_2, al_3, al_4, al_43, al_46, as_4, az_4, fa_43_0, fa_43_1, fa_43_2, fa_43_3, fa_43_4, fa_43_5, fa_48_2, fa_48_3, fa_48_5, len_46, X_rInstr_10, X_rInstr_11, X_rInstr_12, X_rInstr_20, g2, h3, h4, h6, h14]
      rw [h14] at go
      refine step _ fun q => ?_
      simp -implicitDefEqProofs only [EE, cond_true, cond_false, nth, ↓nw, Value.cells, ↓BK, setMany, if_true, if_false, Nat.reduceAdd, Nat.reduceLeDiff, Nat.reduceMul, Nat.reduceMod, Nat.reduceDiv, Nat.reduceSub, Nat.reduceEqDiff, Int.reduceEq, Int.reduceLT, Int.reduceLE, Int.reduceAdd, Int.reduceSub, Int.reduceMul, Int.reduceNeg, Int.reduceToNat, ne_eq, sto, ldn, ld1, beq_self_eq_true, al_2, al_3, al_4, al_43, al_46, as_4, az_4, fa_43_0, fa_43_1, fa_43_2, fa_43_3, fa_43_4, fa_43_5, fa_48_2, fa_48_3, fa_48_5, len_46, g2, h14]
      exact go q
    by_cases h5 : x.op = 5
    · simp -implicitDefEqProofs only [EE, cond_true, cond_false, nth, ↓nw, Value.cells, ↓BK, setMany, if_true, if_false, Nat.reduceAdd, Nat.reduceLeDiff, Nat.reduceMul, Nat.reduceMod, Nat.reduceDiv, Nat.reduceSub, Nat.reduceEqDiff, Int.reduceEq, Int.reduceLT, Int.reduceLE, Int.reduceAdd, Int.reduceSub, Int.reduceMul, Int.reduceNeg, Int.reduceToNat, ne_eq, sto, ldn, ld1, beq_self_eq_true, al_2, al_3, al_4, al_43, al_46, as_4, az_4, fa_43_0, fa_43_1, fa_43_2, fa_43_3, fa_43_4, fa_43_5, fa_48_2, fa_48_3, fa_48_5, len_46, X_rInstr_9, X_rInstr_10, X_rInstr_11, X_rInstr_12, X_rInstr_20, g2, h3, h4, h6, h14, h5]
      rw [h5] at go
      refine step _ fun q => ?_
      simp -implicitDefEqProofs only [EE, cond_true, cond_false, nth, ↓nw, Value.cells, ↓BK, setMany, if_true, if_false, Nat.reduceAdd, Nat.reduceLeDiff, Nat.reduceMul, Nat.reduceMod, Nat.reduceDiv, Nat.reduceSub, Nat.reduceEqDiff, Int.reduceEq, Int.reduceLT, Int.reduceLE, Int.reduceAdd, Int.reduceSub, Int.reduceMul, Int.reduceNeg, Int.reduceToNat, ne_eq, sto, ldn, ld1, beq_self_eq_true, al_2, al_3, al_4, al_43, al_46, as_4, az_4, fa_43_0, fa_43_1, fa_43_2, fa_43_3, fa_43_4, fa_43_5, fa_48_2, fa_48_3, fa_48_5, len_46, g2, h5]
      exact go q
    by_cases h11 : x.op = 11
    · simp -implicitDefEqProofs only [EE, cond_true, cond_false, nth, ↓nw, Value.cells, ↓BK, setMany, if_true, if_false, Nat.reduceAdd, Nat.reduceLeDiff, Nat.reduceMul, Nat.reduceMod, Nat.reduceDiv, Nat.reduceSub, Nat.reduceEqDiff, Int.reduceEq, Int.reduceLT, Int.reduceLE, Int.reduceAdd, Int.reduceSub, Int.reduceMul, Int.reduceNeg, Int.reduceToNat, ne_eq, sto, ldn, ld1, beq_self_eq_true, al_2, al_3, al_4, al_43, al_46, as_4, az_4, fa_43_0, fa_43_1, fa_43_2, fa_43_3, fa_43_4, fa_43_5, fa_48_2, fa_48_3, fa_48_5, len_46, X_rInstr_9, X_rInstr_10, X_rInstr_11, X_rInstr_12, X_rInstr_20, g2, h3, h4, h6, h14, h5, h11]
      rw [h11] at go
      refine step _ fun q => ?_
      simp -implicitDefEqProofs only [EE, cond_true, cond_false, nth, ↓nw, Value.cells, ↓BK, setMany, if_true, if_false, Nat.reduceAdd, Nat.reduceLeDiff, Nat.reduceMul, Nat.reduceMod, Nat.reduceDiv, Nat.reduceSub, Nat.reduceEqDiff, Int.reduceEq, Int.reduceLT, Int.reduceLE, Int.reduceAdd, Int.reduceSub, Int.reduceMul, Int.reduceNeg, Int.reduceToNat, ne_eq, sto, ldn, ld1, beq_self_eq_true, al_2, al_3, al_4, al_43, al_46, as_4, az_4, fa_43_0, fa_43_1, fa_43_2, fa_43_3, fa_43_4, fa_43_5, fa_48_2, fa_48_3, fa_48_5, len_46, g2, h11]
      exact go q
    simp [needA, h3, h4, h5, h6, h7, h11, h14] at hA
end
end Go.Rtl
namespace Go.Rtl
open Go.Ai Go.Proofs
set_option linter.unusedVariables false
set_option linter.unusedSimpArgs false
set_option maxRecDepth 10000
section
variable {h : AHeap} {b1 b2 br : Nat} {f : Fn} {x : Ins} {vs : List Value} {B : Bool}
theorem r48 (W : Bx h b1 b2 f x) (I : InsOk h x) (hro : h.ro ≤ h.next) (hl : br < h.next) (hg : h.get br = some (.cells [.bool false] 4)) (hrb : h.ro ≤ br) (ho : 1 ≤ x.op ∧ x.op ≤ 14) {t0 t1 t9 t10 t11 t13 t14 t15 t16 t17 t18 : Value} (hB : B = ((usesI x).all (fun u => withinB u f.regs) && midB f x)) :
    X_rInstr_48 (.pointer (some ⟨b2, 0, none⟩)) t0 t1 (.pointer (some ⟨b1, 0, none⟩)) (.pointer (some ⟨br, 0, none⟩)) t9 t10 t11 t13 t14 t15 t16 t17 t18 (isB B) vs h := by
  have g2 := W.g2
  have an := I.args.nob
  simp -implicitDefEqProofs only [EE, cond_true, cond_false, nth, ↓nw, Value.cells, ↓BK, setMany, if_true, if_false, Nat.reduceAdd, Nat.reduceLeDiff, Nat.reduceMul, Nat.reduceMod, Nat.reduceDiv, Nat.reduceSub, Nat.reduceEqDiff, Int.reduceEq, Int.reduceLT, Int.reduceLE, Int.reduceAdd, Int.reduceSub, Int.reduceMul, Int.reduceNeg, Int.reduceToNat, ne_eq, sto, ldn, ld1, beq_self_eq_true, al_2, al_3, al_4, al_43, al_46, as_4, az_4, fa_43_0, fa_43_1, fa_43_2, fa_43_3, fa_43_4, fa_43_5, fa_48_2, fa_48_3, fa_48_5, len_46, X_rInstr_48, g2]
  refine callV_of (by kernel_rfl) (by simp -implicitDefEqProofs only [EE, cond_true, cond_false, nth, ↓nw, Value.cells, ↓BK, setMany, if_true, if_false, Nat.reduceAdd, Nat.reduceLeDiff, Nat.reduceMul, Nat.reduceMod, Nat.reduceDiv, Nat.reduceSub, Nat.reduceEqDiff, Int.reduceEq, Int.reduceLT, Int.reduceLE, Int.reduceAdd, Int.reduceSub, Int.reduceMul, Int.reduceNeg, Int.reduceToNat, ne_eq, sto, ldn, ld1, beq_self_eq_true, an]) (uses_q x h an) ?_
  rintro _ _ ⟨rfl, rfl⟩
  have e : Old h (h.push (xcells x)) := Old.push _ _
  have g3 : (h.push (xcells x)).get h.next = some (xcells x) := get_push_self
  have nx : (h.push (xcells x)).next = h.next + 1 := rfl
  have rx : (h.push (xcells x)).ro = h.ro := rfl
  generalize h.push (xcells x) = H at e g3 nx rx
  have W2 := W.old e
  have I2 := I.old e
  have g4 := e.got hl hg
  have b1l := W.l1
  simp -implicitDefEqProofs only [EE, cond_true, cond_false, nth, ↓nw, Value.cells, ↓BK, setMany, if_true, if_false, Nat.reduceAdd, Nat.reduceLeDiff, Nat.reduceMul, Nat.reduceMod, Nat.reduceDiv, Nat.reduceSub, Nat.reduceEqDiff, Int.reduceEq, Int.reduceLT, Int.reduceLE, Int.reduceAdd, Int.reduceSub, Int.reduceMul, Int.reduceNeg, Int.reduceToNat, ne_eq, sto, ldn, ld1, beq_self_eq_true, al_2, al_3, al_4, al_43, al_46, as_4, az_4, fa_43_0, fa_43_1, fa_43_2, fa_43_3, fa_43_4, fa_43_5, fa_48_2, fa_48_3, fa_48_5, len_46, X_rInstr_8]
  refine range_ok (br := br) (test := fun u => withinB u f.regs) (by kernel_rfl) (by omega) (by omega) (uses_iter (b := h.next) I2.args I2.few (by omega) g3) (fun s1 hl => r_round1 (by omega) (by omega) g4 (by omega) (by omega) W2.g1 hl) (fun h' hall e' => ?_) (fun h' hno _ _ hres => ?_)
  · exact r47 (W2.old e') (e'.got (by omega) g4) (by rw [e'.ro]; omega) ho (by rw [hB, hall, Bool.true_and])
  · simp -implicitDefEqProofs only [EE, cond_true, cond_false, nth, ↓nw, Value.cells, ↓BK, setMany, if_true, if_false, Nat.reduceAdd, Nat.reduceLeDiff, Nat.reduceMul, Nat.reduceMod, Nat.reduceDiv, Nat.reduceSub, Nat.reduceEqDiff, Int.reduceEq, Int.reduceLT, Int.reduceLE, Int.reduceAdd, Int.reduceSub, Int.reduceMul, Int.reduceNeg, Int.reduceToNat, ne_eq, sto, ldn, ld1, beq_self_eq_true, al_2, al_3, al_4, al_43, al_46, as_4, az_4, fa_43_0, fa_43_1, fa_43_2, fa_43_3, fa_43_4, fa_43_5, fa_48_2, fa_48_3, fa_48_5, len_46, hres]
    rw [hB, hno]; rfl
theorem r49 (W : Bx h b1 b2 f x) (I : InsOk h x) (hc : SliceR h f.cv 9 (f.code.map Ins.row)) (hro : h.ro ≤ h.next) (hl : br < h.next) (hg : h.get br = some (.cells [.bool false] 4)) (hrb : h.ro ≤ br) (ho : 1 ≤ x.op ∧ x.op ≤ 14) {t0 t1 t9 t10 t11 t13 t14 t15 t16 : Value} (hB : B = ((succsI x).all (fun s => withinB s f.code.length) && ((usesI x).all (fun u => withinB u f.regs) && midB f x))) :
    X_rInstr_49 (.pointer (some ⟨b2, 0, none⟩)) t0 t1 (.pointer (some ⟨b1, 0, none⟩)) (.pointer (some ⟨br, 0, none⟩)) t9 t10 t11 t13 t14 t15 t16 (isB B) vs h := by
  have g2 := W.g2
  have an := I.args.nob
  simp -implicitDefEqProofs only [EE, cond_true, cond_false, nth, ↓nw, Value.cells, ↓BK, setMany, if_true, if_false, Nat.reduceAdd, Nat.reduceLeDiff, Nat.reduceMul, Nat.reduceMod, Nat.reduceDiv, Nat.reduceSub, Nat.reduceEqDiff, Int.reduceEq, Int.reduceLT, Int.reduceLE, Int.reduceAdd, Int.reduceSub, Int.reduceMul, Int.reduceNeg, Int.reduceToNat, ne_eq, sto, ldn, ld1, beq_self_eq_true, al_2, al_3, al_4, al_43, al_46, as_4, az_4, fa_43_0, fa_43_1, fa_43_2, fa_43_3, fa_43_4, fa_43_5, fa_48_2, fa_48_3, fa_48_5, len_46, X_rInstr_49, g2]
  refine callV_of (by kernel_rfl) (by simp -implicitDefEqProofs only [EE, cond_true, cond_false, nth, ↓nw, Value.cells, ↓BK, setMany, if_true, if_false, Nat.reduceAdd, Nat.reduceLeDiff, Nat.reduceMul, Nat.reduceMod, Nat.reduceDiv, Nat.reduceSub, Nat.reduceEqDiff, Int.reduceEq, Int.reduceLT, Int.reduceLE, Int.reduceAdd, Int.reduceSub, Int.reduceMul, Int.reduceNeg, Int.reduceToNat, ne_eq, sto, ldn, ld1, beq_self_eq_true, an]) (succs_q x h an) ?_
  rintro _ _ ⟨rfl, rfl⟩
  have e : Old h (h.push (xcells x)) := Old.push _ _
  have g3 : (h.push (xcells x)).get h.next = some (xcells x) := get_push_self
  have nx : (h.push (xcells x)).next = h.next + 1 := rfl
  have rx : (h.push (xcells x)).ro = h.ro := rfl
  generalize h.push (xcells x) = H at e g3 nx rx
  have W2 := W.old e
  have g4 := e.got hl hg
  have b1l := W.l1
  simp -implicitDefEqProofs only [EE, cond_true, cond_false, nth, ↓nw, Value.cells, ↓BK, setMany, if_true, if_false, Nat.reduceAdd, Nat.reduceLeDiff, Nat.reduceMul, Nat.reduceMod, Nat.reduceDiv, Nat.reduceSub, Nat.reduceEqDiff, Int.reduceEq, Int.reduceLT, Int.reduceLE, Int.reduceAdd, Int.reduceSub, Int.reduceMul, Int.reduceNeg, Int.reduceToNat, ne_eq, sto, ldn, ld1, beq_self_eq_true, al_2, al_3, al_4, al_43, al_46, as_4, az_4, fa_43_0, fa_43_1, fa_43_2, fa_43_3, fa_43_4, fa_43_5, fa_48_2, fa_48_3, fa_48_5, len_46, X_rInstr_4]
  refine range_ok (br := br) (test := fun s => withinB s f.code.length) (by kernel_rfl) (by omega) (by omega) (succs_iter (b := h.next) (by omega) g3) (fun s1 hl => r_round0 (by omega) (by omega) g4 (by omega) (by omega) W2.g1 (hc.old e) hl) (fun h' hall e' => ?_) (fun h' hno _ _ hres => ?_)
  · have e2 := e.trans e'
    exact r48 (W2.old e') (I.old e2) (by rw [e'.ro]; have := e'.next; omega) (by have := e'.next; omega) (e'.got (by omega) g4) (by rw [e'.ro]; omega) ho (by rw [hB, hall, Bool.true_and])
  · simp -implicitDefEqProofs only [EE, cond_true, cond_false, nth, ↓nw, Value.cells, ↓BK, setMany, if_true, if_false, Nat.reduceAdd, Nat.reduceLeDiff, Nat.reduceMul, Nat.reduceMod, Nat.reduceDiv, Nat.reduceSub, Nat.reduceEqDiff, Int.reduceEq, Int.reduceLT, Int.reduceLE, Int.reduceAdd, Int.reduceSub, Int.reduceMul, Int.reduceNeg, Int.reduceToNat, ne_eq, sto, ldn, ld1, beq_self_eq_true, al_2, al_3, al_4, al_43, al_46, as_4, az_4, fa_43_0, fa_43_1, fa_43_2, fa_43_3, fa_43_4, fa_43_5, fa_48_2, fa_48_3, fa_48_5, len_46, hres]
    rw [hB, hno]; rfl
end
theorem rInstr_q (f : Fn) (x : Ins) (h : AHeap) (hpv : cellOk f.pv = true ∧ isBot f.pv = false) (I : InsOk h x) (hc : SliceR h f.cv 9 (f.code.map Ins.row)) : Quiet Tryz.prog 31 [f.val, x.val] h (.bool (rInsB f x)) := by
  apply quiet_b
  replace I := I.lock
  replace hc := hc.lock
  generalize h.lock = L at I hc
  apply DC_wf; intro hwf; have hro := hwf.2
  apply X_rInstr_ok
  unfold X_rInstr
  have an := I.args.nob
  have cn := hc.nob
  obtain ⟨hpc, hpn⟩ := hpv
  have roL : L.ro ≤ L.next + 1 + 1 := by omega
  by_cases c1 : x.op < 1
  · have c1' : ¬ 1 ≤ x.op := by omega
    have hB : rInsB f x = false := by simp [rInsB, c1']
    simp -implicitDefEqProofs only [EE, cond_true, cond_false, nth, ↓nw, Value.cells, ↓BK, setMany, if_true, if_false, Nat.reduceAdd, Nat.reduceLeDiff, Nat.reduceMul, Nat.reduceMod, Nat.reduceDiv, Nat.reduceSub, Nat.reduceEqDiff, Int.reduceEq, Int.reduceLT, Int.reduceLE, Int.reduceAdd, Int.reduceSub, Int.reduceMul, Int.reduceNeg, Int.reduceToNat, ne_eq, sto, ldn, ld1, beq_self_eq_true, al_2, al_3, al_4, al_43, al_46, as_4, az_4, fa_43_0, fa_43_1, fa_43_2, fa_43_3, fa_43_4, fa_43_5, fa_48_2, fa_48_3, fa_48_5, len_46, X_rInstr_50, X_rInstr_51, an, cn, hpn, az_4, roL, c1]
    rw [hB]; rfl
  by_cases c2 : 14 < x.op
  · have c2' : ¬ x.op ≤ 14 := by omega
    have hB : rInsB f x = false := by simp [rInsB, c2']
    simp -implicitDefEqProofs only [EE, cond_true, cond_false, nth, ↓nw, Value.cells, ↓BK, setMany, if_true, if_false, Nat.reduceAdd, Nat.reduceLeDiff, Nat.reduceMul, Nat.reduceMod, Nat.reduceDiv, Nat.reduceSub, Nat.reduceEqDiff, Int.reduceEq, Int.reduceLT, Int.reduceLE, Int.reduceAdd, Int.reduceSub, Int.reduceMul, Int.reduceNeg, Int.reduceToNat, ne_eq, sto, ldn, ld1, beq_self_eq_true, al_2, al_3, al_4, al_43, al_46, as_4, az_4, fa_43_0, fa_43_1, fa_43_2, fa_43_3, fa_43_4, fa_43_5, fa_48_2, fa_48_3, fa_48_5, len_46, X_rInstr_50, X_rInstr_51, an, cn, hpn, az_4, roL, c1, c2]
    rw [hB]; rfl
  have c1' : 1 ≤ x.op := by omega
  have c2' : x.op ≤ 14 := by omega
  simp -implicitDefEqProofs only [EE, cond_true, cond_false, nth, ↓nw, Value.cells, ↓BK, setMany, if_true, if_false, Nat.reduceAdd, Nat.reduceLeDiff, Nat.reduceMul, Nat.reduceMod, Nat.reduceDiv, Nat.reduceSub, Nat.reduceEqDiff, Int.reduceEq, Int.reduceLT, Int.reduceLE, Int.reduceAdd, Int.reduceSub, Int.reduceMul, Int.reduceNeg, Int.reduceToNat, ne_eq, sto, ldn, ld1, beq_self_eq_true, al_2, al_3, al_4, al_43, al_46, as_4, az_4, fa_43_0, fa_43_1, fa_43_2, fa_43_3, fa_43_4, fa_43_5, fa_48_2, fa_48_3, fa_48_5, len_46, X_rInstr_50, X_rInstr_51, an, cn, hpn, az_4, roL, c1, c2]
  generalize hH : ((L.push (fcells f)).push (xcells x)).push (.cells [.bool false] 4) = H
  have e : Old L H := by subst hH; exact ((Old.push _ _).trans (Old.push _ _)).trans (Old.push _ _)
  have nH : H.next = L.next + 3 := by subst hH; rfl
  have rH : H.ro = L.ro := by subst hH; rfl
  have g1 : H.get L.next = some (fcells f) := by subst hH; rw [get_push_lt (by simp only [nxt_push]; omega), get_push_lt (by simp only [nxt_push]; omega), get_push_self]
  have g2 : H.get (L.next + 1) = some (xcells x) := by subst hH; rw [get_push_lt (by simp only [nxt_push]; omega)]; exact get_push_eq rfl
  have g3 : H.get (L.next + 1 + 1) = some (.cells [.bool false] 4) := by subst hH; exact get_push_eq rfl
  clear hH
  have W : Bx H L.next (L.next + 1) f x := ⟨by omega, by omega, g1, g2⟩
  exact r49 W (I.old e) (hc.old e) (by omega) (by omega) g3 (by omega) ⟨c1', c2'⟩ (by simp [rInsB, c1', c2'])
end Go.Rtl
