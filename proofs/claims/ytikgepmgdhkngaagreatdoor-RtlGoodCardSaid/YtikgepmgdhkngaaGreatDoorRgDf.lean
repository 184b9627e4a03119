/-
  RTL: the document's copy of a program, whole.
-/
import Derived.Test.YtikgepmgdhkngaaGreatDoorRgDe
import Derived.Test.YtikgepmgdhkngaaGreatDoorAiD
import Derived.Test.YtikgepmgdhkngaaGreatDoorAiV
namespace Go.Rtl
open Go.Ai Go.Proofs
set_option linter.unusedVariables false
set_option linter.unusedSimpArgs false
set_option maxRecDepth 10000
/-- The loop over the functions. -/
theorem cp_loop {h0 H : AHeap} {b1 b2 b3 : Nat} {qg : Value} {m : Int} {p : Pg} (P : PgOk h0 p) (e0 : Old h0 H) (hb3 : h0.next ≤ b3) (hb2 : ∀ b, b < h0.next → b ≠ b2) (l2 : b2 < H.next) (g1 : H.get b1 = some (pcells p)) (g3 : H.get b3 = some (.cells [qg, .slice none 0 0, .int .i64 m] 25)) (r3 : H.ro ≤ b3) (hro : H.ro ≤ H.next) (l1 : b1 < H.next) (l3 : b3 < H.next) (n13 : b1 ≠ b3)
    {j : List Value → AHeap → Prop}
    (K : ∀ (h : AHeap) (fv : Value) (qs : List Fn), qs.map Fn.core = p.funcs.map Fn.core → SliceRW H h 48 fv (qs.map Fn.row) → h.get b3 = some (.cells [qg, fv, .int .i64 m] 25) → (∀ q, q ∈ qs → FnOk (h.hide (b3 :: b2 :: blk fv)) q) → Keep [b3] H h → h.ro ≤ h.next → j [] h) :
    LP (X_Copy_8 (.pointer (some ⟨b1, 0, none⟩)) j (.pointer (some ⟨b3, 0, none⟩))) [.int .i64 0] H := by
  refine LP_of (fun n vs h => ∃ (i : Nat) (fv : Value) (qs : List Fn), i ≤ p.funcs.length ∧ n = p.funcs.length - i ∧ vs = [.int .i64 (i : Nat)] ∧ qs.map Fn.core = (p.funcs.take i).map Fn.core ∧ SliceRW H h 48 fv (qs.map Fn.row) ∧ h.get b3 = some (.cells [qg, fv, .int .i64 m] 25) ∧ (∀ q, q ∈ qs → FnOk (h.hide (b3 :: b2 :: blk fv)) q) ∧ Keep [b3] H h ∧ h.ro ≤ h.next) p.funcs.length
    ⟨0, .slice none 0 0, [], Nat.zero_le _, rfl, rfl, by simp, .inl ⟨rfl, rfl⟩, g3, fun q hq => (by cases hq), ⟨Nat.le_refl _, rfl, fun _ _ _ => rfl⟩, hro⟩ ?_
  rintro n vs h ⟨i, fv, qs, hi, rfl, rfl, hcore, S, g3', Q, k, r⟩
  have kn := k.next
  have g1' : h.get b1 = some (pcells p) := by rw [k.get b1 l1 (by simpa using n13)]; exact g1
  have fn := P.funcs.nob
  have fl := P.funcs.len23 3
  rw [List.length_map] at fl
  have hlq : qs.length = i := by have := congrArg List.length hcore; simp at this; omega
  have bkf := S.blk_ge
  rcases Nat.lt_or_ge i p.funcs.length with hlt | hge
  · obtain ⟨f, hf, hfm⟩ := get_some hlt
    have hlt' : (i : Int) < (p.funcs.length : Int) := by omega
    have hinc : IntKind.wrap .i64 ((i : Int) + 1) = ((i + 1 : Nat) : Int) := inc (by have := P.ffew; omega)
    simp -implicitDefEqProofs only [EE, cond_true, cond_false, nth, ↓nw, Value.cells, ↓BK, setMany, if_true, if_false, Nat.reduceAdd, Nat.reduceLeDiff, Nat.reduceMul, Nat.reduceMod, Nat.reduceDiv, Nat.reduceSub, Nat.reduceEqDiff, Int.reduceEq, Int.reduceLT, Int.reduceLE, Int.reduceAdd, Int.reduceSub, Int.reduceMul, Int.reduceNeg, Int.reduceToNat, ne_eq, sto, ldn, ld1, beq_self_eq_true, al_22, al_23, al_25, al_3, al_46, al_48, ap_22, ap_23, ap_46, as_22, as_23, as_25, as_46, as_48, az_25, az_48, bd_25_0_2, bs_22_0_, bs_23_1_0, bs_46_0_, co_3, co_43, co_48, fa_25_0, fa_25_1, fa_25_2, fa_43_6, fa_48_1, fa_48_5, ix_23, ix_46, len_23, len_46, X_Copy_7, X_Copy_8, g1', fl, fn, hlt']
    have e0n := e0.next
    refine cp_fn (lo := H) (b2 := b2) (i := i) (p := p) (f := f) (qs := qs) (m := m) (qg := qg) hf (P.sub ⟨by show h0.next ≤ h.next; omega, fun b o hb g => ?_⟩) g1' g3' S Q (by rw [k.ro]; exact r3) r (by omega) (by omega) (by omega) (fun q => by have := (bkf _ q).1; omega) (fun q => by have := (bkf _ q).1; omega) n13 (by have := P.ffew; omega) (by omega) ?_
    · rw [get_hid, if_neg, k.get b (by omega) (by simp only [List.mem_singleton]; omega), e0.get b hb]
      · exact g
      · intro q
        rcases List.mem_cons.1 q with q | q
        · omega
        rcases List.mem_cons.1 q with q | q
        · exact hb2 b hb q
        · have := (bkf _ q).1; omega
    intro h' fv' q hc S' g3'' Q' k' bk' r'
    refine ⟨p.funcs.length - (i + 1), by omega, i + 1, fv', qs ++ [q], hlt, rfl, by simp -implicitDefEqProofs only [EE, cond_true, cond_false, nth, ↓nw, Value.cells, ↓BK, setMany, if_true, if_false, Nat.reduceAdd, Nat.reduceLeDiff, Nat.reduceMul, Nat.reduceMod, Nat.reduceDiv, Nat.reduceSub, Nat.reduceEqDiff, Int.reduceEq, Int.reduceLT, Int.reduceLE, Int.reduceAdd, Int.reduceSub, Int.reduceMul, Int.reduceNeg, Int.reduceToNat, ne_eq, sto, ldn, ld1, beq_self_eq_true, hinc], ?_, S', g3'', Q', ⟨by have := k'.next; omega, by rw [k'.ro, k.ro], fun b hb q2 => ?_⟩, r'⟩
    · rw [List.map_append, hcore, List.take_add_one, hf, List.map_append]
      simp only [List.map_cons, List.map_nil, hc, Option.toList_some]
    · rw [k'.get b (by omega) (fun q3 => ?_), k.get b hb q2]
      rcases List.mem_cons.1 q3 with q4 | q4
      · exact q2 (by simp [q4])
      · have := (bkf _ q4).1; omega
  · have hlt' : ¬ (i : Int) < (p.funcs.length : Int) := by omega
    simp -implicitDefEqProofs only [EE, cond_true, cond_false, nth, ↓nw, Value.cells, ↓BK, setMany, if_true, if_false, Nat.reduceAdd, Nat.reduceLeDiff, Nat.reduceMul, Nat.reduceMod, Nat.reduceDiv, Nat.reduceSub, Nat.reduceEqDiff, Int.reduceEq, Int.reduceLT, Int.reduceLE, Int.reduceAdd, Int.reduceSub, Int.reduceMul, Int.reduceNeg, Int.reduceToNat, ne_eq, sto, ldn, ld1, beq_self_eq_true, al_22, al_23, al_25, al_3, al_46, al_48, ap_22, ap_23, ap_46, as_22, as_23, as_25, as_46, as_48, az_25, az_48, bd_25_0_2, bs_22_0_, bs_23_1_0, bs_46_0_, co_3, co_43, co_48, fa_25_0, fa_25_1, fa_25_2, fa_43_6, fa_48_1, fa_48_5, ix_23, ix_46, len_23, len_46, X_Copy_8, g1', fl, fn, hlt']
    refine K h fv qs ?_ S g3' Q k r
    rw [hcore, List.take_of_length_le hge]
/-- What a copy is. -/
def CopyR (p : Pg) (h : AHeap) (v : Value) (h1 : AHeap) : Prop := ∃ q : Pg, v = q.val ∧ PgOk h1 q ∧ q.core = p.core ∧ Old h h1
theorem copy_ok (p : Pg) (h : AHeap) (P : PgOk h p) : DC Tryz.prog 5 [p.val] h (CopyR p h) := by
  refine DC_wf fun wf => ?_
  apply X_Copy_ok
  unfold X_Copy
  have gn := P.globals.nob
  have fn := P.funcs.nob
  have gcut : ∀ t, (cut (((h.push (.cells [p.gv, p.fv, .int .i64 p.main] 25)).push (.cells [.slice none 0 0, .slice none 0 0, .int .i64 0] 25)).push (.cells [] 3)) (h.next + 1 + 1) t).get h.next = some (pcells p) := fun t => by
    rw [get_cut_lt (by omega), get_push_lt (by show h.next < h.next + 1 + 1; omega), get_push_lt (by show h.next < h.next + 1; omega)]; exact get_push_self
  simp -implicitDefEqProofs only [EE, cond_true, cond_false, nth, ↓nw, Value.cells, ↓BK, setMany, if_true, if_false, Nat.reduceAdd, Nat.reduceLeDiff, Nat.reduceMul, Nat.reduceMod, Nat.reduceDiv, Nat.reduceSub, Nat.reduceEqDiff, Int.reduceEq, Int.reduceLT, Int.reduceLE, Int.reduceAdd, Int.reduceSub, Int.reduceMul, Int.reduceNeg, Int.reduceToNat, ne_eq, sto, ldn, ld1, beq_self_eq_true, al_22, al_23, al_25, al_3, al_46, al_48, ap_22, ap_23, ap_46, as_22, as_23, as_25, as_46, as_48, az_25, az_48, bd_25_0_2, bs_22_0_, bs_23_1_0, bs_46_0_, co_3, co_43, co_48, fa_25_0, fa_25_1, fa_25_2, fa_43_6, fa_48_1, fa_48_5, ix_23, ix_46, len_23, len_46, gn, fn, gcut]
  have eA : Old h ((h.push (.cells [p.gv, p.fv, .int .i64 p.main] 25)).push (.cells [.slice none 0 0, .slice none 0 0, .int .i64 0] 25)) := (Old.push _ _).trans (Old.push _ _)
  have gA1 : ((h.push (.cells [p.gv, p.fv, .int .i64 p.main] 25)).push (.cells [.slice none 0 0, .slice none 0 0, .int .i64 0] 25)).get h.next = some (pcells p) := by rw [get_push_lt (by show h.next < h.next + 1; omega)]; exact get_push_self
  have gA2 : ((h.push (.cells [p.gv, p.fv, .int .i64 p.main] 25)).push (.cells [.slice none 0 0, .slice none 0 0, .int .i64 0] 25)).get (h.next + 1) = some (.cells [.slice none 0 0, .slice none 0 0, .int .i64 0] 25) := get_push_self
  have nA : ((h.push (.cells [p.gv, p.fv, .int .i64 p.main] 25)).push (.cells [.slice none 0 0, .slice none 0 0, .int .i64 0] 25)).next = h.next + 1 + 1 := rfl
  generalize ((h.push (.cells [p.gv, p.fv, .int .i64 p.main] 25)).push (.cells [.slice none 0 0, .slice none 0 0, .int .i64 0] 25)) = hA at eA gA1 gA2 nA ⊢
  rw [← nA]
  have rA : hA.ro ≤ hA.next := by rw [eA.ro]; have := wf.2; omega
  refine appV_own (h := hA) (P.globals.old (eA.trans (Old.push _ _))) P.gfew rA (by omega) ?_
  intro v h6 W e6 r6
  have n6 := e6.next
  have g61 : h6.get h.next = some (pcells p) := by rw [e6.get _ (by omega)]; exact gA1
  have g62 : h6.get (h.next + 1) = some (.cells [.slice none 0 0, .slice none 0 0, .int .i64 0] 25) := by rw [e6.get _ (by omega)]; exact gA2
  have gc2 : ∀ s t, (cut (cut h6 hA.next s) (hA.next + 1) t).get h.next = some (pcells p) := fun s t => by
    rw [get_cut_lt (by omega), get_cut_lt (by omega)]; exact g61
  obtain ⟨va, vl, vc, rfl⟩ := W.shape
  simp -implicitDefEqProofs only [EE, cond_true, cond_false, nth, ↓nw, Value.cells, ↓BK, setMany, if_true, if_false, Nat.reduceAdd, Nat.reduceLeDiff, Nat.reduceMul, Nat.reduceMod, Nat.reduceDiv, Nat.reduceSub, Nat.reduceEqDiff, Int.reduceEq, Int.reduceLT, Int.reduceLE, Int.reduceAdd, Int.reduceSub, Int.reduceMul, Int.reduceNeg, Int.reduceToNat, ne_eq, sto, ldn, ld1, beq_self_eq_true, al_22, al_23, al_25, al_3, al_46, al_48, ap_22, ap_23, ap_46, as_22, as_23, as_25, as_46, as_48, az_25, az_48, bd_25_0_2, bs_22_0_, bs_23_1_0, bs_46_0_, co_3, co_43, co_48, fa_25_0, fa_25_1, fa_25_2, fa_43_6, fa_48_1, fa_48_5, ix_23, ix_46, len_23, len_46, X_Copy_9, gc2, r6]
  have e0 : Old h ((h6.push (.cells [.slice none 0 0, .slice none 0 0, .int .i64 0] 25)).set h6.next (some (.cells [.slice va vl vc, .slice none 0 0, .int .i64 p.main] 25))) := ((eA.trans e6).trans (Old.push _ _)).set (by omega) _
  have gH1 : ((h6.push (.cells [.slice none 0 0, .slice none 0 0, .int .i64 0] 25)).set h6.next (some (.cells [.slice va vl vc, .slice none 0 0, .int .i64 p.main] 25))).get h.next = some (pcells p) := by rw [get_set_ne (by omega), get_push_lt (by omega)]; exact g61
  have gH2 : ((h6.push (.cells [.slice none 0 0, .slice none 0 0, .int .i64 0] 25)).set h6.next (some (.cells [.slice va vl vc, .slice none 0 0, .int .i64 p.main] 25))).get (h.next + 1) = some (.cells [.slice none 0 0, .slice none 0 0, .int .i64 0] 25) := by rw [get_set_ne (by omega), get_push_lt (by omega)]; exact g62
  have gH3 : ((h6.push (.cells [.slice none 0 0, .slice none 0 0, .int .i64 0] 25)).set h6.next (some (.cells [.slice va vl vc, .slice none 0 0, .int .i64 p.main] 25))).get h6.next = some (.cells [.slice va vl vc, .slice none 0 0, .int .i64 p.main] 25) := get_set_self
  have nH : ((h6.push (.cells [.slice none 0 0, .slice none 0 0, .int .i64 0] 25)).set h6.next (some (.cells [.slice va vl vc, .slice none 0 0, .int .i64 p.main] 25))).next = h6.next + 1 := rfl
  have rH : ((h6.push (.cells [.slice none 0 0, .slice none 0 0, .int .i64 0] 25)).set h6.next (some (.cells [.slice va vl vc, .slice none 0 0, .int .i64 p.main] 25))).ro = h6.ro := rfl
  have WH : SliceW hA ((h6.push (.cells [.slice none 0 0, .slice none 0 0, .int .i64 0] 25)).set h6.next (some (.cells [.slice va vl vc, .slice none 0 0, .int .i64 p.main] 25))) (.slice va vl vc) p.globals := by
    rcases W with q | ⟨b, c, q0, q1, q2, q3, q4, q5⟩
    · exact .inl q
    · exact .inr ⟨b, c, q0, q1, q2, Nat.lt_succ_of_lt q3, q4, by rw [get_set_ne (by omega), get_push_lt q3]; exact q5⟩
  generalize ((h6.push (.cells [.slice none 0 0, .slice none 0 0, .int .i64 0] 25)).set h6.next (some (.cells [.slice va vl vc, .slice none 0 0, .int .i64 p.main] 25))) = H at e0 gH1 gH2 gH3 nH rH WH ⊢
  refine cp_loop (b2 := h.next + 1) P e0 (by omega) (fun b hb => by omega) (by omega) gH1 gH3 (by omega) (by omega) (by omega) (by omega) (by omega) ?_
  intro h7 fv qs hcore S7 g73 Q7 k7 r7
  have k7n := k7.next
  have g72 : h7.get (h.next + 1) = some (.cells [.slice none 0 0, .slice none 0 0, .int .i64 0] 25) := by rw [k7.get _ (by omega) (by simp only [List.mem_singleton]; omega)]; exact gH2
  have r72 : h7.ro ≤ h.next + 1 := by rw [k7.ro, rH, e6.ro, eA.ro]; have := wf.2; omega
  have bkf := S7.blk_ge
  have SR := S7.read (frow_len qs)
  obtain ⟨fa, fl, fc, rfl⟩ := S7.shape
  simp -implicitDefEqProofs only [EE, cond_true, cond_false, nth, ↓nw, Value.cells, ↓BK, setMany, if_true, if_false, Nat.reduceAdd, Nat.reduceLeDiff, Nat.reduceMul, Nat.reduceMod, Nat.reduceDiv, Nat.reduceSub, Nat.reduceEqDiff, Int.reduceEq, Int.reduceLT, Int.reduceLE, Int.reduceAdd, Int.reduceSub, Int.reduceMul, Int.reduceNeg, Int.reduceToNat, ne_eq, sto, ldn, ld1, beq_self_eq_true, al_22, al_23, al_25, al_3, al_46, al_48, ap_22, ap_23, ap_46, as_22, as_23, as_25, as_46, as_48, az_25, az_48, bd_25_0_2, bs_22_0_, bs_23_1_0, bs_46_0_, co_3, co_43, co_48, fa_25_0, fa_25_1, fa_25_2, fa_43_6, fa_48_1, fa_48_5, ix_23, ix_46, len_23, len_46, X_Copy_1, X_Copy_2, X_Copy_3, X_Copy_4, X_Copy_5, X_Copy_6, X_Copy_7, X_Copy_8, X_Copy_9, g73, g72, r72]
  have hl : qs.length = p.funcs.length := by simpa using congrArg List.length hcore
  refine ⟨⟨.slice va vl vc, p.globals, .slice fa fl fc, qs, p.main⟩, rfl, ⟨?_, P.gfew, ?_, by show qs.length * 88 ≤ _; rw [hl]; exact P.ffew, fun q hq => (Q7 q hq).sub (sub_of (Nat.le_refl _) fun b hb q2 => ?_)⟩, ?_, ⟨by show h.next ≤ h7.next; omega, by show h7.ro = h.ro; rw [k7.ro, rH, e6.ro, eA.ro], fun b hb => ?_⟩⟩
  · rcases WH with q | ⟨b, c, q0, q1, q2, q3, q4, q5⟩
    · exact .inl q
    · refine .inr ⟨b, 0, c, q0, fun _ => ⟨ints p.globals, 3, Nat.lt_of_lt_of_le q3 k7n, ?_, fun i z hz => by simp [ints, hz]⟩⟩
      rw [get_set_ne (by omega), k7.get b q3]
      · exact q5
      · rintro e
        simp only [List.mem_singleton] at e
        subst e
        rw [gH3] at q5
        cases hz : p.globals with
        | nil => rw [hz] at q5; cases q5
        | cons z l => rw [hz] at q5; simp [ints] at q5
  · rcases S7 with ⟨q1, q2⟩ | ⟨b, c, q1, q2, q3, q4, q5, q6⟩
    · exact .inl ⟨q1, q2⟩
    · rw [q1]
      exact sliceR_flat (t := 48) (frow_len qs) q4 (by rw [get_set_ne (by omega)]; exact q6)
  · rw [get_set_ne]
    intro e
    exact q2 (by simp [e])
  · show Pg.mk _ _ _ (qs.map Fn.core) _ = _
    rw [hcore]
  · rw [get_set_ne (by omega), k7.get b (by omega) (by simp only [List.mem_singleton]; omega), e0.get b hb]
end Go.Rtl
namespace Go.Rtl
open Go.Ai Go.Proofs
set_option linter.unusedVariables false
set_option linter.unusedSimpArgs false
set_option maxRecDepth 10000
theorem all_map_core {α β : Type} (l : List α) (f : α → β) (B : β → Bool) : (l.map f).all B = l.all fun x => B (f x) := by rw [List.all_map]; rfl
theorem dInsB_core (f : Fn) (x : Ins) : dInsB f.core x.core = dInsB f x := by
  unfold dInsB restB opOk
  simp only [Fn.core, List.length_map]
  rfl
theorem dRightB_core (f : Fn) : dRightB f.core = dRightB f := by
  unfold dRightB sizesB
  simp only [List.length_map, List.all_map]
  congr 3
  funext x
  exact dInsB_core f x
theorem insP_core (p : Pg) (c : Ins) : insP p.core c.core = insP p c := by
  unfold insP callOk glOk parsAt
  simp only [List.length_map, List.getElem?_map]
  cases p.funcs[c.sub.toNat]? <;> rfl
theorem dGoodB_core (p : Pg) : dGoodB p.core = dGoodB p := by
  unfold dGoodB sizesP
  simp only [List.length_map, List.all_map]
  congr 3
  funext f
  show (dRightB f.core && (f.code.map Ins.core).all (insP p.core)) = _
  rw [dRightB_core, List.all_map]
  congr 2
  funext c
  exact insP_core p c
theorem dGoodB_like {p q : Pg} (h : q.core = p.core) : dGoodB q = dGoodB p := by rw [← dGoodB_core q, h, dGoodB_core]
theorem sameL_map {α β : Type} {R : α → α → Bool} {S : β → β → Bool} (f : α → β) {xs ys : List α} (h : ∀ x y, S (f x) (f y) = R x y) : sameL S (xs.map f) (ys.map f) = sameL R xs ys := by
  unfold sameL
  rw [List.length_map]
  congr 1
  funext k
  unfold pairB
  rw [List.getElem?_map, List.getElem?_map]
  cases xs[k]? <;> cases ys[k]? <;> simp [h]
theorem sameL_self {α : Type} {R : α → α → Bool} {xs : List α} (h : ∀ x, R x x = true) : sameL R xs xs = true := by
  unfold sameL
  rw [List.all_eq_true]
  intro k hk
  unfold pairB
  cases xs[k]? <;> simp [h]
theorem sameIns_self (x : Ins) : sameInsB x x = true := by
  unfold sameInsB
  rw [sameL_self (fun z => by simp [eqI])]
  simp
theorem sameFn_self (f : Fn) : sameFnB f f = true := by
  unfold sameFnB
  rw [sameL_self (fun z => by simp [eqI]), sameL_self sameIns_self]
  simp
theorem samePg_self (p : Pg) : samePgB p p = true := by
  unfold samePgB
  rw [sameL_self (fun z => by simp [eqI]), sameL_self sameFn_self]
  simp
theorem sameIns_core (x y : Ins) : sameInsB x.core y.core = sameInsB x y := rfl
theorem sameFn_core (f g : Fn) : sameFnB f.core g.core = sameFnB f g := by
  unfold sameFnB
  simp only [List.length_map, sameL_map Ins.core sameIns_core]
theorem samePg_core (p q : Pg) : samePgB p.core q.core = samePgB p q := by
  unfold samePgB
  simp only [List.length_map, sameL_map Fn.core sameFn_core]
theorem samePg_like {p q : Pg} (h : q.core = p.core) : samePgB p q = true := by rw [← samePg_core, h, samePg_self]
/-! ### The table, and awake -/
def zs : List Int := [1,10,100,1000,10000,100000,1000000,10000000,100000000,1000000000,10000000000,100000000000,1000000000000,10000000000000,100000000000000,1000000000000000,10000000000000000,100000000000000000,1000000000000000000,10000000000000000000]
def tabs : List (Nat × List Value) := [(0, zs.map fun z => .int .u64 z)]
def TabH (h : AHeap) : Prop := 0 < h.next ∧ ∃ c t, h.get 0 = some (.cells c t) ∧ ∀ (i : Nat) y, (zs.map fun z => Value.int .u64 z)[i]? = some y → c[i]? = some y
theorem TabH.old {h h' : AHeap} (t : TabH h) (e : Old h h') : TabH h' := by
  obtain ⟨h0, c, t, hg, hc⟩ := t
  exact ⟨Nat.lt_of_lt_of_le h0 e.next, c, t, by rw [e.get 0 h0]; exact hg, hc⟩
theorem TabH.lock {h : AHeap} (t : TabH h) : TabH h.lock := t
def cls : List Nat := [0,0,1,1,1,1,1,1,1,1,1,1,1,1,1,1,1,1,1,1,1,1,1,1,2,2,2,2,1,1,1,1,1,1,1,1,1,1,1,1,1,1,1,1,1,1,1,1,1,1,1,1,1,1,1,1,1,1,1,1,1,1,1,1,1,1,1,1,1,1,1,1,0,1,1,1,1,1,1,1,1,1,1,1,1,1,1,1,1,1,1,1,1,1,1,0,1,1,1,1,1,1,1,1,1,1,0,0,0,0,0,0,0,0,0,0,0,0,0,0,0,0,0,0,0,0,0,0,0,0,0,0,0,0,0,0,0,0,0]
set_option maxRecDepth 100000 in
theorem fits : callsOk Tryz.prog cls = true := by decide +kernel
set_option maxRecDepth 100000 in
theorem awake_ran : says (run Tryz.prog cls 4000 (.call 4 []) (tabled 100 tabs)) = true := by kernel_rfl
theorem awake_q (h : AHeap) (ht : TabH h) : Quiet Tryz.prog 4 [] h (.bool true) := by
  refine ⟨rfl, ?_⟩
  obtain ⟨h', he⟩ := of_says awake_ran
  have := TC_closedC (P := Tryz.prog) (m := 100) (tabs := tabs) (v := .bool true) (f := 4) rfl (Nat.le_of_ble_eq_true (by kernel_rfl)) (fun x hx => by
    simp only [tabs, List.mem_singleton] at hx
    subst hx
    exact ⟨by decide, Nat.le_of_ble_eq_true (n := 1) (by kernel_rfl), by decide +kernel⟩) ((TC_of_run fits mixed he).mono (fun v h1 q => q.1)) (h := h.lock) (fun x hx => by
    simp only [tabs, List.mem_singleton] at hx
    subst hx
    exact ht.lock.2)
  exact this.mono (fun v h1 q => q.1)
def yes (v : Value) (_ : AHeap) : Prop := v = .bool true
theorem law_ok (p : Pg) (h : AHeap) (P : PgOk h p) (ht : TabH h) : DC Tryz.prog 3 [p.val] h yes := by
  refine DC_wf fun wf => ?_
  apply X_RtlGood_ok
  unfold X_RtlGood
  have gn := P.globals.nob
  have fn := P.funcs.nob
  simp -implicitDefEqProofs only [EE, cond_true, cond_false, nth, ↓nw, Value.cells, ↓BK, setMany, if_true, if_false, Nat.reduceAdd, Nat.reduceLeDiff, Nat.reduceMul, Nat.reduceMod, Nat.reduceDiv, Nat.reduceSub, Nat.reduceEqDiff, Int.reduceEq, Int.reduceLT, Int.reduceLE, Int.reduceAdd, Int.reduceSub, Int.reduceMul, Int.reduceNeg, Int.reduceToNat, ne_eq, sto, ldn, ld1, beq_self_eq_true, al_25, as_25, az_25, eql_4, gn, fn]
  have e : Old h (h.push (pcells p)) := Old.push _ _
  have g3 : (h.push (pcells p)).get h.next = some (pcells p) := get_push_self
  have n3 : h.next < (h.push (pcells p)).next := Nat.lt_succ_self _
  generalize h.push (pcells p) = H at e g3 n3
  have PH := P.old e
  refine callV_q (by kernel_rfl) rfl (awake_q H (ht.old e)) ?_
  simp -implicitDefEqProofs only [EE, cond_true, cond_false, nth, ↓nw, Value.cells, ↓BK, setMany, if_true, if_false, Nat.reduceAdd, Nat.reduceLeDiff, Nat.reduceMul, Nat.reduceMod, Nat.reduceDiv, Nat.reduceSub, Nat.reduceEqDiff, Int.reduceEq, Int.reduceLT, Int.reduceLE, Int.reduceAdd, Int.reduceSub, Int.reduceMul, Int.reduceNeg, Int.reduceToNat, ne_eq, sto, ldn, ld1, beq_self_eq_true, al_25, as_25, az_25, eql_4, X_RtlGood_4, g3]
  refine callV_of (by kernel_rfl) (by simp -implicitDefEqProofs only [EE, cond_true, cond_false, nth, ↓nw, Value.cells, ↓BK, setMany, if_true, if_false, Nat.reduceAdd, Nat.reduceLeDiff, Nat.reduceMul, Nat.reduceMod, Nat.reduceDiv, Nat.reduceSub, Nat.reduceEqDiff, Int.reduceEq, Int.reduceLT, Int.reduceLE, Int.reduceAdd, Int.reduceSub, Int.reduceMul, Int.reduceNeg, Int.reduceToNat, ne_eq, sto, ldn, ld1, beq_self_eq_true, gn, fn]) (copy_ok p H PH) ?_
  rintro _ h1 ⟨q, rfl, Q, hcore, e1⟩
  have g4 : h1.get h.next = some (pcells p) := by rw [e1.get _ n3]; exact g3
  have n4 : h.next < h1.next := Nat.lt_of_lt_of_le n3 e1.next
  have qg := Q.globals.nob
  have qf := Q.funcs.nob
  have qgc := Q.globals.cok
  have qfc := Q.funcs.cok
  have ro1 : h1.ro ≤ h1.next := by have := e1.ro; have := e1.next; have := e.ro; have := e.next; have := wf.2; omega
  have nn4 : ¬ h.next = h1.next := by omega
  simp -implicitDefEqProofs only [EE, cond_true, cond_false, nth, ↓nw, Value.cells, ↓BK, setMany, if_true, if_false, Nat.reduceAdd, Nat.reduceLeDiff, Nat.reduceMul, Nat.reduceMod, Nat.reduceDiv, Nat.reduceSub, Nat.reduceEqDiff, Int.reduceEq, Int.reduceLT, Int.reduceLE, Int.reduceAdd, Int.reduceSub, Int.reduceMul, Int.reduceNeg, Int.reduceToNat, ne_eq, sto, ldn, ld1, beq_self_eq_true, al_25, as_25, az_25, eql_4, X_RtlGood_3, qg, qf, qgc, qfc, ro1, lt_add1, n4, g4, nn4]
  have e2 : Old h1 ((h1.push (.cells [.slice none 0 0, .slice none 0 0, .int .i64 0] 25)).set h1.next (some (.cells [q.gv, q.fv, .int .i64 q.main] 25))) := (Old.push _ _).set (Nat.le_refl _) _
  have g5 : ((h1.push (.cells [.slice none 0 0, .slice none 0 0, .int .i64 0] 25)).set h1.next (some (.cells [q.gv, q.fv, .int .i64 q.main] 25))).get h1.next = some (pcells q) := get_set_self
  have g6 : ((h1.push (.cells [.slice none 0 0, .slice none 0 0, .int .i64 0] 25)).set h1.next (some (.cells [q.gv, q.fv, .int .i64 q.main] 25))).get h.next = some (pcells p) := by rw [e2.get _ n4]; exact g4
  generalize ((h1.push (.cells [.slice none 0 0, .slice none 0 0, .int .i64 0] 25)).set h1.next (some (.cells [q.gv, q.fv, .int .i64 q.main] 25))) = h2 at e2 g5 g6 ⊢
  have P2 := PH.old (e1.trans e2)
  have Q2 := Q.old e2
  refine callQ_q (by kernel_rfl) (by simp -implicitDefEqProofs only [EE, cond_true, cond_false, nth, ↓nw, Value.cells, ↓BK, setMany, if_true, if_false, Nat.reduceAdd, Nat.reduceLeDiff, Nat.reduceMul, Nat.reduceMod, Nat.reduceDiv, Nat.reduceSub, Nat.reduceEqDiff, Int.reduceEq, Int.reduceLT, Int.reduceLE, Int.reduceAdd, Int.reduceSub, Int.reduceMul, Int.reduceNeg, Int.reduceToNat, ne_eq, sto, ldn, ld1, beq_self_eq_true, gn, fn]) (rGood_q p h2 P2) ?_
  simp -implicitDefEqProofs only [EE, cond_true, cond_false, nth, ↓nw, Value.cells, ↓BK, setMany, if_true, if_false, Nat.reduceAdd, Nat.reduceLeDiff, Nat.reduceMul, Nat.reduceMod, Nat.reduceDiv, Nat.reduceSub, Nat.reduceEqDiff, Int.reduceEq, Int.reduceLT, Int.reduceLE, Int.reduceAdd, Int.reduceSub, Int.reduceMul, Int.reduceNeg, Int.reduceToNat, ne_eq, sto, ldn, ld1, beq_self_eq_true, al_25, as_25, az_25, eql_4, g5]
  refine callQ_q (by kernel_rfl) (by simp -implicitDefEqProofs only [EE, cond_true, cond_false, nth, ↓nw, Value.cells, ↓BK, setMany, if_true, if_false, Nat.reduceAdd, Nat.reduceLeDiff, Nat.reduceMul, Nat.reduceMod, Nat.reduceDiv, Nat.reduceSub, Nat.reduceEqDiff, Int.reduceEq, Int.reduceLT, Int.reduceLE, Int.reduceAdd, Int.reduceSub, Int.reduceMul, Int.reduceNeg, Int.reduceToNat, ne_eq, sto, ldn, ld1, beq_self_eq_true, qg, qf]) (dGood_q q h2 Q2) ?_
  rw [rGood_eq, dGoodB_like hcore]
  simp -implicitDefEqProofs only [EE, cond_true, cond_false, nth, ↓nw, Value.cells, ↓BK, setMany, if_true, if_false, Nat.reduceAdd, Nat.reduceLeDiff, Nat.reduceMul, Nat.reduceMod, Nat.reduceDiv, Nat.reduceSub, Nat.reduceEqDiff, Int.reduceEq, Int.reduceLT, Int.reduceLE, Int.reduceAdd, Int.reduceSub, Int.reduceMul, Int.reduceNeg, Int.reduceToNat, ne_eq, sto, ldn, ld1, beq_self_eq_true, al_25, as_25, az_25, eql_4, X_RtlGood_1, X_RtlGood_2, g5, g6]
  refine callD_of (by kernel_rfl) (by simp -implicitDefEqProofs only [EE, cond_true, cond_false, nth, ↓nw, Value.cells, ↓BK, setMany, if_true, if_false, Nat.reduceAdd, Nat.reduceLeDiff, Nat.reduceMul, Nat.reduceMod, Nat.reduceDiv, Nat.reduceSub, Nat.reduceEqDiff, Int.reduceEq, Int.reduceLT, Int.reduceLE, Int.reduceAdd, Int.reduceSub, Int.reduceMul, Int.reduceNeg, Int.reduceToNat, ne_eq, sto, ldn, ld1, beq_self_eq_true, gn, fn, qg, qf]) (samePg_q p q h2 P2 Q2).dc ?_
  rintro _ _ ⟨rfl, rfl⟩
  rw [samePg_like hcore]
  simp -implicitDefEqProofs only [EE, cond_true, cond_false, nth, ↓nw, Value.cells, ↓BK, setMany, if_true, if_false, Nat.reduceAdd, Nat.reduceLeDiff, Nat.reduceMul, Nat.reduceMod, Nat.reduceDiv, Nat.reduceSub, Nat.reduceEqDiff, Int.reduceEq, Int.reduceLT, Int.reduceLE, Int.reduceAdd, Int.reduceSub, Int.reduceMul, Int.reduceNeg, Int.reduceToNat, ne_eq, sto, ldn, ld1, beq_self_eq_true]
  rfl
end Go.Rtl
