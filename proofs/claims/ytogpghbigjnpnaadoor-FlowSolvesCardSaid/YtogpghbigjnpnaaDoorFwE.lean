/-
  THE ORDER of none; and of any.
-/
import Derived.Test.YtogpghbigjnpnaaDoorFwD
namespace Go.Fw
open Go.Ai Go.Proofs Go.Fl
set_option linter.unusedVariables false
set_option linter.unusedSimpArgs false
set_option maxRecDepth 10000
section
variable {lo : Low} {h : AHeap} {L : List HP} {zs : List Int} {sv f : Value} {b6 ob N c : Nat}
theorem blen_s : DC Tryd.prog 31 [.int .u64 0] h (fun v h' => v = .int .i64 0 ∧ h' = h) := fun wf => by
  refine ⟨_, _, ⟨rfl, rfl⟩, .refl _, fun ρ w cargs hr hv => ?_⟩
  obtain ⟨y1, ys, rfl, v1, hv⟩ := hv.cons_inv
  obtain rfl := hv.nil_inv
  cases v1
  have q := Any.bits_Len (SlLaysF0.n15.bits (P := Tryd.prog) (ρ := Tryd.sortInt_ren) { Tryd.sortInt with }) 0 w (by omega) (by omega)
  refine Calls.mono q ?_
  rintro e w' ⟨rfl, rfl⟩
  exact ⟨_, _, _, ρ, rfl, ⟨rfl, rfl⟩, .refl hr, .int _ _⟩
theorem ins0 (hf : isBot f = false) : DC Tryd.prog 48 [.slice (some ⟨ob, 0, none⟩) 0 c, .int .i64 0, .int .i64 0, f] h (fun v h' => v = .tuple #[] ∧ h' = h) := by
  apply X_Inss_ok
  unfold X_Inss
  simp -implicitDefEqProofs only [EE, cond_true, cond_false, nth, Value.cells, ↓bk_eq, setMany, if_true, if_false, Nat.reduceAdd, Nat.reduceLeDiff, Nat.reduceMul, Nat.reduceMod, Nat.reduceDiv, Nat.reduceSub, Nat.reduceEqDiff, Int.reduceEq, Int.reduceLT, Int.reduceLE, Int.reduceAdd, Int.reduceSub, Int.reduceMul, Int.reduceNeg, Int.reduceToNat, ne_eq, rv_none, ldn, ld1, beq_self_eq_true, al_3, as_3, ix_23]
  refine LP_of (fun m vs h' => vs = [.int .i64 1] ∧ h' = h) 0 ⟨rfl, rfl⟩ ?_
  rintro m vs h' ⟨rfl, rfl⟩
  unfold X_Inss_10
  simp -implicitDefEqProofs only [EE, cond_true, cond_false, nth, Value.cells, ↓bk_eq, setMany, if_true, if_false, Nat.reduceAdd, Nat.reduceLeDiff, Nat.reduceMul, Nat.reduceMod, Nat.reduceDiv, Nat.reduceSub, Nat.reduceEqDiff, Int.reduceEq, Int.reduceLT, Int.reduceLE, Int.reduceAdd, Int.reduceSub, Int.reduceMul, Int.reduceNeg, Int.reduceToNat, ne_eq, rv_none, ldn, ld1, beq_self_eq_true, al_3, as_3, ix_23]
  rfl
theorem pdq0 (hf : isBot f = false) : DC Tryd.prog 30 [.slice (some ⟨ob, 0, none⟩) 0 c, .int .i64 0, .int .i64 0, .int .i64 0, f] h (fun v h' => v = .tuple #[] ∧ h' = h) := by
  apply X_Pdq_ok
  unfold X_Pdq
  simp -implicitDefEqProofs only [EE, cond_true, cond_false, nth, Value.cells, ↓bk_eq, setMany, if_true, if_false, Nat.reduceAdd, Nat.reduceLeDiff, Nat.reduceMul, Nat.reduceMod, Nat.reduceDiv, Nat.reduceSub, Nat.reduceEqDiff, Int.reduceEq, Int.reduceLT, Int.reduceLE, Int.reduceAdd, Int.reduceSub, Int.reduceMul, Int.reduceNeg, Int.reduceToNat, ne_eq, rv_none, ldn, ld1, beq_self_eq_true, al_3, ix_23, X_Pdq_21]
  refine LP_of (fun m vs h' => vs = [.int .i64 0, .int .i64 0, .int .i64 0, .bool true, .bool true] ∧ h' = h) 0 ⟨rfl, rfl⟩ ?_
  rintro m vs h' ⟨rfl, rfl⟩
  unfold X_Pdq_20
  have w0 : IntKind.wrap .i64 0 = 0 := rfl
  have t0 : decide ((0 : Int) ≤ 12) = true := rfl
  simp -implicitDefEqProofs only [EE, cond_true, cond_false, nth, Value.cells, ↓bk_eq, setMany, if_true, if_false, Nat.reduceAdd, Nat.reduceLeDiff, Nat.reduceMul, Nat.reduceMod, Nat.reduceDiv, Nat.reduceSub, Nat.reduceEqDiff, Int.reduceEq, Int.reduceLT, Int.reduceLE, Int.reduceAdd, Int.reduceSub, Int.reduceMul, Int.reduceNeg, Int.reduceToNat, ne_eq, rv_none, ldn, ld1, beq_self_eq_true, al_3, ix_23, w0, t0]
  refine callV_of (by kernel_rfl) (by simp only [nobot, hf, cond_false]; rfl) (ins0 hf) ?_
  rintro v h1 ⟨rfl, rfl⟩
  exact ⟨rfl, rfl⟩
theorem sort0 (hf : isBot f = false) : DC Tryd.prog 14 [.slice (some ⟨ob, 0, none⟩) 0 c, f] h (fun v h' => v = .tuple #[] ∧ h' = h) := by
  apply X_SortF_ok
  unfold X_SortF
  have w0 : IntKind.wrap .u64 0 = 0 := rfl
  have z : ((0 : Nat) : Int) = 0 := rfl
  simp -implicitDefEqProofs only [EE, cond_true, cond_false, nth, Value.cells, ↓bk_eq, setMany, if_true, if_false, Nat.reduceAdd, Nat.reduceLeDiff, Nat.reduceMul, Nat.reduceMod, Nat.reduceDiv, Nat.reduceSub, Nat.reduceEqDiff, Int.reduceEq, Int.reduceLT, Int.reduceLE, Int.reduceAdd, Int.reduceSub, Int.reduceMul, Int.reduceNeg, Int.reduceToNat, ne_eq, rv_none, ldn, ld1, beq_self_eq_true, cv_3_75, len_23, w0, z]
  refine callV_of (by kernel_rfl) rfl blen_s ?_
  rintro v h1 ⟨rfl, rfl⟩
  refine callV_of (by kernel_rfl) (by simp only [nobot, hf, cond_false]; rfl) (pdq0 hf) ?_
  rintro v h1 ⟨rfl, rfl⟩
  rw [rv_none]; exact ⟨rfl, rfl⟩
theorem sort_s (S : SliceI h sv zs) (hN : zs.length = N) (h1 : N ≤ 2000) (hz : ∀ z, z ∈ zs → 0 ≤ z ∧ z ≤ 1000000) (s : Sat lo h (pt ob (.cells (ordC (List.range N)) 3) :: pt b6 (.cells [sv] 23) :: L)) (ns : 0 < N → ∀ b off n c, sv = .slice (some ⟨b, off, none⟩) n c → ¬ b = ob) :
    DC Tryd.prog 14 [.slice (some ⟨ob, 0, none⟩) N (N + 2), .func (.func 15) #[] #[.pointer (some ⟨b6, 0, none⟩)]] h (fun v h' => v = .tuple #[] ∧ ∃ ord : List Nat, Order N (at0 zs) ord ∧ ord.length = N ∧ Sat lo h' (pt ob (.cells (ordC ord) 3) :: pt b6 (.cells [sv] 23) :: L)) := by
  rcases Nat.eq_zero_or_pos N with e | e
  · subst e
    refine DC.mono (sort0 rfl) ?_
    rintro v h' ⟨rfl, rfl⟩
    exact ⟨rfl, [], ⟨fun j a h => by simp at h, fun i hi => by omega, fun j k a b _ hj => by simp at hj⟩, rfl, s⟩
  · refine DC.mono (sort_pos S hN e h1 hz (s.p 1).get s.get s.wr (fun q => s.ne q.symm) (ns e)) ?_
    rintro v h' ⟨rfl, ord, o1, o2, rfl⟩
    exact ⟨rfl, ord, o1, o2, s.set _⟩
end
end Go.Fw
