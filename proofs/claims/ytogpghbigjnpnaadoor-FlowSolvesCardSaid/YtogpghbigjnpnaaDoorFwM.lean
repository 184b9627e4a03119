/-
  FLOWSOLVES, walked: its own rounds.
-/
import Derived.Test.YtogpghbigjnpnaaDoorFwK
namespace Go.Fw
open Go.Ai Go.Proofs Go.Fl
set_option linter.unusedVariables false
set_option linter.unusedSimpArgs false
set_option maxRecDepth 10000
theorem at_z {h : AHeap} {sv : Value} {zs : List Int} (S : SliceR h sv 1 (zs.map intRow)) {i : Nat} {z : Int} (hz : zs[i]? = some z) : ∃ b o c t, aindex Tryd.prog 23 sv (.int .i64 i) = some (.pointer (some ⟨b, o, none⟩)) ∧ h.get b = some (.cells c t) ∧ c[o]? = some (.int .i64 z) := by
  obtain ⟨b, o, c, t, ⟨off, cp, rfl, rfl⟩, hi, hb, hg, hl, ht, hk⟩ := S.spot (r := intRow z) (i := i) (by rw [List.getElem?_map, hz]; rfl) rfl
  have h1 : 0 ≤ (i : Int) ∧ (i : Int) < ((zs.map intRow).length : Int) := by omega
  exact ⟨b, off + i * 1, c, t, by simp only [ix_23, h1, Int.toNat_natCast, and_self, if_true], hg, hk 0 (by decide)⟩
theorem len_z {h : AHeap} {sv : Value} {zs : List Int} {n : Nat} (S : SliceR h sv n (zs.map intRow)) (t : TypeId) (h' : AHeap) : abuiltin Tryd.prog .len [23] t [sv] h' = some (.int .i64 zs.length, h') := by
  rcases S with ⟨rfl, e⟩ | ⟨b, off, cp, rfl, _⟩
  · have : zs = [] := by simpa using e
    subst this
    simp only [len_23, List.length_nil]
  · simp only [len_23, List.length_map]
section
variable {lo : Low} {h : AHeap} {L : List HP} {zs w : List Int} {es : List (Int × Int)} {wv ev : Value} {M : Int} {N g : Nat} {key : Nat → Int}
theorem round_s {j : List Value → AHeap → Prop} (E : Rd lo (SliceR · ev 2 (es.map evRow))) (hl : es.length ≤ 1000000) (hE : okE N es) (hM : ∀ i, i < N → key i ≤ M) (X : Rx N (es.map toN) key w) (s : Sat lo h (slc 3 1 wv (w.map intRow) :: L))
    (k : ∀ w' ag h', Rnd N (es.map toN) key M (gap M w) es.length w' ag → Sat lo h' (slc 3 1 wv (w'.map intRow) :: L) → j [.bool ag] h') :
    LP (X_FlowSolves_31 ev j wv) [.bool false, .int .i64 0] h := by
  have evn := (E.at s).nob
  have le := fun h' => len_e (E.at s) 3 h'
  have wn := slc_nob s
  refine LP_of (fun m vs h' => ∃ (i : Nat) (w' : List Int) (ag : Bool), i ≤ es.length ∧ m = es.length - i ∧ vs = [.bool ag, .int .i64 (i : Nat)] ∧ Rnd N (es.map toN) key M (gap M w) i w' ag ∧ Sat lo h' (slc 3 1 wv (w'.map intRow) :: L)) es.length ⟨0, w, false, Nat.zero_le _, rfl, rfl, Rnd.begin X, s⟩ ?_
  rintro m vs h' ⟨i, w', ag, hi, rfl, rfl, Y, s1⟩
  unfold X_FlowSolves_31
  by_cases hlt : (i : Int) < (es.length : Int)
  · obtain ⟨e, he⟩ : ∃ e, es[i]? = some e := ⟨_, List.getElem?_eq_getElem (by omega)⟩
    have hp := hE e (List.mem_of_getElem? he)
    have heN : (es.map toN)[i]? = some (e.1.toNat, e.2.toNat) := by rw [List.getElem?_map, he]; rfl
    obtain ⟨b1, o1, c1, t1, x1, l1, g1, n1, k1, a1⟩ := at_e (E.at s1) (i := i) (r := evRow e) (by rw [List.getElem?_map, he]; rfl) rfl
    have a0 : c1[o1]? = some (.int .i64 e.1) := a1 0 (by decide)
    have a1 : c1[o1 + 1]? = some (.int .i64 e.2) := a1 1 (by decide)
    have hin := inc (show i < 4611686018427387904 by omega)
    have wl := Y.x.len
    have W := slc_read s1 (row_of (f := intRow) (fun _ => rfl) _)
    obtain ⟨b2, o2, c2, t2, x2, g2, e2⟩ := at_z W (at0_get (w := w') (i := e.1.toNat) (by omega))
    obtain ⟨b3, o3, c3, t3, x3, g3, e3⟩ := at_z W (at0_get (w := w') (i := e.2.toNat) (by omega))
    rw [Int.toNat_of_nonneg hp.1.1] at x2
    rw [Int.toNat_of_nonneg hp.2.1] at x3
    by_cases q : at0 w' e.2.toNat < at0 w' e.1.toNat
    · obtain ⟨bw, cw, cs, rfl, gw, ww, lw, sw⟩ := slc_row s1 (row_of (f := intRow) (fun _ => rfl) _) (i := e.2.toNat) (by rw [List.length_map]; omega)
      have hx : 0 ≤ e.2 ∧ e.2 < ((w'.map intRow).length : Int) := by rw [List.length_map]; omega
      have x4 : aindex Tryd.prog 23 (.slice (some ⟨bw, 0, none⟩) (w'.map intRow).length cw) (.int .i64 e.2) = some (.pointer (some ⟨bw, e.2.toNat * 1, none⟩)) := by
        simp only [ix_23, hx, and_self, if_true, Nat.zero_add]
      have hy : 0 ≤ e.1 ∧ e.1 < ((w'.map intRow).length : Int) := by rw [List.length_map]; omega
      have x5 : aindex Tryd.prog 23 (.slice (some ⟨bw, 0, none⟩) (w'.map intRow).length cw) (.int .i64 e.1) = some (.pointer (some ⟨bw, e.1.toNat * 1, none⟩)) := by
        simp only [ix_23, hy, and_self, if_true, Nat.zero_add]
      have ee := x3.symm.trans x4
      have ff := x2.symm.trans x5
      simp only [Option.some.injEq, Value.pointer.injEq, Addr.mk.injEq, and_true] at ee ff
      obtain ⟨rfl, rfl⟩ := ee
      obtain ⟨rfl, rfl⟩ := ff
      obtain ⟨rfl, rfl⟩ : c2 = cs ∧ t2 = 3 := by have := g2.symm.trans gw; simpa using this
      obtain ⟨rfl, rfl⟩ : c3 = c2 ∧ t3 = 3 := by have := g3.symm.trans gw; simpa using this
      rw [List.length_map] at hx hy
      simp only [Nat.mul_one] at e2 e3
      have sw' := sw [.int .i64 (at0 w' e.1.toNat)] rfl
      rw [Nat.mul_one] at sw'
      have es' : (w'.map intRow).set e.2.toNat [.int .i64 (at0 w' e.1.toNat)] = (w'.set e.2.toNat (at0 w' e.1.toNat)).map intRow := by rw [List.map_set]; rfl
      rw [es'] at sw'
      simp only [List.length_map, setMany] at sw'
      simp -implicitDefEqProofs only [EE, cond_true, cond_false, nth, Value.cells, ↓bk_eq, setMany, if_true, if_false, Nat.reduceAdd, Nat.reduceLeDiff, Nat.reduceMul, Nat.reduceMod, Nat.reduceDiv, Nat.reduceSub, Nat.reduceEqDiff, Int.reduceEq, Int.reduceLT, Int.reduceLE, Int.reduceAdd, Int.reduceSub, Int.reduceMul, Int.reduceNeg, Int.reduceToNat, ne_eq, rv_none, ldn, ld1, beq_self_eq_true, al_3, ap_23, as_3, bs_23_0_, co_3, ix_22, ix_23, ix_28, len_22, len_23, X_FlowSolves_28, X_FlowSolves_29, evn, le, hlt, x1, g1, a0, a1, g2, e2, g3, e3, hx, hy, q, wn, Nat.mul_one]
      rw [sto_of gw, if_pos ⟨by simp only [List.length_singleton]; omega, ww, rfl⟩, opt_some]
      unfold X_FlowSolves_30
      simp -implicitDefEqProofs only [EE, cond_true, cond_false, nth, Value.cells, ↓bk_eq, setMany, if_true, if_false, Nat.reduceAdd, Nat.reduceLeDiff, Nat.reduceMul, Nat.reduceMod, Nat.reduceDiv, Nat.reduceSub, Nat.reduceEqDiff, Int.reduceEq, Int.reduceLT, Int.reduceLE, Int.reduceAdd, Int.reduceSub, Int.reduceMul, Int.reduceNeg, Int.reduceToNat, ne_eq, rv_none, ldn, ld1, beq_self_eq_true, hin]
      exact ⟨es.length - (i + 1), by omega, i + 1, _, true, by omega, rfl, rfl, Y.turn hM heN (by omega) (by omega) q, sw'⟩
    · simp -implicitDefEqProofs only [EE, cond_true, cond_false, nth, Value.cells, ↓bk_eq, setMany, if_true, if_false, Nat.reduceAdd, Nat.reduceLeDiff, Nat.reduceMul, Nat.reduceMod, Nat.reduceDiv, Nat.reduceSub, Nat.reduceEqDiff, Int.reduceEq, Int.reduceLT, Int.reduceLE, Int.reduceAdd, Int.reduceSub, Int.reduceMul, Int.reduceNeg, Int.reduceToNat, ne_eq, rv_none, ldn, ld1, beq_self_eq_true, al_3, ap_23, as_3, bs_23_0_, co_3, ix_22, ix_23, ix_28, len_22, len_23, X_FlowSolves_28, X_FlowSolves_29, evn, le, hlt, x1, g1, a0, a1, x2, g2, e2, x3, g3, e3, q, wn, hin, Nat.mul_one]
      unfold X_FlowSolves_30
      simp -implicitDefEqProofs only [EE, cond_true, cond_false, nth, Value.cells, ↓bk_eq, setMany, if_true, if_false, Nat.reduceAdd, Nat.reduceLeDiff, Nat.reduceMul, Nat.reduceMod, Nat.reduceDiv, Nat.reduceSub, Nat.reduceEqDiff, Int.reduceEq, Int.reduceLT, Int.reduceLE, Int.reduceAdd, Int.reduceSub, Int.reduceMul, Int.reduceNeg, Int.reduceToNat, ne_eq, rv_none, ldn, ld1, beq_self_eq_true, hin]
      exact ⟨es.length - (i + 1), by omega, i + 1, w', ag, by omega, rfl, rfl, Y.next heN q, s1⟩
  · simp -implicitDefEqProofs only [EE, cond_true, cond_false, nth, Value.cells, ↓bk_eq, setMany, if_true, if_false, Nat.reduceAdd, Nat.reduceLeDiff, Nat.reduceMul, Nat.reduceMod, Nat.reduceDiv, Nat.reduceSub, Nat.reduceEqDiff, Int.reduceEq, Int.reduceLT, Int.reduceLE, Int.reduceAdd, Int.reduceSub, Int.reduceMul, Int.reduceNeg, Int.reduceToNat, ne_eq, rv_none, ldn, ld1, beq_self_eq_true, evn, le, hlt]
    have e : i = es.length := by omega
    subst e
    exact k _ _ _ Y s1
theorem relax_s {j : List Value → AHeap → Prop} (E : Rd lo (SliceR · ev 2 (es.map evRow))) (hl : es.length ≤ 1000000) (hE : okE N es) (hM : ∀ i, i < N → key i ≤ M) (X : Rx N (es.map toN) key w) (s : Sat lo h (slc 3 1 wv (w.map intRow) :: L))
    (k : ∀ w' h', w'.length = N → Sol N (es.map toN) key (at0 w') → Sat lo h' (slc 3 1 wv (w'.map intRow) :: L) → j [] h') :
    LP (fun vs150 h151 j149 => CD (nth vs150 0) (fun j152 => j152 [] h151) (fun j152 => j [] h151) (X_FlowSolves_32 ev wv j149)) [.bool true] h := by
  refine LP_of (fun m vs h' => ∃ (w' : List Int) (ag : Bool), vs = [.bool ag] ∧ m = gap M w' + ag.toNat ∧ Rx N (es.map toN) key w' ∧ (ag = false → Sol N (es.map toN) key (at0 w')) ∧ Sat lo h' (slc 3 1 wv (w'.map intRow) :: L)) (gap M w + 1) ⟨w, true, rfl, rfl, X, (fun e => by cases e), s⟩ ?_
  rintro m vs h' ⟨w', ag, rfl, rfl, Y, hs, s1⟩
  cases ag with
  | false =>
    simp -implicitDefEqProofs only [EE, cond_true, cond_false, nth, Value.cells, ↓bk_eq, setMany, if_true, if_false, Nat.reduceAdd, Nat.reduceLeDiff, Nat.reduceMul, Nat.reduceMod, Nat.reduceDiv, Nat.reduceSub, Nat.reduceEqDiff, Int.reduceEq, Int.reduceLT, Int.reduceLE, Int.reduceAdd, Int.reduceSub, Int.reduceMul, Int.reduceNeg, Int.reduceToNat, ne_eq, rv_none, ldn, ld1, beq_self_eq_true]
    exact k w' h' Y.len (hs rfl) s1
  | true =>
    simp -implicitDefEqProofs only [EE, cond_true, cond_false, nth, Value.cells, ↓bk_eq, setMany, if_true, if_false, Nat.reduceAdd, Nat.reduceLeDiff, Nat.reduceMul, Nat.reduceMod, Nat.reduceDiv, Nat.reduceSub, Nat.reduceEqDiff, Int.reduceEq, Int.reduceLT, Int.reduceLE, Int.reduceAdd, Int.reduceSub, Int.reduceMul, Int.reduceNeg, Int.reduceToNat, ne_eq, rv_none, ldn, ld1, beq_self_eq_true, X_FlowSolves_32]
    refine round_s E hl hE hM Y s1 fun w2 ag2 h2 Q s2 => ?_
    have := Q.fall
    simp -implicitDefEqProofs only [EE, cond_true, cond_false, nth, Value.cells, ↓bk_eq, setMany, if_true, if_false, Nat.reduceAdd, Nat.reduceLeDiff, Nat.reduceMul, Nat.reduceMod, Nat.reduceDiv, Nat.reduceSub, Nat.reduceEqDiff, Int.reduceEq, Int.reduceLT, Int.reduceLE, Int.reduceAdd, Int.reduceSub, Int.reduceMul, Int.reduceNeg, Int.reduceToNat, ne_eq, rv_none, ldn, ld1, beq_self_eq_true]
    refine ⟨gap M w2 + ag2.toNat, by simp; omega, w2, ag2, rfl, rfl, Q.x, fun e => ?_, s2⟩
    subst e
    exact Q.sol (by rw [List.length_map]; exact Nat.le_refl _)
end
end Go.Fw
