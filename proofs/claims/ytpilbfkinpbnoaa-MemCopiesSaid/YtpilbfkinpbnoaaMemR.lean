/-
  MEMORY: arguments.
-/
import Derived.Test.YtpilbfkinpbnoaaMemD
import Derived.Test.YtpilbfkinpbnoaaAiD
namespace Go.Mem
open Go.Ai Go.Proofs
set_option linter.unusedVariables false
set_option linter.unusedSimpArgs false
theorem in64_of {n : Int} (h : (Lit.int .i64 n).wf = true) : in64 n := by
  have h : IntKind.i64.min ≤ n ∧ n ≤ IntKind.i64.max := by simpa only [Lit.wf, Bool.and_eq_true, decide_eq_true_eq] using h
  have h1 : IntKind.i64.min = -9223372036854775808 := by decide
  have h2 : IntKind.i64.max = 9223372036854775807 := by decide
  unfold in64
  omega
theorem cells3 : Try.prog.cellsOf 3 = 1 := by kernel_rfl
theorem cells2 : Try.prog.cellsOf 2 = 1 := by kernel_rfl
theorem cells24 : Try.prog.cellsOf 24 = 3 := by kernel_rfl
section
variable {h : AHeap}
/-- Three cells that read as a value. -/
theorem rd_v {cs : List Value} (r : RD Try.prog h 24 cs) : ∃ v : V, cs = v.vals ∧ v.ok := by
  obtain ⟨hl, hf⟩ := rd_struct Try.underlying24 r
  rw [cells24] at hl
  match cs, hl with
  | [a, b, c], _ =>
    have f0 : RD Try.prog h 3 (([a, b, c].drop 0).take (Try.prog.cellsOf 3)) := hf _ (Array.mem_of_getElem? (i := 0) rfl)
    have f1 : RD Try.prog h 2 (([a, b, c].drop 1).take (Try.prog.cellsOf 2)) := hf _ (Array.mem_of_getElem? (i := 1) rfl)
    have f2 : RD Try.prog h 3 (([a, b, c].drop 2).take (Try.prog.cellsOf 3)) := hf _ (Array.mem_of_getElem? (i := 2) rfl)
    simp only [cells2, cells3, List.drop_zero, List.drop_succ_cons, List.take_succ_cons, List.take_zero] at f0 f1 f2
    obtain ⟨x, e0, g0⟩ := rd_int Try.underlying3 f0
    obtain ⟨y, e1, g1⟩ := rd_int Try.underlying2 f1
    obtain ⟨z, e2, g2⟩ := rd_int Try.underlying3 f2
    simp only [List.cons.injEq, and_true] at e0 e1 e2
    subst e0 e1 e2
    exact ⟨⟨x, y, z⟩, rfl, in64_of g0, in64_of g1, in64_of g2⟩
theorem rd_val {a : Value} (r : RD Try.prog h 24 a.cells.toList ∧ (isRow Try.prog 24 = false → notAgg a = true)) : ∃ v : V, a = v.val ∧ v.ok := by
  obtain ⟨v, e, hv⟩ := rd_v r.1
  exact ⟨v, agg_of e (by show (3 : Nat) ≠ 1; decide), hv⟩
theorem rd_ints (hw : ∀ b o, h.get b = some o → b < h.next) {a : Value} (r : RD Try.prog h 41 [a]) : ∃ zs, SliceI h a zs := by
  rcases rd_slice Try.underlying41 cells3 (by decide) r with e | ⟨b, off, len, e, _, hc⟩
  · simp only [List.cons.injEq, and_true] at e
    exact ⟨[], .inl ⟨e, rfl⟩⟩
  · simp only [List.cons.injEq, and_true] at e
    subst e
    by_cases h0 : 0 < len
    · obtain ⟨c, t, hg, hat⟩ := hc h0
      have key : ∀ i, i < len → ∃ z, c[off + i]? = some (.int .i64 z) := fun i hi => by
        obtain ⟨h1, h2⟩ := hat i hi
        obtain ⟨z, hz, _⟩ := rd_int Try.underlying3 h2
        refine ⟨z, ?_⟩
        have := congrArg (fun l => l[0]?) hz
        simp only [Nat.mul_one, List.getElem?_take_of_lt (Nat.zero_lt_one), List.getElem?_drop, Nat.add_zero, List.getElem?_cons_zero] at this
        exact this
      refine ⟨(List.range len).map fun i => match c[off + i]? with | some (.int _ z) => z | _ => 0, .inr ⟨b, off, by simp, fun _ => ⟨c, t, hw b _ hg, hg, fun i z hz => ?_⟩⟩⟩
      simp only [List.getElem?_map, Option.map_eq_some_iff] at hz
      obtain ⟨j, hj, e⟩ := hz
      have hi : i < len ∧ j = i := by
        rcases Nat.lt_or_ge i len with q | q
        · rw [List.getElem?_range q] at hj; cases hj; exact ⟨q, rfl⟩
        · rw [List.getElem?_eq_none (by simpa using q)] at hj; cases hj
      obtain ⟨hi, rfl⟩ := hi
      obtain ⟨z', hz'⟩ := key j hi
      rw [hz'] at e
      simp only at e
      rw [hz', ← e]
    · have : len = 0 := by omega
      subst this
      exact ⟨[], .inr ⟨b, off, rfl, fun q => absurd rfl q⟩⟩
end
theorem absH_lt (w : World) (b : Nat) (o : AObj) (h : (absH Try.prog w).get b = some o) : b < (absH Try.prog w).next := (rel_absH Try.prog w).dom b o h
end Go.Mem
