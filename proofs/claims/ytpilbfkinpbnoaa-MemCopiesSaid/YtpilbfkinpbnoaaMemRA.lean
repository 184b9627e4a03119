/-
  MEMORY: arguments that are slices of calls.
-/
import Derived.Test.YtpilbfkinpbnoaaMemA1
import Derived.Test.YtpilbfkinpbnoaaMemR
namespace Go.Mem
open Go.Ai Go.Proofs
set_option linter.unusedVariables false
set_option linter.unusedSimpArgs false
theorem cells32 : Try.prog.cellsOf 32 = 9 := by kernel_rfl
section
variable {h : AHeap}
theorem rd_act {cs : List Value} (r : RD Try.prog h 32 cs) : ∃ a : Act, cs = a.vals ∧ a.ok := by
  obtain ⟨hl, hf⟩ := rd_struct Try.underlying32 r
  rw [cells32] at hl
  match cs, hl with
  | [a, b, c, d, e, f, g, i, j], _ =>
    have f0 : RD Try.prog h 3 (([a, b, c, d, e, f, g, i, j].drop 0).take (Try.prog.cellsOf 3)) := hf _ (Array.mem_of_getElem? (i := 0) rfl)
    have f1 : RD Try.prog h 3 (([a, b, c, d, e, f, g, i, j].drop 1).take (Try.prog.cellsOf 3)) := hf _ (Array.mem_of_getElem? (i := 1) rfl)
    have f2 : RD Try.prog h 3 (([a, b, c, d, e, f, g, i, j].drop 2).take (Try.prog.cellsOf 3)) := hf _ (Array.mem_of_getElem? (i := 2) rfl)
    have f3 : RD Try.prog h 24 (([a, b, c, d, e, f, g, i, j].drop 3).take (Try.prog.cellsOf 24)) := hf _ (Array.mem_of_getElem? (i := 3) rfl)
    have f4 : RD Try.prog h 24 (([a, b, c, d, e, f, g, i, j].drop 6).take (Try.prog.cellsOf 24)) := hf _ (Array.mem_of_getElem? (i := 4) rfl)
    simp only [cells24, cells3, List.drop_zero, List.drop_succ_cons, List.take_succ_cons, List.take_zero] at f0 f1 f2 f3 f4
    obtain ⟨x, e0, g0⟩ := rd_int Try.underlying3 f0
    obtain ⟨y, e1, g1⟩ := rd_int Try.underlying3 f1
    obtain ⟨z, e2, g2⟩ := rd_int Try.underlying3 f2
    obtain ⟨p, e3, g3⟩ := rd_v f3
    obtain ⟨v, e4, g4⟩ := rd_v f4
    unfold V.vals at e3 e4
    simp only [List.cons.injEq, and_true] at e0 e1 e2 e3 e4
    obtain ⟨rfl, rfl, rfl⟩ := e3
    obtain ⟨rfl, rfl, rfl⟩ := e4
    subst e0 e1 e2
    exact ⟨⟨x, y, z, p, v⟩, rfl, in64_of g1, in64_of g2, g3, g4⟩
theorem rd_acts (hw : ∀ b o, h.get b = some o → b < h.next) {a : Value} (r : RD Try.prog h 22 [a]) : ∃ zs, SliceA h a zs := by
  rcases rd_slice Try.underlying22 cells32 (by decide) r with e | ⟨b, off, len, e, _, hc⟩
  · simp only [List.cons.injEq, and_true] at e
    exact ⟨[], .inl ⟨e, rfl⟩⟩
  · simp only [List.cons.injEq, and_true] at e
    subst e
    by_cases h0 : 0 < len
    · obtain ⟨c, t, hg, hat⟩ := hc h0
      have key : ∀ i : Fin len, ∃ z : Act, z.ok ∧ (c.drop (off + i.1 * 9)).take 9 = z.vals := fun i => by
        obtain ⟨h1, h2⟩ := hat i.1 i.2
        obtain ⟨z, hz, ok⟩ := rd_act h2
        exact ⟨z, ok, hz⟩
      obtain ⟨f, hf⟩ := Classical.axiomOfChoice key
      refine ⟨List.ofFn f, .inr ⟨b, off, by simp, fun _ => ⟨c, t, hw b _ hg, hg, fun i z hz => ?_⟩⟩⟩
      rw [List.getElem?_ofFn] at hz
      split at hz
      · rename_i hi
        simp only [Option.some.injEq] at hz
        subst hz
        exact hf ⟨i, hi⟩
      · cases hz
    · have : len = 0 := by omega
      subst this
      exact ⟨[], .inr ⟨b, off, rfl, fun q => absurd rfl q⟩⟩
end
end Go.Mem
