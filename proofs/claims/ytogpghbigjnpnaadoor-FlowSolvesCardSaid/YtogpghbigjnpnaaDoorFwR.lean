/-
  FLOW's laws: what the caller's memory holds, read.
-/
import Derived.Test.YtogpghbigjnpnaaDoorFwN
import Derived.Test.YtogpghbigjnpnaaDoorAiD
namespace Go.Fw
open Go.Ai Go.Proofs Go.Fl
set_option linter.unusedVariables false
set_option linter.unusedSimpArgs false
set_option maxRecDepth 100000
theorem absH_lt (w : World) (b : Nat) (o : AObj) (h : (absH Tryd.prog w).get b = some o) : b < (absH Tryd.prog w).next := (rel_absH Tryd.prog w).dom b o h
theorem c3 : Tryd.prog.cellsOf 3 = 1 := by kernel_rfl
theorem c28 : Tryd.prog.cellsOf 28 = 2 := by kernel_rfl
theorem y3 : Tryd.prog.bytesOf 3 = 8 := by kernel_rfl
theorem y28 : Tryd.prog.bytesOf 28 = 16 := by kernel_rfl
theorem reach_eq : reachBytes = 140737488351232 := rfl
/-- One of each. -/
theorem list_of {α : Type} {n : Nat} {Q : Nat → α → Prop} (h : ∀ i, i < n → ∃ z, Q i z) : ∃ l : List α, l.length = n ∧ ∀ i z, l[i]? = some z → Q i z := by
  obtain ⟨f, hf⟩ := Classical.axiomOfChoice (r := fun (i : Fin n) z => Q i.1 z) fun i => h i.1 i.2
  refine ⟨List.ofFn f, by simp, fun i z hz => ?_⟩
  rw [List.getElem?_ofFn] at hz
  split at hz
  · rename_i hi
    simp only [Option.some.injEq] at hz
    subst hz
    exact hf ⟨i, hi⟩
  · cases hz
theorem one_take {c : List Value} {n : Nat} {v : Value} (h : (c.drop n).take 1 = [v]) : c[n]? = some v := by
  have := congrArg (fun l => l[0]?) h
  simpa [List.getElem?_take, List.getElem?_drop] using this
section
variable {h : AHeap} (hw : ∀ b o, h.get b = some o → b < h.next)
include hw
theorem rd_ints {a : Value} (r : RWD Tryd.prog h 23 [a]) : ∃ zs, SliceI h a zs ∧ zs.length ≤ 17592186043904 := by
  rcases rw_slice Tryd.underlying23 c3 y3 (by decide) r with e | ⟨b, off, len, e, hl, hc⟩
  · simp only [List.cons.injEq, and_true] at e
    exact ⟨[], .inl ⟨e, rfl⟩, Nat.zero_le _⟩
  · simp only [List.cons.injEq, and_true] at e
    subst e
    rw [reach_eq] at hl
    by_cases h0 : 0 < len
    · obtain ⟨c, t, hg, hat⟩ := hc h0
      obtain ⟨l, e1, e2⟩ := list_of (n := len) (Q := fun i (z : Int) => c[off + i]? = some (.int .i64 z)) fun i hi => by
        obtain ⟨h1, h2⟩ := hat i hi
        obtain ⟨z, hz, _⟩ := rw_int Tryd.underlying3 h2
        rw [Nat.mul_one] at hz
        exact ⟨z, one_take hz⟩
      refine ⟨l, .inr ⟨b, off, 0, by rw [e1], fun _ => ⟨c, t, hw b _ hg, hg, e2⟩⟩, by omega⟩
    · have : len = 0 := by omega
      subst this
      exact ⟨[], .inr ⟨b, off, 0, rfl, fun q => absurd rfl q⟩, Nat.zero_le _⟩
theorem rd_edges {a : Value} (r : RWD Tryd.prog h 22 [a]) : ∃ es : List (Int × Int), SliceR h a 2 (es.map evRow) ∧ es.length ≤ 17592186043904 := by
  rcases rw_slice Tryd.underlying22 c28 y28 (by decide) r with e | ⟨b, off, len, e, hl, hc⟩
  · simp only [List.cons.injEq, and_true] at e
    exact ⟨[], .inl ⟨e, rfl⟩, Nat.zero_le _⟩
  · simp only [List.cons.injEq, and_true] at e
    subst e
    rw [reach_eq] at hl
    by_cases h0 : 0 < len
    · obtain ⟨c, t, hg, hat⟩ := hc h0
      obtain ⟨l, e1, e2⟩ := list_of (n := len) (Q := fun i (z : Int × Int) => off + i * 2 + 2 ≤ c.length ∧ (c.drop (off + i * 2)).take 2 = evRow z) fun i hi => by
        obtain ⟨h1, h2⟩ := hat i hi
        obtain ⟨h3, h4⟩ := rw_array Tryd.underlying28 h2
        obtain ⟨x, hx, _⟩ := rw_int Tryd.underlying3 (h4 0 (by decide))
        obtain ⟨y, hy, _⟩ := rw_int Tryd.underlying3 (h4 1 (by decide))
        rw [c28] at h3
        rw [c3] at hx hy
        refine ⟨(x, y), h1, ?_⟩
        match hq : (c.drop (off + i * 2)).take 2, h3 with
        | [p, q], _ =>
          rw [hq] at hx hy
          simp at hx hy
          rw [hx, hy]; rfl
      refine ⟨l, .inr ⟨b, off, 0, by rw [List.length_map, e1], fun _ => ⟨c, t, hw b _ hg, hg, fun i r hr => ?_⟩⟩, by omega⟩
      rw [List.getElem?_map] at hr
      cases hz : l[i]? with
      | none => rw [hz] at hr; cases hr
      | some z =>
        rw [hz] at hr
        cases hr
        exact e2 i z hz
    · have : len = 0 := by omega
      subst this
      exact ⟨[], .inr ⟨b, off, 0, rfl, fun q => absurd rfl q⟩, Nat.zero_le _⟩
end
end Go.Fw
