/-
  A call without arguments that looks at some tables alone answers the same on every heap that holds their cells, and leaves it.
-/
import Derived.Test.YtogpghbigjnpnaaDoorAiD
set_option linter.unusedVariables false
namespace Go.Ai
noncomputable section
variable {P : Program}
theorem TC_closedC {f : FuncId} {v : Value} {m : Nat} {tabs : List (Nat × List Value)} (hv : scal v = true) (hn : P.globals.size ≤ m) (hfl : ∀ x, x ∈ tabs → x.1 < m ∧ x.1 < P.globals.size ∧ x.2.all flat = true) (ht : TC P f [] (tabled m tabs) (fun v1 _ => v1 = v)) {h : AHeap}
    (hh : ∀ x, x ∈ tabs → ∃ c t, h.get x.1 = some (.cells c t) ∧ ∀ (i : Nat) y, x.2[i]? = some y → c[i]? = some y) : TC P f [] h (fun v1 h1 => v1 = v ∧ h1 = h) := by
  intro ρ w cargs hr hvl
  have hT : ∀ x, x ∈ tabs → x.1 < m ∧ x.2.all flat = true ∧ HoldsTab w x.1 x.2 := by
    intro x hx
    obtain ⟨f1, f2, f3⟩ := hfl x hx
    refine ⟨f1, f3, ?_⟩
    obtain ⟨c, t, hc, hce⟩ := hh x hx
    obtain ⟨pl, hm, cs, fz, h1, h2, h3, h4, h5, h6⟩ := hr.ok x.1 _ hc
    obtain ⟨g1, g2⟩ := hr.glob x.1 pl f2 hm
    refine ⟨cs, t, fz, by rw [← g1]; exact h1, fun i y hy => ?_⟩
    obtain ⟨z, hz, hzz⟩ := h6 i y (hce i y hy)
    simp only [g2, Nat.zero_add] at hz
    rw [hz]
    simp only [List.all_eq_true] at f3
    rw [flat_eq hzz (f3 y (List.mem_of_getElem? hy))]
  refine (ht _ w cargs (rel_tabled P w m tabs hn hT) ?_).mono fun e w' => ?_
  · cases hvl.nil_inv; exact .nil _
  rintro ⟨v1, v', h1, ρ', rfl, rfl, st, hvr⟩
  have hsame : ∀ c, c < w.heap.size → w'.heap[c]? = w.heap[c]? := fun c hc => st.frame c hc (by
    rintro ⟨b, o, pl, hb, hro, _⟩
    obtain ⟨c', hc', _⟩ := get_tabled hb
    have h1 := (hfl _ hc').1
    have h2 : m ≤ b := hro
    omega)
  exact ⟨v1, v', h, ρ, rfl, ⟨rfl, rfl⟩, ⟨Ren.le_refl _, hr.grow hsame, rfl, st.os, st.tape, st.output, st.size, fun c hc _ => hsame c hc, fun c _ hm => hm⟩, scal_eq hvr hv ρ⟩
end
end Go.Ai
