/-
  FLOW, pure: the least numbers over some edges.
-/
import Derived.Test.YtogpghbigjnpnaaDoorAiD
namespace Go.Fl
set_option linter.unusedVariables false
/-- From one node to another, along edges. -/
inductive Reach (E : List (Nat × Nat)) : Nat → Nat → Prop
  | here (a : Nat) : Reach E a a
  | step {a u v : Nat} : Reach E a u → (u, v) ∈ E → Reach E a v
/-- What is looked for. -/
structure Sol (n : Nat) (E : List (Nat × Nat)) (start x : Nat → Int) : Prop where
  ge : ∀ i, i < n → start i ≤ x i
  edge : ∀ u v, (u, v) ∈ E → x u ≤ x v
  some : ∀ i, i < n → ∃ a, a < n ∧ Reach E a i ∧ x i = start a
variable {n : Nat} {E : List (Nat × Nat)} {start x y : Nat → Int}
theorem Reach.le (h : ∀ u v, (u, v) ∈ E → x u ≤ x v) {a i : Nat} (r : Reach E a i) : x a ≤ x i := by
  induction r with
  | here => exact Int.le_refl _
  | step _ e ih => exact Int.le_trans ih (h _ _ e)
theorem Sol.one (X : Sol n E start x) (Y : Sol n E start y) {i : Nat} (hi : i < n) : x i = y i := by
  obtain ⟨a, ha, r, e⟩ := X.some i hi
  obtain ⟨b, hb, s, f⟩ := Y.some i hi
  have h1 := r.le Y.edge
  have h2 := s.le X.edge
  have h3 := Y.ge a ha
  have h4 := X.ge b hb
  omega
theorem Reach.mono {E' : List (Nat × Nat)} (h : ∀ e, e ∈ E → e ∈ E') {a i : Nat} (r : Reach E a i) : Reach E' a i := by
  induction r with
  | here => exact .here _
  | step _ e ih => exact .step ih (h _ e)
/-- More edges: no number is lesser. -/
theorem Sol.more {E' : List (Nat × Nat)} (h : ∀ e, e ∈ E → e ∈ E') (X : Sol n E start x) (Y : Sol n E' start y) {i : Nat} (hi : i < n) : x i ≤ y i := by
  obtain ⟨a, ha, r, e⟩ := X.some i hi
  have := (r.mono h).le Y.edge
  have := Y.ge a ha
  omega
/-- A greater start: neither; and what is greater by more than one is the new start. -/
theorem Sol.up {s : Nat → Int} {k : Nat} (X : Sol n E start x) (Z : Sol n E s y) (h : ∀ i, ¬ i = k → s i = start i) (hk : start k ≤ s k) {i : Nat} (hi : i < n) : x i ≤ y i ∧ (y i ≤ x i ∨ y i = s k) := by
  obtain ⟨a, ha, r, e⟩ := X.some i hi
  obtain ⟨b, hb, q, f⟩ := Z.some i hi
  have h1 := r.le Z.edge
  have h2 := Z.ge a ha
  have h3 := q.le X.edge
  have h4 := X.ge b hb
  have h5 : start a ≤ s a := by
    by_cases e : a = k
    · rw [e]; exact hk
    · rw [h a e]; exact Int.le_refl _
  refine ⟨by omega, ?_⟩
  by_cases e : b = k
  · exact .inr (by rw [f, e])
  · exact .inl (by rw [f, h b e]; omega)
/-! ### The search, the greatest ones first -/
/-- Some roots are done. -/
structure Out (n : Nat) (E : List (Nat × Nat)) (start x : Nat → Int) (D : Nat → Prop) (low : Int) : Prop where
  lt : ∀ i, D i → i < n
  old : ∀ i, ¬ D i → x i = start i
  closed : ∀ u v, (u, v) ∈ E → D u → D v ∧ x u ≤ x v
  some : ∀ i, D i → (∃ a, a < n ∧ Reach E a i ∧ x i = start a) ∧ low ≤ x i ∧ start i ≤ x i
/-- From a root on. -/
structure In (n : Nat) (E : List (Nat × Nat)) (start x0 : Nat → Int) (D0 : Nat → Prop) (a : Nat) (x : Nat → Int) (D : Nat → Prop) (S : List Nat) : Prop where
  sub : ∀ i, D0 i → D i ∧ x i = x0 i
  old : ∀ i, ¬ D i → x i = start i
  mine : ∀ i, D i → ¬ D0 i → i < n ∧ Reach E a i ∧ x i = start a
  stack : ∀ u, u ∈ S → D u ∧ ¬ D0 u
  closed : ∀ u v, (u, v) ∈ E → D u → ¬ u ∈ S → D v
theorem Out.begin : Out n E start start (fun _ => False) 0 := ⟨fun i h => h.elim, fun i h => rfl, fun u v e h => h.elim, fun i h => h.elim⟩
theorem In.begin {x0 : Nat → Int} {D0 : Nat → Prop} {low : Int} {a : Nat} (O : Out n E start x0 D0 low) (ha : a < n) (hd : ¬ D0 a) : In n E start x0 D0 a x0 (fun i => D0 i ∨ i = a) [a] := by
  refine ⟨fun i h => ⟨.inl h, rfl⟩, fun i h => O.old i fun q => h (.inl q), fun i h q => ?_, fun u hu => ?_, fun u v e h hu => ?_⟩
  · rcases h with h | h
    · exact absurd h q
    · subst h; exact ⟨ha, .here _, O.old _ hd⟩
  · rw [List.mem_singleton.1 hu]; exact ⟨.inr rfl, hd⟩
  · rcases h with h | h
    · exact .inl (O.closed u v e h).1
    · exact absurd (List.mem_singleton.2 h) hu
/-- The root's search is over. -/
theorem In.done {x0 : Nat → Int} {D0 D : Nat → Prop} {low : Int} {a : Nat} (O : Out n E start x0 D0 low) (I : In n E start x0 D0 a x D []) (he : ∀ u v, (u, v) ∈ E → v < n) (ha : a < n) (hl : start a ≤ low) (hs : ∀ i, i < n → ¬ D0 i → start i ≤ start a) : Out n E start x D (start a) := by
  have lowx : ∀ i, D i → start a ≤ x i := fun i h => by
    by_cases q : D0 i
    · have := (O.some i q).2.1
      rw [(I.sub i q).2]; omega
    · rw [(I.mine i h q).2.2]; exact Int.le_refl _
  refine ⟨fun i h => ?_, I.old, fun u v e h => ?_, fun i h => ⟨?_, lowx i h, ?_⟩⟩
  · by_cases q : D0 i
    · exact O.lt i q
    · exact (I.mine i h q).1
  · have hv := I.closed u v e h (by intro q; cases q)
    refine ⟨hv, ?_⟩
    by_cases q : D0 u
    · obtain ⟨c1, c2⟩ := O.closed u v e q
      rw [(I.sub u q).2, (I.sub v c1).2]; exact c2
    · rw [(I.mine u h q).2.2]; exact lowx v hv
  · by_cases q : D0 i
    · obtain ⟨⟨b, hb, r, e⟩, _⟩ := O.some i q
      exact ⟨b, hb, r, by rw [(I.sub i q).2, e]⟩
    · obtain ⟨h1, h2, h3⟩ := I.mine i h q
      exact ⟨a, ha, h2, h3⟩
  · by_cases q : D0 i
    · have := (O.some i q).2.2
      rw [(I.sub i q).2]; exact this
    · obtain ⟨h1, h2, h3⟩ := I.mine i h q
      rw [h3]; exact hs i h1 q
end Go.Fl
