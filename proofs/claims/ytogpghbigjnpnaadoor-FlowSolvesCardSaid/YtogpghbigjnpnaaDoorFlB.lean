/-
  FLOW, pure: the law's own rounds.
-/
import Derived.Test.YtogpghbigjnpnaaDoorFlA
namespace Go.Fl
set_option linter.unusedVariables false
variable {n : Nat} {E : List (Nat × Nat)} {start : Nat → Int} {w : List Int} {M : Int}
def at0 (w : List Int) (i : Nat) : Int := w.getD i 0
theorem at0_get {i : Nat} (h : i < w.length) : w[i]? = some (at0 w i) := by
  unfold at0
  rw [List.getD_eq_getElem?_getD, List.getElem?_eq_getElem h]; rfl
theorem at0_set {v i : Nat} {x : Int} : at0 (w.set v x) i = if i = v ∧ i < w.length then x else at0 w i := by
  unfold at0
  simp only [List.getD_eq_getElem?_getD, List.getElem?_set]
  by_cases h : v = i
  · subst h
    by_cases q : v < w.length
    · simp [q]
    · simp [q]
  · have : ¬ i = v := fun e => h e.symm
    simp [h, this]
structure Rx (n : Nat) (E : List (Nat × Nat)) (start : Nat → Int) (w : List Int) : Prop where
  len : w.length = n
  ge : ∀ i, i < n → start i ≤ at0 w i
  some : ∀ i, i < n → ∃ a, a < n ∧ Reach E a i ∧ at0 w i = start a
theorem Rx.begin {s : List Int} (h : s.length = n) (hs : ∀ i, i < n → start i = at0 s i) : Rx n E start s :=
  ⟨h, fun i hi => by rw [hs i hi]; exact Int.le_refl _, fun i hi => ⟨i, hi, .here _, (hs i hi).symm⟩⟩
theorem Rx.set (X : Rx n E start w) {u v : Nat} (he : (u, v) ∈ E) (hu : u < n) (hv : v < n) (lt : at0 w v < at0 w u) : Rx n E start (w.set v (at0 w u)) := by
  refine ⟨by rw [List.length_set, X.len], fun i hi => ?_, fun i hi => ?_⟩
  · rw [at0_set]
    split
    · rename_i h
      have := X.ge v hv
      rw [h.1]; omega
    · exact X.ge i hi
  · rw [at0_set]
    split
    · rename_i h
      obtain ⟨a, ha, r, e⟩ := X.some u hu
      exact ⟨a, ha, by rw [h.1]; exact .step r he, e⟩
    · exact X.some i hi
theorem Rx.sol (X : Rx n E start w) (h : ∀ u v, (u, v) ∈ E → at0 w u ≤ at0 w v) : Sol n E start (at0 w) := ⟨X.ge, h, X.some⟩
theorem Rx.most (X : Rx n E start w) (hM : ∀ i, i < n → start i ≤ M) {i : Nat} (hi : i < n) : at0 w i ≤ M := by
  obtain ⟨a, ha, r, e⟩ := X.some i hi
  rw [e]; exact hM a ha
/-- How far it may go on. -/
def gap (M : Int) : List Int → Nat
  | [] => 0
  | x :: w => (M - x).toNat + gap M w
theorem gap_set {x : Int} : ∀ {w : List Int} {v : Nat}, v < w.length → at0 w v < x → x ≤ M → gap M (w.set v x) < gap M w
  | [], _, h, _, _ => absurd h (by simp)
  | y :: w, 0, _, h1, h2 => by
    have : y < x := h1
    show (M - x).toNat + gap M w < (M - y).toNat + gap M w
    omega
  | y :: w, v + 1, h, h1, h2 => by
    have q1 : v < w.length := by simpa using h
    have q2 : at0 w v < x := h1
    have := gap_set q1 q2 h2
    show (M - y).toNat + gap M (w.set v x) < (M - y).toNat + gap M w
    omega
/-- In a round, at some edge. -/
structure Rnd (n : Nat) (E : List (Nat × Nat)) (start : Nat → Int) (M : Int) (g : Nat) (i : Nat) (w : List Int) (again : Bool) : Prop where
  x : Rx n E start w
  calm : again = false → ∀ j u v, j < i → E[j]? = some (u, v) → at0 w u ≤ at0 w v
  fall : gap M w + again.toNat ≤ g
theorem Rnd.begin (X : Rx n E start w) : Rnd n E start M (gap M w) 0 w false := ⟨X, fun _ j u v h => absurd h (by omega), Nat.le_refl _⟩
variable {g i : Nat} {again : Bool} {u v : Nat}
theorem Rnd.next (R : Rnd n E start M g i w again) (e : E[i]? = some (u, v)) (h : ¬ at0 w v < at0 w u) : Rnd n E start M g (i + 1) w again := by
  refine ⟨R.x, fun c j a b hj ej => ?_, R.fall⟩
  by_cases q : j = i
  · subst q
    rw [e] at ej
    cases ej
    omega
  · exact R.calm c j a b (by omega) ej
theorem Rnd.turn (R : Rnd n E start M g i w again) (hM : ∀ i, i < n → start i ≤ M) (e : E[i]? = some (u, v)) (hu : u < n) (hv : v < n) (h : at0 w v < at0 w u) : Rnd n E start M g (i + 1) (w.set v (at0 w u)) true := by
  have he : (u, v) ∈ E := List.mem_of_getElem? e
  refine ⟨R.x.set he hu hv h, fun c => Bool.noConfusion c, ?_⟩
  have := gap_set (M := M) (w := w) (v := v) (x := at0 w u) (by rw [R.x.len]; exact hv) h (R.x.most hM hu)
  have := R.fall
  cases again
  · simp only [Bool.toNat_false] at this
    simp only [Bool.toNat_true]
    omega
  · simp only [Bool.toNat_true] at this ⊢
    omega
theorem Rnd.sol (R : Rnd n E start M g i w false) (hi : E.length ≤ i) : Sol n E start (at0 w) := by
  refine R.x.sol fun u v h => ?_
  obtain ⟨j, hj, e⟩ := List.getElem_of_mem h
  exact R.calm rfl j u v (by omega) (by rw [List.getElem?_eq_getElem hj, e])
end Go.Fl
