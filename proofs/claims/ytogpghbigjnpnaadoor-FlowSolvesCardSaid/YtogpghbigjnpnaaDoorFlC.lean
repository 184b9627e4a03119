/-
  FLOW, pure: the search, on rows.
-/
import Derived.Test.YtogpghbigjnpnaaDoorFlB
namespace Go.Fl
set_option linter.unusedVariables false
variable {n : Nat} {E : List (Nat × Nat)} {start x x' x0 : Nat → Int} {D D' D0 : Nat → Prop} {a b m : Nat} {S : List Nat}
/-- From a root on, a node's edges being gone through. -/
structure InR (n : Nat) (E : List (Nat × Nat)) (start x0 : Nat → Int) (D0 : Nat → Prop) (a : Nat) (x : Nat → Int) (D : Nat → Prop) (S : List Nat) (m : Nat) (R : List Nat) : Prop where
  sub : ∀ i, D0 i → D i ∧ x i = x0 i
  old : ∀ i, ¬ D i → x i = start i
  mine : ∀ i, D i → ¬ D0 i → i < n ∧ Reach E a i ∧ x i = start a
  stack : ∀ u, u ∈ S → D u ∧ ¬ D0 u
  closed : ∀ u v, (u, v) ∈ E → D u → ¬ u ∈ S → D v ∨ (u = m ∧ v ∈ R)
  at' : D m ∧ ¬ D0 m
  to : ∀ v, v ∈ R → (m, v) ∈ E
theorem In.pop {nx : List Nat} (I : In n E start x0 D0 a x D (S ++ [m])) (h : ∀ v, (m, v) ∈ E ↔ v ∈ nx) : InR n E start x0 D0 a x D S m nx := by
  refine ⟨I.sub, I.old, I.mine, fun u h => I.stack u (by simp [h]), fun u v e d hu => ?_, I.stack m (by simp), fun v hv => (h v).2 hv⟩
  by_cases q : u = m
  · subst q
    exact .inr ⟨rfl, (h v).1 e⟩
  · exact .inl (I.closed u v e d (by simp [hu, q]))
theorem InR.skip {R : List Nat} (I : InR n E start x0 D0 a x D S m (b :: R)) (h : D b) : InR n E start x0 D0 a x D S m R := by
  refine ⟨I.sub, I.old, I.mine, I.stack, fun u v e d hu => ?_, I.at', fun v hv => I.to v (List.mem_cons_of_mem _ hv)⟩
  rcases I.closed u v e d hu with q | ⟨q, r⟩
  · exact .inl q
  · rcases List.mem_cons.1 r with r | r
    · subst r; exact .inl h
    · exact .inr ⟨q, r⟩
theorem InR.push {R : List Nat} (I : InR n E start x0 D0 a x D S m (b :: R)) (hb : b < n) (h : ¬ D b) (hD : ∀ i, D' i ↔ D i ∨ i = b) (hx : x' b = start a) (hx2 : ∀ i, ¬ i = b → x' i = x i) : InR n E start x0 D0 a x' D' (S ++ [b]) m R := by
  have h0 : ¬ D0 b := fun q => h (I.sub b q).1
  refine ⟨fun i q => ?_, fun i q => ?_, fun i q r => ?_, fun u hu => ?_, fun u v e d hu => ?_, ⟨(hD m).2 (.inl I.at'.1), I.at'.2⟩, fun v hv => I.to v (List.mem_cons_of_mem _ hv)⟩
  · have := I.sub i q
    exact ⟨(hD i).2 (.inl this.1), by rw [hx2 i fun e => h0 (e ▸ q), this.2]⟩
  · have q2 : ¬ i = b := fun e => q ((hD i).2 (.inr e))
    rw [hx2 i q2]
    exact I.old i fun d => q ((hD i).2 (.inl d))
  · by_cases q2 : i = b
    · subst q2
      exact ⟨hb, .step (I.mine m I.at'.1 I.at'.2).2.1 (I.to i (List.mem_cons_self ..)), hx⟩
    · rw [hx2 i q2]
      exact I.mine i (((hD i).1 q).resolve_right q2) r
  · rcases List.mem_append.1 hu with hu | hu
    · have := I.stack u hu
      exact ⟨(hD u).2 (.inl this.1), this.2⟩
    · rw [List.mem_singleton.1 hu]
      exact ⟨(hD b).2 (.inr rfl), h0⟩
  · have hu2 : ¬ u = b := fun e => hu (by simp [e])
    rcases I.closed u v e (((hD u).1 d).resolve_right hu2) (fun q => hu (by simp [q])) with q | ⟨q, r⟩
    · exact .inl ((hD v).2 (.inl q))
    · rcases List.mem_cons.1 r with r | r
      · exact .inl ((hD v).2 (.inr r))
      · exact .inr ⟨q, r⟩
theorem InR.done (I : InR n E start x0 D0 a x D S m []) : In n E start x0 D0 a x D S :=
  ⟨I.sub, I.old, I.mine, I.stack, fun u v e d hu => (I.closed u v e d hu).resolve_right fun q => by cases q.2⟩
/-! ### On rows -/
def on (dn : List Bool) (i : Nat) : Prop := dn[i]? = some true
theorem on_set {dn : List Bool} {b i : Nat} (h : b < dn.length) : on (dn.set b true) i ↔ on dn i ∨ i = b := by
  unfold on
  rw [List.getElem?_set]
  by_cases e : b = i
  · subst e
    simp [h]
  · have : ¬ i = b := fun q => e q.symm
    simp [e, this]
/-- How many are not met yet. -/
def left : List Bool → Nat
  | [] => 0
  | x :: d => (!x).toNat + left d
theorem left_set : ∀ {dn : List Bool} {b : Nat}, dn[b]? = some false → left (dn.set b true) + 1 = left dn
  | [], _, h => by simp at h
  | x :: d, 0, h => by
    have : x = false := by simpa using h
    subst this
    show 0 + left d + 1 = 1 + left d
    omega
  | x :: d, b + 1, h => by
    have := left_set (dn := d) (b := b) (by simpa using h)
    show (!x).toNat + left (d.set b true) + 1 = (!x).toNat + left d
    omega
/-- The outer loop, before the k-th of the order. -/
structure Mn (n : Nat) (E : List (Nat × Nat)) (start : Nat → Int) (ord : List Nat) (k : Nat) (out : List Int) (dn : List Bool) : Prop where
  olen : out.length = n
  dlen : dn.length = n
  o : ∃ low, Out n E start (at0 out) (on dn) low ∧ ∀ j a, k ≤ j → ord[j]? = some a → start a ≤ low
  met : ∀ (j a : Nat), j < k → ord[j]? = some a → on dn a
/-- The order: the greatest ones first. -/
structure Order (n : Nat) (start : Nat → Int) (ord : List Nat) : Prop where
  lt : ∀ (j a : Nat), ord[j]? = some a → a < n
  all : ∀ i, i < n → ∃ j : Nat, ord[j]? = some i
  sorted : ∀ (j k a b : Nat), j < k → ord[j]? = some a → ord[k]? = some b → start b ≤ start a
variable {ord : List Nat} {k : Nat} {out : List Int} {dn : List Bool}
theorem Mn.begin {s : List Int} (h : s.length = n) (hs : ∀ i, i < n → start i = at0 s i) (hn : ∀ i, ¬ i < n → start i = at0 s i) (M : Int) (hM : ∀ i, start i ≤ M) : Mn n E start ord 0 s (List.replicate n false) := by
  have no : ∀ i, ¬ on (List.replicate n false) i := fun i h => by
    unfold on at h
    rw [List.getElem?_replicate] at h
    split at h <;> simp at h
  refine ⟨h, List.length_replicate .., ⟨M, ⟨fun i h => absurd h (no i), fun i _ => ?_, fun u v e h => absurd h (no u), fun i h => absurd h (no i)⟩, fun j a _ _ => hM a⟩, fun j a h => absurd h (by omega)⟩
  by_cases q : i < n
  · exact (hs i q).symm
  · exact (hn i q).symm
theorem Mn.skip (X : Mn n E start ord k out dn) (e : ord[k]? = some a) (h : on dn a) : Mn n E start ord (k + 1) out dn := by
  obtain ⟨low, O, hl⟩ := X.o
  refine ⟨X.olen, X.dlen, ⟨low, O, fun j c hj => hl j c (by omega)⟩, fun j c hj ej => ?_⟩
  by_cases q : j = k
  · subst q
    rw [e] at ej
    cases ej
    exact h
  · exact X.met j c (by omega) ej
/-- In the search from the k-th. -/
structure Sr (n : Nat) (E : List (Nat × Nat)) (start : Nat → Int) (x0 : Nat → Int) (D0 : Nat → Prop) (a : Nat) (out : List Int) (dn : List Bool) (S : List Nat) : Prop where
  olen : out.length = n
  dlen : dn.length = n
  i : In n E start x0 D0 a (at0 out) (on dn) S
  r : on dn a
structure SrR (n : Nat) (E : List (Nat × Nat)) (start : Nat → Int) (x0 : Nat → Int) (D0 : Nat → Prop) (a : Nat) (out : List Int) (dn : List Bool) (S : List Nat) (m : Nat) (R : List Nat) : Prop where
  olen : out.length = n
  dlen : dn.length = n
  i : InR n E start x0 D0 a (at0 out) (on dn) S m R
  r : on dn a
theorem Mn.search (X : Mn n E start ord k out dn) (ho : Order n start ord) (e : ord[k]? = some a) (h : ¬ on dn a) : Sr n E start (at0 out) (on dn) a out (dn.set a true) [a] := by
  obtain ⟨low, O, hl⟩ := X.o
  have ha := ho.lt k a e
  have I := In.begin O ha h
  refine ⟨X.olen, by rw [List.length_set, X.dlen], ?_, (on_set (by rw [X.dlen]; exact ha)).2 (.inr rfl)⟩
  have : (fun i => on dn i ∨ i = a) = on (dn.set a true) := funext fun i => propext (on_set (by rw [X.dlen]; exact ha)).symm
  rw [this] at I
  exact I
theorem Mn.over (X : Mn n E start ord k out dn) (ho : Order n start ord) (he : ∀ u v, (u, v) ∈ E → v < n) (e : ord[k]? = some a) (h : ¬ on dn a) {out' : List Int} {dn' : List Bool} (Y : Sr n E start (at0 out) (on dn) a out' dn' []) : Mn n E start ord (k + 1) out' dn' := by
  obtain ⟨low, O, hl⟩ := X.o
  have ha := ho.lt k a e
  have O' := In.done O Y.i he ha (hl k a (Nat.le_refl _) e) fun i hi hd => by
    obtain ⟨j, ej⟩ := ho.all i hi
    by_cases q : j < k
    · exact absurd (X.met j i q ej) hd
    · by_cases q2 : j = k
      · subst q2
        rw [e] at ej
        cases ej
        exact Int.le_refl _
      · exact ho.sorted k j a i (by omega) e ej
  refine ⟨Y.olen, Y.dlen, ⟨start a, O', fun j c hj ej => ho.sorted k j a c (by omega) e ej⟩, fun j c hj ej => ?_⟩
  by_cases q : j = k
  · subst q
    rw [e] at ej
    cases ej
    exact Y.r
  · exact (Y.i.sub c (X.met j c (by omega) ej)).1
theorem Mn.sol (X : Mn n E start ord k out dn) (ho : Order n start ord) (hE : ∀ u v, (u, v) ∈ E → u < n) (hk : ord.length ≤ k) : Sol n E start (at0 out) := by
  obtain ⟨low, O, hl⟩ := X.o
  have all : ∀ i, i < n → on dn i := fun i hi => by
    obtain ⟨j, ej⟩ := ho.all i hi
    refine X.met j i ?_ ej
    have : j < ord.length := by
      rcases Nat.lt_or_ge j ord.length with q | q
      · exact q
      · rw [List.getElem?_eq_none q] at ej; cases ej
    omega
  refine ⟨fun i hi => (O.some i (all i hi)).2.2, fun u v e => ?_, fun i hi => (O.some i (all i hi)).1⟩
  exact (O.closed u v e (all u (hE u v e))).2
theorem Sr.pop {x0 : Nat → Int} {D0 : Nat → Prop} {nx : List Nat} (X : Sr n E start x0 D0 a out dn (S ++ [m])) (h : ∀ v, (m, v) ∈ E ↔ v ∈ nx) : SrR n E start x0 D0 a out dn S m nx := ⟨X.olen, X.dlen, X.i.pop h, X.r⟩
theorem SrR.skip {x0 : Nat → Int} {D0 : Nat → Prop} {R : List Nat} (X : SrR n E start x0 D0 a out dn S m (b :: R)) (h : on dn b) : SrR n E start x0 D0 a out dn S m R := ⟨X.olen, X.dlen, X.i.skip h, X.r⟩
theorem SrR.push {x0 : Nat → Int} {D0 : Nat → Prop} {R : List Nat} (X : SrR n E start x0 D0 a out dn S m (b :: R)) (hb : b < n) (h : ¬ on dn b) : SrR n E start x0 D0 a (out.set b (start a)) (dn.set b true) (S ++ [b]) m R := by
  refine ⟨by rw [List.length_set, X.olen], by rw [List.length_set, X.dlen], X.i.push hb h (fun i => on_set (by rw [X.dlen]; exact hb)) ?_ fun i hi => ?_, (on_set (by rw [X.dlen]; exact hb)).2 (.inl X.r)⟩
  · rw [at0_set, if_pos ⟨rfl, by rw [X.olen]; exact hb⟩]
  · rw [at0_set, if_neg fun q => hi q.1]
theorem SrR.done {x0 : Nat → Int} {D0 : Nat → Prop} (X : SrR n E start x0 D0 a out dn S m []) : Sr n E start x0 D0 a out dn S := ⟨X.olen, X.dlen, X.i.done, X.r⟩
end Go.Fl
