/-
  ROWS OF ROWS of one's own: each node's next ones.
-/
import Derived.Test.YtogpghbigjnpnaaDoorFlS
namespace Go.Fl
open Go.Ai
set_option linter.unusedVariables false
set_option linter.unusedSimpArgs false
def adj (E : List (Nat × Nat)) (u : Nat) : List Nat := (E.filter (fun e => e.1 == u)).map (·.2)
theorem adj_mem {E : List (Nat × Nat)} {u v : Nat} : (u, v) ∈ E ↔ v ∈ adj E u := by
  unfold adj
  simp only [List.mem_map, List.mem_filter, beq_iff_eq]
  constructor
  · intro h; exact ⟨(u, v), ⟨h, rfl⟩, rfl⟩
  · rintro ⟨⟨a, b⟩, ⟨h, rfl⟩, rfl⟩; exact h
theorem adj_snoc {E : List (Nat × Nat)} {a b u : Nat} : adj (E ++ [(a, b)]) u = if u = a then adj E u ++ [b] else adj E u := by
  unfold adj
  rw [List.filter_append, List.map_append]
  by_cases h : u = a
  · subst h; simp
  · have : ¬ a = u := fun e => h e.symm
    simp [h, this]
theorem adj_len {E : List (Nat × Nat)} {u : Nat} : (adj E u).length ≤ E.length := by
  unfold adj
  rw [List.length_map]; exact List.length_filter_le ..
theorem pull_at {α : Type} : ∀ {l : List α} {i : Nat} {a : α}, l[i]? = some a → l.Perm (a :: l.eraseIdx i)
  | [], _, _, h => by simp at h
  | x :: l, 0, a, h => by
    have : x = a := by simpa using h
    subst this
    exact .refl _
  | x :: l, i + 1, a, h => by
    have := pull_at (l := l) (i := i) (a := a) (by simpa using h)
    exact (this.cons x).trans (.swap ..)
theorem put_at {α : Type} : ∀ {l : List α} {i : Nat} {a : α}, i < l.length → (l.set i a).Perm (a :: l.eraseIdx i)
  | [], _, _, h => by simp at h
  | x :: l, 0, a, h => .refl _
  | x :: l, i + 1, a, h => by
    have := put_at (l := l) (i := i) (a := a) (by simpa using h)
    exact (this.cons x).trans (.swap ..)
theorem zip_set {α β γ : Type} {f : α → β → γ} : ∀ {l : List α} {m : List β} {i : Nat} {a : α} {b : β}, List.zipWith f (l.set i a) (m.set i b) = (List.zipWith f l m).set i (f a b)
  | [], m, i, a, b => by simp
  | x :: l, [], i, a, b => by simp
  | x :: l, y :: m, 0, a, b => rfl
  | x :: l, y :: m, i + 1, a, b => by
    simp only [List.set_cons_succ, List.zipWith_cons_cons]
    rw [zip_set]
def natRow (z : Nat) : List Value := [.int .i64 (z : Int)]
def tabL (ty : TypeId) (vs : List Value) (nx : List (List Nat)) : List HP := List.zipWith (fun v r => slc ty 1 v (r.map natRow)) vs nx
def tab (ty : TypeId) (vs : List Value) (nx : List (List Nat)) : HP := stars (tabL ty vs nx)
section
variable {lo : Low} {h : AHeap} {L : List HP} {ty : TypeId} {vs : List Value} {nx : List (List Nat)} {i : Nat} {v v' : Value} {r r' : List Nat}
theorem tab_new (s : Sat lo h L) (n : Nat) : Sat lo h (tab ty (List.replicate n (.slice none 0 0)) (List.replicate n []) :: L) := by
  refine Sat.close ?_
  induction n with
  | zero => exact s
  | succ n ih => exact slc_nil ty 1 ih
theorem tab_at (h1 : vs[i]? = some v) (h2 : nx[i]? = some r) : (tabL ty vs nx)[i]? = some (slc ty 1 v (r.map natRow)) := by
  unfold tabL
  rw [List.getElem?_zipWith, h1, h2]
theorem tab_open (s : Sat lo h (tab ty vs nx :: L)) (h1 : vs[i]? = some v) (h2 : nx[i]? = some r) : Sat lo h (slc ty 1 v (r.map natRow) :: stars ((tabL ty vs nx).eraseIdx i) :: L) := by
  refine Sat.cons (fun _ q => Sat.close q) ?_
  exact s.open.perm ((pull_at (tab_at h1 h2)).append_right L)
theorem tab_close (h1 : vs[i]? = some v) (h2 : nx[i]? = some r) (s : Sat lo h (slc ty 1 v' (r'.map natRow) :: stars ((tabL ty vs nx).eraseIdx i) :: L)) : Sat lo h (tab ty (vs.set i v') (nx.set i r') :: L) := by
  refine Sat.close ?_
  unfold tabL
  rw [zip_set]
  have hi : i < (tabL ty vs nx).length := by
    rcases Nat.lt_or_ge i (tabL ty vs nx).length with q | q
    · exact q
    · have := tab_at (ty := ty) h1 h2
      rw [List.getElem?_eq_none q] at this; cases this
  exact (Sat.cons (fun _ q => Sat.open q) s).perm ((put_at hi).symm.append_right L)
end
/-- A block is set aside. -/
theorem hide_s {lo : Low} {h : AHeap} {L : List HP} {b : Nat} {o : AObj} (s : Sat lo h (pt b o :: L)) : ∃ lo1, lo.Le lo1 ∧ Sat lo1 (h.hide [b]) L ∧ ∀ h2 L', Sat lo1 h2 L' → Sat lo (h2.unhide h [b]) (pt b o :: L') := by
  have hg := s.get
  have hlt := s.lt
  have hbs := s.base
  obtain ⟨a, ha, d, w, s⟩ := s
  have hab : a b = some o := by rw [ha b, if_pos rfl]
  have hlo : lo.get b = none := d b o hab
  have han : ∀ x, ¬ x = b → a x = none := fun x hx => by rw [ha x, if_neg hx]
  have uget : ∀ x, ¬ x = b → (lo.un a).get x = lo.get x := fun x hx => Low.un_none (han x hx)
  have hbs2 := s.base
  refine ⟨⟨fun x => if x = b then some none else lo.get x, lo.ro⟩, ⟨rfl, fun x y e => ?_⟩, s.to (fun x hx e => ?_) ⟨hbs.ro, hbs.rok, fun x y e => ?_⟩ rfl (Nat.le_refl _) (fun x hx e => ?_), fun h2 L' s2 => ?_⟩
  · show (if x = b then some none else lo.get x) = some y
    rw [if_neg (fun q => by rw [q, hlo] at e; cases e)]; exact e
  · have hx : ¬ x = b := fun q => by rw [q, Low.un_some hab] at e; cases e
    show (if x = b then some none else lo.get x) = none
    rw [if_neg hx, ← uget x hx]; exact e
  · have e : (if x = b then some none else lo.get x) = some y := e
    rw [get_hide]
    by_cases hx : x = b
    · subst hx
      rw [if_pos rfl] at e
      cases e
      rw [if_pos (List.mem_singleton.2 rfl)]
      exact ⟨rfl, hlt⟩
    · rw [if_neg hx] at e
      rw [if_neg (fun q => hx (List.mem_singleton.1 q))]
      exact hbs.get x y e
  · have hx : ¬ x = b := fun q => by rw [q, Low.un_some hab] at e; cases e
    rw [get_hide, if_neg (fun q => hx (List.mem_singleton.1 q))]
  · have b2 := s2.base
    have l2 : b < h2.next := (b2.get b none (by show (if b = b then some none else lo.get b) = _; rw [if_pos rfl])).2
    refine ⟨a, ha, d, w, s2.to (fun x hx e => ?_) ⟨?_, ?_, fun x y e => ?_⟩ rfl (Nat.le_refl _) (fun x hx e => ?_)⟩
    · have e : (if x = b then some none else lo.get x) = none := e
      by_cases q : x = b
      · rw [if_pos q] at e; cases e
      · rw [if_neg q] at e; rw [uget x q]; exact e
    · exact b2.ro
    · exact b2.rok
    · show (h2.unhide h [b]).get x = y ∧ x < h2.next
      rw [get_unhide]
      by_cases q : x = b
      · subst q
        rw [if_pos (List.mem_singleton.2 rfl), hg]
        rw [Low.un_some hab] at e
        exact ⟨Option.some.inj e, l2⟩
      · rw [if_neg (fun q2 => q (List.mem_singleton.1 q2))]
        rw [uget x q] at e
        exact b2.get x y (by show (if x = b then some none else lo.get x) = _; rw [if_neg q]; exact e)
    · have e : (if x = b then some none else lo.get x) = none := e
      have q : ¬ x = b := fun q => by rw [if_pos q] at e; cases e
      rw [get_unhide, if_neg (fun q2 => q (List.mem_singleton.1 q2))]
/-- A new block beside loads. -/
theorem push_un {lo : Low} {h : AHeap} {L : List HP} (s : Sat lo h L) {hid : List Nat} (hl : ∀ b, b ∈ hid → b < h.next) (o : AObj) : Sat lo (((h.hide hid).push o).unhide h hid) (pt h.next o :: L) := by
  refine (s.push o).like (Nat.le_refl _) rfl fun b hb => ?_
  rw [get_unhide, AHeap.get_push, AHeap.get_push, get_hide]
  have hn : (h.hide hid).next = h.next := rfl
  rw [hn]
  by_cases q : b ∈ hid
  · have : ¬ b = h.next := fun e => by have := hl b q; omega
    rw [if_pos q, if_neg this]
  · rw [if_neg q, if_neg q]
end Go.Fl
