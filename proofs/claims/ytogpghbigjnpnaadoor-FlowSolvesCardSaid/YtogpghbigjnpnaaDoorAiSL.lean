/-
  HEAPS IN PARTS: what a heap holds, told part by part; what stands aside stays.
-/
import Derived.Test.YtogpghbigjnpnaaDoorAiD
set_option linter.unusedVariables false
namespace Go.Ai
noncomputable section
abbrev Part := Nat → Option AObj
/-- What stands still: of some blocks it is told what is there. -/
structure Low where
  get : Nat → Option (Option AObj)
  ro : Nat
def Low.un (lo : Low) (a : Part) : Low := ⟨fun x => match a x with
  | some o => some (some o)
  | none => lo.get x, lo.ro⟩
def Low.of (h : AHeap) : Low := ⟨fun b => if b < h.next then some (h.get b) else none, h.ro⟩
def Low.dj (lo : Low) (a : Part) : Prop := ∀ x o, a x = some o → lo.get x = none
structure Low.Le (lo lo' : Low) : Prop where
  ro : lo'.ro = lo.ro
  get : ∀ b x, lo.get b = some x → lo'.get b = some x
structure Base (lo : Low) (h : AHeap) : Prop where
  ro : h.ro = lo.ro
  rok : h.ro ≤ h.next
  get : ∀ b x, lo.get b = some x → h.get b = x ∧ b < h.next
abbrev HP := Part → Prop
/-- A heap: the parts told of, each by itself, beside what stands still. -/
def Sat (lo : Low) (h : AHeap) : List HP → Prop
  | [] => Base lo h
  | A :: L => ∃ a, A a ∧ lo.dj a ∧ (∀ b o, a b = some o → lo.ro ≤ b) ∧ Sat (lo.un a) h L
theorem Low.Le.refl (lo : Low) : lo.Le lo := ⟨rfl, fun _ _ h => h⟩
theorem Low.Le.trans {a b c : Low} (x : a.Le b) (y : b.Le c) : a.Le c := ⟨y.ro.trans x.ro, fun i o h => y.get i o (x.get i o h)⟩
theorem Low.le_un {lo : Low} {a : Part} (d : lo.dj a) : lo.Le (lo.un a) := ⟨rfl, fun b x h => by
  unfold Low.un
  cases e : a b with
  | none => simp only [e]; exact h
  | some o => rw [d b o e] at h; cases h⟩
theorem Low.un_some {lo : Low} {a : Part} {b : Nat} {o : AObj} (e : a b = some o) : (lo.un a).get b = some (some o) := by simp only [Low.un, e]
theorem Low.un_none {lo : Low} {a : Part} {b : Nat} (e : a b = none) : (lo.un a).get b = lo.get b := by simp only [Low.un, e]
theorem Low.un_comm {lo : Low} {a c : Part} (d : (lo.un a).dj c) : (lo.un a).un c = (lo.un c).un a := by
  unfold Low.un
  congr 1
  funext x
  cases e : c x with
  | none => simp only [e]
  | some o =>
    have := d x o e
    simp only [Low.un] at this
    cases e2 : a x with
    | none => simp only [e]
    | some p => rw [e2] at this; cases this
theorem Low.dj_of {lo : Low} {a c : Part} (d : lo.dj a) (k : (lo.un a).dj c) : lo.dj c := fun x o e => by
  cases e2 : lo.get x with
  | none => rfl
  | some p => rw [← k x o e, (Low.le_un d).get x p e2]
theorem Low.dj_swap {lo : Low} {a c : Part} (d : lo.dj a) (k : (lo.un a).dj c) : (lo.un c).dj a := fun x o e => by
  cases e2 : c x with
  | none => rw [Low.un_none e2]; exact d x o e
  | some p => have := k x p e2; rw [Low.un_some e] at this; cases this
theorem Low.Le.dj {lo lo' : Low} (l : lo.Le lo') {a : Part} (d : lo'.dj a) : lo.dj a := fun x o e => by
  cases e2 : lo.get x with
  | none => rfl
  | some p => rw [← d x o e, l.get x p e2]
theorem Low.Le.un {lo lo' : Low} (l : lo.Le lo') (a : Part) : (lo.un a).Le (lo'.un a) := ⟨l.ro, fun b x h => by
  cases e : a b with
  | none => rw [Low.un_none e] at h ⊢; exact l.get b x h
  | some o => rw [Low.un_some e] at h ⊢; exact h⟩
theorem Base.mono {lo lo' : Low} {h : AHeap} (l : lo.Le lo') (x : Base lo' h) : Base lo h := ⟨x.ro.trans l.ro, x.rok, fun b y e => x.get b y (l.get b y e)⟩
theorem Sat.mono {h : AHeap} : ∀ {L : List HP} {lo lo' : Low}, lo.Le lo' → Sat lo' h L → Sat lo h L
  | [], lo, lo', l, x => Base.mono l x
  | A :: L, lo, lo', l, ⟨a, ha, d, w, x⟩ => ⟨a, ha, l.dj d, fun b o e => by rw [← l.ro]; exact w b o e, Sat.mono (l.un a) x⟩
theorem Sat.base {h : AHeap} : ∀ {L : List HP} {lo : Low}, Sat lo h L → Base lo h
  | [], _, x => x
  | A :: L, _, ⟨_, _, d, _, x⟩ => (Sat.base x).mono (Low.le_un d)
/-- A part of the list. -/
theorem Sat.part {h : AHeap} {A : HP} : ∀ {L : List HP} {lo : Low}, Sat lo h L → A ∈ L → ∃ a, A a ∧ lo.dj a ∧ ∀ b o, a b = some o → h.get b = some o ∧ h.ro ≤ b ∧ b < h.next
  | B :: L, lo, ⟨a, ha, d, w, x⟩, hm => by
    rcases List.mem_cons.1 hm with rfl | hm
    · refine ⟨a, ha, d, fun b o e => ?_⟩
      have bs := Sat.base x
      obtain ⟨g1, g2⟩ := bs.get b _ (Low.un_some e)
      exact ⟨g1, by rw [bs.ro]; exact w b o e, g2⟩
    · obtain ⟨c, hc, dc, g⟩ := Sat.part x hm
      exact ⟨c, hc, Low.dj_of d dc, g⟩
theorem Sat.swap {h : AHeap} {A B : HP} {L : List HP} {lo : Low} (x : Sat lo h (A :: B :: L)) : Sat lo h (B :: A :: L) := by
  obtain ⟨a, ha, d, w, c, hc, dc, wc, x⟩ := x
  exact ⟨c, hc, Low.dj_of d dc, wc, a, ha, Low.dj_swap d dc, w, by rw [← Low.un_comm dc]; exact x⟩
theorem Sat.cons {h : AHeap} {A : HP} {L L' : List HP} (f : ∀ lo, Sat lo h L → Sat lo h L') {lo : Low} (x : Sat lo h (A :: L)) : Sat lo h (A :: L') := by
  obtain ⟨a, ha, d, w, x⟩ := x
  exact ⟨a, ha, d, w, f _ x⟩
theorem Sat.perm {h : AHeap} {L L' : List HP} (p : L.Perm L') : ∀ {lo : Low}, Sat lo h L → Sat lo h L' := by
  induction p with
  | nil => exact fun x => x
  | cons A p ih => exact fun x => x.cons fun lo => ih
  | swap A B L => exact fun x => x.swap
  | trans p q ih1 ih2 => exact fun x => ih2 (ih1 x)
theorem Sat.drop {h : AHeap} {A : HP} {L : List HP} {lo : Low} (x : Sat lo h (A :: L)) : Sat lo h L := by
  obtain ⟨a, ha, d, w, x⟩ := x
  exact x.mono (Low.le_un d)
theorem Sat.drops {h : AHeap} {L' : List HP} {lo : Low} : ∀ {L : List HP}, Sat lo h (L ++ L') → Sat lo h L'
  | [], x => x
  | A :: L, x => Sat.drops (L := L) x.drop
/-- The i-th one ahead. -/
def pullAt : Nat → List HP → List HP
  | 0, L => L
  | _ + 1, [] => []
  | i + 1, A :: L => match pullAt i L with
    | [] => [A]
    | B :: L' => B :: A :: L'
theorem perm_pull : ∀ (i : Nat) (L : List HP), L.Perm (pullAt i L)
  | 0, L => List.Perm.refl _
  | _ + 1, [] => List.Perm.refl _
  | i + 1, A :: L => by
    have ih := perm_pull i L
    unfold pullAt
    split
    · rename_i e; rw [e] at ih; exact ih.cons A
    · rename_i B L' e; rw [e] at ih; exact (ih.cons A).trans (List.Perm.swap _ _ _)
theorem Sat.p {h : AHeap} {L : List HP} {lo : Low} (x : Sat lo h L) (i : Nat) : Sat lo h (pullAt i L) := x.perm (perm_pull i L)
/-- Some of them, in that order, ahead. -/
def pulls : List Nat → List HP → List HP
  | [], L => L
  | i :: is, L => pulls is (pullAt i L)
theorem Sat.ps {h : AHeap} {lo : Low} : ∀ (is : List Nat) {L : List HP}, Sat lo h L → Sat lo h (pulls is L)
  | [], _, x => x
  | i :: is, _, x => Sat.ps is (x.p i)
/-- Those of these places ahead, in that order. -/
def frontGo : List Nat → List Nat → List HP → List HP
  | [], _, L => L
  | i :: is, prev, L => match pullAt (i - (prev.filter fun j => Nat.blt j i).length) L with
    | [] => []
    | A :: L' => A :: frontGo is (i :: prev) L'
def front (is : List Nat) (L : List HP) : List HP := frontGo is [] L
theorem perm_frontGo : ∀ (is prev : List Nat) (L : List HP), L.Perm (frontGo is prev L)
  | [], _, L => List.Perm.refl _
  | i :: is, prev, L => by
    have p := perm_pull (i - (prev.filter fun j => Nat.blt j i).length) L
    unfold frontGo
    split
    · rename_i e; rw [e] at p; exact p
    · rename_i A L' e; rw [e] at p; exact p.trans ((perm_frontGo _ _ L').cons A)
theorem perm_front (is : List Nat) (L : List HP) : L.Perm (front is L) := perm_frontGo _ _ _
theorem Sat.f {h : AHeap} {L : List HP} {lo : Low} (x : Sat lo h L) (is : List Nat) : Sat lo h (front is L) := x.perm (perm_front is L)
/-- The first n of them alone. -/
theorem Sat.keep {h : AHeap} {L : List HP} {lo : Low} (x : Sat lo h L) (n : Nat) : Sat lo h (L.take n) := by
  have q : (L.take n ++ L.drop n).Perm (L.drop n ++ L.take n) := List.perm_append_comm
  rw [List.take_append_drop] at q
  exact (x.perm q).drops
/-- Those of these places alone. -/
theorem Sat.k {h : AHeap} {L : List HP} {lo : Low} (x : Sat lo h L) (is : List Nat) : Sat lo h ((front is L).take is.length) := (x.f is).keep _
/-- Another heap, that differs at no block told of in the list. -/
theorem Sat.to {h h' : AHeap} : ∀ {L : List HP} {lo lo' : Low}, Sat lo h L → (∀ b, b < h.next → lo.get b = none → lo'.get b = none) → Base lo' h' → lo'.ro = lo.ro → h.next ≤ h'.next → (∀ b, b < h.next → lo.get b = none → h'.get b = h.get b) → Sat lo' h' L
  | [], _, _, _, _, b, _, _, _ => b
  | A :: L, lo, lo', ⟨a, ha, d, w, x⟩, k, b, r, n, g => by
    have bs := Sat.base x
    have lt : ∀ y o, a y = some o → y < h.next := fun y o e => (bs.get y _ (Low.un_some e)).2
    have dn : ∀ y, (lo.un a).get y = none → a y = none ∧ lo.get y = none := fun y e => by
      cases e2 : a y with
      | none => rw [Low.un_none e2] at e; exact ⟨rfl, e⟩
      | some o => rw [Low.un_some e2] at e; cases e
    refine ⟨a, ha, fun y o e => k y (lt y o e) (d y o e), fun y o e => by rw [r]; exact w y o e, Sat.to x (fun y hy e => ?_) ?_ r n fun y hy e => ?_⟩
    · rw [Low.un_none (dn y e).1]; exact k y hy (dn y e).2
    · refine ⟨b.ro, b.rok, fun y z e => ?_⟩
      cases e2 : a y with
      | none => rw [Low.un_none e2] at e; exact b.get y z e
      | some o =>
        rw [Low.un_some e2] at e
        cases e
        exact ⟨(g y (lt y o e2) (d y o e2)).trans (bs.get y _ (Low.un_some e2)).1, Nat.lt_of_lt_of_le (lt y o e2) n⟩
    · exact g y hy (dn y e).2
/-- What a call of another does beside some of the parts: these stand still. -/
theorem Sat.away {h : AHeap} {L2 : List HP} : ∀ {L1 : List HP} {lo : Low}, Sat lo h (L1 ++ L2) → ∃ lo1, lo.Le lo1 ∧ Sat lo1 h L2 ∧ ∀ h' L', Sat lo1 h' L' → Sat lo h' (L1 ++ L')
  | [], lo, x => ⟨lo, .refl lo, x, fun _ _ y => y⟩
  | A :: L1, lo, ⟨a, ha, d, w, x⟩ => by
    obtain ⟨lo1, l, s, f⟩ := Sat.away (L1 := L1) x
    exact ⟨lo1, (Low.le_un d).trans l, s, fun h' L' y => ⟨a, ha, d, w, f h' L' y⟩⟩
/-- The same, the parts that are wanted ahead. -/
theorem Sat.call {h : AHeap} {L1 L2 : List HP} {lo : Low} (x : Sat lo h (L2 ++ L1)) : ∃ lo1, lo.Le lo1 ∧ Sat lo1 h L2 ∧ ∀ h' L', Sat lo1 h' L' → Sat lo h' (L' ++ L1) := by
  obtain ⟨lo1, l, s, f⟩ := Sat.away (x.perm List.perm_append_comm)
  exact ⟨lo1, l, s, fun h' L' y => (f h' L' y).perm List.perm_append_comm⟩
/-! ### Parts -/
/-- A block. -/
def pt (b : Nat) (o : AObj) : HP := fun m => ∀ x, m x = if x = b then some o else none
theorem Sat.gets {h : AHeap} {L : List HP} {lo : Low} (x : Sat lo h L) {b : Nat} {o : AObj} (hm : pt b o ∈ L) : h.get b = some o ∧ h.ro ≤ b ∧ b < h.next := by
  obtain ⟨a, ha, _, g⟩ := x.part hm
  exact g b o (by rw [ha b, if_pos rfl])
theorem Sat.get {h : AHeap} {L : List HP} {lo : Low} {b : Nat} {o : AObj} (x : Sat lo h (pt b o :: L)) : h.get b = some o := (x.gets (List.mem_cons_self ..)).1
theorem Sat.wr {h : AHeap} {L : List HP} {lo : Low} {b : Nat} {o : AObj} (x : Sat lo h (pt b o :: L)) : h.ro ≤ b := (x.gets (List.mem_cons_self ..)).2.1
theorem Sat.lt {h : AHeap} {L : List HP} {lo : Low} {b : Nat} {o : AObj} (x : Sat lo h (pt b o :: L)) : b < h.next := (x.gets (List.mem_cons_self ..)).2.2
theorem Sat.ne {h : AHeap} {L : List HP} {lo : Low} {b c : Nat} {o o' : AObj} (x : Sat lo h (pt b o :: pt c o' :: L)) : ¬ b = c := by
  rintro rfl
  obtain ⟨a, ha, d, w, e, he, de, we, x⟩ := x
  have := de b o' (by rw [he, if_pos rfl])
  rw [Low.un_some (o := o) (by rw [ha, if_pos rfl])] at this
  cases this
/-- A new block. -/
theorem Sat.push {h : AHeap} {L : List HP} {lo : Low} (x : Sat lo h L) (o : AObj) : Sat lo (h.push o) (pt h.next o :: L) := by
  have bs := x.base
  have hn : lo.get h.next = none := by
    cases e : lo.get h.next with
    | none => rfl
    | some y => exact absurd (bs.get _ _ e).2 (Nat.lt_irrefl _)
  refine ⟨fun y => if y = h.next then some o else none, fun _ => rfl, fun y p e => ?_, fun y p e => ?_, x.to (fun y hy e => ?_) ⟨bs.ro, Nat.le_succ_of_le bs.rok, fun y z e => ?_⟩ rfl (Nat.le_succ _) fun y hy _ => get_push_lt hy⟩
  · dsimp only at e; split at e
    · rename_i q; rw [q]; exact hn
    · cases e
  · dsimp only at e; split at e
    · rename_i q; rw [q, ← bs.ro]; exact bs.rok
    · cases e
  · rw [Low.un_none (by rw [if_neg (by omega)])]; exact e
  · by_cases q : y = h.next
    · subst q
      rw [Low.un_some (o := o) (by rw [if_pos rfl])] at e
      cases e
      exact ⟨get_push_self, Nat.lt_succ_self _⟩
    · rw [Low.un_none (by rw [if_neg q])] at e
      obtain ⟨g1, g2⟩ := bs.get y z e
      exact ⟨(get_push_lt g2).trans g1, Nat.lt_succ_of_lt g2⟩
/-- A block is turned. -/
theorem Sat.set {h : AHeap} {L : List HP} {lo : Low} {b : Nat} {o : AObj} (x : Sat lo h (pt b o :: L)) (o' : AObj) : Sat lo (h.set b (some o')) (pt b o' :: L) := by
  obtain ⟨a, ha, d, w, x⟩ := x
  have hb : lo.get b = none := d b o (by rw [ha b, if_pos rfl])
  have bs := x.base
  refine ⟨fun y => if y = b then some o' else none, fun _ => rfl, fun y p e => ?_, fun y p e => ?_, x.to (fun y hy e => ?_) ⟨bs.ro, bs.rok, fun y z e => ?_⟩ rfl (Nat.le_refl _) fun y hy e => ?_⟩
  · dsimp only at e; split at e
    · rename_i q; rw [q]; exact hb
    · cases e
  · dsimp only at e; split at e
    · rename_i q; rw [q]; exact w b o (by rw [ha b, if_pos rfl])
    · cases e
  · have q : y ≠ b := by rintro rfl; rw [Low.un_some (o := o) (by rw [ha, if_pos rfl])] at e; cases e
    rw [Low.un_none (by rw [ha, if_neg q])] at e
    rw [Low.un_none (by rw [if_neg q])]; exact e
  · by_cases q : y = b
    · subst q
      rw [Low.un_some (o := o') (by rw [if_pos rfl])] at e
      cases e
      exact ⟨get_set_self, (bs.get y _ (Low.un_some (o := o) (by rw [ha, if_pos rfl]))).2⟩
    · rw [Low.un_none (by rw [if_neg q])] at e
      obtain ⟨g1, g2⟩ := bs.get y z (by rw [Low.un_none (by rw [ha, if_neg q])]; exact e)
      exact ⟨(get_set_ne q).trans g1, g2⟩
  · have q : y ≠ b := by rintro rfl; rw [Low.un_some (o := o) (by rw [ha, if_pos rfl])] at e; cases e
    exact get_set_ne q
/-- A block is told of no more. -/
theorem Sat.forget {h : AHeap} {L : List HP} {lo : Low} {b : Nat} {o : AObj} (x : Sat lo h (pt b o :: L)) (z : Option AObj) : Sat lo (h.set b z) L := by
  obtain ⟨a, ha, d, w, x⟩ := x
  have hb : lo.get b = none := d b o (by rw [ha b, if_pos rfl])
  have bs := x.base
  refine x.to (fun y hy e => ?_) ⟨bs.ro, bs.rok, fun y z e => ?_⟩ rfl (Nat.le_refl _) fun y hy e => ?_
  · cases q : lo.get y with
    | none => rfl
    | some v => rw [(Low.le_un d).get y v q] at e; cases e
  · have q : y ≠ b := by rintro rfl; rw [hb] at e; cases e
    obtain ⟨g1, g2⟩ := bs.get y z ((Low.le_un d).get y z e)
    exact ⟨(get_set_ne q).trans g1, g2⟩
  · have q : y ≠ b := by rintro rfl; rw [Low.un_some (o := o) (by rw [ha, if_pos rfl])] at e; cases e
    exact get_set_ne q
/-! ### Questions, with heaps that are told of part by part -/
theorem nw_s {h : AHeap} {L : List HP} {lo : Low} {c : List Value} {t : TypeId} {K : Value → AHeap → Prop} (s : Sat lo h L) (k : ∀ b h', Sat lo h' (pt b (.cells c t) :: L) → K (.pointer (some ⟨b, 0, none⟩)) h') : nw h c t K := k _ _ (s.push _)
theorem sto_s {h : AHeap} {L : List HP} {lo : Low} {b off : Nat} {cs vs : List Value} {t : TypeId} {K : AHeap → Prop} (s : Sat lo h (pt b (.cells cs t) :: L)) (hl : off + vs.length ≤ cs.length) (hc : vs.all cellOk = true) (k : ∀ h', Sat lo h' (pt b (.cells (setMany cs off vs) t) :: L) → K h') : opt (sto h b off vs) K := by
  rw [sto_of s.get, if_pos ⟨hl, s.wr, hc⟩]
  exact k _ (s.set _)
theorem rv_none {h : AHeap} {R : Value → AHeap → Prop} : rv [] h R = R (aresult []) h := by
  unfold rv
  simp only [nobot, true_and]
/-- Heaps that read the same. -/
theorem Sat.like {h h' : AHeap} {L : List HP} {lo : Low} (x : Sat lo h L) (hn : h.next ≤ h'.next) (hr : h'.ro = h.ro) (hg : ∀ b, b < h.next → h'.get b = h.get b) : Sat lo h' L := by
  have bs := x.base
  exact x.to (fun _ _ e => e) ⟨hr.trans bs.ro, by rw [hr]; exact Nat.le_trans bs.rok hn, fun b y e => ⟨(hg b (bs.get b y e).2).trans (bs.get b y e).1, Nat.lt_of_lt_of_le (bs.get b y e).2 hn⟩⟩ rfl hn fun b hb _ => hg b hb
/-- Some. -/
def ex {α : Type} (f : α → HP) : HP := fun m => ∃ x, f x m
theorem Sat.ex_iff {h : AHeap} {α : Type} {f : α → HP} {L : List HP} {lo : Low} : Sat lo h (ex f :: L) ↔ ∃ x, Sat lo h (f x :: L) :=
  ⟨fun ⟨a, ⟨x, hx⟩, d, w, s⟩ => ⟨x, a, hx, d, w, s⟩, fun ⟨x, a, hx, d, w, s⟩ => ⟨a, ⟨x, hx⟩, d, w, s⟩⟩
theorem Sat.unex {h : AHeap} {α : Type} {f : α → HP} {L : List HP} {lo : Low} (s : Sat lo h (ex f :: L)) : ∃ x, Sat lo h (f x :: L) := Sat.ex_iff.1 s
theorem Sat.mkex {h : AHeap} {α : Type} {f : α → HP} {L : List HP} {lo : Low} (x : α) (s : Sat lo h (f x :: L)) : Sat lo h (ex f :: L) := Sat.ex_iff.2 ⟨x, s⟩
/-- What is so. -/
def fact (p : Prop) : HP := fun m => p ∧ ∀ x, m x = none
theorem Low.un_emp {lo : Low} {a : Part} (e : ∀ x, a x = none) : lo.un a = lo := by
  unfold Low.un
  cases lo
  congr 1
  funext x
  simp only [e x]
theorem Sat.fact_iff {h : AHeap} {p : Prop} {L : List HP} {lo : Low} : Sat lo h (fact p :: L) ↔ p ∧ Sat lo h L :=
  ⟨fun ⟨a, ⟨hp, ha⟩, d, w, s⟩ => ⟨hp, by rw [Low.un_emp ha] at s; exact s⟩, fun ⟨hp, s⟩ => ⟨fun _ => none, ⟨hp, fun _ => rfl⟩, fun _ _ e => (by cases e), fun _ _ e => (by cases e), by rw [Low.un_emp fun _ => rfl]; exact s⟩⟩
/-- Several, as one. -/
def stars : List HP → HP
  | [] => fun m => ∀ x, m x = none
  | A :: L => fun m => ∃ a b, A a ∧ stars L b ∧ (∀ x o, b x = some o → a x = none) ∧ ∀ x, m x = match b x with
    | some o => some o
    | none => a x
theorem Low.un_un {lo : Low} {a b m : Part} (hm : ∀ x, m x = match b x with
    | some o => some o
    | none => a x) : lo.un m = (lo.un a).un b := by
  unfold Low.un
  congr 1
  funext x
  rw [hm x]
  cases b x <;> rfl
theorem Sat.stars_iff {h : AHeap} {L : List HP} : ∀ {M : List HP} {lo : Low}, Sat lo h (stars M :: L) ↔ Sat lo h (M ++ L)
  | [], lo => ⟨fun ⟨a, ha, d, w, s⟩ => by rw [Low.un_emp ha] at s; exact s, fun s => ⟨fun _ => none, fun _ => rfl, fun _ _ e => (by cases e), fun _ _ e => (by cases e), by rw [Low.un_emp fun _ => rfl]; exact s⟩⟩
  | A :: M, lo => by
    constructor
    · rintro ⟨m, ⟨a, b, ha, hb, dab, hm⟩, d, w, s⟩
      have da : lo.dj a := fun x o e => by
        cases q : b x with
        | none => exact d x o (by rw [hm x, q]; exact e)
        | some p => rw [dab x p q] at e; cases e
      refine ⟨a, ha, da, fun x o e => ?_, Sat.stars_iff.1 ⟨b, hb, fun x o e => ?_, fun x o e => ?_, ?_⟩⟩
      · cases q : b x with
        | none => exact w x o (by rw [hm x, q]; exact e)
        | some p => rw [dab x p q] at e; cases e
      · rw [Low.un_none (dab x o e)]; exact d x o (by rw [hm x, e])
      · exact w x o (by rw [hm x, e])
      · rw [← Low.un_un hm]; exact s
    · rintro ⟨a, ha, d, w, s⟩
      obtain ⟨b, hb, db, wb, s⟩ := Sat.stars_iff.2 s
      refine ⟨fun x => match b x with
        | some o => some o
        | none => a x, ⟨a, b, ha, hb, fun x o e => ?_, fun _ => rfl⟩, fun x o e => ?_, fun x o e => ?_, ?_⟩
      · cases q : a x with
        | none => rfl
        | some p => have := db x o e; rw [Low.un_some q] at this; cases this
      · dsimp only at e; split at e
        · rename_i p q; exact Low.dj_of d db x p q
        · exact d x o e
      · dsimp only at e; split at e
        · rename_i p q; exact wb x p q
        · exact w x o e
      · rw [Low.un_un (a := a) (b := b) fun _ => rfl]; exact s
theorem Sat.open {h : AHeap} {M L : List HP} {lo : Low} (s : Sat lo h (stars M :: L)) : Sat lo h (M ++ L) := Sat.stars_iff.1 s
theorem Sat.close {h : AHeap} {M L : List HP} {lo : Low} (s : Sat lo h (M ++ L)) : Sat lo h (stars M :: L) := Sat.stars_iff.2 s
/-- The whole heap stands still. -/
theorem Sat.self {h : AHeap} (hr : h.ro ≤ h.next) : Sat (.of h) h [] := ⟨rfl, hr, fun b x e => by
  unfold Low.of at e
  dsimp only at e
  split at e
  · cases e; exact ⟨rfl, by assumption⟩
  · cases e⟩
/-- What was made ahead, and what is new. -/
theorem Sat.join {h h' : AHeap} {L L' : List HP} {lo : Low} (x : Sat lo h L) (y : Sat (.of h) h' L') : Sat lo h' (L' ++ L) := by
  have bx := x.base
  have by' := y.base
  have get : ∀ b, b < h.next → h'.get b = h.get b ∧ b < h'.next := fun b hb => by'.get b _ (by unfold Low.of; dsimp only; rw [if_pos hb])
  have hn : h.next ≤ h'.next := by
    rcases Nat.eq_zero_or_pos h.next with e | e
    · omega
    · have := (get (h.next - 1) (by omega)).2; omega
  -- the old parts, in the new heap; the new ones are told of ahead of them
  have key : ∀ (L' : List HP) (lo lo2 : Low), Sat lo2 h' L' → lo2.ro = lo.ro → (∀ b, b < h.next → lo2.get b ≠ none) → (∀ b, h.next ≤ b → lo.get b = lo2.get b) → Base lo h' →
      (∀ lo3, Low.Le lo lo3 → (∀ b, b < h.next → lo3.get b = lo.get b) → Base lo3 h' → Sat lo3 h' L) → Sat lo h' (L' ++ L) := by
    intro L'
    induction L' with
    | nil => intro lo lo2 _ _ _ _ b k; exact k lo (.refl lo) (fun _ _ => rfl) b
    | cons A L' ih =>
      rintro lo lo2 ⟨a, ha, d, w, s⟩ r f e b k
      have up : ∀ y o, a y = some o → h.next ≤ y := fun y o q => by
        rcases Nat.lt_or_ge y h.next with z | z
        · exact absurd (d y o q) (f y z)
        · exact z
      have bs := s.base
      have dl : lo.dj a := fun y o q => by rw [e y (up y o q)]; exact d y o q
      refine ⟨a, ha, dl, fun y o q => by rw [← r]; exact w y o q, ih (lo.un a) (lo2.un a) s r (fun y hy => ?_) (fun y hy => ?_) ⟨b.ro, b.rok, fun y z q => ?_⟩ fun lo3 l3 q3 b3 => k lo3 ((Low.le_un dl).trans l3) (fun y hy => ?_) b3⟩
      · cases q : a y with
        | none => rw [Low.un_none q]; exact f y hy
        | some o => rw [Low.un_some q]; simp
      · cases q : a y with
        | none => rw [Low.un_none q, Low.un_none q]; exact e y hy
        | some o => rw [Low.un_some q, Low.un_some q]
      · cases q2 : a y with
        | none => rw [Low.un_none q2] at q; exact b.get y z q
        | some o => rw [Low.un_some q2] at q; cases q; exact bs.get y _ (Low.un_some q2)
      · rw [q3 y hy]
        cases q : a y with
        | none => rw [Low.un_none q]
        | some o => have := up y o q; omega
  have rr : (Low.of h).ro = lo.ro := bx.ro
  refine key L' lo (.of h) y rr (fun b hb => by unfold Low.of; dsimp only; rw [if_pos hb]; simp) (fun b hb => ?_) ⟨by rw [by'.ro]; exact rr, by'.rok, fun b z e => ?_⟩ fun lo3 l3 q3 b3 => ?_
  · unfold Low.of; dsimp only; rw [if_neg (by omega)]
    cases e : lo.get b with
    | none => rfl
    | some z => have := (bx.get b z e).2; omega
  · obtain ⟨g1, g2⟩ := bx.get b z e
    exact ⟨(get b g2).1.trans g1, (get b g2).2⟩
  · exact x.to (fun b hb e => by rw [q3 b hb]; exact e) b3 l3.ro hn fun b hb _ => (get b hb).1
/-- The same parts, beside another word on what may be written. -/
theorem Sat.relow {h h' : AHeap} : ∀ {L : List HP} {lo lo' : Low}, Sat lo h L → lo'.get = lo.get → lo'.ro ≤ lo.ro → h'.ro = lo'.ro → h'.ro ≤ h'.next → h.next ≤ h'.next → (∀ b, b < h.next → h'.get b = h.get b) → Sat lo' h' L
  | [], lo, lo', x, g, r, e, k, n, he => ⟨e, k, fun b z hz => by
    rw [g] at hz
    obtain ⟨h1, h2⟩ := Base.get x b z hz
    exact ⟨(he b h2).trans h1, Nat.lt_of_lt_of_le h2 n⟩⟩
  | A :: L, lo, lo', ⟨a, ha, d, w, x⟩, g, r, e, k, n, he =>
    ⟨a, ha, fun y o q => by rw [g]; exact d y o q, fun b o q => Nat.le_trans r (w b o q), Sat.relow x (by unfold Low.un; rw [g]) r e k n he⟩
theorem Sat.graft {h h2 : AHeap} {L L' : List HP} {lo : Low} (s : Sat lo h L) (s2 : Sat (.of h.lock) h2 L') : Sat lo (Go.Ai.graft h h2) (L' ++ L) := by
  have b1 := s.base
  have b2 := s2.base
  have old : ∀ b, b < h.next → h2.get b = h.get b ∧ b < h2.next := fun b hb => b2.get b _ (by unfold Low.of; dsimp only; rw [if_pos (by exact hb)]; rfl)
  have hn : h.next ≤ h2.next := by
    rcases Nat.eq_zero_or_pos h.next with e | e
    · omega
    · have := (old (h.next - 1) (by omega)).2; omega
  have gr : (Go.Ai.graft h h2).ro = h.ro := rfl
  have gn : (Go.Ai.graft h h2).next = h2.next := rfl
  refine s.join (s2.relow (lo' := .of h) rfl b1.rok gr (by rw [gr, gn]; exact Nat.le_trans b1.rok hn) (by rw [gn]; exact Nat.le_refl _) fun b hb => ?_)
  rw [get_graft]
  by_cases q : h.next ≤ b
  · rw [if_pos ⟨q, hb⟩]
  · rw [if_neg (by omega), (old b (by omega)).1]
theorem nw_sw {h : AHeap} {L : List HP} {lo : Low} {c : List Value} {t : TypeId} {K : Value → AHeap → Prop} (s : Sat lo h L) (wf : WF' h) (k : ∀ b h', WF' h' → Sat lo h' (pt b (.cells c t) :: L) → K (.pointer (some ⟨b, 0, none⟩)) h') : nw h c t K := k _ _ (wf_pushO wf _) (s.push _)
theorem callX_s {P : Program} {g : FuncId} {args : List Value} {h : AHeap} {L : List HP} {lo : Low} {K R : Value → AHeap → Prop} (hc : callable P g = true) (hn : nobot args = true) (wf : WF' h) (s : Sat lo h L) (d : DC P g args h.lock R) (hk : ∀ v h2, R v h2 → (∀ L', Sat (.of h.lock) h2 L' → Sat lo (graft h h2) (L' ++ L)) → WF' (graft h h2) → K v (graft h h2)) : callX P g args h K := by
  have wl : WF' h.lock := ⟨wf.1, Nat.le_refl _⟩
  obtain ⟨v, h1, r, af, t⟩ := d wl
  refine ⟨hc, hn, v, h1, t, af, hk v h1 r (fun L' s2 => s.graft s2) ?_⟩
  have w1 := wl.af af
  have hn : h.next ≤ h1.next := af.next
  refine ⟨fun b o hb => ?_, ?_⟩
  · rw [get_graft] at hb
    show b < h1.next
    split at hb
    · omega
    · exact Nat.lt_of_lt_of_le (wf.1 b o hb) hn
  · show h.ro ≤ h1.next
    exact Nat.le_trans wf.2 hn
theorem DC.monoA {P : Program} {f : FuncId} {args : List Value} {h : AHeap} {R R' : Value → AHeap → Prop} (d : DC P f args h R) (m : ∀ v h1, R v h1 → WF' h1 → R' v h1) : DC P f args h R' := fun wf => by
  obtain ⟨v, h1, r, af, t⟩ := d wf
  exact ⟨v, h1, m v h1 r (wf.af af), af, t⟩
/-! ### Parts that a word on heaps and blocks tells of -/
def own (X : AHeap → (Nat → Prop) → Prop) : HP := fun m => ∃ g, X g (fun b => m b ≠ none) ∧ ∀ b o, m b = some o → g.get b = some o
/-- It holds in any heap that has these blocks. -/
def Mv (X : AHeap → (Nat → Prop) → Prop) : Prop := ∀ g h F G, X g F → (∀ b o, F b → g.get b = some o → h.get b = some o ∧ G b) → (∀ b, G b → h.ro ≤ b ∧ b < h.next) → X h G
theorem Sat.own_step {h : AHeap} {L : List HP} {lo : Low} {X : AHeap → (Nat → Prop) → Prop} (hX : Mv X) (s : Sat lo h (own X :: L)) : ∃ F : Nat → Prop, X h F ∧ (∀ b, F b → lo.get b = none ∧ h.ro ≤ b ∧ b < h.next) ∧ ∀ h1 F' X', Mv X' → h.next ≤ h1.next → h1.ro = h.ro → (∀ b, ¬ F b → b < h.next → h1.get b = h.get b) → X' h1 F' → (∀ b, F' b → F b ∨ h.next ≤ b) → (∀ b, F' b → h1.ro ≤ b ∧ b < h1.next) → Sat lo h1 (own X' :: L) := by
  obtain ⟨a, ⟨g, hx, hg⟩, d, w, s⟩ := s
  have bs := s.base
  have bl := bs.mono (Low.le_un d)
  have hF : ∀ b, a b ≠ none → lo.get b = none ∧ h.ro ≤ b ∧ b < h.next ∧ ∃ o, a b = some o ∧ h.get b = some o := fun b hb => by
    cases e : a b with
    | none => exact absurd e hb
    | some o =>
      obtain ⟨g1, g2⟩ := bs.get b _ (Low.un_some e)
      exact ⟨d b o e, by rw [bs.ro]; exact w b o e, g2, o, rfl, g1⟩
  refine ⟨fun b => a b ≠ none, hX g h _ _ hx (fun b o hb hgb => ?_) (fun b hb => ⟨(hF b hb).2.1, (hF b hb).2.2.1⟩), fun b hb => ⟨(hF b hb).1, (hF b hb).2.1, (hF b hb).2.2.1⟩, fun h1 F' X' hX' hn hr hget hx' hsub hok => ?_⟩
  · obtain ⟨_, _, _, o', e, g1⟩ := hF b hb
    rw [hg b o' e] at hgb
    cases hgb
    exact ⟨g1, hb⟩
  · classical
    let a' : Part := fun b => if F' b then h1.get b else none
    have ha' : ∀ b o, a' b = some o → F' b ∧ h1.get b = some o := fun b o e => by
      have e : (if F' b then h1.get b else none) = some o := e
      split at e
      · rename_i q; exact ⟨q, e⟩
      · cases e
    have out : ∀ b o, a' b = some o → lo.get b = none := fun b o e => by
      rcases hsub b (ha' b o e).1 with q | q
      · exact (hF b q).1
      · cases e2 : lo.get b with
        | none => rfl
        | some z => have := (bl.get b z e2).2; omega
    refine ⟨a', ⟨h1, hX' h1 h1 F' _ hx' (fun b o hb e => ⟨e, by show (if F' b then h1.get b else none) ≠ none; rw [if_pos hb, e]; simp⟩) (fun b hb => ?_), fun b o e => (ha' b o e).2⟩, out, fun b o e => ?_, s.to (fun b hb e => ?_) ⟨by rw [hr]; exact bs.ro, ?_, fun b z e => ?_⟩ rfl hn fun b hb e => ?_⟩
    · cases e : a' b with
      | none => exact absurd e hb
      | some o => exact hok b (ha' b o e).1
    · have := (hok b (ha' b o e).1).1
      rw [hr, bl.ro] at this; exact this
    · cases e2 : a b with
      | some o => rw [Low.un_some e2] at e; cases e
      | none =>
        rw [Low.un_none e2] at e
        cases e3 : a' b with
        | none => rw [Low.un_none e3]; exact e
        | some o =>
          rcases hsub b (ha' b o e3).1 with q | q
          · exact absurd e2 q
          · omega
    · rw [hr]; exact Nat.le_trans bs.rok hn
    · cases e3 : a' b with
      | some o =>
        rw [Low.un_some e3] at e; cases e
        exact ⟨(ha' b o e3).2, (hok b (ha' b o e3).1).2⟩
      | none =>
        rw [Low.un_none e3] at e
        obtain ⟨g1, g2⟩ := bl.get b z e
        refine ⟨(hget b (fun q => ?_) g2).trans g1, Nat.lt_of_lt_of_le g2 hn⟩
        rw [(hF b q).1] at e; cases e
    · cases e2 : a b with
      | some o => rw [Low.un_some e2] at e; cases e
      | none => exact hget b (fun q => q e2) hb
/-- A part of that kind, made of new blocks. -/
theorem Sat.own_new {h h1 : AHeap} {L : List HP} {lo : Low} {X : AHeap → (Nat → Prop) → Prop} {F : Nat → Prop} (hX : Mv X) (s : Sat lo h L) (hn : h.next ≤ h1.next) (hr : h1.ro = h.ro) (hget : ∀ b, b < h.next → h1.get b = h.get b) (hx : X h1 F) (hF : ∀ b, F b → h.next ≤ b ∧ b < h1.next) : Sat lo h1 (own X :: L) := by
  classical
  have bl := s.base
  let a : Part := fun b => if F b then h1.get b else none
  have ha : ∀ b o, a b = some o → F b ∧ h1.get b = some o := fun b o e => by
    have e : (if F b then h1.get b else none) = some o := e
    split at e
    · rename_i q; exact ⟨q, e⟩
    · cases e
  have out : ∀ b o, a b = some o → lo.get b = none := fun b o e => by
    have := (hF b (ha b o e).1).1
    cases e2 : lo.get b with
    | none => rfl
    | some z => have := (bl.get b z e2).2; omega
  have rok : h1.ro ≤ h.next := by rw [hr]; exact bl.rok
  refine ⟨a, ⟨h1, hX h1 h1 F _ hx (fun b o hb e => ⟨e, by show (if F b then h1.get b else none) ≠ none; rw [if_pos hb, e]; simp⟩) (fun b hb => ?_), fun b o e => (ha b o e).2⟩, out, fun b o e => ?_, s.to (fun b hb e => ?_) ⟨by rw [hr]; exact bl.ro, Nat.le_trans rok hn, fun b z e => ?_⟩ rfl hn fun b hb e => hget b hb⟩
  · cases e : a b with
    | none => exact absurd e hb
    | some o => have := hF b (ha b o e).1; omega
  · have := hF b (ha b o e).1
    have := bl.ro
    omega
  · cases e3 : a b with
    | none => rw [Low.un_none e3]; exact e
    | some o => have := hF b (ha b o e3).1; omega
  · cases e3 : a b with
    | some o =>
      rw [Low.un_some e3] at e; cases e
      exact ⟨(ha b o e3).2, (hF b (ha b o e3).1).2⟩
    | none =>
      rw [Low.un_none e3] at e
      obtain ⟨g1, g2⟩ := bl.get b z e
      exact ⟨(hget b g2).trans g1, Nat.lt_of_lt_of_le g2 hn⟩
/-! ### Memory that is read alone -/
/-- What stands still holds a whole heap. -/
structure Low.Has (lo : Low) (h0 : AHeap) : Prop where
  ro : lo.ro = h0.ro
  get : ∀ b, b < h0.next → lo.get b = some (h0.get b)
theorem Low.Has.mono {lo lo' : Low} {h0 : AHeap} (x : lo.Has h0) (l : lo.Le lo') : lo'.Has h0 := ⟨l.ro.trans x.ro, fun b hb => l.get b _ (x.get b hb)⟩
theorem Low.has_of (h : AHeap) : (Low.of h).Has h := ⟨rfl, fun b hb => by unfold Low.of; dsimp only; rw [if_pos hb]⟩
theorem Low.Has.old {lo : Low} {h0 h : AHeap} (x : lo.Has h0) (b : Base lo h) : h0.next ≤ h.next ∧ h.ro = h0.ro ∧ ∀ c, c < h0.next → h.get c = h0.get c := by
  refine ⟨?_, b.ro.trans x.ro, fun c hc => (b.get c _ (x.get c hc)).1⟩
  rcases Nat.eq_zero_or_pos h0.next with e | e
  · omega
  · have := (b.get (h0.next - 1) _ (x.get _ (by omega))).2; omega
end
/-- As a word, and not unfolded: the kernel would unfold the other side. -/
theorem bk_eq (A : (List Value → AHeap → Prop) → Prop) (J : List Value → AHeap → Prop) : BK A J = A J := rfl
end Go.Ai
