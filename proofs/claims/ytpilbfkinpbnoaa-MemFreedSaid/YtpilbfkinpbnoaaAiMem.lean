/-
  LOADS, STORES, NEW BLOCKS: what an abstract heap says of them holds in every world that it describes.
-/
import Derived.Test.YtpilbfkinpbnoaaAiBase
import Derived.Laws.Sem
import Derived.Laws.Cells
namespace Go.Ai
noncomputable section
variable {P : Program}

theorem Rel.place {ρ : Ren} {h : AHeap} {w : World} (hr : Rel P ρ h w) {b : Nat} {c : List Value} {t : TypeId} {pl : Place} (hg : h.get b = some (.cells c t)) (hm : ρ.m b = some pl) :
    CellsOk P ρ (decide (h.ro ≤ b)) c t pl w := by
  obtain ⟨pl', hm', hc⟩ := hr.ok b _ hg
  rw [hm] at hm'
  cases hm'
  exact hc
theorem Rel.cells {ρ : Ren} {h : AHeap} {w : World} (hr : Rel P ρ h w) (b : Nat) (c : List Value) (t : TypeId) (hg : h.get b = some (.cells c t)) : ∃ pl, ρ.m b = some pl ∧ CellsOk P ρ (decide (h.ro ≤ b)) c t pl w := hr.ok b _ hg
theorem Rel.objAt {ρ : Ren} {h : AHeap} {w : World} (hr : Rel P ρ h w) {b : Nat} {o : AObj} {pl : Place} (hg : h.get b = some o) (hm : ρ.m b = some pl) : ObjOk P ρ (decide (h.ro ≤ b)) o pl w := by
  obtain ⟨pl', hm', hc⟩ := hr.ok b _ hg
  rw [hm] at hm'
  cases hm'
  exact hc

theorem CellsOk.cell {ρ : Ren} {wr : Bool} {c : List Value} {t : TypeId} {pl : Place} {w : World} (hc : CellsOk P ρ wr c t pl w) {i : Nat} {x : Value} (hx : c[i]? = some x) :
    ∃ y, w.cell? ⟨pl.c, pl.base + i, none⟩ = some y ∧ VRel ρ x y := by
  obtain ⟨cs, fz, hb, _, _, _, _, hv⟩ := hc
  obtain ⟨y, hy, hxy⟩ := hv i x hx
  exact ⟨y, by simp [World.cell?, hb, hy], hxy⟩

theorem CellsOk.unfrozen {ρ : Ren} {c : List Value} {t : TypeId} {pl : Place} {w : World} (hc : CellsOk P ρ true c t pl w) {i : Nat} (hi : i < pl.size) :
    w.frozen? ⟨pl.c, i, none⟩ = false := by
  obtain ⟨cs, fz, hb, _, _, _, hf, _⟩ := hc
  have := hf rfl i hi
  obtain ⟨lo, hi'⟩ := fz
  simp [World.frozen?, hb] at this ⊢
  exact this

/-- A block of the world's whose cells are replaced, as many as there were. -/
theorem CellsOk.other {ρ : Ren} {wr : Bool} {c : List Value} {t : TypeId} {pl : Place} {w w' : World} (hc : CellsOk P ρ wr c t pl w) (hb : w'.heap[pl.c]? = w.heap[pl.c]?) : CellsOk P ρ wr c t pl w' := by
  obtain ⟨cs, fz, h1, h2⟩ := hc
  exact ⟨cs, fz, hb.trans h1, h2⟩
theorem CellsOk.mono {ρ ρ' : Ren} (hle : ρ.le ρ') {wr : Bool} {c : List Value} {t : TypeId} {pl : Place} {w : World} (hc : CellsOk P ρ wr c t pl w) : CellsOk P ρ' wr c t pl w := by
  obtain ⟨cs, fz, h1, h2, h3, h4, h5, h6⟩ := hc
  exact ⟨cs, fz, h1, h2, h3, h4, h5, fun i x hx => by obtain ⟨y, hy, hv⟩ := h6 i x hx; exact ⟨y, hy, hv.mono hle⟩⟩
theorem CellsOk.lt {ρ : Ren} {wr : Bool} {c : List Value} {t : TypeId} {pl : Place} {w : World} (hc : CellsOk P ρ wr c t pl w) : pl.c < w.heap.size := by
  obtain ⟨cs, fz, h1, _⟩ := hc
  rcases Nat.lt_or_ge pl.c w.heap.size with h | h
  · exact h
  · rw [Array.getElem?_eq_none h] at h1; cases h1
theorem CellsOk.weak {ρ : Ren} {c : List Value} {t : TypeId} {pl : Place} {w : World} {wr wr' : Bool} (hw : wr' = true → wr = true) (hc : CellsOk P ρ wr c t pl w) : CellsOk P ρ wr' c t pl w := by
  obtain ⟨cs, fz, h1, h2, h3, h4, h5, h6⟩ := hc
  exact ⟨cs, fz, h1, h2, h3, h4, fun e => h5 (hw e), h6⟩

theorem ObjOk.other {ρ : Ren} {wr : Bool} {o : AObj} {pl : Place} {w w' : World} (hc : ObjOk P ρ wr o pl w) (hb : w'.heap[pl.c]? = w.heap[pl.c]?) : ObjOk P ρ wr o pl w' := by
  cases o with
  | cells c t => exact CellsOk.other hc hb
  | map es q => obtain ⟨ms, h1, h2⟩ := hc; exact ⟨ms, hb.trans h1, h2⟩
  | iter m a b c => obtain ⟨m', h1, h2⟩ := hc; exact ⟨m', hb.trans h1, h2⟩
  | siter s pos => exact ⟨hb.trans hc.1, hc.2⟩
  | tab c => obtain ⟨t, h1⟩ := hc; exact ⟨t, CellsOk.other h1 hb⟩
  | loop l => obtain ⟨tm, d, fn, h1, h2⟩ := hc; exact ⟨tm, d, fn, hb.trans h1, h2⟩
theorem ObjOk.mono {ρ ρ' : Ren} (hle : ρ.le ρ') {wr : Bool} {o : AObj} {pl : Place} {w : World} (hc : ObjOk P ρ wr o pl w) : ObjOk P ρ' wr o pl w := by
  cases o with
  | cells c t => exact CellsOk.mono hle hc
  | map es q => obtain ⟨ms, h1, h2, h3⟩ := hc; exact ⟨ms, h1, h2, fun i x m hx hm => ⟨(h3 i x m hx hm).1.mono hle, (h3 i x m hx hm).2.1.mono hle, (h3 i x m hx hm).2.2⟩⟩
  | iter m a b c => obtain ⟨m', h1, h0, h2⟩ := hc; exact ⟨m', h1, h0, h2.mono hle⟩
  | tab c => obtain ⟨t, h1⟩ := hc; exact ⟨t, CellsOk.mono hle h1⟩
  | siter s pos => exact hc
  | loop l => obtain ⟨tm, d, fn, h1, h2⟩ := hc; exact ⟨tm, d, fn, h1, h2.mono hle⟩
theorem lt_of_obj {w : World} {r : Nat} {o : Obj} (h : w.heap[r]? = some o) : r < w.heap.size := by
  rcases Nat.lt_or_ge r w.heap.size with hl | hl
  · exact hl
  · rw [Array.getElem?_eq_none hl] at h; cases h
theorem ObjOk.lt {ρ : Ren} {wr : Bool} {o : AObj} {pl : Place} {w : World} (hc : ObjOk P ρ wr o pl w) : pl.c < w.heap.size := by
  cases o with
  | cells c t => exact CellsOk.lt hc
  | map es q => obtain ⟨ms, h1, _⟩ := hc; exact lt_of_obj h1
  | iter m a b c => obtain ⟨m', h1, _⟩ := hc; exact lt_of_obj h1
  | siter s pos => exact lt_of_obj hc.1
  | tab c => obtain ⟨t, h1⟩ := hc; exact h1.lt
  | loop l => obtain ⟨tm, d, fn, h1, _⟩ := hc; exact lt_of_obj h1
theorem ObjOk.weak {ρ : Ren} {o : AObj} {pl : Place} {w : World} {wr wr' : Bool} (hw : wr' = true → wr = true) (hc : ObjOk P ρ wr o pl w) : ObjOk P ρ wr' o pl w := by
  cases o with
  | cells c t => exact CellsOk.weak hw hc
  | map es q => exact hc
  | tab c => exact hc
  | iter m a b c => exact hc
  | siter s pos => exact hc
  | loop l => exact hc

/-- A block less. -/
theorem Rel.drop {ρ : Ren} {h : AHeap} {w : World} (hr : Rel P ρ h w) (b : Nat) : Rel P ρ (h.set b none) w := by
  have hsub : ∀ x o, (h.set b none).get x = some o → h.get x = some o := by
    intro x o hx
    rw [AHeap.get_set] at hx
    split at hx
    · cases hx
    · exact hx
  exact ⟨hr.next, hr.ro, fun x o hx => hr.dom x o (hsub x o hx), fun x o hx => hr.ok x o (hsub x _ hx),
    fun b1 b2 o1 o2 p1 p2 h1 h2 => hr.inj b1 b2 o1 o2 p1 p2 (hsub _ _ h1) (hsub _ _ h2), hr.gro, hr.glob⟩

/-- A block whose contents are other ones, at the same place. -/
theorem Step.putObj {ρ : Ren} {h : AHeap} {w w' : World} (hr : Rel P ρ h w) {b : Nat} {ob ob' : AObj} {pl : Place} (hg : h.get b = some ob) (hm : ρ.m b = some pl) (hro : h.ro ≤ b)
    (hok : ObjOk P ρ true ob' pl w') (hos : w'.os = w.os) (htape : w'.tape = w.tape) (hout : w'.output = w.output) (hsz : w'.heap.size = w.heap.size)
    (hfr : ∀ k, k ≠ pl.c → w'.heap[k]? = w.heap[k]?) : Step P ρ h w ρ (h.set b (some ob')) w' := by
  have hold : ∀ x o, (h.set b (some ob')).get x = some o → ∃ o', h.get x = some o' := by
    intro x o hx
    rw [AHeap.get_set] at hx
    split at hx
    · rename_i e; subst e; exact ⟨_, hg⟩
    · exact ⟨o, hx⟩
  refine ⟨Ren.le_refl _, ⟨hr.next, hr.ro, ?_, ?_, ?_, hr.gro, hr.glob⟩, rfl, hos, htape, hout, by omega, ?_, ?_⟩
  · intro x o hx
    obtain ⟨o', ho'⟩ := hold x o hx
    exact hr.dom x o' ho'
  · intro x ox hx
    rw [AHeap.get_set] at hx
    split at hx
    · rename_i e; subst e; cases hx; exact ⟨pl, hm, hok.weak (fun _ => rfl)⟩
    · rename_i e
      obtain ⟨p, hp, hc⟩ := hr.ok x ox hx
      refine ⟨p, hp, hc.other (hfr _ ?_)⟩
      intro e2
      exact e (hr.inj x b _ _ p pl hx hg hp hm e2)
  · intro b1 b2 o1 o2 p1 p2 h1 h2
    obtain ⟨o1', h1'⟩ := hold _ _ h1
    obtain ⟨o2', h2'⟩ := hold _ _ h2
    exact hr.inj b1 b2 o1' o2' p1 p2 h1' h2'
  · intro k hk hn
    refine hfr k ?_
    intro e
    exact hn ⟨b, _, pl, hg, hro, hm, e.symm⟩
  · rintro k hk ⟨x, o, p, hx, hrx, hp, hpc⟩
    obtain ⟨o', ho'⟩ := hold x o hx
    exact ⟨x, o', p, ho', hrx, hp, hpc⟩

theorem Step.write {ρ : Ren} {h : AHeap} {w w' : World} (hr : Rel P ρ h w) {b : Nat} {c c' : List Value} {t : TypeId} {pl : Place} (hg : h.get b = some (.cells c t)) (hm : ρ.m b = some pl) (hro : h.ro ≤ b)
    (hok : CellsOk P ρ true c' t pl w') (hos : w'.os = w.os) (htape : w'.tape = w.tape) (hout : w'.output = w.output) (hsz : w'.heap.size = w.heap.size)
    (hfr : ∀ k, k ≠ pl.c → w'.heap[k]? = w.heap[k]?) : Step P ρ h w ρ (h.set b (some (.cells c' t))) w' :=
  Step.putObj hr hg hm hro (ob' := .cells c' t) hok hos htape hout hsz hfr

theorem size_setCell (w : World) (a : Addr) (v : Value) : (w.setCell a v).heap.size = w.heap.size := by simp [World.setCell]
theorem heap_setCell_ne (w : World) (a : Addr) (v : Value) (k : Nat) (h : k ≠ a.block) : (w.setCell a v).heap[k]? = w.heap[k]? := RowKit.Below.heap_setCell w a v k h

theorem CellsOk.setCell {ρ : Ren} {wr : Bool} {c : List Value} {t : TypeId} {pl : Place} {w : World} (hc : CellsOk P ρ wr c t pl w) {i : Nat} {v v' : Value} (hi : i < c.length) (hv : VRel ρ v v') :
    CellsOk P ρ wr (c.set i v) t pl (w.setCell ⟨pl.c, pl.base + i, none⟩ v') := by
  obtain ⟨cs, fz, h1, h2, h3, h4, h5, h6⟩ := hc
  refine ⟨cs.setIfInBounds (pl.base + i) v', fz, ?_, by simpa using h2, h3, by simpa using h4, h5, ?_⟩
  · simp [World.setCell, Array.getElem?_modify, h1]
  · intro j x hx
    by_cases e : j = i
    · subst e
      rw [List.getElem?_set_self hi] at hx
      cases hx
      exact ⟨v', by rw [Array.getElem?_setIfInBounds, if_pos rfl, if_pos (by omega)], hv⟩
    · rw [List.getElem?_set_ne (fun h => e h.symm)] at hx
      obtain ⟨y, hy, hxy⟩ := h6 j x hx
      exact ⟨y, by rw [Array.getElem?_setIfInBounds, if_neg (by omega)]; exact hy, hxy⟩

/-- One cell is stored. -/
theorem run_store_cell {ρ : Ren} {h : AHeap} {w : World} (hr : Rel P ρ h w) {b : Nat} {c : List Value} {t : TypeId} {pl : Place} (hg : h.get b = some (.cells c t)) (hm : ρ.m b = some pl) (hro : h.ro ≤ b)
    {i : Nat} (hi : i < c.length) {v v' : Value} (hv : VRel ρ v v') (hcell : cellOk v = true) :
    (store ⟨pl.c, pl.base + i, none⟩ v').run P w = .ok () (w.setCell ⟨pl.c, pl.base + i, none⟩ v') ∧
      Step P ρ h w ρ (h.set b (some (.cells (c.set i v) t))) (w.setCell ⟨pl.c, pl.base + i, none⟩ v') := by
  have hc := hr.place hg hm
  rw [show decide (h.ro ≤ b) = true by simpa using hro] at hc
  obtain ⟨y, hy, _⟩ := hc.cell (i := i) (List.getElem?_eq_getElem hi)
  have hsz : pl.base + i < pl.size := by obtain ⟨cs, fz, _, h2, _, h4, _⟩ := hc; omega
  have hone : v'.oneCell' = true := by have := cellOk_rel hv; rw [hcell] at this; cases v' <;> simp_all [cellOk, Value.oneCell']
  refine ⟨?_, Step.write hr hg hm hro (hc.setCell hi hv) rfl rfl rfl (size_setCell _ _ _) (fun k hk => heap_setCell_ne _ _ _ _ hk)⟩
  rw [run_store _ _ _ _ _ hone, hy]
  simp [hc.unfrozen hsz]

/-- A list's items from i on are replaced. -/
def setMany (c : List Value) (i : Nat) : List Value → List Value
  | [] => c
  | v :: vs => setMany (c.set i v) (i + 1) vs
theorem length_setMany (vs : List Value) : ∀ (c : List Value) (i : Nat), (setMany c i vs).length = c.length := by
  induction vs with
  | nil => intro c i; rfl
  | cons v vs ih => intro c i; simp [setMany, ih]
theorem AHeap.set_set (h : AHeap) (b : Nat) (x y : Option AObj) (k : Nat) : ((h.set b x).set b y).get k = (h.set b y).get k := by
  simp only [AHeap.get_set]; split <;> rfl
/-- Heaps that hold the same. -/
structure Same (h h' : AHeap) : Prop where
  next : h'.next = h.next
  ro : h'.ro = h.ro
  get : ∀ b, h'.get b = h.get b
theorem Rel.same {ρ : Ren} {h h' : AHeap} {w : World} (hr : Rel P ρ h w) (e : Same h h') : Rel P ρ h' w :=
  ⟨hr.next.trans e.next.symm, by rw [e.ro, e.next]; exact hr.ro, fun b o hb => by rw [e.next]; exact hr.dom b o ((e.get b) ▸ hb),
    fun b o hb => by rw [e.ro]; exact hr.ok b o ((e.get b) ▸ hb),
    fun b1 b2 o1 o2 p1 p2 h1 h2 => hr.inj b1 b2 o1 o2 p1 p2 ((e.get b1) ▸ h1) ((e.get b2) ▸ h2), by rw [e.ro]; exact hr.gro, hr.glob⟩
theorem Step.same {ρ ρ' : Ren} {h h' h'' : AHeap} {w w' : World} (s : Step P ρ h w ρ' h' w') (e : Same h' h'') : Step P ρ h w ρ' h'' w' :=
  ⟨s.le, s.rel.same e, e.ro.trans s.ro, s.os, s.tape, s.output, s.size, s.frame, fun c hc hm => s.img c hc (by
    obtain ⟨b, o, pl, hb, hro, hp⟩ := hm
    exact ⟨b, o, pl, by rw [← e.get]; exact hb, by rw [← e.ro]; exact hro, hp⟩)⟩

theorem addr_add (c o i : Nat) : (Addr.mk c o none).add i = ⟨c, o + i, none⟩ := by
  unfold Addr.add
  split
  · rename_i h; subst h; rfl
  · rfl

/-- Several cells are stored. -/
theorem run_storeCells {ρ : Ren} {t : TypeId} {pl : Place} {b : Nat} {o : Nat} (hm : ρ.m b = some pl) : ∀ (vs vs' : List Value) (h : AHeap) (w : World) (c : List Value) (j : Nat), Rel P ρ h w → h.get b = some (.cells c t) → h.ro ≤ b →
    o + j + vs.length ≤ c.length → VList ρ vs vs' → (∀ x ∈ vs, cellOk x = true) →
    ∃ w', (storeCells ⟨pl.c, pl.base + o, none⟩ vs' j).run P w = .ok () w' ∧ Step P ρ h w ρ (h.set b (some (.cells (setMany c (o + j) vs) t))) w' := by
  intro vs
  induction vs with
  | nil =>
    intro vs' h w c j hr hg hro hl hv hcell
    cases hv.nil_inv
    refine ⟨w, rfl, (Step.refl hr).same ⟨rfl, rfl, fun x => ?_⟩⟩
    rw [AHeap.get_set]; split
    · rename_i e; subst e; exact hg.symm
    · rfl
  | cons v vs ih =>
    intro vs' h w c j hr hg hro hl hv hcell
    obtain ⟨v', vs'', rfl, hv1, hv2⟩ := hv.cons_inv
    simp only [List.length_cons] at hl
    obtain ⟨e1, s1⟩ := run_store_cell hr hg hm hro (i := o + j) (by omega) hv1 (hcell v (by simp))
    obtain ⟨w', e2, s2⟩ := ih vs'' _ _ (c.set (o + j) v) (j + 1) s1.rel (by rw [AHeap.get_set, if_pos rfl]) hro (by simp; omega) hv2 (fun x hx => hcell x (by simp [hx]))
    refine ⟨w', ?_, (s1.trans s2).same ⟨rfl, rfl, fun x => ?_⟩⟩
    · simp only [storeCells, addr_add, Sem.run_bind, Nat.add_assoc] at e1 ⊢
      rw [e1]; exact e2
    · rw [AHeap.set_set]; rfl

/-- The renaming with one block more. -/
def Ren.ext (ρ : Ren) (pl : Place) : Ren := { next := ρ.next + 1, m := fun b => if b = ρ.next then some pl else ρ.m b }
theorem Ren.le_ext (ρ : Ren) (pl : Place) : ρ.le (ρ.ext pl) := ⟨Nat.le_succ _, fun _ hb => if_neg (Nat.ne_of_lt hb)⟩
theorem Ren.ext_next (ρ : Ren) (pl : Place) : (ρ.ext pl).m ρ.next = some pl := if_pos rfl

/-- A block more, at a place that is no other's. -/
theorem Rel.pushObj {ρ : Ren} {h : AHeap} {w : World} (hr : Rel P ρ h w) {ob : AObj} {pl : Place} (hc : ObjOk P (ρ.ext pl) true ob pl w)
    (hfresh : ∀ b o p, h.get b = some o → ρ.m b = some p → p.c ≠ pl.c) : Rel P (ρ.ext pl) (h.push ob) w := by
  have hle := ρ.le_ext pl
  have hcase : ∀ x o, (h.push ob).get x = some o → (x = h.next ∧ o = ob) ∨ (x < h.next ∧ h.get x = some o) := by
    intro x o hx
    rw [AHeap.get_push] at hx
    split at hx
    · rename_i e; cases hx; exact .inl ⟨e, rfl⟩
    · exact .inr ⟨hr.dom x o hx, hx⟩
  have hold : ∀ x, x < h.next → (ρ.ext pl).m x = ρ.m x := fun x hx => hle.2 x (by rw [hr.next]; exact hx)
  have hnew : (ρ.ext pl).m h.next = some pl := by rw [← hr.next]; exact ρ.ext_next pl
  refine ⟨by show ρ.next + 1 = h.next + 1; rw [hr.next], Nat.le_trans hr.ro (Nat.le_succ _), ?_, ?_, ?_, hr.gro, fun b p hb hm => hr.glob b p hb (by rw [← hold b (Nat.lt_of_lt_of_le hb (Nat.le_trans hr.gro hr.ro))]; exact hm)⟩
  · intro x o hx
    rcases hcase x o hx with ⟨e, _⟩ | ⟨hlt, _⟩
    · subst e; exact Nat.lt_succ_self _
    · exact Nat.lt_succ_of_lt hlt
  · intro x ox hx
    rcases hcase x _ hx with ⟨e, eo⟩ | ⟨hlt, hx'⟩
    · cases eo; subst e
      exact ⟨pl, hnew, hc.weak (fun _ => rfl)⟩
    · obtain ⟨p, hp, hcx⟩ := hr.ok x ox hx'
      exact ⟨p, (hold x hlt).trans hp, hcx.mono hle⟩
  · intro b1 b2 o1 o2 p1 p2 h1 h2 m1 m2 e
    rcases hcase b1 o1 h1 with ⟨e1, _⟩ | ⟨l1, g1⟩ <;> rcases hcase b2 o2 h2 with ⟨e2, _⟩ | ⟨l2, g2⟩
    · omega
    · subst e1
      rw [hnew] at m1; cases m1
      rw [hold _ l2] at m2
      exact absurd e.symm (hfresh b2 o2 p2 g2 m2)
    · subst e2
      rw [hnew] at m2; cases m2
      rw [hold _ l1] at m1
      exact absurd e (hfresh b1 o1 p1 g1 m1)
    · rw [hold _ l1] at m1; rw [hold _ l2] at m2
      exact hr.inj b1 b2 o1 o2 p1 p2 g1 g2 m1 m2 e

theorem Rel.push {ρ : Ren} {h : AHeap} {w : World} (hr : Rel P ρ h w) {c : List Value} {t : TypeId} {pl : Place} (hc : CellsOk P (ρ.ext pl) true c t pl w)
    (hfresh : ∀ b o p, h.get b = some o → ρ.m b = some p → p.c ≠ pl.c) : Rel P (ρ.ext pl) (h.push (.cells c t)) w := hr.pushObj (ob := .cells c t) hc hfresh

/-- What was there stays described when the world's heap gets blocks more. -/
theorem Rel.grow {ρ : Ren} {h : AHeap} {w w' : World} (hr : Rel P ρ h w) (hold : ∀ k, k < w.heap.size → w'.heap[k]? = w.heap[k]?) : Rel P ρ h w' :=
  ⟨hr.next, hr.ro, hr.dom, fun b o hb => by obtain ⟨pl, hp, hc⟩ := hr.ok b o hb; exact ⟨pl, hp, hc.other (hold _ hc.lt)⟩, hr.inj, hr.gro, hr.glob⟩

/-- A new block, whatever it holds. -/
theorem Step.pushObj {ρ : Ren} {h : AHeap} {w w' : World} (hr : Rel P ρ h w) {ob : AObj} {pl : Place} {wo : Obj} (hpl : pl.c = w.heap.size)
    (hnew : w'.heap = w.heap.push wo) (hok : ObjOk P (ρ.ext pl) true ob pl w')
    (hos : w'.os = w.os) (htape : w'.tape = w.tape) (hout : w'.output = w.output) :
    Step P ρ h w (ρ.ext pl) (h.push ob) w' := by
  have hold : ∀ k, k < w.heap.size → w'.heap[k]? = w.heap[k]? := by
    intro k hk; rw [hnew, Array.getElem?_push, if_neg (by omega)]
  have hle := ρ.le_ext pl
  have hr' := hr.grow hold
  refine ⟨hle, hr'.pushObj hok ?_, rfl, hos, htape, hout, by rw [hnew]; simp, fun k hk _ => hold k hk, ?_⟩
  · intro b o p hg hm e
    obtain ⟨p', hp', hcx⟩ := hr.ok b o hg
    rw [hm] at hp'; cases hp'
    have := hcx.lt
    omega
  · rintro k hk ⟨b, o, p, hg, hro, hm, e⟩
    rw [AHeap.get_push] at hg
    split at hg
    · rename_i eb
      subst eb
      rw [← hr.next, Ren.ext_next] at hm
      cases hm
      omega
    · have hlt := hr.dom b o hg
      refine ⟨b, o, p, hg, hro, ?_, e⟩
      rw [← hm]
      exact (hle.2 b (by rw [hr.next]; exact hlt)).symm
/-- A new block, its cells the first of the world's new block's. -/
theorem Step.push {ρ : Ren} {h : AHeap} {w w' : World} (hr : Rel P ρ h w) {c : List Value} {t : TypeId} {cs : Array Value} {fz : Nat × Nat}
    (hnew : w'.heap = w.heap.push (.cells cs t fz)) (hfz : ∀ i, i < cs.size → ¬(fz.1 ≤ i ∧ i < fz.2)) (hlen : c.length ≤ cs.size) (hv : ∀ (i : Nat) x, c[i]? = some x → ∃ y, cs[i]? = some y ∧ VRel ρ x y)
    (hos : w'.os = w.os) (htape : w'.tape = w.tape) (hout : w'.output = w.output) :
    Step P ρ h w (ρ.ext ⟨w.heap.size, 0, cs.size, P.cellsOf t⟩) (h.push (.cells c t)) w' := by
  refine Step.pushObj hr (ob := .cells c t) rfl hnew ⟨cs, fz, by rw [hnew]; simp, rfl, ⟨rfl, Nat.zero_mod _⟩, by simpa using hlen, fun _ => hfz, ?_⟩ hos htape hout
  intro i x hx
  obtain ⟨y, hy, hxy⟩ := hv i x hx
  exact ⟨y, by simpa using hy, hxy.mono (ρ.le_ext _)⟩

theorem run_newRow {ρ : Ren} {h : AHeap} {w : World} (hr : Rel P ρ h w) {c : List Value} {t : TypeId} {cs : Array Value} (hlen : c.length ≤ cs.size) (hv : ∀ (i : Nat) x, c[i]? = some x → ∃ y, cs[i]? = some y ∧ VRel ρ x y) :
    (newRow t cs).run P w = .ok ⟨w.heap.size, 0, none⟩ { w with heap := w.heap.push (.cells cs t) } ∧
      Step P ρ h w (ρ.ext ⟨w.heap.size, 0, cs.size, P.cellsOf t⟩) (h.push (.cells c t)) { w with heap := w.heap.push (.cells cs t) } :=
  ⟨rfl, Step.push hr rfl (fun i _ hi => by simp at hi) hlen hv rfl rfl rfl⟩
theorem VRel.new {ρ : Ren} {h : AHeap} {w : World} (hr : Rel P ρ h w) (pl : Place) (hb : pl.base = 0) : VRel (ρ.ext pl) (.pointer (some ⟨h.next, 0, none⟩)) (.pointer (some ⟨pl.c, 0, none⟩)) := by
  have := VRel.ptr (ρ := ρ.ext pl) (b := h.next) (off := 0) (pl := pl) (by show h.next < ρ.next + 1; rw [hr.next]; exact Nat.lt_succ_self _) (by rw [← hr.next]; exact ρ.ext_next pl)
  rw [hb] at this
  exact this

/-- Several cells are loaded. -/
theorem run_loadCells_at {ρ : Ren} {wr : Bool} {c : List Value} {t : TypeId} {pl : Place} {w : World} (hc : CellsOk P ρ wr c t pl w) (o n : Nat) (h : o + n ≤ c.length) :
    ∃ ys : List Value, (loadCells ⟨pl.c, pl.base + o, none⟩ n).run P w = .ok ys.toArray w ∧ VList ρ ((c.drop o).take n) ys := by
  obtain ⟨cs, fz, h1, h2, h3, h4, h5, h6⟩ := hc
  refine ⟨((cs.toList.drop (pl.base + o)).take n), ?_, ?_, ?_⟩
  · have hlen : ((cs.toList.drop (pl.base + o)).take n).length = n := by simp; omega
    have := run_loadCells_list (P := P) w ⟨pl.c, pl.base + o, none⟩ ((cs.toList.drop (pl.base + o)).take n) (fun j v hj => by
      have hjn : j < n := by
        rcases Nat.lt_or_ge j n with h | h
        · exact h
        · rw [List.getElem?_eq_none (by omega)] at hj; cases hj
      rw [List.getElem?_take_of_lt hjn, List.getElem?_drop] at hj
      rw [addr_add]
      simp [World.cell?, h1]
      simpa using hj)
    rw [hlen] at this
    exact this
  · simp; omega
  · intro i x y hx hy
    have hi : i < n := by
      rcases Nat.lt_or_ge i n with h | h
      · exact h
      · rw [List.getElem?_eq_none (by simp; omega)] at hx; cases hx
    rw [List.getElem?_take_of_lt hi, List.getElem?_drop] at hx hy
    obtain ⟨y', hy', hxy⟩ := h6 _ _ hx
    have : y = y' := by
      have e : pl.base + (o + i) = pl.base + o + i := by omega
      rw [e] at hy'
      have hy2 : cs[pl.base + o + i]? = some y := by simpa using hy
      rw [hy2] at hy'; cases hy'; rfl
    rw [this]; exact hxy

end
end Go.Ai
