/-
  A REGION THAT DRAWS ITS ORDER, 2: one order is told on abstract heaps, with what each operation looks at and touches; every other order that the edges allow comes to the same.
-/
import Derived.Test.YtpilbfkinpbnoaaAiDraw
set_option linter.unusedVariables false
namespace Go.Ai
noncomputable section
variable {P : Program}

/-! ### Renamings with fewer, and with more, blocks -/
def Ren.cut (ρ : Ren) (n : Nat) : Ren := { ρ with next := n }
theorem VRel.ext {ρ ρ' : Ren} (hn : ρ.next ≤ ρ'.next) (hm : ∀ b pl, b < ρ.next → ρ.m b = some pl → ρ'.m b = some pl) {v v' : Value} (h : VRel ρ v v') : VRel ρ' v v' := by
  induction h with
  | odd h => exact .odd h
  | bool b => exact .bool b
  | int k n => exact .int k n
  | float k n => exact .float k n
  | string s => exact .string s
  | ptrNil => exact .ptrNil
  | ptr hb hm0 => exact .ptr (Nat.lt_of_lt_of_le hb hn) (hm _ _ hb hm0)
  | glob => exact .glob
  | sliceNil c => exact .sliceNil c
  | slice hb hm0 hl hc => exact .slice (Nat.lt_of_lt_of_le hb hn) (hm _ _ hb hm0) hl hc
  | sliceOut hb hc => exact .sliceOut (Nat.lt_of_lt_of_le hb hn) hc
  | nilFunc => exact .nilFunc
  | nilIface => exact .nilIface
  | mapNil => exact .mapNil
  | map hb hm0 => exact .map (Nat.lt_of_lt_of_le hb hn) (hm _ _ hb hm0)
  | yield hb hm0 => exact .yield (Nat.lt_of_lt_of_le hb hn) (hm _ _ hb hm0)
  | iface _ ih => exact .iface ih
  | func ha hc _ _ ih ih' => exact .func ha hc ih ih'
  | agg ha _ ih => exact .agg ha ih
  | tuple ha _ ih => exact .tuple ha ih
theorem VRel.down {ρ ρ2 : Ren} (hm : ∀ b, b < ρ.next → ρ2.m b = ρ.m b) {v v' : Value} (h : VRel ρ v v') : ∀ {u : Value}, VRel ρ2 v u → VRel ρ v u := by
  induction h with
  | odd h => intro u hu; cases hu with | odd h2 => exact .odd h2
  | bool b => intro u hu; cases hu; exact .bool b
  | int k n => intro u hu; cases hu; exact .int k n
  | float k n => intro u hu; cases hu; exact .float k n
  | string s => intro u hu; cases hu; exact .string s
  | ptrNil => intro u hu; cases hu; exact .ptrNil
  | ptr hb hm0 => intro u hu; cases hu with | ptr hb2 hm2 => exact .ptr hb ((hm _ hb).symm.trans hm2)
  | glob => intro u hu; cases hu; exact .glob
  | sliceNil c => intro u hu; cases hu; exact .sliceNil c
  | slice hb hm0 hl hc =>
    intro u hu
    cases hu with
    | slice hb2 hm2 hl2 hc2 => exact .slice hb ((hm _ hb).symm.trans hm2) hl2 hc2
    | sliceOut hb2 hc2 => exact .sliceOut hb hc2
  | sliceOut hb hc =>
    intro u hu
    cases hu with
    | slice hb2 hm2 hl2 hc2 => exact .slice hb ((hm _ hb).symm.trans hm2) hl2 hc2
    | sliceOut hb2 hc2 => exact .sliceOut hb hc2
  | nilFunc => intro u hu; cases hu; exact .nilFunc
  | nilIface => intro u hu; cases hu; exact .nilIface
  | mapNil => intro u hu; cases hu; exact .mapNil
  | map hb hm0 => intro u hu; cases hu with | map hb2 hm2 => exact .map hb ((hm _ hb).symm.trans hm2)
  | yield hb hm0 => intro u hu; cases hu with | yield hb2 hm2 => exact .yield hb ((hm _ hb).symm.trans hm2)
  | iface _ ih => intro u hu; cases hu with | iface h2 => exact .iface (ih h2)
  | func ha hc h1 h2 ih ih' =>
    rename_i f a c a' c'
    intro u hu
    cases hu with
    | func ha2 hc2 k1 k2 =>
      refine .func ha2 hc2 (fun i x y hx hy => ?_) (fun i x y hx hy => ?_)
      · obtain ⟨z, hz⟩ : ∃ z, a'[i]? = some z := by
          have hlt : i < a.size := by
            rcases Nat.lt_or_ge i a.size with h | h
            · exact h
            · rw [Array.getElem?_eq_none h] at hx; cases hx
          exact ⟨_, Array.getElem?_eq_getElem (ha ▸ hlt)⟩
        exact ih i x z hx hz (k1 i x y hx hy)
      · obtain ⟨z, hz⟩ : ∃ z, c'[i]? = some z := by
          have hlt : i < c.size := by
            rcases Nat.lt_or_ge i c.size with h | h
            · exact h
            · rw [Array.getElem?_eq_none h] at hx; cases hx
          exact ⟨_, Array.getElem?_eq_getElem (hc ▸ hlt)⟩
        exact ih' i x z hx hz (k2 i x y hx hy)
  | agg ha h1 ih =>
    rename_i a a'
    intro u hu
    cases hu with
    | agg ha2 k1 =>
      refine .agg ha2 (fun i x y hx hy => ?_)
      obtain ⟨z, hz⟩ : ∃ z, a'[i]? = some z := by
        have hlt : i < a.size := by
          rcases Nat.lt_or_ge i a.size with h | h
          · exact h
          · rw [Array.getElem?_eq_none h] at hx; cases hx
        exact ⟨_, Array.getElem?_eq_getElem (ha ▸ hlt)⟩
      exact ih i x z hx hz (k1 i x y hx hy)
  | tuple ha h1 ih =>
    rename_i a a'
    intro u hu
    cases hu with
    | tuple ha2 k1 =>
      refine .tuple ha2 (fun i x y hx hy => ?_)
      obtain ⟨z, hz⟩ : ∃ z, a'[i]? = some z := by
        have hlt : i < a.size := by
          rcases Nat.lt_or_ge i a.size with h | h
          · exact h
          · rw [Array.getElem?_eq_none h] at hx; cases hx
        exact ⟨_, Array.getElem?_eq_getElem (ha ▸ hlt)⟩
      exact ih i x z hx hz (k1 i x y hx hy)
theorem CellsOk.ext {ρ ρ' : Ren} (hn : ρ.next ≤ ρ'.next) (hm : ∀ b pl, b < ρ.next → ρ.m b = some pl → ρ'.m b = some pl) {wr : Bool} {c : List Value} {t : TypeId} {pl : Place} {w : World} (hc : CellsOk P ρ wr c t pl w) : CellsOk P ρ' wr c t pl w := by
  obtain ⟨cs, fz, h1, h2, h3, h4, h5, h6⟩ := hc
  exact ⟨cs, fz, h1, h2, h3, h4, h5, fun i x hx => by obtain ⟨y, hy, hv⟩ := h6 i x hx; exact ⟨y, hy, hv.ext hn hm⟩⟩
theorem CellsOk.down {ρ ρ2 : Ren} (hm : ∀ b, b < ρ.next → ρ2.m b = ρ.m b) {wr wr2 : Bool} {c : List Value} {t : TypeId} {pl : Place} {w w2 : World} (h : CellsOk P ρ wr c t pl w) (h2 : CellsOk P ρ2 wr2 c t pl w2) : CellsOk P ρ wr2 c t pl w2 := by
  obtain ⟨cs, fz, a1, a2, a3, a4, a5, a6⟩ := h
  obtain ⟨cs2, fz2, b1, b2, b3, b4, b5, b6⟩ := h2
  exact ⟨cs2, fz2, b1, b2, b3, b4, b5, fun i x hx => by
    obtain ⟨y, hy, hv⟩ := a6 i x hx
    obtain ⟨y2, hy2, hv2⟩ := b6 i x hx
    exact ⟨y2, hy2, hv.down hm hv2⟩⟩

theorem ObjOk.ext {ρ ρ' : Ren} (hn : ρ.next ≤ ρ'.next) (hm : ∀ b pl, b < ρ.next → ρ.m b = some pl → ρ'.m b = some pl) {wr : Bool} {o : AObj} {pl : Place} {w : World} (hc : ObjOk P ρ wr o pl w) : ObjOk P ρ' wr o pl w := by
  cases o with
  | cells c t => exact CellsOk.ext hn hm hc
  | map es q => obtain ⟨ms, h1, h2, h3⟩ := hc; exact ⟨ms, h1, h2, fun i x m hx hm0 => ⟨(h3 i x m hx hm0).1.ext hn hm, (h3 i x m hx hm0).2.1.ext hn hm, (h3 i x m hx hm0).2.2⟩⟩
  | iter m a b c => obtain ⟨m', h1, h0, h2⟩ := hc; exact ⟨m', h1, h0, h2.ext hn hm⟩
  | tab c => obtain ⟨t, h1⟩ := hc; exact ⟨t, CellsOk.ext hn hm h1⟩
  | siter s pos => exact hc
  | loop l => obtain ⟨tm, d, fn, h1, h2⟩ := hc; exact ⟨tm, d, fn, h1, h2.size, fun i => (h2.get i).ext hn hm⟩
theorem ObjOk.down {ρ ρ2 : Ren} (hm : ∀ b, b < ρ.next → ρ2.m b = ρ.m b) {wr wr2 : Bool} {o : AObj} {pl : Place} {w w2 : World} (h : ObjOk P ρ wr o pl w) (h2 : ObjOk P ρ2 wr2 o pl w2) : ObjOk P ρ wr2 o pl w2 := by
  cases o with
  | cells c t => exact CellsOk.down hm h h2
  | iter m a b c =>
    obtain ⟨m1, a1, _, a2⟩ := h
    obtain ⟨m2, b1, b0, b2⟩ := h2
    exact ⟨m2, b1, b0, a2.down hm b2⟩
  | siter s pos => exact h2
  | tab c =>
    obtain ⟨t, cs, fz, a1, a2, a3, a4, a5, a6⟩ := h
    obtain ⟨t2, cs2, fz2, b1, b2, b3, b4, b5, b6⟩ := h2
    exact ⟨t2, cs2, fz2, b1, b2, b3, b4, b5, fun i x hx => by
      obtain ⟨y, hy, hv⟩ := a6 i x hx
      obtain ⟨y2, hy2, hv2⟩ := b6 i x hx
      exact ⟨y2, hy2, hv.down hm hv2⟩⟩
  | map es q =>
    obtain ⟨ms, a1, a2, a3⟩ := h
    obtain ⟨ms2, b1, b2, b3⟩ := h2
    refine ⟨ms2, b1, b2, fun i x m hx hm0 => ?_⟩
    obtain ⟨z, hz⟩ : ∃ z, ms[i]? = some z := by
      have hlt : i < ms.size := by
        rcases Nat.lt_or_ge i es.length with h | h
        · omega
        · rw [List.getElem?_eq_none h] at hx; cases hx
      exact ⟨_, Array.getElem?_eq_getElem hlt⟩
    exact ⟨(a3 i x z hx hz).1.down hm (b3 i x m hx hm0).1, (a3 i x z hx hz).2.1.down hm (b3 i x m hx hm0).2.1, (b3 i x m hx hm0).2.2⟩
  | loop l =>
    obtain ⟨tm, d, fn, a1, a2⟩ := h
    obtain ⟨tm2, d2, fn2, b1, b2⟩ := h2
    exact ⟨tm2, d2, fn2, b1, b2.size, fun i => (a2.get i).down hm (b2.get i)⟩
theorem ObjOk.cutup {ρ : Ren} {n m : Nat} (h : n ≤ m) {wr : Bool} {o : AObj} {pl : Place} {w : World} (hc : ObjOk P (ρ.cut n) wr o pl w) : ObjOk P (ρ.cut m) wr o pl w := ObjOk.ext (ρ := ρ.cut n) (ρ' := ρ.cut m) h (fun _ _ _ h => h) hc
theorem ObjOk.cutext {ρ ρ' : Ren} {n : Nat} (hm : ∀ b pl, ρ.m b = some pl → ρ'.m b = some pl) {wr : Bool} {o : AObj} {pl : Place} {w : World} (hc : ObjOk P (ρ.cut n) wr o pl w) : ObjOk P (ρ'.cut n) wr o pl w := ObjOk.ext (ρ := ρ.cut n) (ρ' := ρ'.cut n) (Nat.le_refl _) (fun b pl _ h => hm b pl h) hc
theorem VRel.cutup {ρ : Ren} {n m : Nat} (h : n ≤ m) {v v' : Value} (hv : VRel (ρ.cut n) v v') : VRel (ρ.cut m) v v' := VRel.ext (ρ := ρ.cut n) (ρ' := ρ.cut m) h (fun _ _ _ h => h) hv
theorem CellsOk.cutup {ρ : Ren} {n m : Nat} (h : n ≤ m) {wr : Bool} {c : List Value} {t : TypeId} {pl : Place} {w : World} (hc : CellsOk P (ρ.cut n) wr c t pl w) : CellsOk P (ρ.cut m) wr c t pl w := CellsOk.ext (ρ := ρ.cut n) (ρ' := ρ.cut m) h (fun _ _ _ h => h) hc
theorem VRel.cutext {ρ ρ' : Ren} {n : Nat} (hm : ∀ b pl, ρ.m b = some pl → ρ'.m b = some pl) {v v' : Value} (hv : VRel (ρ.cut n) v v') : VRel (ρ'.cut n) v v' := VRel.ext (ρ := ρ.cut n) (ρ' := ρ'.cut n) (Nat.le_refl _) (fun b pl _ h => hm b pl h) hv
theorem CellsOk.cutext {ρ ρ' : Ren} {n : Nat} (hm : ∀ b pl, ρ.m b = some pl → ρ'.m b = some pl) {wr : Bool} {c : List Value} {t : TypeId} {pl : Place} {w : World} (hc : CellsOk P (ρ.cut n) wr c t pl w) : CellsOk P (ρ'.cut n) wr c t pl w := CellsOk.ext (ρ := ρ.cut n) (ρ' := ρ'.cut n) (Nat.le_refl _) (fun b pl _ h => hm b pl h) hc
/-! ### One order, told -/
/-- An operation of the order that is told: what it came to, the frame and the heap that it was told on, the blocks that it may look at, those that it touches. -/
structure DRec where
  j : Nat
  o : Oper
  v : Value
  s : Env
  g : AHeap
  g' : AHeap
  rd : Nat → Bool
  tc : Nat → Bool
def lastR (T : List DRec) (p : DRec → Bool) : Option DRec := (T.filter p).getLast?
def wrs (t : Nat) (r : DRec) : Bool := decide (r.o.dst = some t)
def envV (T : List DRec) (s0 : Env) (t : Nat) : Value := match lastR T (wrs t) with | some r => r.v | none => s0.get t
def envN (T : List DRec) (n0 : Nat) (t : Nat) : Nat := match lastR T (wrs t) with | some r => r.g'.next | none => n0
def hpV (T : List DRec) (h0 : AHeap) (b : Nat) : Option AObj := match lastR T (fun r => r.tc b) with | some r => r.g'.get b | none => h0.get b
def hpN (T : List DRec) (n0 : Nat) (b : Nat) : Nat := match lastR T (fun r => r.tc b) with | some r => r.g'.next | none => n0

/-- Must operation i come before operation j? -/
inductive Prec (ops : Array Oper) : Nat → Nat → Prop
  | one {j : Nat} {o : Oper} {e : Edge} (ho : ops[j]? = some o) (he : e ∈ o.after) (hb : Region.binds .any e = true) : Prec ops e.on j
  | more {i j : Nat} {o : Oper} {e : Edge} (ho : ops[j]? = some o) (he : e ∈ o.after) (hb : Region.binds .any e = true) (h : Prec ops i e.on) : Prec ops i j

/-- Two operations that may come in either order (x is told before y). -/
structure Free (ops : Array Oper) (x y : DRec) : Prop where
  d1 : ∀ d, x.o.dst = some d → d ∉ y.o.looksAt ops ∧ y.o.dst ≠ some d
  d2 : ∀ d, y.o.dst = some d → d ∉ x.o.looksAt ops
  b1 : ∀ b, x.tc b = true → y.rd b = false ∧ y.tc b = false
  b2 : ∀ b, y.tc b = true → x.rd b = false

structure Told (P : Program) (ops : Array Oper) (s0 : Env) (h0 : AHeap) (A : List DRec) (r : DRec) : Prop where
  op : ops[r.j]? = some r.o
  env : ∀ t, r.s.get t = envV A s0 t
  size : r.s.size = s0.size
  heap : ∀ b, r.g.get b = if r.rd b = true then hpV A h0 b else none
  ro : r.g.ro = h0.ro
  n0 : h0.next ≤ r.g.next
  nA : ∀ x, x ∈ A → x.g'.next ≤ r.g.next
  n1 : r.g.next ≤ r.g'.next
  sem : OpSem P ops r.s r.o r.g r.v r.g'
  put : ∀ d, r.o.dst = some d → d < s0.size
  tc1 : ∀ b, r.tc b = true → r.rd b = true ∨ (r.g.next ≤ b ∧ b < r.g'.next)
  tc2 : ∀ b, r.tc b = false → r.g'.get b = r.g.get b
  tc3 : ∀ b o, r.tc b = true → b < r.g.next → r.g'.get b = some o → r.g.get b ≠ none

structure Valid (P : Program) (ops : Array Oper) (s0 : Env) (h0 : AHeap) (tr : List DRec) : Prop where
  nodup : (tr.map (·.j)).Nodup
  all : ∀ i, i < ops.size → ∃ r, r ∈ tr ∧ r.j = i
  told : ∀ A r B, tr = A ++ r :: B → Told P ops s0 h0 A r
  edges : ∀ A r B, tr = A ++ r :: B → ∀ e, e ∈ r.o.after → Region.binds .any e = true → ∃ x, x ∈ A ∧ x.j = e.on
  apart : ∀ A x B y C, tr = A ++ x :: (B ++ y :: C) → Prec ops x.j y.j ∨ Free ops x y

theorem Valid.prec {ops : Array Oper} {s0 : Env} {h0 : AHeap} {tr : List DRec} (V : Valid P ops s0 h0 tr) {i j : Nat} (h : Prec ops i j) : ∀ A r B, tr = A ++ r :: B → r.j = j → ∃ x, x ∈ A ∧ x.j = i := by
  induction h with
  | one ho he hb =>
    intro A r B e hj
    subst hj
    have := (V.told A r B e).op
    rw [ho] at this
    cases this
    exact V.edges A r B e _ he hb
  | more ho he hb _ ih =>
    intro A r B e hj
    subst hj
    have := (V.told A r B e).op
    rw [ho] at this
    cases this
    obtain ⟨x, hx, hxj⟩ := V.edges A r B e _ he hb
    obtain ⟨A1, A2, rfl⟩ := List.append_of_mem hx
    obtain ⟨y, hy, hyi⟩ := ih A1 x (A2 ++ r :: B) (by simp [e]) hxj
    exact ⟨y, by simp [hy], hyi⟩

theorem mem_j_unique {tr A B : List DRec} {r x : DRec} (hn : (tr.map (·.j)).Nodup) (e : tr = A ++ r :: B) (hx : x ∈ A ∨ x ∈ B) : x.j ≠ r.j := by
  subst e
  rw [List.map_append, List.map_cons] at hn
  have h1 := List.nodup_append.1 hn
  intro ej
  rcases hx with hx | hx
  · exact h1.2.2 x.j (List.mem_map_of_mem hx) r.j (by simp) ej
  · have := (List.nodup_cons.1 h1.2.1).1
    exact this (ej ▸ List.mem_map_of_mem hx)

/-- What of a kind has come to pass when an operation r comes: what is told before r, where all of that kind are held in order with r. -/
theorem around {ops : Array Oper} {s0 : Env} {h0 : AHeap} {tr : List DRec} (V : Valid P ops s0 h0 tr) {S : Nat → Bool} (hdown : ∀ i j, Prec ops i j → S j = true → S i = true) {A B : List DRec} {r : DRec} (e : tr = A ++ r :: B)
    (hready : ∀ i, Prec ops i r.j → S i = true) (hnot : S r.j = false) {p : DRec → Bool} (hp : ∀ x, (x ∈ A → p x = true → Prec ops x.j r.j) ∧ (x ∈ B → p x = true → Prec ops r.j x.j)) :
    (A.filter (fun x => S x.j)).filter p = A.filter p ∧ (B.filter (fun x => S x.j)).filter p = [] := by
  constructor
  · rw [List.filter_filter]
    apply List.filter_congr
    intro x hx
    cases hpx : p x with
    | false => simp
    | true => rw [hready _ ((hp x).1 hx hpx)]; rfl
  · rw [List.filter_filter, List.filter_eq_nil_iff]
    intro x hx hc
    simp only [Bool.and_eq_true] at hc
    have := hdown _ _ ((hp x).2 hx hc.1) hc.2
    rw [hnot] at this
    cases this

/-- Where they touch one another they are in order. -/
theorem Valid.order {ops : Array Oper} {s0 : Env} {h0 : AHeap} {tr A B : List DRec} {r : DRec} (V : Valid P ops s0 h0 tr) (e : tr = A ++ r :: B) {p : DRec → Bool} (hA : ∀ x, Free ops x r → p x = false) (hB : ∀ x, Free ops r x → p x = false) :
    ∀ x, (x ∈ A → p x = true → Prec ops x.j r.j) ∧ (x ∈ B → p x = true → Prec ops r.j x.j) := by
  intro x
  constructor
  · intro hx hpx
    obtain ⟨A1, A2, rfl⟩ := List.append_of_mem hx
    rcases V.apart A1 x A2 r B (by simp [e]) with h | h
    · exact h
    · rw [hA x h] at hpx; cases hpx
  · intro hx hpx
    obtain ⟨B1, B2, rfl⟩ := List.append_of_mem hx
    rcases V.apart A r B1 x B2 e with h | h
    · exact h
    · rw [hB x h] at hpx; cases hpx

end
end Go.Ai
