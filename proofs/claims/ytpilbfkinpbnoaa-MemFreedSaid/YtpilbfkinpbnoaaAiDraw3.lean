/-
  A REGION THAT DRAWS ITS ORDER, 3: what holds between two of its operations, in whatever order.
-/
import Derived.Test.YtpilbfkinpbnoaaAiDraw2
set_option linter.unusedVariables false
namespace Go.Ai
noncomputable section
variable {P : Program}

structure DInv (P : Program) (tr : List DRec) (s0 : Env) (h0 : AHeap) (N : Nat) (ρ0 : Ren) (w0 : World) (S : Nat → Bool) (ρ : Ren) (w : World) (tm : Array Value) : Prop where
  next : ρ.next = N
  old : ∀ b, b < h0.next → ρ.m b = ρ0.m b
  size : s0.size = tm.size
  env : ∀ t, VRel (ρ.cut (envN (tr.filter fun r => S r.j) h0.next t)) (envV (tr.filter fun r => S r.j) s0 t) (tm.getD t undef)
  heap : ∀ b o, hpV (tr.filter fun r => S r.j) h0 b = some o → b < hpN (tr.filter fun r => S r.j) h0.next b ∧
    ∃ pl, ρ.m b = some pl ∧ ObjOk P (ρ.cut (hpN (tr.filter fun r => S r.j) h0.next b)) (decide (h0.ro ≤ b)) o pl w
  inj : ∀ b1 b2 o1 o2 p1 p2, hpV (tr.filter fun r => S r.j) h0 b1 = some o1 → hpV (tr.filter fun r => S r.j) h0 b2 = some o2 → ρ.m b1 = some p1 → ρ.m b2 = some p2 → p1.c = p2.c → b1 = b2
  fresh : ∀ x, x ∈ tr → S x.j = false → ∀ b, x.g.next ≤ b → b < x.g'.next → ρ.m b = none
  os : w.os = w0.os
  tape : w.tape = w0.tape
  output : w.output = w0.output
  wsize : w0.heap.size ≤ w.heap.size
  frame : ∀ c, c < w0.heap.size → ¬ Mine ρ0 h0 c → w.heap[c]? = w0.heap[c]?
  img : ∀ b o pl, hpV (tr.filter fun r => S r.j) h0 b = some o → h0.ro ≤ b → ρ.m b = some pl → pl.c < w0.heap.size → Mine ρ0 h0 pl.c
  gro : P.globals.size ≤ h0.ro
  gl : ∀ b pl, b < P.globals.size → ρ.m b = some pl → pl.c = b ∧ pl.base = 0

/-- 'S' and one more. -/
def addS (S : Nat → Bool) (j : Nat) : Nat → Bool := fun i => S i || decide (i = j)

section
variable {ops : Array Oper} {s0 : Env} {h0 : AHeap} {tr A B : List DRec} {r : DRec} {S : Nat → Bool}
theorem filter_split (e : tr = A ++ r :: B) (hnot : S r.j = false) : tr.filter (fun x => S x.j) = A.filter (fun x => S x.j) ++ B.filter (fun x => S x.j) := by
  subst e; simp [hnot]
theorem filter_add (V : Valid P ops s0 h0 tr) (e : tr = A ++ r :: B) : tr.filter (fun x => addS S r.j x.j) = A.filter (fun x => S x.j) ++ r :: B.filter (fun x => S x.j) := by
  have hA : A.filter (fun x => addS S r.j x.j) = A.filter (fun x => S x.j) := List.filter_congr fun x hx => by simp [addS, mem_j_unique V.nodup e (.inl hx)]
  have hB : B.filter (fun x => addS S r.j x.j) = B.filter (fun x => S x.j) := List.filter_congr fun x hx => by simp [addS, mem_j_unique V.nodup e (.inr hx)]
  rw [e, List.filter_append, List.filter_cons, hA, hB, if_pos (by simp [addS])]

/-- Where those of a kind are in order with r: before it, what has come to pass of that kind is what was told before; after it, r is the last. -/
theorem last_before (V : Valid P ops s0 h0 tr) (hdown : ∀ i j, Prec ops i j → S j = true → S i = true) (e : tr = A ++ r :: B) (hready : ∀ i, Prec ops i r.j → S i = true) (hnot : S r.j = false) {p : DRec → Bool}
    (hA : ∀ x, Free ops x r → p x = false) (hB : ∀ x, Free ops r x → p x = false) : lastR (tr.filter fun x => S x.j) p = lastR A p := by
  obtain ⟨h1, h2⟩ := around V hdown e hready hnot (V.order e hA hB)
  rw [lastR, filter_split e hnot, List.filter_append, h1, h2, List.append_nil]; rfl
theorem last_after (V : Valid P ops s0 h0 tr) (hdown : ∀ i j, Prec ops i j → S j = true → S i = true) (e : tr = A ++ r :: B) (hready : ∀ i, Prec ops i r.j → S i = true) (hnot : S r.j = false) {p : DRec → Bool} (hr : p r = true)
    (hA : ∀ x, Free ops x r → p x = false) (hB : ∀ x, Free ops r x → p x = false) : lastR (tr.filter fun x => addS S r.j x.j) p = some r := by
  obtain ⟨h1, h2⟩ := around V hdown e hready hnot (V.order e hA hB)
  rw [lastR, filter_add V e, List.filter_append, List.filter_cons, if_pos hr, h1, h2]
  simp
theorem last_other (V : Valid P ops s0 h0 tr) (e : tr = A ++ r :: B) (hnot : S r.j = false) {p : DRec → Bool} (hr : p r = false) : lastR (tr.filter fun x => addS S r.j x.j) p = lastR (tr.filter fun x => S x.j) p := by
  rw [lastR, lastR, filter_add V e, filter_split e hnot, List.filter_append, List.filter_cons, hr, if_neg (by simp), List.filter_append]

theorem lastR_mem {T : List DRec} {p : DRec → Bool} {x : DRec} (h : lastR T p = some x) : x ∈ T ∧ p x = true := by
  have := List.mem_of_getLast? h
  exact List.mem_filter.1 this

/-- One operation more. -/
theorem draw_step (hro0 : h0.ro ≤ h0.next) (V : Valid P ops s0 h0 tr) (hdown : ∀ i j, Prec ops i j → S j = true → S i = true) (e : tr = A ++ r :: B) (hready : ∀ i, Prec ops i r.j → S i = true) (hnot : S r.j = false)
    {N : Nat} (hN : ∀ x, x ∈ tr → x.g'.next ≤ N) {ρ0 ρ : Ren} {w0 w : World} {tm : Array Value} (I : DInv P tr s0 h0 N ρ0 w0 S ρ w tm) (ds : List Deferred) (rest : List Nat) (b : Frame) (k : List Item) (cs : List Frame) :
    ∃ ρ' w' tm', DInv P tr s0 h0 N ρ0 w0 (addS S r.j) ρ' w' tm' ∧ Steps P (lone (fat b tm ds (.inRegion ops (r.j :: rest) :: k)) cs w) (lone (fat b tm' ds (.inRegion ops rest :: k)) cs w') := by
  have D := V.told A r B e
  have hrm : r ∈ tr := by rw [e]; simp
  -- what r looks at has come to pass just as it was told
  have lookEnv : ∀ t, t ∈ r.o.looksAt ops → lastR (tr.filter fun x => S x.j) (wrs t) = lastR A (wrs t) := fun t ht =>
    last_before V hdown e hready hnot (fun x hx => by
      cases hw : wrs t x with
      | false => rfl
      | true => exact absurd ht (hx.d1 t (of_decide_eq_true hw)).1) (fun x hx => by
      cases hw : wrs t x with
      | false => rfl
      | true => exact absurd ht (hx.d2 t (of_decide_eq_true hw)))
  have lookHeap : ∀ bb, r.rd bb = true → lastR (tr.filter fun x => S x.j) (fun x => x.tc bb) = lastR A (fun x => x.tc bb) := fun bb hb =>
    last_before V hdown e hready hnot (fun x hx => by
      cases hw : x.tc bb with
      | false => rfl
      | true => have := (hx.b1 bb hw).1; rw [hb] at this; cases this) (fun x hx => by
      cases hw : x.tc bb with
      | false => rfl
      | true => have := hx.b2 bb hw; rw [hb] at this; cases this)
  have hpVeq : ∀ bb, r.rd bb = true → hpV (tr.filter fun x => S x.j) h0 bb = r.g.get bb := fun bb hb => by
    rw [D.heap, if_pos hb]; simp only [hpV, lookHeap bb hb]
  have hpNle : ∀ bb, r.rd bb = true → hpN (tr.filter fun x => S x.j) h0.next bb ≤ r.g.next := fun bb hb => by
    simp only [hpN, lookHeap bb hb]
    split
    · rename_i x hx; exact D.nA x (lastR_mem hx).1
    · exact D.n0
  have galive : ∀ bb o, r.g.get bb = some o → r.rd bb = true ∧ hpV (tr.filter fun x => S x.j) h0 bb = some o := fun bb o hg => by
    rw [D.heap] at hg
    cases hb : r.rd bb with
    | false => rw [hb] at hg; simp at hg
    | true => exact ⟨rfl, by rw [hpVeq bb hb, D.heap]; exact hg⟩
  let ρr := ρ.cut r.g.next
  have hrel : Rel P ρr r.g w := by
    refine ⟨rfl, ?_, ?_, ?_, ?_, by rw [D.ro]; exact I.gro, I.gl⟩
    · have h1 := D.ro; have h2 := D.n0
      show r.g.ro ≤ r.g.next
      omega
    · intro bb o hg
      obtain ⟨h1, h2⟩ := galive bb o hg
      exact Nat.lt_of_lt_of_le (I.heap bb o h2).1 (hpNle bb h1)
    · intro bb o hg
      obtain ⟨h1, h2⟩ := galive bb _ hg
      obtain ⟨_, pl, hp, hc⟩ := I.heap bb o h2
      refine ⟨pl, hp, ?_⟩
      rw [D.ro]
      exact hc.cutup (hpNle bb h1)
    · intro b1 b2 o1 o2 p1 p2 g1 g2
      exact I.inj b1 b2 o1 o2 p1 p2 (galive b1 o1 g1).2 (galive b2 o2 g2).2
  have hlook : ∀ t, t ∈ r.o.looksAt ops → VRel ρr (r.s.get t) (tm.getD t undef) := by
    intro t ht
    have h1 := I.env t
    have e1 : envV (tr.filter fun x => S x.j) s0 t = r.s.get t := by rw [D.env t]; simp only [envV, lookEnv t ht]
    have e2 : envN (tr.filter fun x => S x.j) h0.next t ≤ r.g.next := by
      simp only [envN, lookEnv t ht]
      split
      · rename_i x hx; exact D.nA x (lastR_mem hx).1
      · exact D.n0
    rw [e1] at h1
    exact h1.cutup e2
  obtain ⟨v', w', ρq, st, hv, sx⟩ := opSem_steps D.op D.sem hrel (D.size.trans I.size) hlook ds rest b k cs
  let ρ' : Ren := { next := N, m := fun bb => if r.g.next ≤ bb ∧ bb < r.g'.next then ρq.m bb else ρ.m bb }
  have qnext : ρq.next = r.g'.next := st.rel.next
  have qlow : ∀ bb, bb < r.g.next → ρq.m bb = ρ.m bb := fun bb hb => st.le.2 bb hb
  have pq : ∀ bb, bb < r.g'.next → ρ'.m bb = ρq.m bb := by
    intro bb hb
    by_cases hl : r.g.next ≤ bb
    · exact if_pos ⟨hl, hb⟩
    · rw [show ρ'.m bb = ρ.m bb from if_neg (by omega), qlow bb (by omega)]
  have rfresh := I.fresh r hrm hnot
  have pext : ∀ bb pl, ρ.m bb = some pl → ρ'.m bb = some pl := by
    intro bb pl hm
    rw [show ρ'.m bb = ρ.m bb from if_neg (by
      rintro ⟨h1, h2⟩
      rw [rfresh bb h1 h2] at hm; cases hm)]
    exact hm
  have hn1N : r.g'.next ≤ N := hN r hrm
  -- the parts of the world after r
  have notMine : ∀ bb o pl, hpV (tr.filter fun x => S x.j) h0 bb = some o → ρ.m bb = some pl → r.rd bb = false → ¬ Mine ρr r.g pl.c := by
    rintro bb o pl hg hm hb ⟨b1, o1, p1, g1, _, m1, e1⟩
    obtain ⟨k1, k2⟩ := galive b1 o1 g1
    have := I.inj b1 bb o1 o p1 pl k2 hg m1 hm e1
    subst this
    rw [hb] at k1; cases k1
  have hpVnew : ∀ bb, hpV (tr.filter fun x => addS S r.j x.j) h0 bb = if r.tc bb = true then r.g'.get bb else hpV (tr.filter fun x => S x.j) h0 bb := by
    intro bb
    cases ht : r.tc bb with
    | true =>
      rw [if_pos rfl]
      simp only [hpV]
      rw [last_after V hdown e hready hnot ht (fun x hx => by
        cases hw : x.tc bb with
        | false => rfl
        | true => have := (hx.b1 bb hw).2; rw [ht] at this; cases this) (fun x hx => by
        cases hw : x.tc bb with
        | false => rfl
        | true => have := (hx.b1 bb ht).2; rw [hw] at this; cases this)]
    | false =>
      rw [if_neg (by simp)]
      simp only [hpV]
      rw [last_other V e hnot (p := fun x => x.tc bb) ht]
  have hpNnew : ∀ bb, hpN (tr.filter fun x => addS S r.j x.j) h0.next bb = if r.tc bb = true then r.g'.next else hpN (tr.filter fun x => S x.j) h0.next bb := by
    intro bb
    cases ht : r.tc bb with
    | true =>
      rw [if_pos rfl]
      simp only [hpN]
      rw [last_after V hdown e hready hnot ht (fun x hx => by
        cases hw : x.tc bb with
        | false => rfl
        | true => have := (hx.b1 bb hw).2; rw [ht] at this; cases this) (fun x hx => by
        cases hw : x.tc bb with
        | false => rfl
        | true => have := (hx.b1 bb ht).2; rw [hw] at this; cases this)]
    | false =>
      rw [if_neg (by simp)]
      simp only [hpN]
      rw [last_other V e hnot (p := fun x => x.tc bb) ht]
  -- each block that is there behind r: touched, or as it was
  have cases' : ∀ bb o, hpV (tr.filter fun x => addS S r.j x.j) h0 bb = some o → (r.tc bb = true ∧ r.g'.get bb = some o) ∨ (r.tc bb = false ∧ hpV (tr.filter fun x => S x.j) h0 bb = some o) := by
    intro bb o h
    rw [hpVnew] at h
    cases ht : r.tc bb with
    | true => rw [ht, if_pos rfl] at h; exact .inl ⟨rfl, h⟩
    | false => rw [ht, if_neg (by simp)] at h; exact .inr ⟨rfl, h⟩
  refine ⟨ρ', w', putTm tm r.o.dst v', ⟨rfl, ?_, ?_, ?_, ?_, ?_, ?_, st.os.trans I.os, st.tape.trans I.tape, st.output.trans I.output, Nat.le_trans I.wsize st.size, ?_, ?_, I.gro, fun b pl hb hm => I.gl b pl hb (by
    rw [show ρ'.m b = ρ.m b from if_neg (by have := D.n0; have := I.gro; omega)] at hm; exact hm)⟩, sx⟩
  · intro bb hb
    rw [show ρ'.m bb = ρ.m bb from if_neg (by have := D.n0; omega)]
    exact I.old bb hb
  · cases r.o.dst with
    | none => exact I.size
    | some d => simp only [putTm, Array.size_setIfInBounds]; exact I.size
  · -- the slots
    intro t
    by_cases ht : r.o.dst = some t
    · have e1 : lastR (tr.filter fun x => addS S r.j x.j) (wrs t) = some r := last_after V hdown e hready hnot (p := wrs t) (by simp [wrs, ht]) (fun x hx => by
        cases hw : wrs t x with
        | false => rfl
        | true => exact absurd ht (hx.d1 t (of_decide_eq_true hw)).2) (fun x hx => by
        cases hw : wrs t x with
        | false => rfl
        | true => exact absurd (of_decide_eq_true hw) (hx.d1 t ht).2)
      simp only [envV, envN, e1]
      have e2 : (putTm tm r.o.dst v').getD t undef = v' := by
        have hlt : t < tm.size := by rw [← I.size]; exact D.put t ht
        rw [ht]; simp [putTm, Array.getD_eq_getD_getElem?, hlt]
      rw [e2]
      refine hv.ext (by show ρq.next ≤ r.g'.next; rw [qnext]; exact Nat.le_refl _) (fun bb pl hb hm => ?_)
      show ρ'.m bb = some pl
      rw [pq bb (by rw [← qnext]; exact hb)]; exact hm
    · have e1 : lastR (tr.filter fun x => addS S r.j x.j) (wrs t) = lastR (tr.filter fun x => S x.j) (wrs t) := last_other V e hnot (p := wrs t) (by simp [wrs, ht])
      have e2 : (putTm tm r.o.dst v').getD t undef = tm.getD t undef := by
        cases hd : r.o.dst with
        | none => rfl
        | some d =>
          have : d ≠ t := fun h => ht (by rw [hd, h])
          simp [putTm, Array.getD_eq_getD_getElem?, this]
      have h1 := I.env t
      simp only [envV, envN] at h1 ⊢
      rw [e1, e2]
      exact h1.cutext (ρ' := ρ') pext
  · -- the blocks
    intro bb o hg
    rcases cases' bb _ hg with ⟨ht, hg'⟩ | ⟨ht, hg'⟩
    · rw [hpNnew, if_pos ht]
      obtain ⟨pl, hp, hc⟩ := st.rel.ok bb o hg'
      have hlt := st.rel.dom bb _ hg'
      refine ⟨hlt, pl, by rw [pq bb hlt]; exact hp, ?_⟩
      have hro : r.g'.ro = h0.ro := st.ro.trans D.ro
      rw [hro] at hc
      exact hc.ext (by show ρq.next ≤ r.g'.next; rw [qnext]; exact Nat.le_refl _) (fun b2 p2 hb hm => by show ρ'.m b2 = some p2; rw [pq b2 (by rw [← qnext]; exact hb)]; exact hm)
    · rw [hpNnew, ht, if_neg (by simp)]
      obtain ⟨hlt, pl, hp, hc⟩ := I.heap bb o hg'
      refine ⟨hlt, pl, pext bb pl hp, ?_⟩
      have hdone : ObjOk P (ρ.cut (hpN (tr.filter fun x => S x.j) h0.next bb)) (decide (h0.ro ≤ bb)) o pl w' := by
        cases hb : r.rd bb with
        | true =>
          have hgg : r.g'.get bb = some o := by rw [D.tc2 bb ht, ← hpVeq bb hb]; exact hg'
          obtain ⟨p2, hp2, hc2⟩ := st.rel.ok bb o hgg
          have hbl : bb < r.g.next := Nat.lt_of_lt_of_le hlt (hpNle bb hb)
          rw [qlow bb hbl, hp] at hp2
          cases hp2
          have hro : r.g'.ro = h0.ro := st.ro.trans D.ro
          rw [hro] at hc2
          exact ObjOk.down (ρ := ρ.cut (hpN (tr.filter fun x => S x.j) h0.next bb)) (ρ2 := ρq) (fun b2 hb2 => qlow b2 (Nat.lt_of_lt_of_le hb2 (hpNle bb hb))) hc hc2
        | false => exact hc.other (st.frame pl.c hc.lt (notMine bb _ pl hg' hp hb))
      exact hdone.cutext (ρ' := ρ') pext
  · -- apart they stay
    have key : ∀ b1 b2 o1 o2 p1 p2, r.tc b1 = true → r.g'.get b1 = some o1 → r.tc b2 = false → hpV (tr.filter fun x => S x.j) h0 b2 = some o2 → ρ'.m b1 = some p1 → ρ'.m b2 = some p2 → p1.c = p2.c → b1 = b2 := by
      intro b1 b2 o1 o2 p1 p2 t1 g1 t2 g2 m1 m2 ec
      obtain ⟨hlt2, q2, hq2, hc2⟩ := I.heap b2 o2 g2
      rw [pext b2 q2 hq2] at m2
      cases m2
      have hl1 := st.rel.dom b1 o1 g1
      rw [pq b1 hl1] at m1
      cases hb2 : r.rd b2 with
      | true =>
        have hgg : r.g'.get b2 = some o2 := by rw [D.tc2 b2 t2, ← hpVeq b2 hb2]; exact g2
        have hbl : b2 < r.g.next := Nat.lt_of_lt_of_le hlt2 (hpNle b2 hb2)
        exact st.rel.inj b1 b2 o1 _ p1 p2 g1 hgg m1 (by rw [qlow b2 hbl]; exact hq2) ec
      | false =>
        by_cases hw : h0.ro ≤ b1
        · have hM : Mine ρq r.g' p1.c := ⟨b1, o1, p1, g1, by rw [st.ro, D.ro]; exact hw, m1, rfl⟩
          have hlt : p1.c < w.heap.size := by rw [ec]; exact hc2.lt
          have := st.img p1.c hlt hM
          rw [ec] at this
          exact absurd this (notMine b2 _ p2 g2 hq2 hb2)
        · have hb1 : b1 < r.g.next := by have := D.n0; omega
          have hne := D.tc3 b1 o1 t1 hb1 g1
          obtain ⟨o1', ho1'⟩ : ∃ o, r.g.get b1 = some o := by cases hh : r.g.get b1 with | none => exact absurd hh hne | some o => exact ⟨o, rfl⟩
          rw [qlow b1 hb1] at m1
          exact I.inj b1 b2 o1' _ p1 p2 (galive b1 o1' ho1').2 g2 m1 hq2 ec
    intro b1 b2 o1 o2 p1 p2 g1 g2 m1 m2 ec
    rcases cases' b1 o1 g1 with ⟨t1, k1⟩ | ⟨t1, k1⟩ <;> rcases cases' b2 o2 g2 with ⟨t2, k2⟩ | ⟨t2, k2⟩
    · have l1 := st.rel.dom b1 o1 k1
      have l2 := st.rel.dom b2 o2 k2
      rw [pq b1 l1] at m1; rw [pq b2 l2] at m2
      exact st.rel.inj b1 b2 o1 o2 p1 p2 k1 k2 m1 m2 ec
    · exact key b1 b2 o1 o2 p1 p2 t1 k1 t2 k2 m1 m2 ec
    · exact (key b2 b1 o2 o1 p2 p1 t2 k2 t1 k1 m2 m1 ec.symm).symm
    · obtain ⟨_, q1, hq1, _⟩ := I.heap b1 o1 k1
      obtain ⟨_, q2, hq2, _⟩ := I.heap b2 o2 k2
      rw [pext b1 q1 hq1] at m1; rw [pext b2 q2 hq2] at m2
      cases m1; cases m2
      exact I.inj b1 b2 _ _ p1 p2 k1 k2 hq1 hq2 ec
  · -- what is not laid yet
    intro x hx hS bb h1 h2
    simp only [addS, Bool.or_eq_false_iff, decide_eq_false_iff_not] at hS
    have h3 := I.fresh x hx hS.1 bb h1 h2
    have hne : x ≠ r := fun h => hS.2 (by rw [h])
    have hdis : ¬ (r.g.next ≤ bb ∧ bb < r.g'.next) := by
      rw [e] at hx
      rcases List.mem_append.1 hx with hxA | hxB
      · have := D.nA x hxA; omega
      · rcases List.mem_cons.1 hxB with hxr | hxB
        · exact absurd hxr hne
        · obtain ⟨B1, B2, rfl⟩ := List.append_of_mem hxB
          have := (V.told (A ++ r :: B1) x B2 (by simp [e])).nA r (by simp)
          omega
    rw [show ρ'.m bb = ρ.m bb from if_neg hdis]
    exact h3
  · intro c hc hn
    rw [st.frame c (Nat.lt_of_lt_of_le hc I.wsize) (by
      rintro ⟨b1, o1, p1, g1, hro1, m1, rfl⟩
      exact hn (I.img b1 o1 p1 (galive b1 o1 g1).2 (by rw [← D.ro]; exact hro1) m1 hc))]
    exact I.frame c hc hn
  · intro bb o pl hg hro hm hc
    rcases cases' bb o hg with ⟨ht, hg'⟩ | ⟨ht, hg'⟩
    · rw [pq bb (st.rel.dom bb o hg')] at hm
      obtain ⟨b1, o1, p1, g1, hro1, m1, e1⟩ := st.img pl.c (Nat.lt_of_lt_of_le hc I.wsize) ⟨bb, o, pl, hg', by rw [st.ro, D.ro]; exact hro, hm, rfl⟩
      rw [← e1]
      exact I.img b1 o1 p1 (galive b1 o1 g1).2 (by rw [← D.ro]; exact hro1) m1 (by rw [e1]; exact hc)
    · obtain ⟨_, q, hq, _⟩ := I.heap bb o hg'
      rw [pext bb q hq] at hm
      cases hm
      exact I.img bb _ pl hg' hro hq hc
end

end
end Go.Ai
