/-
  WHAT IS ASKED OF A PIECE OF CODE, 7: those questions of a region that draws its order are sound.
-/
import Derived.Test.YtogpghbigjnpnaaDoorAiWpV
set_option linter.unusedVariables false
namespace Go.Ai
noncomputable section
variable {P : Program}

/-- What a record of a kind looks at and touches; A: the records ahead of it, m: what must stand ahead. -/
structure RV (P : Program) (q : FuncId → Nat) (ops : Array Oper) (A : List DRec) (m : Nat) (x : DRec) : Prop where
  rd : ∀ b, x.rd b = true → b < x.g.next
  k0 : kindV P q ops x.o = 0 ∨ kindV P q ops x.o = 5 → ∀ b, x.rd b = false
  k1 : kindV P q ops x.o ≤ 1 → ∀ b, x.tc b = false
  lk : looker (kindV P q ops x.o) = true → ∀ b, x.rd b = true → ∀ z, z ∈ A → layer (kindV P q ops z.o) = true → m.testBit z.j = false → ¬ (z.g.next ≤ b ∧ b < z.g'.next)
  tc : kindV P q ops x.o ≠ 3 → ∀ b, x.tc b = true → (x.g.next ≤ b ∧ b < x.g'.next) ∨ (kindV P q ops x.o = 4 ∧ ∃ z, z ∈ A ∧ layer (kindV P q ops z.o) = true ∧ zOf ops x.o = some z.j ∧ z.g.next ≤ b ∧ b < z.g'.next) ∨ (kindV P q ops x.o = 7 ∧ b < x.g.next ∧ blkF (val0 x.s x.o) ≤ b ∧ b < blkT (val0 x.s x.o))
  lb : looker (kindV P q ops x.o) = true → ∀ b, x.rd b = true → ∀ z, z ∈ A → kindV P q ops z.o = 7 → m.testBit z.j = false → ¬ (blkF (val0 z.s z.o) ≤ b ∧ b < blkT (val0 z.s z.o))
  t3 : kindV P q ops x.o = 3 → ∀ b, x.tc b = true → b < x.g'.next
/-- What stands behind an operation. -/
structure NextV (P : Program) (q : FuncId → Nat) (ops : Array Oper) (s0 : Env) (h0 : AHeap) (A : List DRec) (i : Nat) (o : Oper) (s : Env) (h : AHeap) (u : Value) (h1 : AHeap) (m : Nat) (y : DRec) : Prop where
  hj : y.j = i
  hop : y.o = o
  hsl : y.s = s
  hval : y.v = u
  gn : y.g.next = h.next
  told : Told P ops s0 h0 A y
  rv : RV P q ops A m y
  heap : ∀ b, h1.get b = if y.tc b = true then y.g'.get b else h.get b
  ro : h1.ro = h.ro
  next : h.next ≤ h1.next
  gnext : y.g'.next ≤ h1.next
  geq : layer (kindV P q ops o) = true → y.g'.next = h1.next
  wf : WF h1
/-- Where the new blocks lie. -/
def alV (P : Program) (q : FuncId → Nat) (ops : Array Oper) : List DRec → List (Nat × Nat × Nat)
  | [] => []
  | x :: l => lays (kindV P q ops x.o) x.j x.g.next x.g'.next (val0 x.s x.o) ++ alV P q ops l
theorem alV_snoc (P : Program) (q : FuncId → Nat) (ops : Array Oper) (A : List DRec) (y : DRec) : alV P q ops (A ++ [y]) = alV P q ops A ++ lays (kindV P q ops y.o) y.j y.g.next y.g'.next (val0 y.s y.o) := by
  induction A with
  | nil => simp only [List.nil_append, alV, List.append_nil]
  | cons x A ih => simp only [List.cons_append, alV, ih, List.append_assoc]
theorem lays_cases {k i n n' : Nat} {v : Value} : (layer k = false ∧ lays k i n n' v = []) ∨ (layer k = true ∧ (lays k i n n' v = [(i, n, n')] ∨ (k = 7 ∧ lays k i n n' v = [(i, n, n'), (i, blkF v, blkT v)]))) := by
  unfold lays
  cases layer k with
  | false => exact .inl ⟨rfl, rfl⟩
  | true =>
    refine .inr ⟨rfl, ?_⟩
    cases h7 : Nat.beq k 7 with
    | false => exact .inl rfl
    | true => exact .inr ⟨Nat.eq_of_beq_eq_true h7, rfl⟩
theorem find_alV {q : FuncId → Nat} {ops : Array Oper} {A : List DRec} {z f t : Nat} (h : findAl z (alV P q ops A) = some (f, t)) : ∃ x, x ∈ A ∧ layer (kindV P q ops x.o) = true ∧ (z, f, t) = (x.j, x.g.next, x.g'.next) := by
  induction A with
  | nil => cases h
  | cons x A ih =>
    simp only [alV] at h
    have rest : findAl z (alV P q ops A) = some (f, t) → ∃ y, y ∈ x :: A ∧ layer (kindV P q ops y.o) = true ∧ (z, f, t) = (y.j, y.g.next, y.g'.next) := fun h => by
      obtain ⟨x', h1, h2⟩ := ih h; exact ⟨x', by simp [h1], h2⟩
    rcases lays_cases (k := kindV P q ops x.o) (i := x.j) (n := x.g.next) (n' := x.g'.next) (v := val0 x.s x.o) with ⟨hl, e⟩ | ⟨hl, e | ⟨_, e⟩⟩
    · rw [e] at h; exact rest h
    · rw [e] at h
      cases hb : Nat.beq x.j z with
      | true =>
        simp only [List.singleton_append, findAl, hb, cond_true, Option.some.injEq, Prod.mk.injEq] at h
        exact ⟨x, by simp, hl, by rw [← Nat.eq_of_beq_eq_true hb, h.1, h.2]⟩
      | false => simp only [List.singleton_append, findAl, hb, cond_false] at h; exact rest h
    · rw [e] at h
      cases hb : Nat.beq x.j z with
      | true =>
        simp only [List.cons_append, List.nil_append, findAl, hb, cond_true, Option.some.injEq, Prod.mk.injEq] at h
        exact ⟨x, by simp, hl, by rw [← Nat.eq_of_beq_eq_true hb, h.1, h.2]⟩
      | false => simp only [List.cons_append, List.nil_append, findAl, hb, cond_false] at h; exact rest h
theorem alV_mem {q : FuncId → Nat} {ops : Array Oper} {A : List DRec} {x : DRec} (h : x ∈ A) (hl : layer (kindV P q ops x.o) = true) : (x.j, x.g.next, x.g'.next) ∈ alV P q ops A := by
  induction A with
  | nil => cases h
  | cons z A ih =>
    simp only [alV]
    rcases List.mem_cons.1 h with rfl | h
    · refine List.mem_append_left _ ?_
      rcases lays_cases (k := kindV P q ops x.o) (i := x.j) (n := x.g.next) (n' := x.g'.next) (v := val0 x.s x.o) with ⟨hl', e⟩ | ⟨_, e | ⟨_, e⟩⟩
      · rw [hl] at hl'; cases hl'
      · rw [e]; simp
      · rw [e]; simp
    · exact List.mem_append_right _ (ih h)
theorem alV_mem7 {q : FuncId → Nat} {ops : Array Oper} {A : List DRec} {x : DRec} (h : x ∈ A) (h7 : kindV P q ops x.o = 7) : (x.j, blkF (val0 x.s x.o), blkT (val0 x.s x.o)) ∈ alV P q ops A := by
  induction A with
  | nil => cases h
  | cons z A ih =>
    simp only [alV]
    rcases List.mem_cons.1 h with rfl | h
    · refine List.mem_append_left _ ?_
      rw [h7]
      show _ ∈ [_, _]
      simp
    · exact List.mem_append_right _ (ih h)
section
variable {q : FuncId → Nat} {ops : Array Oper} {s0 : Env} {h0 : AHeap} {A : List DRec} {i : Nat} {o : Oper} {s : Env} {h : AHeap}
theorem wf_hid {h : AHeap} (w : WF h) {b : Nat} (hb : ¬ b < h.next) : h.get b = none := by
  cases hh : h.get b with | none => rfl | some o' => exact absurd (w b o' hh) hb
/-- What it sees. -/
def eyes (m : Nat) (al : List (Nat × Nat × Nat)) (h : AHeap) (b : Nat) : Bool := Nat.blt b h.next && seenV m al b
theorem eyes_lt {m : Nat} {al : List (Nat × Nat × Nat)} {b : Nat} (hb : eyes m al h b = true) : b < h.next := by
  unfold eyes at hb
  rw [Bool.and_eq_true, Nat.blt_eq] at hb
  exact hb.1
theorem eyes_not {m : Nat} {b : Nat} (hb : eyes m (alV P q ops A) h b = true) {z : DRec} (hz : z ∈ A) (hl : layer (kindV P q ops z.o) = true) (hm : m.testBit z.j = false) : ¬ (z.g.next ≤ b ∧ b < z.g'.next) := by
  unfold eyes seenV at hb
  rw [Bool.and_eq_true, List.all_eq_true] at hb
  have := hb.2 _ (alV_mem hz hl)
  simp only [hm, Bool.false_or, Bool.not_eq_true'] at this
  intro e
  have t : (Nat.ble z.g.next b && Nat.blt b z.g'.next) = true := by rw [Bool.and_eq_true, Nat.ble_eq, Nat.blt_eq]; exact e
  rw [t] at this
  cases this
theorem eyes_not7 {m : Nat} {b : Nat} (hb : eyes m (alV P q ops A) h b = true) {z : DRec} (hz : z ∈ A) (h7 : kindV P q ops z.o = 7) (hm : m.testBit z.j = false) : ¬ (blkF (val0 z.s z.o) ≤ b ∧ b < blkT (val0 z.s z.o)) := by
  unfold eyes seenV at hb
  rw [Bool.and_eq_true, List.all_eq_true] at hb
  have := hb.2 _ (alV_mem7 hz h7)
  simp only [hm, Bool.false_or, Bool.not_eq_true'] at this
  intro e
  have t : (Nat.ble (blkF (val0 z.s z.o)) b && Nat.blt b (blkT (val0 z.s z.o))) = true := by rw [Bool.and_eq_true, Nat.ble_eq, Nat.blt_eq]; exact e
  rw [t] at this
  cases this
theorem view_eyes {m : Nat} (F : Sofar P ops s0 h0 A i s h) (b : Nat) : (viewV m (alV P q ops A) h).get b = if eyes m (alV P q ops A) h b = true then hpV A h0 b else none := by
  rw [(viewV_facts m (alV P q ops A) h).2.2 b]
  unfold eyes
  by_cases hb : b < h.next
  · rw [show Nat.blt b h.next = true by rw [Nat.blt_eq]; exact hb, Bool.true_and, F.heap]
  · have e : Nat.blt b h.next = false := by
      cases e : Nat.blt b h.next with
      | false => rfl
      | true => rw [Nat.blt_eq] at e; exact absurd e hb
    rw [e, Bool.false_and, wf_hid F.wf hb]
    simp
/-- It looked at nothing and touched nothing. -/
theorem nextV_pure (F : Sofar P ops s0 h0 A i s h) (ho : ops[i]? = some o) (hput : ∀ d, o.dst = some d → d < s.size) {u : Value} (hs : OpSem P ops s o (h.pick []) u (h.pick [])) (m : Nat) : ∃ y, NextV P q ops s0 h0 A i o s h u h m y := by
  refine ⟨⟨i, o, u, s, h.pick [], h.pick [], fun _ => false, fun _ => false⟩, rfl, rfl, rfl, rfl, rfl,
    ⟨ho, F.env, F.size, fun b => by rw [get_pick]; simp, F.ro, F.next, F.nA, Nat.le_refl _, hs, fun d hd => by rw [← F.size]; exact hput d hd, fun b hb => (by cases hb), fun b _ => rfl, fun b o' hb => (by cases hb)⟩,
    ⟨fun b hb => (by cases hb), fun _ _ => rfl, fun _ _ => rfl, fun _ b hb => (by cases hb), fun _ b hb => (by cases hb), fun _ b hb => (by cases hb), fun _ b hb => (by cases hb)⟩, fun b => by simp, rfl, Nat.le_refl _, Nat.le_refl _, fun _ => rfl, F.wf⟩
/-- It laid a block and looked at none. -/
theorem nextV_lay (F : Sofar P ops s0 h0 A i s h) (ho : ops[i]? = some o) (hput : ∀ d, o.dst = some d → d < s.size) (hk : kindV P q ops o = 5) {u : Value} {ob : AObj} (hs : OpSem P ops s o (h.pick []) u ((h.pick []).push ob)) (m : Nat) : ∃ y, NextV P q ops s0 h0 A i o s h u (h.push ob) m y := by
  have hp : (h.pick []).next = h.next := rfl
  have htc : ∀ b, (decide (b = h.next) = true) ↔ b = h.next := fun b => by simp
  refine ⟨⟨i, o, u, s, h.pick [], (h.pick []).push ob, fun _ => false, fun b => decide (b = h.next)⟩, rfl, rfl, rfl, rfl, rfl,
    ⟨ho, F.env, F.size, fun b => by rw [get_pick]; simp, F.ro, F.next, F.nA, Nat.le_succ _, hs, fun d hd => by rw [← F.size]; exact hput d hd, fun b hb => ?_, fun b hb => ?_, fun b o' hb hlt => ?_⟩,
    ⟨fun b hb => (by cases hb), fun _ _ => rfl, fun h => ?_, fun _ b hb => (by cases hb), fun _ b hb => ?_, fun _ b hb => (by cases hb), fun e => absurd (hk.symm.trans e) (by decide)⟩, fun b => ?_, rfl, Nat.le_succ _, Nat.le_refl _, fun _ => rfl, fun b o' hb => ?_⟩
  · refine .inr ?_
    have := (htc b).1 hb
    show h.next ≤ b ∧ b < h.next + 1
    omega
  · have hb : decide (b = h.next) = false := hb
    have hne : b ≠ h.next := fun e => by rw [(htc b).2 e] at hb; cases hb
    rw [AHeap.get_push, if_neg (by rw [hp]; exact hne)]
  · have e1 := (htc b).1 hb
    have e2 : b < h.next := hlt
    omega
  · simp only at h; omega
  · have := (htc b).1 hb
    refine .inl ?_
    show h.next ≤ b ∧ b < h.next + 1
    omega
  · show (h.push ob).get b = if decide (b = h.next) = true then ((h.pick []).push ob).get b else h.get b
    rw [AHeap.get_push, AHeap.get_push, hp]
    by_cases e : b = h.next
    · rw [if_pos e, if_pos ((htc b).2 e), if_pos e]
    · rw [if_neg e, if_neg (fun t => e ((htc b).1 t))]
  · rw [AHeap.get_push] at hb
    rw [AHeap.next_push]
    split at hb
    · rename_i e; omega
    · exact Nat.lt_succ_of_lt (F.wf b o' hb)
/-- It looked. -/
theorem nextV_read (F : Sofar P ops s0 h0 A i s h) (ho : ops[i]? = some o) (hput : ∀ d, o.dst = some d → d < s.size) (hk : kindV P q ops o = 1) {m : Nat} {u : Value} (hs : OpSem P ops s o (viewV m (alV P q ops A) h) u (viewV m (alV P q ops A) h)) : ∃ y, NextV P q ops s0 h0 A i o s h u h m y := by
  obtain ⟨v1, v2, v3⟩ := viewV_facts m (alV P q ops A) h
  refine ⟨⟨i, o, u, s, viewV m (alV P q ops A) h, viewV m (alV P q ops A) h, eyes m (alV P q ops A) h, fun _ => false⟩, rfl, rfl, rfl, rfl, v1,
    ⟨ho, F.env, F.size, view_eyes F, v2.trans F.ro, by rw [v1]; exact F.next, fun x hx => by rw [v1]; exact F.nA x hx, Nat.le_refl _, hs, fun d hd => by rw [← F.size]; exact hput d hd, fun b hb => (by cases hb), fun b _ => rfl, fun b o' hb => (by cases hb)⟩,
    ⟨fun b hb => by show b < (viewV m (alV P q ops A) h).next; rw [v1]; exact eyes_lt hb, fun e => by simp only at e; omega, fun _ _ => rfl, fun _ b hb z hz hl hm => eyes_not hb hz hl hm, fun _ b hb => (by cases hb), fun _ b hb z hz hl hm => eyes_not7 hb hz hl hm, fun _ b hb => (by cases hb)⟩, fun b => by simp, rfl, Nat.le_refl _, by rw [v1]; exact Nat.le_refl _, fun e => (by rw [hk] at e; cases e), F.wf⟩
/-- A call that laid blocks alone. -/
theorem nextV_call (F : Sofar P ops s0 h0 A i s h) (ho : ops[i]? = some o) (hput : ∀ d, o.dst = some d → d < s.size) (hk : kindV P q ops o = 6) {m : Nat} {h2 : AHeap} (hn : h.next ≤ h2.next) {u : Value} (hs : OpSem P ops s o (viewV m (alV P q ops A) h) u (graft (viewV m (alV P q ops A) h) h2)) : ∃ y, NextV P q ops s0 h0 A i o s h u (graft h h2) m y := by
  obtain ⟨v1, v2, v3⟩ := viewV_facts m (alV P q ops A) h
  have htc : ∀ b, (decide (h.next ≤ b ∧ b < h2.next) = true) ↔ (h.next ≤ b ∧ b < h2.next) := fun b => by simp
  refine ⟨⟨i, o, u, s, viewV m (alV P q ops A) h, graft (viewV m (alV P q ops A) h) h2, eyes m (alV P q ops A) h, fun b => decide (h.next ≤ b ∧ b < h2.next)⟩, rfl, rfl, rfl, rfl, v1,
    ⟨ho, F.env, F.size, view_eyes F, v2.trans F.ro, by rw [v1]; exact F.next, fun x hx => by rw [v1]; exact F.nA x hx, by show (viewV m (alV P q ops A) h).next ≤ h2.next; rw [v1]; exact hn, hs, fun d hd => by rw [← F.size]; exact hput d hd, fun b hb => ?_, fun b hb => ?_, fun b o' hb hlt => ?_⟩,
    ⟨fun b hb => by show b < (viewV m (alV P q ops A) h).next; rw [v1]; exact eyes_lt hb, fun e => by simp only at e; omega, fun e => by simp only at e; omega, fun _ b hb z hz hl hm => eyes_not hb hz hl hm, fun _ b hb => ?_, fun _ b hb z hz hl hm => eyes_not7 hb hz hl hm, fun e => absurd (hk.symm.trans e) (by decide)⟩, fun b => ?_, rfl, hn, Nat.le_refl _, fun _ => rfl, fun b o' hb => ?_⟩
  · refine .inr ?_
    have := (htc b).1 hb
    show (viewV m (alV P q ops A) h).next ≤ b ∧ b < h2.next
    rw [v1]; exact this
  · have hb : decide (h.next ≤ b ∧ b < h2.next) = false := hb
    rw [get_graft, v1, if_neg (fun e => by rw [(htc b).2 e] at hb; cases hb)]
  · have := (htc b).1 hb
    have hlt : b < (viewV m (alV P q ops A) h).next := hlt
    rw [v1] at hlt
    omega
  · refine .inl ?_
    show (viewV m (alV P q ops A) h).next ≤ b ∧ b < h2.next
    rw [v1]; exact (htc b).1 hb
  · show (graft h h2).get b = if decide (h.next ≤ b ∧ b < h2.next) = true then (graft (viewV m (alV P q ops A) h) h2).get b else h.get b
    rw [get_graft, get_graft, v1]
    by_cases e : h.next ≤ b ∧ b < h2.next
    · rw [if_pos e, if_pos ((htc b).2 e), if_pos e]
    · rw [if_neg e, if_neg (fun t => e ((htc b).1 t))]
  · show b < h2.next
    rw [get_graft] at hb
    split at hb
    · rename_i e; exact e.2
    · exact Nat.lt_of_lt_of_le (F.wf b o' hb) hn
/-- It laid blocks and may have looked at all. -/
theorem nextV_alloc (F : Sofar P ops s0 h0 A i s h) (ho : ops[i]? = some o) (hput : ∀ d, o.dst = some d → d < s.size) (hk : kindV P q ops o = 2) {h1 : AHeap} (hn : h.next ≤ h1.next) (hro : h1.ro = h.ro) (hold : ∀ b, ¬ (h.next ≤ b ∧ b < h1.next) → h1.get b = h.get b)
    {u : Value} (hs : OpSem P ops s o h u h1) (m : Nat) : ∃ y, NextV P q ops s0 h0 A i o s h u h1 m y := by
  have hrd : ∀ b, (Nat.blt b h.next = true) ↔ b < h.next := fun b => by rw [Nat.blt_eq]
  have htc : ∀ b, (decide (h.next ≤ b ∧ b < h1.next) = true) ↔ (h.next ≤ b ∧ b < h1.next) := fun b => by simp
  refine ⟨⟨i, o, u, s, h, h1, fun b => Nat.blt b h.next, fun b => decide (h.next ≤ b ∧ b < h1.next)⟩, rfl, rfl, rfl, rfl, rfl,
    ⟨ho, F.env, F.size, fun b => ?_, F.ro, F.next, F.nA, hn, hs, fun d hd => by rw [← F.size]; exact hput d hd, fun b hb => .inr ((htc b).1 hb), fun b hb => ?_, fun b o' hb hlt => ?_⟩,
    ⟨fun b hb => (hrd b).1 hb, fun h => by simp only at h; omega, fun h => by simp only at h; omega, fun h => (by simp only [hk] at h; cases h), fun _ b hb => .inl ((htc b).1 hb), fun h => (by simp only [hk] at h; cases h), fun e => absurd (hk.symm.trans e) (by decide)⟩, fun b => ?_, hro, hn, Nat.le_refl _, fun _ => rfl, fun b o' hb => ?_⟩
  · show h.get b = if Nat.blt b h.next = true then hpV A h0 b else none
    by_cases hb : b < h.next
    · rw [if_pos ((hrd b).2 hb), F.heap]
    · rw [if_neg (fun e => hb ((hrd b).1 e)), wf_hid F.wf hb]
  · refine hold b (fun e => ?_)
    have := (htc b).2 e
    rw [show decide (h.next ≤ b ∧ b < h1.next) = false from hb] at this
    cases this
  · have := ((htc b).1 hb).1
    have hlt : b < h.next := hlt
    omega
  · show h1.get b = if decide (h.next ≤ b ∧ b < h1.next) = true then h1.get b else h.get b
    by_cases hb : h.next ≤ b ∧ b < h1.next
    · rw [if_pos ((htc b).2 hb)]
    · rw [if_neg (fun e => hb ((htc b).1 e)), hold b hb]
  · by_cases hc : h.next ≤ b ∧ b < h1.next
    · exact hc.2
    · rw [hold b hc] at hb
      exact Nat.lt_of_lt_of_le (F.wf b o' hb) hn
/-- It may have written. -/
theorem nextV_write (F : Sofar P ops s0 h0 A i s h) (ho : ops[i]? = some o) (hput : ∀ d, o.dst = some d → d < s.size) (hk : kindV P q ops o = 3) {h1 : AHeap} (af : AF h h1)
    {u : Value} (hs : OpSem P ops s o h u h1) (m : Nat) : ∃ y, NextV P q ops s0 h0 A i o s h u h1 m y := by
  have hrd : ∀ n b, (Nat.blt b n = true) ↔ b < n := fun n b => by rw [Nat.blt_eq]
  have hn : h.next ≤ h1.next := af.next
  have hwf : WF h1 := F.wf.af af
  refine ⟨⟨i, o, u, s, h, h1, fun b => Nat.blt b h.next, fun b => Nat.blt b h1.next⟩, rfl, rfl, rfl, rfl, rfl,
    ⟨ho, F.env, F.size, fun b => ?_, F.ro, F.next, F.nA, hn, hs, fun d hd => by rw [← F.size]; exact hput d hd, fun b hb => ?_, fun b hb => ?_, fun b o' hb hlt hg => ?_⟩,
    ⟨fun b hb => (hrd _ b).1 hb, fun h => by simp only at h; omega, fun h => by simp only at h; omega, fun h => (by simp only [hk] at h; cases h), fun h => by exact absurd hk h, fun h => (by simp only [hk] at h; cases h), fun _ b hb => (hrd _ b).1 hb⟩, fun b => ?_, af.ro, hn, Nat.le_refl _, fun _ => rfl, hwf⟩
  · show h.get b = if Nat.blt b h.next = true then hpV A h0 b else none
    by_cases hb : b < h.next
    · rw [if_pos ((hrd _ b).2 hb), F.heap]
    · rw [if_neg (fun e => hb ((hrd _ b).1 e)), wf_hid F.wf hb]
  · have hb := (hrd _ b).1 hb
    by_cases hlt : b < h.next
    · exact .inl ((hrd _ b).2 hlt)
    · exact .inr ⟨Nat.le_of_not_lt hlt, hb⟩
  · have hb' : ¬ b < h1.next := fun e => by
      have := (hrd h1.next b).2 e
      rw [show Nat.blt b h1.next = false from hb] at this
      cases this
    show h1.get b = h.get b
    rw [wf_hid hwf hb', wf_hid F.wf (by omega)]
  · rcases af.alive b o' hg with h2 | ⟨h2, _⟩
    · exact h2
    · have hlt : b < h.next := hlt
      omega
  · show h1.get b = if Nat.blt b h1.next = true then h1.get b else h.get b
    by_cases hb : b < h1.next
    · rw [if_pos ((hrd _ b).2 hb)]
    · rw [if_neg (fun e => hb ((hrd _ b).1 e)), wf_hid hwf hb, wf_hid F.wf (by omega)]
/-- What an append does to memory. -/
structure AppFx (g : AHeap) (v : Value) (g' : AHeap) : Prop where
  next : g.next ≤ g'.next
  ro : g'.ro = g.ro
  same : ∀ b, ¬ (g.next ≤ b ∧ b < g'.next) → (∀ a n c, v = .slice (some a) n c → b ≠ a.block) → g'.get b = g.get b
  gone : ∀ b o, b < g.next → g'.get b = some o → g.get b ≠ none
  wf : WF g → WF g'
theorem appFx_same {g : AHeap} {v : Value} : AppFx g v g := ⟨Nat.le_refl _, rfl, fun _ _ _ => rfl, fun b o _ h => by rw [h]; simp, id⟩
theorem app2Fx {elem : TypeId} {ti : TypeInfo} {n : Nat} {new : List Value} {s u : Value} {g g' : AHeap} (he : aappend2 g elem ti n new s = some (u, g')) : AppFx g s g' := by
  unfold aappend2 at he
  split at he
  · cases h0 : Nat.beq n 0 with
    | true => rw [h0] at he; simp only [cond_true, Option.some.injEq, Prod.mk.injEq] at he; obtain ⟨_, rfl⟩ := he; exact appFx_same
    | false =>
      rw [h0] at he
      obtain ⟨_, he⟩ := cond_some he
      simp only [Option.some.injEq, Prod.mk.injEq] at he
      obtain ⟨_, rfl⟩ := he
      refine ⟨Nat.le_succ _, rfl, fun b hb _ => ?_, fun b o hb hg => ?_, fun w b o hb => ?_⟩
      · rw [AHeap.get_push, if_neg (fun e => hb ⟨by omega, by rw [AHeap.next_push]; omega⟩)]
      · rw [AHeap.get_push, if_neg (by omega)] at hg; rw [hg]; simp
      · rw [AHeap.get_push] at hb
        rw [AHeap.next_push]
        split at hb
        · omega
        · exact Nat.lt_succ_of_lt (w b o hb)
  · rename_i b0 off len c
    cases h0 : Nat.beq n 0 with
    | true => rw [h0] at he; simp only [cond_true, Option.some.injEq, Prod.mk.injEq] at he; obtain ⟨_, rfl⟩ := he; exact appFx_same
    | false =>
      rw [h0] at he
      simp only [cond_false] at he
      split at he
      · rename_i cs t hg0
        obtain ⟨_, he⟩ := cond_some he
        simp only [Option.some.injEq, Prod.mk.injEq] at he
        obtain ⟨_, rfl⟩ := he
        have key : ∀ b o, ((g.set b0 none).push o).get b = if b = g.next then some o else if b = b0 then none else g.get b := fun b o => by
          rw [AHeap.get_push, AHeap.get_set]; rfl
        refine ⟨Nat.le_succ _, rfl, fun b hb hne => ?_, fun b o hb hg => ?_, fun w b o hb => ?_⟩
        · rw [key, if_neg (fun e => hb ⟨by omega, by show b < g.next + 1; omega⟩), if_neg (hne _ _ _ rfl)]
        · rw [key, if_neg (by omega)] at hg
          split at hg
          · cases hg
          · rw [hg]; simp
        · rw [key] at hb
          show b < g.next + 1
          split at hb
          · omega
          · split at hb
            · cases hb
            · exact Nat.lt_succ_of_lt (w b o hb)
      · cases he
  · cases he
theorem appFx_of {ts : List TypeId} {r : TypeId} {s u : Value} {vs' : List Value} {g g' : AHeap} (he : abuiltin P .append ts r (s :: vs') g = some (u, g')) : AppFx g s g' := by
  match ts, vs', he with
  | [sT, xT], [x], he =>
    have he : aappend P sT xT s x g = some (u, g') := he
    unfold aappend at he
    split at he
    · split at he
      · split at he
        · obtain ⟨_, he⟩ := cond_some he
          exact app2Fx he
        · cases he
      · cases he
    · cases he
  | [], _, he => cases he
  | [_], _, he => cases he
  | _ :: _ :: _ :: _, _, he => cases he
  | [_, _], [], he => cases he
  | [_, _], _ :: _ :: _, he => cases he
end
end
end Go.Ai
