/-
  WHAT IS ASKED OF A PIECE OF CODE, 6: a region that draws its order, where new blocks may stand free of each other, and an append onto a slice that the region itself made is no writing.
-/
import Derived.Test.YtikgepmgdhkngaaGreatDoorAiD
set_option linter.unusedVariables false
namespace Go.Ai
noncomputable section
variable {P : Program}

/-! ### Kinds: 0 looks at no memory; 1 looks; 2 lays new blocks and may look at all; 3 may write; 4 appends onto a slice of the region's own; 5 lays a block and looks at none; 6 a call that lays new blocks -/
def kindFV : Nat → Nat
  | 2 => 1
  | 3 => 6
  | 4 => 2
  | _ => 3
def prodGo (d : Nat) : List Oper → Nat → Option Nat
  | [], _ => none
  | o :: os, i => (match o.op with
    | .buildSlice _ _ _ => (match o.dst with
      | some e => cond (Nat.beq e d) (some i) (prodGo d os (i + 1))
      | none => prodGo d os (i + 1))
    | _ => prodGo d os (i + 1))
/-- Where the slice comes from that an append is onto. -/
def zOf (ops : Array Oper) (o : Oper) : Option Nat := match o.op with
  | .call { callee := .builtin .append, args, .. } => (match args.toList with
    | .tmp d :: _ => prodGo d ops.toList 0
    | _ => none)
  | _ => none
def kindV (q : FuncId → Nat) (ops : Array Oper) (o : Oper) : Nat := match o.op with
  | .call { callee := .value (.func g), .. } => kindFV (q g)
  | .call { callee := .value _, .. } => 3
  | .call { callee := .builtin .append, .. } => (match zOf ops o with | some _ => 4 | none => 3)
  | .call { callee := .builtin b, .. } => cond (quietB b) 1 3
  | .move _ | .assign _ | .pick _ _ _ | .build _ _ | .nilCheck _ | .binOp _ _ _ _ _ | .unOp _ _ _ | .makeInterface _ _ | .makeFunc _ _ _ | .fieldAddr _ _ _ | .field _ _ _ | .indexAddr _ _ _ | .index _ _ _ | .extract _ _ => 0
  | .load _ _ | .lookup _ _ _ _ | .slice _ _ _ _ _ | .entry _ => 1
  | .box _ _ | .alloc _ | .buildSlice _ _ _ | .makeSlice _ _ _ | .makeMap _ _ => 5
  | .convert _ _ _ | .range _ _ => 2
  | _ => 3
def looker (k : Nat) : Bool := Nat.beq k 1 || Nat.beq k 4 || Nat.beq k 6
def layer (k : Nat) : Bool := Nat.beq k 2 || Nat.beq k 4 || Nat.beq k 5 || Nat.beq k 6
/-- x = (its place, kind, where its slice comes from, what stands ahead of it); may y come in either order? -/
def pairV (x : Nat × Nat × Option Nat × Nat) (ky : Nat) (zy : Option Nat) (my : Nat) : Bool :=
  Nat.beq x.2.1 0 || Nat.beq ky 0 ||
  (!(Nat.beq x.2.1 3) && !(Nat.beq ky 3) && (!(Nat.beq ky 2) || Nat.beq x.2.1 1) &&
    (!(Nat.beq x.2.1 4) || Nat.beq ky 5 || (match x.2.2.1 with | some z => !(my.testBit z) && (match zy with | some w => !(Nat.beq z w) | none => true) | none => false)) &&
    (!(Nat.beq ky 4) || Nat.beq x.2.1 5 || (looker x.2.1 && (match zy with | some w => !(x.2.2.2.testBit w) | none => false))))
def kindGoV (q : FuncId → Nat) (ops : Array Oper) : List Oper → List Nat → List (Nat × Nat × Option Nat × Nat) → Bool
  | [], _, _ => true
  | o :: os, ms, prev => (prev.all fun x => (maskOf ms o).testBit x.1 || pairV x (kindV q ops o) (zOf ops o) (maskOf ms o)) && (match zOf ops o with | some z => (maskOf ms o).testBit z | none => true) &&
      kindGoV q ops os (ms ++ [maskOf ms o]) ((ms.length, kindV q ops o, zOf ops o, maskOf ms o) :: prev)
def calmV (q : FuncId → Nat) (ops : Array Oper) : Bool := statGo ops ops.toList 0 [] [] && kindGoV q ops ops.toList [] []

/-! ### Heaps without some new blocks -/
def cut (h : AHeap) (n m : Nat) : AHeap := h.hide (List.range' n (m - n))
@[simp] theorem next_cut (h : AHeap) (n m : Nat) : (cut h n m).next = h.next := rfl
@[simp] theorem ro_cut (h : AHeap) (n m : Nat) : (cut h n m).ro = h.ro := rfl
theorem get_cut (h : AHeap) (n m b : Nat) : (cut h n m).get b = if n ≤ b ∧ b < m then none else h.get b := by
  unfold cut; rw [get_hide]; simp only [mem_new]
theorem get_cut_lt {h : AHeap} {n m b : Nat} (hb : b < n) : (cut h n m).get b = h.get b := by rw [get_cut, if_neg (by omega)]
def viewV (m : Nat) : List (Nat × Nat × Nat) → AHeap → AHeap
  | [], h => h
  | x :: l, h => cond (m.testBit x.1) (viewV m l h) (viewV m l (cut h x.2.1 x.2.2))
def seenV (m : Nat) (al : List (Nat × Nat × Nat)) (b : Nat) : Bool := al.all fun x => m.testBit x.1 || !(Nat.ble x.2.1 b && Nat.blt b x.2.2)
theorem viewV_facts (m : Nat) : ∀ (al : List (Nat × Nat × Nat)) (h : AHeap), (viewV m al h).next = h.next ∧ (viewV m al h).ro = h.ro ∧ ∀ b, (viewV m al h).get b = if seenV m al b = true then h.get b else none
  | [], h => ⟨rfl, rfl, fun b => rfl⟩
  | x :: l, h => by
    unfold viewV
    cases hb : m.testBit x.1 with
    | true =>
      obtain ⟨a1, a2, a3⟩ := viewV_facts m l h
      refine ⟨a1, a2, fun b => ?_⟩
      rw [cond_true, a3]
      unfold seenV
      rw [List.all_cons, hb, Bool.true_or, Bool.true_and]
    | false =>
      obtain ⟨a1, a2, a3⟩ := viewV_facts m l (cut h x.2.1 x.2.2)
      refine ⟨a1, a2, fun b => ?_⟩
      rw [cond_false, a3]
      unfold seenV
      rw [List.all_cons, hb, Bool.false_or, get_cut]
      by_cases hc : x.2.1 ≤ b ∧ b < x.2.2
      · have e : (Nat.ble x.2.1 b && Nat.blt b x.2.2) = true := by
          rw [Bool.and_eq_true, Nat.ble_eq, Nat.blt_eq]; exact hc
        rw [e, Bool.not_true, Bool.false_and, if_pos hc]
        split <;> simp
      · have e : (Nat.ble x.2.1 b && Nat.blt b x.2.2) = false := by
          cases he : (Nat.ble x.2.1 b && Nat.blt b x.2.2) with
          | false => rfl
          | true => rw [Bool.and_eq_true, Nat.ble_eq, Nat.blt_eq] at he; exact absurd he hc
        rw [e, Bool.not_false, Bool.true_and, if_neg hc]
def findAl (z : Nat) : List (Nat × Nat × Nat) → Option (Nat × Nat)
  | [] => none
  | x :: l => cond (Nat.beq x.1 z) (some x.2) (findAl z l)
theorem mem_findAl {z : Nat} : ∀ {al : List (Nat × Nat × Nat)} {f t : Nat}, findAl z al = some (f, t) → (z, f, t) ∈ al
  | [], _, _, h => by cases h
  | x :: l, f, t, h => by
    unfold findAl at h
    cases hb : Nat.beq x.1 z with
    | true =>
      rw [hb] at h
      have e := Nat.eq_of_beq_eq_true hb
      obtain ⟨p, f', t'⟩ := x
      cases h
      simp only at e
      subst e
      simp
    | false =>
      rw [hb] at h
      exact List.mem_cons_of_mem _ (mem_findAl h)

/-! ### Questions -/
def callXV (P : Program) (g : FuncId) (args : List Value) (hv h : AHeap) (K : Value → AHeap → Prop) : Prop :=
  callable P g = true ∧ nobot args = true ∧ ∃ v h2, TC P g args hv.lock (fun v1 h1 => v1 = v ∧ h1 = h2) ∧ AF hv.lock h2 ∧ K v (graft h h2)
/-- A slice that lies in a block of the region's own. -/
def ownS (s : Value) (f t : Nat) (hv : AHeap) : Prop := match s with
  | .slice (some a) _ _ => f ≤ a.block ∧ a.block < t ∧ hv.get a.block ≠ none
  | _ => True
/-- The slice's block as another heap has it. -/
def setS (h : AHeap) (s : Value) (h' : AHeap) : AHeap := match s with
  | .slice (some a) _ _ => h.set a.block (h'.get a.block)
  | _ => h
def appV (P : Program) (ts : List TypeId) (r : TypeId) (vs : List Value) (zr : Option (Nat × Nat)) (hv h : AHeap) (K : Value → AHeap → Prop) : Prop := match zr, vs with
  | some x, s :: _ => ownS s x.1 x.2 hv ∧ optH (nb vs (abuiltin P .append ts r vs hv)) fun v h' => K v (graft (setS h s h') h')
  | _, _ => False
def opDV (P : Program) (q : FuncId → Nat) (ops : Array Oper) (s : Env) (o : Oper) (al : List (Nat × Nat × Nat)) (hv h : AHeap) (K : Value → AHeap → Prop) : Prop := match o.op with
  | .call { callee := .value (.func g), args, argTypes } => (match q g with
    | 2 => callQ P g (evs s args.toList) hv fun v => K v h
    | 3 => callXV P g (evs s args.toList) hv h K
    | 4 => callE P g (evs s args.toList) h K
    | _ => callD P g (evs s args.toList) h K)
  | .call { callee := .value f, args, argTypes } => callVD P (ev s f) (evs s args.toList) h K
  | .call { callee := .builtin .append, args, argTypes } => (match zOf ops o with
    | some z => appV P argTypes.toList o.type (evs s args.toList) (findAl z al) hv h K
    | none => opA P s o h K)
  | _ => cond (Nat.beq (kindV q ops o) 1) (opA P s o hv fun v _ => K v h) (opA P s o h K)
def wpDV (P : Program) (q : FuncId → Nat) (ops : Array Oper) : List Oper → Nat → List Nat → List (Nat × Nat × Nat) → Env → AHeap → (Env → AHeap → Prop) → Prop
  | [], _, _, _, s, h, K => K s h
  | o :: os, i, ms, al, s, h, K => (match o.guard with
    | none => opDV P q ops s o al (viewV (maskOf ms o) al h) h fun v h1 => (match s.put o.dst v with
      | some s1 => wpDV P q ops os (i + 1) (ms ++ [maskOf ms o]) (cond (layer (kindV q ops o)) (al ++ [(i, h.next, h1.next)]) al) s1 h1 K
      | none => False)
    | some (j, want) => (match (ops[j]?).bind (·.dst) with
      | none => False
      | some d => GD (s.get d) want (opDV P q ops s o al (viewV (maskOf ms o) al h) h) (fun v h1 => (match s.put o.dst v with
        | some s1 => wpDV P q ops os (i + 1) (ms ++ [maskOf ms o]) (cond (layer (kindV q ops o)) (al ++ [(i, h.next, h1.next)]) al) s1 h1 K
        | none => False)) h))
def drawV (P : Program) (q : FuncId → Nat) (ops : Array Oper) (s : Env) (h : AHeap) (K : Env → AHeap → Prop) : Prop := cond (calmV q ops) (wpDV P q ops ops.toList 0 [] [] s h K) False
end
end Go.Ai
set_option linter.unusedVariables false
namespace Go.Ai
noncomputable section
variable {P : Program}

/-- What a record of a kind looks at and touches; A: the records ahead of it, m: what must stand ahead. -/
structure RV (q : FuncId → Nat) (ops : Array Oper) (A : List DRec) (m : Nat) (x : DRec) : Prop where
  rd : ∀ b, x.rd b = true → b < x.g.next
  k0 : kindV q ops x.o = 0 ∨ kindV q ops x.o = 5 → ∀ b, x.rd b = false
  k1 : kindV q ops x.o ≤ 1 → ∀ b, x.tc b = false
  lk : looker (kindV q ops x.o) = true → ∀ b, x.rd b = true → ∀ z, z ∈ A → layer (kindV q ops z.o) = true → m.testBit z.j = false → ¬ (z.g.next ≤ b ∧ b < z.g'.next)
  tc : kindV q ops x.o ≠ 3 → ∀ b, x.tc b = true → (x.g.next ≤ b ∧ b < x.g'.next) ∨ (kindV q ops x.o = 4 ∧ ∃ z, z ∈ A ∧ layer (kindV q ops z.o) = true ∧ zOf ops x.o = some z.j ∧ z.g.next ≤ b ∧ b < z.g'.next)
/-- What stands behind an operation. -/
structure NextV (P : Program) (q : FuncId → Nat) (ops : Array Oper) (s0 : Env) (h0 : AHeap) (A : List DRec) (i : Nat) (o : Oper) (s : Env) (h : AHeap) (u : Value) (h1 : AHeap) (m : Nat) (y : DRec) : Prop where
  hj : y.j = i
  hop : y.o = o
  hsl : y.s = s
  hval : y.v = u
  gn : y.g.next = h.next
  told : Told P ops s0 h0 A y
  rv : RV q ops A m y
  heap : ∀ b, h1.get b = if y.tc b = true then y.g'.get b else h.get b
  ro : h1.ro = h.ro
  next : h.next ≤ h1.next
  gnext : y.g'.next ≤ h1.next
  geq : layer (kindV q ops o) = true → y.g'.next = h1.next
  wf : WF h1
/-- Where the new blocks lie. -/
def alV (q : FuncId → Nat) (ops : Array Oper) : List DRec → List (Nat × Nat × Nat)
  | [] => []
  | x :: l => cond (layer (kindV q ops x.o)) ((x.j, x.g.next, x.g'.next) :: alV q ops l) (alV q ops l)
theorem alV_snoc (q : FuncId → Nat) (ops : Array Oper) (A : List DRec) (y : DRec) : alV q ops (A ++ [y]) = cond (layer (kindV q ops y.o)) (alV q ops A ++ [(y.j, y.g.next, y.g'.next)]) (alV q ops A) := by
  induction A with
  | nil => simp only [List.nil_append, alV]
  | cons x A ih =>
    simp only [List.cons_append, alV, ih]
    cases layer (kindV q ops x.o) <;> cases layer (kindV q ops y.o) <;> rfl
theorem mem_alV {q : FuncId → Nat} {ops : Array Oper} {A : List DRec} {z : Nat × Nat × Nat} (h : z ∈ alV q ops A) : ∃ x, x ∈ A ∧ layer (kindV q ops x.o) = true ∧ z = (x.j, x.g.next, x.g'.next) := by
  induction A with
  | nil => cases h
  | cons x A ih =>
    simp only [alV] at h
    cases hb : layer (kindV q ops x.o) with
    | true =>
      rw [hb] at h
      rcases List.mem_cons.1 h with e | h
      · exact ⟨x, by simp, hb, e⟩
      · obtain ⟨x', h1, h2⟩ := ih h; exact ⟨x', by simp [h1], h2⟩
    | false => rw [hb] at h; obtain ⟨x', h1, h2⟩ := ih h; exact ⟨x', by simp [h1], h2⟩
theorem alV_mem {q : FuncId → Nat} {ops : Array Oper} {A : List DRec} {x : DRec} (h : x ∈ A) (hl : layer (kindV q ops x.o) = true) : (x.j, x.g.next, x.g'.next) ∈ alV q ops A := by
  induction A with
  | nil => cases h
  | cons z A ih =>
    simp only [alV]
    rcases List.mem_cons.1 h with rfl | h
    · rw [hl]; simp
    · cases layer (kindV q ops z.o) with
      | true => simp [ih h]
      | false => exact ih h
section
variable {q : FuncId → Nat} {ops : Array Oper} {s0 : Env} {h0 : AHeap} {A : List DRec} {i : Nat} {o : Oper} {s : Env} {h : AHeap}
theorem wf_hid {h : AHeap} (w : WF h) {b : Nat} (hb : ¬ b < h.next) : h.get b = none := by
  cases hh : h.get b with | none => rfl | some o' => exact absurd (w b o' hh) hb
/-- What it sees. -/
def eyes (m : Nat) (al : List (Nat × Nat × Nat)) (h : AHeap) (b : Nat) : Bool := Nat.blt b h.next && seenV m al b
theorem eyes_lt {m : Nat} {al : List (Nat × Nat × Nat)} {b : Nat} (hb : eyes m al h b = true) : b < h.next := by
  unfold eyes at hb
  rw [Bool.and_eq_true, Nat.blt_eq] at hb
  exact hb.1
theorem eyes_not {m : Nat} {b : Nat} (hb : eyes m (alV q ops A) h b = true) {z : DRec} (hz : z ∈ A) (hl : layer (kindV q ops z.o) = true) (hm : m.testBit z.j = false) : ¬ (z.g.next ≤ b ∧ b < z.g'.next) := by
  unfold eyes seenV at hb
  rw [Bool.and_eq_true, List.all_eq_true] at hb
  have := hb.2 _ (alV_mem hz hl)
  simp only [hm, Bool.false_or, Bool.not_eq_true'] at this
  intro e
  have t : (Nat.ble z.g.next b && Nat.blt b z.g'.next) = true := by rw [Bool.and_eq_true, Nat.ble_eq, Nat.blt_eq]; exact e
  rw [t] at this
  cases this
theorem view_eyes {m : Nat} (F : Sofar P ops s0 h0 A i s h) (b : Nat) : (viewV m (alV q ops A) h).get b = if eyes m (alV q ops A) h b = true then hpV A h0 b else none := by
  rw [(viewV_facts m (alV q ops A) h).2.2 b]
  unfold eyes
  by_cases hb : b < h.next
  · rw [show Nat.blt b h.next = true by rw [Nat.blt_eq]; exact hb, Bool.true_and, F.heap]
  · have e : Nat.blt b h.next = false := by
      cases e : Nat.blt b h.next with
      | false => rfl
      | true => rw [Nat.blt_eq] at e; exact absurd e hb
    rw [e, Bool.false_and, wf_hid F.wf hb]
    simp
/-- It looked at nothing and touched nothing. -/
theorem nextV_pure (F : Sofar P ops s0 h0 A i s h) (ho : ops[i]? = some o) (hput : ∀ d, o.dst = some d → d < s.size) {u : Value} (hs : OpSem P ops s o (h.pick []) u (h.pick [])) (m : Nat) : ∃ y, NextV P q ops s0 h0 A i o s h u h m y := by
  refine ⟨⟨i, o, u, s, h.pick [], h.pick [], fun _ => false, fun _ => false⟩, rfl, rfl, rfl, rfl, rfl,
    ⟨ho, F.env, F.size, fun b => by rw [get_pick]; simp, F.ro, F.next, F.nA, Nat.le_refl _, hs, fun d hd => by rw [← F.size]; exact hput d hd, fun b hb => (by cases hb), fun b _ => rfl, fun b o' hb => (by cases hb)⟩,
    ⟨fun b hb => (by cases hb), fun _ _ => rfl, fun _ _ => rfl, fun _ b hb => (by cases hb), fun _ b hb => (by cases hb)⟩, fun b => by simp, rfl, Nat.le_refl _, Nat.le_refl _, fun _ => rfl, F.wf⟩
/-- It laid a block and looked at none. -/
theorem nextV_lay (F : Sofar P ops s0 h0 A i s h) (ho : ops[i]? = some o) (hput : ∀ d, o.dst = some d → d < s.size) (hk : kindV q ops o = 5) {u : Value} {ob : AObj} (hs : OpSem P ops s o (h.pick []) u ((h.pick []).push ob)) (m : Nat) : ∃ y, NextV P q ops s0 h0 A i o s h u (h.push ob) m y := by
  have hp : (h.pick []).next = h.next := rfl
  have htc : ∀ b, (decide (b = h.next) = true) ↔ b = h.next := fun b => by simp
  refine ⟨⟨i, o, u, s, h.pick [], (h.pick []).push ob, fun _ => false, fun b => decide (b = h.next)⟩, rfl, rfl, rfl, rfl, rfl,
    ⟨ho, F.env, F.size, fun b => by rw [get_pick]; simp, F.ro, F.next, F.nA, Nat.le_succ _, hs, fun d hd => by rw [← F.size]; exact hput d hd, fun b hb => ?_, fun b hb => ?_, fun b o' hb hlt => ?_⟩,
    ⟨fun b hb => (by cases hb), fun _ _ => rfl, fun h => ?_, fun _ b hb => (by cases hb), fun _ b hb => ?_⟩, fun b => ?_, rfl, Nat.le_succ _, Nat.le_refl _, fun _ => rfl, fun b o' hb => ?_⟩
  · refine .inr ?_
    have := (htc b).1 hb
    show h.next ≤ b ∧ b < h.next + 1
    omega
  · have hb : decide (b = h.next) = false := hb
    have hne : b ≠ h.next := fun e => by rw [(htc b).2 e] at hb; cases hb
    rw [AHeap.get_push, if_neg (by rw [hp]; exact hne)]
  · have e1 := (htc b).1 hb
    have e2 : b < h.next := hlt
    omega
  · simp only at h; omega
  · have := (htc b).1 hb
    refine .inl ?_
    show h.next ≤ b ∧ b < h.next + 1
    omega
  · show (h.push ob).get b = if decide (b = h.next) = true then ((h.pick []).push ob).get b else h.get b
    rw [AHeap.get_push, AHeap.get_push, hp]
    by_cases e : b = h.next
    · rw [if_pos e, if_pos ((htc b).2 e), if_pos e]
    · rw [if_neg e, if_neg (fun t => e ((htc b).1 t))]
  · rw [AHeap.get_push] at hb
    rw [AHeap.next_push]
    split at hb
    · rename_i e; omega
    · exact Nat.lt_succ_of_lt (F.wf b o' hb)
/-- It looked. -/
theorem nextV_read (F : Sofar P ops s0 h0 A i s h) (ho : ops[i]? = some o) (hput : ∀ d, o.dst = some d → d < s.size) (hk : kindV q ops o = 1) {m : Nat} {u : Value} (hs : OpSem P ops s o (viewV m (alV q ops A) h) u (viewV m (alV q ops A) h)) : ∃ y, NextV P q ops s0 h0 A i o s h u h m y := by
  obtain ⟨v1, v2, v3⟩ := viewV_facts m (alV q ops A) h
  refine ⟨⟨i, o, u, s, viewV m (alV q ops A) h, viewV m (alV q ops A) h, eyes m (alV q ops A) h, fun _ => false⟩, rfl, rfl, rfl, rfl, v1,
    ⟨ho, F.env, F.size, view_eyes F, v2.trans F.ro, by rw [v1]; exact F.next, fun x hx => by rw [v1]; exact F.nA x hx, Nat.le_refl _, hs, fun d hd => by rw [← F.size]; exact hput d hd, fun b hb => (by cases hb), fun b _ => rfl, fun b o' hb => (by cases hb)⟩,
    ⟨fun b hb => by show b < (viewV m (alV q ops A) h).next; rw [v1]; exact eyes_lt hb, fun e => by simp only at e; omega, fun _ _ => rfl, fun _ b hb z hz hl hm => eyes_not hb hz hl hm, fun _ b hb => (by cases hb)⟩, fun b => by simp, rfl, Nat.le_refl _, by rw [v1]; exact Nat.le_refl _, fun e => (by rw [hk] at e; cases e), F.wf⟩
/-- A call that laid blocks alone. -/
theorem nextV_call (F : Sofar P ops s0 h0 A i s h) (ho : ops[i]? = some o) (hput : ∀ d, o.dst = some d → d < s.size) (hk : kindV q ops o = 6) {m : Nat} {h2 : AHeap} (hn : h.next ≤ h2.next) {u : Value} (hs : OpSem P ops s o (viewV m (alV q ops A) h) u (graft (viewV m (alV q ops A) h) h2)) : ∃ y, NextV P q ops s0 h0 A i o s h u (graft h h2) m y := by
  obtain ⟨v1, v2, v3⟩ := viewV_facts m (alV q ops A) h
  have htc : ∀ b, (decide (h.next ≤ b ∧ b < h2.next) = true) ↔ (h.next ≤ b ∧ b < h2.next) := fun b => by simp
  refine ⟨⟨i, o, u, s, viewV m (alV q ops A) h, graft (viewV m (alV q ops A) h) h2, eyes m (alV q ops A) h, fun b => decide (h.next ≤ b ∧ b < h2.next)⟩, rfl, rfl, rfl, rfl, v1,
    ⟨ho, F.env, F.size, view_eyes F, v2.trans F.ro, by rw [v1]; exact F.next, fun x hx => by rw [v1]; exact F.nA x hx, by show (viewV m (alV q ops A) h).next ≤ h2.next; rw [v1]; exact hn, hs, fun d hd => by rw [← F.size]; exact hput d hd, fun b hb => ?_, fun b hb => ?_, fun b o' hb hlt => ?_⟩,
    ⟨fun b hb => by show b < (viewV m (alV q ops A) h).next; rw [v1]; exact eyes_lt hb, fun e => by simp only at e; omega, fun e => by simp only at e; omega, fun _ b hb z hz hl hm => eyes_not hb hz hl hm, fun _ b hb => ?_⟩, fun b => ?_, rfl, hn, Nat.le_refl _, fun _ => rfl, fun b o' hb => ?_⟩
  · refine .inr ?_
    have := (htc b).1 hb
    show (viewV m (alV q ops A) h).next ≤ b ∧ b < h2.next
    rw [v1]; exact this
  · have hb : decide (h.next ≤ b ∧ b < h2.next) = false := hb
    rw [get_graft, v1, if_neg (fun e => by rw [(htc b).2 e] at hb; cases hb)]
  · have := (htc b).1 hb
    have hlt : b < (viewV m (alV q ops A) h).next := hlt
    rw [v1] at hlt
    omega
  · refine .inl ?_
    show (viewV m (alV q ops A) h).next ≤ b ∧ b < h2.next
    rw [v1]; exact (htc b).1 hb
  · show (graft h h2).get b = if decide (h.next ≤ b ∧ b < h2.next) = true then (graft (viewV m (alV q ops A) h) h2).get b else h.get b
    rw [get_graft, get_graft, v1]
    by_cases e : h.next ≤ b ∧ b < h2.next
    · rw [if_pos e, if_pos ((htc b).2 e), if_pos e]
    · rw [if_neg e, if_neg (fun t => e ((htc b).1 t))]
  · show b < h2.next
    rw [get_graft] at hb
    split at hb
    · rename_i e; exact e.2
    · exact Nat.lt_of_lt_of_le (F.wf b o' hb) hn
/-- It laid blocks and may have looked at all. -/
theorem nextV_alloc (F : Sofar P ops s0 h0 A i s h) (ho : ops[i]? = some o) (hput : ∀ d, o.dst = some d → d < s.size) (hk : kindV q ops o = 2) {h1 : AHeap} (hn : h.next ≤ h1.next) (hro : h1.ro = h.ro) (hold : ∀ b, ¬ (h.next ≤ b ∧ b < h1.next) → h1.get b = h.get b)
    {u : Value} (hs : OpSem P ops s o h u h1) (m : Nat) : ∃ y, NextV P q ops s0 h0 A i o s h u h1 m y := by
  have hrd : ∀ b, (Nat.blt b h.next = true) ↔ b < h.next := fun b => by rw [Nat.blt_eq]
  have htc : ∀ b, (decide (h.next ≤ b ∧ b < h1.next) = true) ↔ (h.next ≤ b ∧ b < h1.next) := fun b => by simp
  refine ⟨⟨i, o, u, s, h, h1, fun b => Nat.blt b h.next, fun b => decide (h.next ≤ b ∧ b < h1.next)⟩, rfl, rfl, rfl, rfl, rfl,
    ⟨ho, F.env, F.size, fun b => ?_, F.ro, F.next, F.nA, hn, hs, fun d hd => by rw [← F.size]; exact hput d hd, fun b hb => .inr ((htc b).1 hb), fun b hb => ?_, fun b o' hb hlt => ?_⟩,
    ⟨fun b hb => (hrd b).1 hb, fun h => by simp only at h; omega, fun h => by simp only at h; omega, fun h => (by simp only [hk] at h; cases h), fun _ b hb => .inl ((htc b).1 hb)⟩, fun b => ?_, hro, hn, Nat.le_refl _, fun _ => rfl, fun b o' hb => ?_⟩
  · show h.get b = if Nat.blt b h.next = true then hpV A h0 b else none
    by_cases hb : b < h.next
    · rw [if_pos ((hrd b).2 hb), F.heap]
    · rw [if_neg (fun e => hb ((hrd b).1 e)), wf_hid F.wf hb]
  · refine hold b (fun e => ?_)
    have := (htc b).2 e
    rw [show decide (h.next ≤ b ∧ b < h1.next) = false from hb] at this
    cases this
  · have := ((htc b).1 hb).1
    have hlt : b < h.next := hlt
    omega
  · show h1.get b = if decide (h.next ≤ b ∧ b < h1.next) = true then h1.get b else h.get b
    by_cases hb : h.next ≤ b ∧ b < h1.next
    · rw [if_pos ((htc b).2 hb)]
    · rw [if_neg (fun e => hb ((htc b).1 e)), hold b hb]
  · by_cases hc : h.next ≤ b ∧ b < h1.next
    · exact hc.2
    · rw [hold b hc] at hb
      exact Nat.lt_of_lt_of_le (F.wf b o' hb) hn
/-- It may have written. -/
theorem nextV_write (F : Sofar P ops s0 h0 A i s h) (ho : ops[i]? = some o) (hput : ∀ d, o.dst = some d → d < s.size) (hk : kindV q ops o = 3) {h1 : AHeap} (af : AF h h1)
    {u : Value} (hs : OpSem P ops s o h u h1) (m : Nat) : ∃ y, NextV P q ops s0 h0 A i o s h u h1 m y := by
  have hrd : ∀ n b, (Nat.blt b n = true) ↔ b < n := fun n b => by rw [Nat.blt_eq]
  have hn : h.next ≤ h1.next := af.next
  have hwf : WF h1 := F.wf.af af
  refine ⟨⟨i, o, u, s, h, h1, fun b => Nat.blt b h.next, fun b => Nat.blt b h1.next⟩, rfl, rfl, rfl, rfl, rfl,
    ⟨ho, F.env, F.size, fun b => ?_, F.ro, F.next, F.nA, hn, hs, fun d hd => by rw [← F.size]; exact hput d hd, fun b hb => ?_, fun b hb => ?_, fun b o' hb hlt hg => ?_⟩,
    ⟨fun b hb => (hrd _ b).1 hb, fun h => by simp only at h; omega, fun h => by simp only at h; omega, fun h => (by simp only [hk] at h; cases h), fun h => by exact absurd hk h⟩, fun b => ?_, af.ro, hn, Nat.le_refl _, fun _ => rfl, hwf⟩
  · show h.get b = if Nat.blt b h.next = true then hpV A h0 b else none
    by_cases hb : b < h.next
    · rw [if_pos ((hrd _ b).2 hb), F.heap]
    · rw [if_neg (fun e => hb ((hrd _ b).1 e)), wf_hid F.wf hb]
  · have hb := (hrd _ b).1 hb
    by_cases hlt : b < h.next
    · exact .inl ((hrd _ b).2 hlt)
    · exact .inr ⟨Nat.le_of_not_lt hlt, hb⟩
  · have hb' : ¬ b < h1.next := fun e => by
      have := (hrd h1.next b).2 e
      rw [show Nat.blt b h1.next = false from hb] at this
      cases this
    show h1.get b = h.get b
    rw [wf_hid hwf hb', wf_hid F.wf (by omega)]
  · rcases af.alive b o' hg with h2 | ⟨h2, _⟩
    · exact h2
    · have hlt : b < h.next := hlt
      omega
  · show h1.get b = if Nat.blt b h1.next = true then h1.get b else h.get b
    by_cases hb : b < h1.next
    · rw [if_pos ((hrd _ b).2 hb)]
    · rw [if_neg (fun e => hb ((hrd _ b).1 e)), wf_hid hwf hb, wf_hid F.wf (by omega)]
/-- What an append does to memory. -/
structure AppFx (g : AHeap) (v : Value) (g' : AHeap) : Prop where
  next : g.next ≤ g'.next
  ro : g'.ro = g.ro
  same : ∀ b, ¬ (g.next ≤ b ∧ b < g'.next) → (∀ a n c, v = .slice (some a) n c → b ≠ a.block) → g'.get b = g.get b
  gone : ∀ b o, b < g.next → g'.get b = some o → g.get b ≠ none
  wf : WF g → WF g'
theorem appFx_same {g : AHeap} {v : Value} : AppFx g v g := ⟨Nat.le_refl _, rfl, fun _ _ _ => rfl, fun b o _ h => by rw [h]; simp, id⟩
theorem app2Fx {elem : TypeId} {ti : TypeInfo} {n : Nat} {new : List Value} {s u : Value} {g g' : AHeap} (he : aappend2 g elem ti n new s = some (u, g')) : AppFx g s g' := by
  unfold aappend2 at he
  split at he
  · cases h0 : Nat.beq n 0 with
    | true => rw [h0] at he; simp only [cond_true, Option.some.injEq, Prod.mk.injEq] at he; obtain ⟨_, rfl⟩ := he; exact appFx_same
    | false =>
      rw [h0] at he
      obtain ⟨_, he⟩ := cond_some he
      simp only [Option.some.injEq, Prod.mk.injEq] at he
      obtain ⟨_, rfl⟩ := he
      refine ⟨Nat.le_succ _, rfl, fun b hb _ => ?_, fun b o hb hg => ?_, fun w b o hb => ?_⟩
      · rw [AHeap.get_push, if_neg (fun e => hb ⟨by omega, by rw [AHeap.next_push]; omega⟩)]
      · rw [AHeap.get_push, if_neg (by omega)] at hg; rw [hg]; simp
      · rw [AHeap.get_push] at hb
        rw [AHeap.next_push]
        split at hb
        · omega
        · exact Nat.lt_succ_of_lt (w b o hb)
  · rename_i b0 off len c
    cases h0 : Nat.beq n 0 with
    | true => rw [h0] at he; simp only [cond_true, Option.some.injEq, Prod.mk.injEq] at he; obtain ⟨_, rfl⟩ := he; exact appFx_same
    | false =>
      rw [h0] at he
      simp only [cond_false] at he
      split at he
      · rename_i cs t hg0
        obtain ⟨_, he⟩ := cond_some he
        simp only [Option.some.injEq, Prod.mk.injEq] at he
        obtain ⟨_, rfl⟩ := he
        have key : ∀ b o, ((g.set b0 none).push o).get b = if b = g.next then some o else if b = b0 then none else g.get b := fun b o => by
          rw [AHeap.get_push, AHeap.get_set]; rfl
        refine ⟨Nat.le_succ _, rfl, fun b hb hne => ?_, fun b o hb hg => ?_, fun w b o hb => ?_⟩
        · rw [key, if_neg (fun e => hb ⟨by omega, by show b < g.next + 1; omega⟩), if_neg (hne _ _ _ rfl)]
        · rw [key, if_neg (by omega)] at hg
          split at hg
          · cases hg
          · rw [hg]; simp
        · rw [key] at hb
          show b < g.next + 1
          split at hb
          · omega
          · split at hb
            · cases hb
            · exact Nat.lt_succ_of_lt (w b o hb)
      · cases he
  · cases he
theorem appFx_of {ts : List TypeId} {r : TypeId} {s u : Value} {vs' : List Value} {g g' : AHeap} (he : abuiltin P .append ts r (s :: vs') g = some (u, g')) : AppFx g s g' := by
  match ts, vs', he with
  | [sT, xT], [x], he =>
    have he : aappend P sT xT s x g = some (u, g') := he
    unfold aappend at he
    split at he
    · split at he
      · split at he
        · obtain ⟨_, he⟩ := cond_some he
          exact app2Fx he
        · cases he
      · cases he
    · cases he
  | [], _, he => cases he
  | [_], _, he => cases he
  | _ :: _ :: _ :: _, _, he => cases he
  | [_, _], [], he => cases he
  | [_, _], _ :: _ :: _, he => cases he
end
end
end Go.Ai
set_option linter.unusedVariables false
namespace Go.Ai
noncomputable section
variable {P : Program}
section
variable {q : FuncId → Nat} {ops : Array Oper} {s0 : Env} {h0 : AHeap} {A : List DRec} {i : Nat} {o : Oper} {s : Env} {h : AHeap}
theorem get_setS (h : AHeap) (v : Value) (h' : AHeap) (b : Nat) : (setS h v h').get b = h.get b ∨ ((∃ a n c, v = .slice (some a) n c ∧ b = a.block) ∧ (setS h v h').get b = h'.get b) := by
  unfold setS
  split
  · rename_i a n c
    rw [AHeap.get_set]
    by_cases e : b = a.block
    · rw [if_pos e]; exact .inr ⟨⟨a, n, c, rfl, e⟩, by rw [e]⟩
    · rw [if_neg e]; exact .inl rfl
  · exact .inl rfl
theorem next_setS (h : AHeap) (v : Value) (h' : AHeap) : (setS h v h').next = h.next := by unfold setS; split <;> rfl
theorem ro_setS (h : AHeap) (v : Value) (h' : AHeap) : (setS h v h').ro = h.ro := by unfold setS; split <;> rfl
def blkIs (v : Value) (b : Nat) : Bool := match v with
  | .slice (some a) _ _ => Nat.beq a.block b
  | _ => false
theorem blkIs_iff {v : Value} {b : Nat} : blkIs v b = true ↔ ∃ a n c, v = .slice (some a) n c ∧ b = a.block := by
  unfold blkIs
  split
  · rename_i a n c
    rw [Nat.beq_eq]
    constructor
    · intro e; exact ⟨a, n, c, rfl, e.symm⟩
    · rintro ⟨a', n', c', e1, e2⟩; cases e1; exact e2.symm
  · rename_i hn
    constructor
    · intro e; cases e
    · rintro ⟨a', n', c', e1, e2⟩; exact absurd e1 (hn a' n' c')
/-- An append onto a slice of the region's own. -/
theorem nextV_app (F : Sofar P ops s0 h0 A i s h) (ho : ops[i]? = some o) (hput : ∀ d, o.dst = some d → d < s.size) (hk : kindV q ops o = 4) {m : Nat} {v u : Value} {g' : AHeap} {z : DRec} (hz : z ∈ A) (hzl : layer (kindV q ops z.o) = true) (hzo : zOf ops o = some z.j)
    (hown : ownS v z.g.next z.g'.next (viewV m (alV q ops A) h)) (fx : AppFx (viewV m (alV q ops A) h) v g') (hs : OpSem P ops s o (viewV m (alV q ops A) h) u g') : ∃ y, NextV P q ops s0 h0 A i o s h u (graft (setS h v g') g') m y := by
  obtain ⟨v1, v2, v3⟩ := viewV_facts m (alV q ops A) h
  generalize hG : viewV m (alV q ops A) h = g at *
  have hn : h.next ≤ g'.next := by rw [← v1]; exact fx.next
  have hzn : z.g'.next ≤ h.next := F.nA z hz
  have hsee : ∀ b, g.get b = if eyes m (alV q ops A) h b = true then hpV A h0 b else none := fun b => by rw [← hG]; exact view_eyes F b
  have htc : ∀ b, ((decide (h.next ≤ b ∧ b < g'.next) || blkIs v b) = true) ↔ ((h.next ≤ b ∧ b < g'.next) ∨ ∃ a n c, v = .slice (some a) n c ∧ b = a.block) := fun b => by rw [Bool.or_eq_true, decide_eq_true_eq, blkIs_iff]
  have hblk : ∀ b, (∃ a n c, v = .slice (some a) n c ∧ b = a.block) → z.g.next ≤ b ∧ b < z.g'.next ∧ g.get b ≠ none := by
    rintro b ⟨a, n, c, rfl, rfl⟩
    exact hown
  refine ⟨⟨i, o, u, s, g, g', eyes m (alV q ops A) h, fun b => decide (h.next ≤ b ∧ b < g'.next) || blkIs v b⟩, rfl, rfl, rfl, rfl, v1,
    ⟨ho, F.env, F.size, hsee, v2.trans F.ro, by rw [v1]; exact F.next, fun x hx => by rw [v1]; exact F.nA x hx, fx.next, hs, fun d hd => by rw [← F.size]; exact hput d hd, fun b hb => ?_, fun b hb => ?_, fun b o' hb hlt hg => fx.gone b o' hlt hg⟩,
    ⟨fun b hb => by show b < g.next; rw [v1]; exact eyes_lt hb, fun e => by simp only at e; omega, fun e => by simp only at e; omega, fun _ b hb z hz hl hm => eyes_not hb hz hl hm, fun _ b hb => ?_⟩, fun b => ?_, ?_, hn, Nat.le_refl _, fun _ => rfl, fun b o' hb => ?_⟩
  · rcases (htc b).1 hb with e | e
    · exact .inr (by show g.next ≤ b ∧ b < g'.next; rw [v1]; exact e)
    · refine .inl ?_
      show eyes m (alV q ops A) h b = true
      cases he : eyes m (alV q ops A) h b with
      | true => rfl
      | false => exact absurd (by rw [hsee, he]; rfl) (hblk b e).2.2
  · have hb : (decide (h.next ≤ b ∧ b < g'.next) || blkIs v b) = false := hb
    refine fx.same b (fun e => ?_) (fun a n c e1 e2 => ?_)
    · rw [(htc b).2 (.inl (by rw [← v1]; exact e))] at hb; cases hb
    · rw [(htc b).2 (.inr ⟨a, n, c, e1, e2⟩)] at hb; cases hb
  · rcases (htc b).1 hb with e | e
    · exact .inl (by show g.next ≤ b ∧ b < g'.next; rw [v1]; exact e)
    · exact .inr ⟨hk, z, hz, hzl, hzo, (hblk b e).1, (hblk b e).2.1⟩
  · show (graft (setS h v g') g').get b = if (decide (h.next ≤ b ∧ b < g'.next) || blkIs v b) = true then g'.get b else h.get b
    rw [get_graft, next_setS]
    by_cases e : h.next ≤ b ∧ b < g'.next
    · rw [if_pos e, if_pos ((htc b).2 (.inl e))]
    · rw [if_neg e]
      by_cases e2 : ∃ a n c, v = .slice (some a) n c ∧ b = a.block
      · rw [if_pos ((htc b).2 (.inr e2))]
        obtain ⟨a, n, c, rfl, rfl⟩ := e2
        unfold setS
        rw [AHeap.get_set, if_pos rfl]
      · rw [if_neg (fun t => by rcases (htc b).1 t with t | t; exact e t; exact e2 t)]
        rcases get_setS h v g' b with t | ⟨t, _⟩
        · exact t
        · exact absurd t e2
  · show (setS h v g').ro = h.ro
    exact ro_setS h v g'
  · show b < g'.next
    rw [get_graft, next_setS] at hb
    split at hb
    · rename_i e; exact e.2
    · rcases get_setS h v g' b with t | ⟨t, _⟩
      · rw [t] at hb; exact Nat.lt_of_lt_of_le (F.wf b o' hb) hn
      · have := hblk b t
        omega
/-- An operation that lays a block does so on any heap. -/
theorem lay_any {u : Value} {h' : AHeap} (hk : kindV q ops o = 5) (he : aop P s o h = some (u, h')) : ∃ ob, h' = h.push ob ∧ aop P s o (h.pick []) = some (u, (h.pick []).push ob) := by
  unfold kindV at hk
  unfold aop at he ⊢
  split at he <;> rename_i hop <;> simp only [hop] at hk ⊢ <;> first
    | (cases hk; done)
    | (cases he; done)
    | skip
  · split at he
    · simp only [Option.some.injEq, newb, Prod.mk.injEq] at he; obtain ⟨rfl, rfl⟩ := he; exact ⟨_, rfl, rfl⟩
    · cases he
  · split at he
    · simp only [Option.some.injEq, newb, Prod.mk.injEq] at he; obtain ⟨rfl, rfl⟩ := he; exact ⟨_, rfl, rfl⟩
    · cases he
  · split at he
    · unfold abuildSlice at he ⊢
      split at he
      · split at he
        · obtain ⟨hc, he⟩ := cond_some he
          rw [hc]
          simp only [cond_true]
          split at he
          · obtain ⟨hc2, he⟩ := cond_some he
            rw [hc2]
            simp only [cond_true, Option.some.injEq, Prod.mk.injEq] at he ⊢
            obtain ⟨rfl, rfl⟩ := he
            exact ⟨_, rfl, rfl, rfl⟩
          · cases he
        · cases he
      · cases he
    · cases he
  · split at he
    · unfold amake at he ⊢
      split at he
      · split at he
        · cases he
        · split at he
          · cases he
          · obtain ⟨hc, he⟩ := cond_some he
            rw [hc]
            simp only [cond_true, Option.some.injEq, Prod.mk.injEq] at he ⊢
            obtain ⟨rfl, rfl⟩ := he
            exact ⟨_, rfl, rfl, rfl⟩
      · cases he
    · cases he
  · exfalso
    split at hk <;> rename_i heq <;> first
      | (cases heq; done)
      | skip
    · split at hk <;> cases hk
    · rename_i b _ _ _
      cases hq : quietB b <;> rw [hq] at hk <;> cases hk
    all_goals (cases hk; done)
  all_goals (cases he; exact ⟨_, rfl, rfl⟩)
end
end
end Go.Ai
set_option linter.unusedVariables false
namespace Go.Ai
noncomputable section
variable {P : Program}
section
variable {q : FuncId → Nat} {ops : Array Oper} {s0 : Env} {h0 : AHeap} {A : List DRec} {i : Nat} {o : Oper} {s : Env} {h : AHeap}
theorem kindV_O {k : Nat} (hc : isCallF o.op = false) (hk : kindV q ops o = k) (h5 : k ≤ 2) : kindO q o = k := by
  unfold kindV at hk
  unfold kindO
  unfold isCallF at hc
  split at hk <;> rename_i hop <;> simp only [hop] at hc ⊢ <;> first
    | (cases hc; done)
    | exact hk
    | (subst hk; omega)
    | (split at hk <;> (subst hk; omega))
    | skip
theorem app_next (F : Sofar P ops s0 h0 A i s h) {v : Value} {h1 : AHeap} {y : DRec} {u : Value} {m : Nat} (N : NextV P q ops s0 h0 A i o s h u h1 m y) : AF h h1 :=
  ⟨N.next, N.ro, fun b o hb => by
    rw [N.heap] at hb
    by_cases ht : y.tc b = true
    · rw [if_pos ht] at hb
      by_cases hl : b < y.g.next
      · have h2 := N.told.tc3 b o ht hl hb
        have h3 := N.told.heap b
        rw [h3] at h2
        by_cases hr : y.rd b = true
        · rw [if_pos hr, ← F.heap] at h2; exact .inl h2
        · rw [if_neg hr] at h2; exact absurd rfl h2
      · have hb1 : h1.get b = some o := by rw [N.heap, if_pos ht]; exact hb
        exact .inr ⟨by rw [← N.gn]; omega, N.wf b o hb1⟩
    · rw [if_neg ht] at hb
      exact .inl (by rw [hb]; simp)⟩
/-- One operation. -/
theorem opDV_next (F : Sofar P ops s0 h0 A i s h) (hron : h.ro ≤ h.next) (ho : ops[i]? = some o) (hput : ∀ d, o.dst = some d → d < s.size) (hw : awanted ops s o = true) {r : Env} (hl : Le r s) {m : Nat}
    {K : Value → AHeap → Prop} (hk : opDV P q ops r o (alV q ops A) (viewV m (alV q ops A) h) h K) : ∃ v u h1 y, (isBot v = true ∨ v = u) ∧ K v h1 ∧ NextV P q ops s0 h0 A i o s h u h1 m y := by
  obtain ⟨w1, w2, w3⟩ := viewV_facts m (alV q ops A) h
  unfold opDV at hk
  split at hk
  · rename_i g args ts hop
    have ef : aev s (.func g) = some (.func (.func g) #[] #[]) := rfl
    have hkind : kindV q ops o = kindFV (q g) := by unfold kindV; simp only [hop]
    split at hk
    · rename_i hq
      obtain ⟨hc, hn, v, hsc, hT, hK⟩ := hk
      have hT2 : TC P g (evs r args.toList) (viewV m (alV q ops A) h) (fun v1 h1 => v1 = v ∧ h1 = viewV m (alV q ops A) h) :=
        (hT.quiet (fun v1 _ e => by rw [e]; exact hsc)).mono (by rintro v1 h1 ⟨⟨_, e1⟩, e2⟩; exact ⟨e1, e2⟩)
      obtain ⟨y, hy⟩ := nextV_read (q := q) F ho hput (by rw [hkind, hq]; rfl) (u := v) (.inr ⟨hw, .inr (.inl ⟨.func g, args, ts, g, #[], #[], _, hop, ef, levs hl hn, hc, by simpa using hT2⟩)⟩)
      exact ⟨v, v, h, y, .inr rfl, hK, hy⟩
    · rename_i hq
      obtain ⟨hc, hn, v, h2, hT, af, hK⟩ := hk
      have hnx : h.next ≤ h2.next := by have := af.next; rw [← w1]; exact this
      obtain ⟨y, hy⟩ := nextV_call (q := q) F ho hput (by rw [hkind, hq]; rfl) (m := m) hnx (u := v)
        (.inr ⟨hw, .inr (.inl ⟨.func g, args, ts, g, #[], #[], _, hop, ef, levs hl hn, hc, by simpa using hT.fresh⟩)⟩)
      exact ⟨v, v, _, y, .inr rfl, hK, hy⟩
    · rename_i hq
      obtain ⟨hn, hk⟩ := hk
      obtain ⟨v, h2, he, hK⟩ := of_optH hk
      obtain ⟨f1, f2, f3⟩ := still_facts (aext_still he)
      obtain ⟨y, hy⟩ := nextV_alloc (q := q) F ho hput (by rw [hkind, hq]; rfl) f1 f2 f3 (u := v) (.inr ⟨hw, .inr (.inr ⟨.func g, args, ts, g, #[], #[], _, hop, ef, levs hl hn, by simpa using he⟩)⟩) m
      exact ⟨v, v, _, y, .inr rfl, hK, hy⟩
    · rename_i n2 n3 n4
      obtain ⟨hc, hn, hd⟩ := hk
      obtain ⟨v, h2, hK, af, hT⟩ := hd ⟨F.wf, hron⟩
      obtain ⟨y, hy⟩ := nextV_write (q := q) F ho hput (by rw [hkind]; unfold kindFV; split <;> first | rfl | (exfalso; simp_all)) af (u := v)
        (.inr ⟨hw, .inr (.inl ⟨.func g, args, ts, g, #[], #[], _, hop, ef, levs hl hn, hc, by simpa using hT⟩)⟩) m
      exact ⟨v, v, _, y, .inr rfl, hK, hy⟩
  · rename_i f args ts hnf hop
    unfold callVD at hk
    split at hk
    · rename_i g a c hf
      have ef : aev s f = some (.func (.func g) a c) := by rw [lev' hl (x := f) (by rw [hf]; rfl), hf]
      obtain ⟨hn0, hc, hn, hd⟩ := hk
      obtain ⟨v, h2, hK, af, hT⟩ := hd ⟨F.wf, hron⟩
      have hkind : kindV q ops o = 3 := by
        unfold kindV
        simp only [hop]
      obtain ⟨y, hy⟩ := nextV_write (q := q) F ho hput hkind af (u := v) (.inr ⟨hw, .inr (.inl ⟨f, args, ts, g, a, c, _, hop, ef, levs hl hn0, hc, hT⟩)⟩) m
      exact ⟨v, v, _, y, .inr rfl, hK, hy⟩
    · exact hk.elim
  · rename_i args ts hop
    split at hk
    · rename_i z hz
      have hkind : kindV q ops o = 4 := by unfold kindV; simp only [hop, hz]
      unfold appV at hk
      split at hk
      case h_2 => exact hk.elim
      rename_i x sv vs' hx hvs
      obtain ⟨how, hk⟩ := hk
      obtain ⟨v, h2, he, hK⟩ := of_optH hk
      obtain ⟨hn, he⟩ := nb_some he
      obtain ⟨f, t⟩ := x
      obtain ⟨zr, hzm, hzl, hze⟩ := mem_alV (mem_findAl hx)
      simp only [Prod.mk.injEq] at hze
      obtain ⟨rfl, rfl, rfl⟩ := hze
      have hop2 : aop P s o (viewV m (alV q ops A) h) = some (v, h2) := by
        unfold aop
        simp only [hop]
        rw [levs hl hn]
        exact he
      rw [hvs] at he
      obtain ⟨y, hy⟩ := nextV_app (q := q) F ho hput hkind (m := m) hzm hzl hz how (appFx_of he) (.inr ⟨hw, .inl hop2⟩)
      exact ⟨v, v, _, y, .inr rfl, hK, hy⟩
    · rename_i hz
      have hkind : kindV q ops o = 3 := by unfold kindV; simp only [hop, hz]
      obtain ⟨v, u, h', he, hv, hK⟩ := opA_sound hl hk
      obtain ⟨y, hy⟩ := nextV_write (q := q) F ho hput hkind (aop_parts he).1 (u := u) (.inr ⟨hw, .inl he⟩) m
      exact ⟨v, u, h', y, hv, hK, hy⟩
  · rename_i hn1 hn2 hn3
    cases h1 : Nat.beq (kindV q ops o) 1 with
    | true =>
      rw [h1] at hk
      have h1 := Nat.eq_of_beq_eq_true h1
      obtain ⟨v, u, h', he, hv, hK⟩ := opA_sound hl hk
      have hnc := aop_noCall he
      obtain rfl := reader_same (kindV_O hnc h1 (by omega)) hnc he
      obtain ⟨y, hy⟩ := nextV_read (q := q) F ho hput h1 (m := m) (u := u) (.inr ⟨hw, .inl he⟩)
      exact ⟨v, u, h, y, hv, hK, hy⟩
    | false =>
      rw [h1] at hk
      obtain ⟨v, u, h', he, hv, hK⟩ := opA_sound hl hk
      have hnc := aop_noCall he
      have hkle : kindV q ops o = 0 ∨ kindV q ops o = 1 ∨ kindV q ops o = 2 ∨ kindV q ops o = 3 ∨ kindV q ops o = 5 := by
        unfold kindV
        split <;> (try simp)
        · rename_i hop; rw [hop] at hnc; cases hnc
        · rename_i hop; exact absurd hop (hn3 _ _)
        · cases quietB _ <;> simp
      rcases hkle with h0' | h1' | h2' | h3' | h5'
      · obtain ⟨rfl, hany⟩ := pure_any (kindV_O hnc h0' (by omega)) hnc he
        obtain ⟨y, hy⟩ := nextV_pure (q := q) F ho hput (u := u) (.inr ⟨hw, .inl (hany _)⟩) m
        exact ⟨v, u, h', y, hv, hK, hy⟩
      · rw [h1'] at h1; cases h1
      · obtain ⟨f1, f2, f3⟩ := still_facts (alloc_still (kindV_O hnc h2' (by omega)) hnc he)
        obtain ⟨y, hy⟩ := nextV_alloc (q := q) F ho hput h2' f1 f2 f3 (u := u) (.inr ⟨hw, .inl he⟩) m
        exact ⟨v, u, h', y, hv, hK, hy⟩
      · obtain ⟨y, hy⟩ := nextV_write (q := q) F ho hput h3' (aop_parts he).1 (u := u) (.inr ⟨hw, .inl he⟩) m
        exact ⟨v, u, h', y, hv, hK, hy⟩
      · obtain ⟨ob, rfl, he2⟩ := lay_any h5' he
        obtain ⟨y, hy⟩ := nextV_lay (q := q) F ho hput h5' (u := u) (.inr ⟨hw, .inl he2⟩) m
        exact ⟨v, u, _, y, hv, hK, hy⟩
theorem ran_before {A1 A2 : List DRec} {x w : DRec} (F : Sofar P ops s0 h0 (A1 ++ x :: A2) i s h) (hw : w ∈ A1) : w.g'.next ≤ x.g.next := (F.told A1 x A2 rfl).nA w hw
theorem ran_after {A1 A2 : List DRec} {x w : DRec} (F : Sofar P ops s0 h0 (A1 ++ x :: A2) i s h) (hw : w ∈ A2) : x.g'.next ≤ w.g.next := by
  obtain ⟨B1, B2, rfl⟩ := List.append_of_mem hw
  exact (F.told (A1 ++ x :: B1) w B2 (by simp)).nA x (by simp)
theorem ran_up {x : DRec} (F : Sofar P ops s0 h0 A i s h) (hx : x ∈ A) : x.g.next ≤ x.g'.next := by
  obtain ⟨B1, B2, rfl⟩ := List.append_of_mem hx
  exact (F.told B1 x B2 rfl).n1
theorem ran_apart {u w : DRec} (F : Sofar P ops s0 h0 A i s h) (hu : u ∈ A) (hw : w ∈ A) (hne : u.j ≠ w.j) : u.g'.next ≤ w.g.next ∨ w.g'.next ≤ u.g.next := by
  obtain ⟨B1, B2, rfl⟩ := List.append_of_mem hu
  rcases List.mem_append.1 hw with h1 | h1
  · exact .inr (ran_before F h1)
  · rcases List.mem_cons.1 h1 with rfl | h1
    · exact absurd rfl hne
    · exact .inl (ran_after F h1)
theorem free_pairV {A1 A2 : List DRec} {x y : DRec} {mx my : Nat} (F : Sofar P ops s0 h0 (A1 ++ x :: A2) i s h) (hx : RV q ops A1 mx x) (hy : RV q ops (A1 ++ x :: A2) my y) (hn : ∀ w, w ∈ A1 ++ x :: A2 → w.g'.next ≤ y.g.next)
    (hs : slotsFree ops x.o y.o = true) (hbit : my.testBit x.j = false) (hzy : ∀ z, zOf ops y.o = some z → my.testBit z = true) (hp : pairV (x.j, kindV q ops x.o, zOf ops x.o, mx) (kindV q ops y.o) (zOf ops y.o) my = true) : Free ops x y := by
  simp only [slotsFree, Bool.and_eq_true] at hs
  obtain ⟨h1, h2⟩ := hs
  have d1 : ∀ d, x.o.dst = some d → d ∉ y.o.looksAt ops ∧ y.o.dst ≠ some d := by
    intro d hd
    rw [hd] at h1
    simp only [Bool.and_eq_true, Bool.not_eq_true', decide_eq_false_iff_not, List.contains_eq_mem] at h1
    exact ⟨h1.1, h1.2⟩
  have d2 : ∀ d, y.o.dst = some d → d ∉ x.o.looksAt ops := by
    intro d hd
    rw [hd] at h2
    simp only [Bool.not_eq_true', decide_eq_false_iff_not, List.contains_eq_mem] at h2
    exact h2
  have ff : ∀ {b : Bool}, b ≠ true → b = false := fun h => by simpa using h
  have xm : x ∈ A1 ++ x :: A2 := by simp
  have xu := ran_up F xm
  have xy := hn x xm
  unfold pairV at hp
  simp only [Bool.or_eq_true, Bool.and_eq_true, Bool.not_eq_true'] at hp
  rcases hp with (hp | hp) | ⟨⟨⟨⟨p1, p2⟩, p3⟩, p4⟩, p5⟩
  · have e := Nat.eq_of_beq_eq_true hp
    have t := hx.k1 (by omega)
    have r := hx.k0 (.inl e)
    exact ⟨d1, d2, fun b hb => (by rw [t b] at hb; cases hb), fun b _ => r b⟩
  · have e := Nat.eq_of_beq_eq_true hp
    have t := hy.k1 (by omega)
    have r := hy.k0 (.inl e)
    exact ⟨d1, d2, fun b _ => ⟨r b, t b⟩, fun b hb => by rw [t b] at hb; cases hb⟩
  have nb : ∀ {n m : Nat}, Nat.beq n m = false → n ≠ m := fun h e => by subst e; simp at h
  have x3 := nb p1
  have y3 := nb p2
  have xtc := hx.tc x3
  have ytc := hy.tc y3
  have lay : ∀ {o : Oper}, kindV q ops o ≠ 3 → ¬ kindV q ops o ≤ 1 → layer (kindV q ops o) = true := fun {o} h3 h1 => by
    have : kindV q ops o = 0 ∨ kindV q ops o = 1 ∨ kindV q ops o = 2 ∨ kindV q ops o = 3 ∨ kindV q ops o = 4 ∨ kindV q ops o = 5 ∨ kindV q ops o = 6 := by
      unfold kindV
      split <;> (try simp)
      · unfold kindFV; split <;> simp
      · split <;> simp
      · cases quietB _ <;> simp
    rcases this with e | e | e | e | e | e | e
    · omega
    · omega
    · rw [e]; rfl
    · exact absurd e h3
    · rw [e]; rfl
    · rw [e]; rfl
    · rw [e]; rfl
  have see : ∀ b, y.rd b = true → kindV q ops x.o ≠ 1 → looker (kindV q ops y.o) = true ∧ kindV q ops y.o ≠ 5 := fun b hr hk1 => by
    have k0 : kindV q ops y.o ≠ 0 := fun e => by rw [hy.k0 (.inl e) b] at hr; cases hr
    have k5 : kindV q ops y.o ≠ 5 := fun e => by rw [hy.k0 (.inr e) b] at hr; cases hr
    refine ⟨?_, k5⟩
    by_cases l1 : kindV q ops y.o ≤ 1
    · have : kindV q ops y.o = 1 := by omega
      rw [this]; rfl
    · have := lay y3 l1
      have n2 : kindV q ops y.o ≠ 2 := by
        rcases p3 with p3 | p3
        · exact nb p3
        · exact absurd (Nat.eq_of_beq_eq_true p3) hk1
      unfold layer at this
      simp only [Bool.or_eq_true, Nat.beq_eq] at this
      rcases this with ((e | e) | e) | e
      · exact absurd e n2
      · rw [e]; rfl
      · exact absurd e k5
      · rw [e]; rfl
  have xn1 : ∀ b, x.tc b = true → ¬ kindV q ops x.o ≤ 1 := fun b hb e => by rw [hx.k1 e b] at hb; cases hb
  refine ⟨d1, d2, fun b hb => ?_, fun b hb => ff fun hr => ?_⟩
  · have x1 := xn1 b hb
    have xne : kindV q ops x.o ≠ 1 := by omega
    rcases xtc b hb with hown | ⟨k4, z, hz, hzl, hzo, hzb⟩
    · refine ⟨ff fun hr => ?_, ff fun ht => ?_⟩
      · exact hy.lk (see b hr xne).1 b hr x xm (lay x3 x1) hbit hown
      · rcases ytc b ht with e | ⟨_, w, hw, hwl, hwo, hwb⟩
        · omega
        · have hne : x.j ≠ w.j := fun e => by
            have := hzy _ hwo
            rw [← e, hbit] at this
            cases this
          have := ran_apart F xm hw hne
          omega
    · have zm : z ∈ A1 ++ x :: A2 := by simp [hz]
      have zx := ran_before F hz
      rcases p4 with (p4 | p4) | p4
      · exact absurd k4 (nb p4)
      · have k5 := Nat.eq_of_beq_eq_true p4
        refine ⟨hy.k0 (.inr k5) b, ff fun ht => ?_⟩
        rcases ytc b ht with e | ⟨ky4, _⟩
        · omega
        · omega
      · rw [hzo] at p4
        simp only [Bool.and_eq_true, Bool.not_eq_true'] at p4
        refine ⟨ff fun hr => ?_, ff fun ht => ?_⟩
        · exact hy.lk (see b hr xne).1 b hr z zm hzl p4.1 hzb
        · rcases ytc b ht with e | ⟨_, w, hw, hwl, hwo, hwb⟩
          · omega
          · rw [hwo] at p4
            simp only [Bool.not_eq_true'] at p4
            have := ran_apart F zm hw (nb p4.2)
            omega
  · have hlt := hx.rd b hr
    rcases ytc b hb with e | ⟨ky4, w, hw, hwl, hwo, hwb⟩
    · omega
    · rcases p5 with (p5 | p5) | p5
      · exact absurd ky4 (nb p5)
      · have k5 := Nat.eq_of_beq_eq_true p5
        rw [hx.k0 (.inr k5) b] at hr
        cases hr
      · rw [hwo] at p5
        simp only [Bool.not_eq_true'] at p5
        rcases List.mem_append.1 hw with h1 | h1
        · exact hx.lk p5.1 b hr w h1 hwl p5.2 hwb
        · rcases List.mem_cons.1 h1 with rfl | h1
          · omega
          · have := ran_after F h1
            omega
end
end
end Go.Ai
set_option linter.unusedVariables false
namespace Go.Ai
noncomputable section
variable {P : Program}
theorem wpDV_ok {q : FuncId → Nat} {ops : Array Oper} {s0 : Env} {h0 : AHeap} (hro0 : h0.ro ≤ h0.next) : ∀ (l : List Oper) (i : Nat) (ms : List Nat) (A : List DRec) (prev : List (Nat × Nat × Option Nat × Nat)) (r s : Env) (h : AHeap) {K : Env → AHeap → Prop},
    ops.toList.drop i = l → i ≤ ops.size → MaskOk ops ms → ms.length = i → Sofar P ops s0 h0 A i s h → (∀ A1 x A2, A = A1 ++ x :: A2 → ∃ m, (x.j, kindV q ops x.o, zOf ops x.o, m) ∈ prev ∧ RV q ops A1 m x) → statGo ops l i ms (A.reverse.map fun x => (x.j, x.o)) = true → kindGoV q ops l ms prev = true →
    Le r s → wpDV P q ops l i ms (alV q ops A) r h K → ∃ A' r' s' h', Sofar P ops s0 h0 A' ops.size s' h' ∧ Le r' s' ∧ K r' h' ∧ Fr (modsO l) s s' ∧ AF h h'
  | [], i, ms, A, prev, r, s, h, K, hl, hle, hm, hml, F, hrp, hst, hkd, hle1, hk => by
    have : i = ops.size := by
      have := congrArg List.length hl
      simp at this
      omega
    subst this
    exact ⟨A, r, s, h, F, hle1, hk, .refl _ _, .refl _⟩
  | o :: os, i, ms, A, prev, r, s, h, K, hl, hle, hm, hml, F, hrp, hst, hkd, hle1, hk => by
    have ho : ops[i]? = some o := by
      have := congrArg (fun l => l[0]?) hl
      simp only [List.getElem?_drop, List.getElem?_cons_zero] at this
      simpa using this
    have hlt : i < ops.size := by
      rcases Nat.lt_or_ge i ops.size with h | h
      · exact h
      · rw [Array.getElem?_eq_none h] at ho; cases ho
    have hl' : ops.toList.drop (i + 1) = os := by rw [← List.tail_drop, hl]; rfl
    simp only [statGo, Bool.and_eq_true] at hst
    obtain ⟨⟨hedge, hslots⟩, hst⟩ := hst
    simp only [kindGoV, Bool.and_eq_true] at hkd
    obtain ⟨⟨hpair, hzz⟩, hkd⟩ := hkd
    have hzz2 : ∀ z, zOf ops o = some z → (maskOf ms o).testBit z = true := fun z hz => by rw [hz] at hzz; exact hzz
    -- one operation, then the rest
    have go : ∀ (v u : Value) (h1 : AHeap) (y : DRec), (isBot v = true ∨ v = u) → NextV P q ops s0 h0 A i o s h u h1 (maskOf ms o) y →
        (match r.put o.dst v with | some s1 => wpDV P q ops os (i + 1) (ms ++ [maskOf ms o]) (cond (layer (kindV q ops o)) (alV q ops A ++ [(i, h.next, h1.next)]) (alV q ops A)) s1 h1 K | none => False) →
        ∃ A' r' s' h', Sofar P ops s0 h0 A' ops.size s' h' ∧ Le r' s' ∧ K r' h' ∧ Fr (modsO (o :: os)) s s' ∧ AF h h' := by
      intro v u h1 y hv N hk
      split at hk
      case h_2 => exact hk.elim
      rename_i r1 hp
      obtain ⟨s1, hp1, hl1⟩ := hle1.put hp hv
      have hs1 : ∀ t, s1.get t = if o.dst = some t then u else s.get t := by
        intro t
        cases hd : o.dst with
        | none => rw [hd] at hp1; simp only [Env.put, Option.some.injEq] at hp1; subst hp1; simp
        | some d =>
          rw [hd] at hp1
          simp only [Env.put] at hp1
          obtain ⟨_, hp1⟩ := cond_some hp1
          simp only [Option.some.injEq] at hp1
          subst hp1
          rw [Env.get_set]
          by_cases e : t = d
          · subst e; simp
          · rw [if_neg e, if_neg (by simp only [Option.some.injEq]; exact fun h => e h.symm)]
      have hs1s : s1.size = s.size := (Fr.put hp1).size
      have hal2 : (cond (layer (kindV q ops o)) (alV q ops A ++ [(i, h.next, h1.next)]) (alV q ops A)) = alV q ops (A ++ [y]) := by
        rw [alV_snoc, N.hop, N.hj, N.gn]
        cases hla : layer (kindV q ops o) with
        | true => rw [N.geq hla]
        | false => rfl
      rw [hal2] at hk
      have hny : ∀ w, w ∈ A → w.g'.next ≤ y.g.next := fun w hw => by rw [N.gn]; exact F.nA w hw
      have F1 : Sofar P ops s0 h0 (A ++ [y]) (i + 1) s1 h1 := by
        refine ⟨?_, ?_, hs1s.trans F.size, ?_, N.ro.trans F.ro, Nat.le_trans F.next N.next, ?_, N.wf, ?_, ?_, ?_⟩
        · rw [List.map_append, F.js, List.range_succ]; simp [N.hj]
        · intro t
          rw [hs1, envV_snoc, N.hop, N.hval, F.env]
        · intro b
          rw [N.heap, hpV_snoc, F.heap]
        · intro x hx
          rcases List.mem_append.1 hx with hx | hx
          · exact Nat.le_trans (F.nA x hx) N.next
          · simp only [List.mem_singleton] at hx; subst hx; exact N.gnext
        · intro A1 r A2 e
          rcases snoc_split e with ⟨_, rfl, rfl⟩ | ⟨A3, _, e3⟩
          · exact N.told
          · exact F.told A1 r A3 e3
        · intro A1 r A2 e ed hed hb
          rcases snoc_split e with ⟨_, rfl, rfl⟩ | ⟨A3, _, e3⟩
          · rw [N.hop] at hed
            simp only [List.all_eq_true, Bool.or_eq_true, Bool.not_eq_true', Nat.blt_eq] at hedge
            rcases hedge ed (by simpa using hed) with h2 | h2
            · rw [hb] at h2; cases h2
            · have : ed.on ∈ A1.map (·.j) := by rw [F.js]; exact List.mem_range.2 h2
              obtain ⟨x, hx, hxj⟩ := List.mem_map.1 this
              exact ⟨x, hx, hxj⟩
          · exact F.edges A1 r A3 e3 ed hed hb
        · intro A1 x A2 z A3 e
          have e' : A ++ [y] = (A1 ++ x :: A2) ++ z :: A3 := by rw [e]; simp
          rcases snoc_split e' with ⟨_, e1, rfl⟩ | ⟨A4, _, e3⟩
          · have e1 : A = A1 ++ x :: A2 := e1.symm
            have hxm : x ∈ A := by rw [e1]; simp
            obtain ⟨mx, hpm, hrx⟩ := hrp A1 x A2 e1
            simp only [List.all_eq_true, Bool.or_eq_true] at hpair hslots
            rcases hslots (x.j, x.o) (List.mem_map.2 ⟨x, by simpa using hxm, rfl⟩) with h2 | h2
            · rw [N.hj]; exact .inl (maskOf_ok hm ho h2)
            · rcases hpair _ hpm with h3 | h3
              · rw [N.hj]; exact .inl (maskOf_ok hm ho h3)
              · by_cases hbit : (maskOf ms o).testBit x.j = true
                · rw [N.hj]; exact .inl (maskOf_ok hm ho hbit)
                · simp only [Bool.not_eq_true] at hbit
                  have F' := F
                  have nr := N.rv
                  rw [e1] at F' nr
                  rw [e1] at hny
                  exact .inr (free_pairV F' hrx nr hny (by rw [N.hop]; exact h2) hbit (by rw [N.hop]; exact hzz2) (by rw [N.hop]; exact h3))
          · exact F.apart A1 x A2 z A4 (by rw [e3]; simp)
      have hrp1 : ∀ A1 x A2, A ++ [y] = A1 ++ x :: A2 → ∃ m, (x.j, kindV q ops x.o, zOf ops x.o, m) ∈ (ms.length, kindV q ops o, zOf ops o, maskOf ms o) :: prev ∧ RV q ops A1 m x := by
        intro A1 x A2 e
        rcases snoc_split e with ⟨_, e1, e2⟩ | ⟨A3, _, e3⟩
        · subst e1 e2
          exact ⟨maskOf ms o, by rw [N.hj, N.hop, hml]; simp, N.rv⟩
        · obtain ⟨m, h1, h2⟩ := hrp A1 x A3 e3
          exact ⟨m, List.mem_cons_of_mem _ h1, h2⟩
      obtain ⟨A', r', s', h', F', l', k', f', a'⟩ := wpDV_ok hro0 os (i + 1) (ms ++ [maskOf ms o]) (A ++ [y]) _ r1 s1 h1 hl' hlt (maskOk_snoc hm hml ho) (by simp [hml]) F1 hrp1
        (by simpa [N.hj, N.hop] using hst) hkd hl1 hk
      exact ⟨A', r', s', h', F', l', k', (Fr.put hp1).left.trans f'.right, (app_next F (v := v) N).trans a'⟩
    have slot : ∀ {v : Value} {h1 : AHeap} {al' : List (Nat × Nat × Nat)}, (match r.put o.dst v with | some s1 => wpDV P q ops os (i + 1) (ms ++ [maskOf ms o]) al' s1 h1 K | none => False) → ∀ d, o.dst = some d → d < s.size := by
      intro v h1 al' hk d hd
      split at hk
      case h_2 => exact hk.elim
      rename_i r1 hp
      rw [hd] at hp
      simp only [Env.put] at hp
      obtain ⟨hb, _⟩ := cond_some hp
      rw [← hle1.size]
      simpa [Nat.blt_eq] using hb
    have hron : h.ro ≤ h.next := by rw [F.ro]; exact Nat.le_trans hro0 F.next
    have dstok : ∀ {hv : AHeap} {al : List (Nat × Nat × Nat)} {K' : Value → AHeap → Prop}, opDV P q ops r o al hv h K' → (∀ v h1, K' v h1 → ∀ d, o.dst = some d → d < s.size) → ∀ d, o.dst = some d → d < s.size := by
      intro hv al K' hk hs
      have fromA : ∀ {g : AHeap} {K2 : Value → AHeap → Prop}, opA P r o g K2 → (∀ v h1, K2 v h1 → ∀ d, o.dst = some d → d < s.size) → ∀ d, o.dst = some d → d < s.size := fun hk hs => by
        obtain ⟨v, u, h', _, _, hK⟩ := opA_sound hle1 hk
        exact hs v h' hK
      unfold opDV at hk
      split at hk
      · split at hk
        · obtain ⟨_, _, v, _, _, hK⟩ := hk; exact hs _ _ hK
        · obtain ⟨_, _, v, h2, _, _, hK⟩ := hk; exact hs _ _ hK
        · obtain ⟨_, hk⟩ := hk; obtain ⟨v, h2, _, hK⟩ := of_optH hk; exact hs _ _ hK
        · obtain ⟨_, _, hd⟩ := hk; obtain ⟨v, h2, hK, _⟩ := hd ⟨F.wf, hron⟩; exact hs _ _ hK
      · unfold callVD at hk
        split at hk
        · obtain ⟨_, _, _, hd⟩ := hk; obtain ⟨v, h2, hK, _⟩ := hd ⟨F.wf, hron⟩; exact hs _ _ hK
        · exact hk.elim
      · split at hk
        · unfold appV at hk
          split at hk
          · obtain ⟨_, hk⟩ := hk; obtain ⟨v, h2, _, hK⟩ := of_optH hk; exact hs _ _ hK
          · exact hk.elim
        · exact fromA hk hs
      · cases h1 : Nat.beq (kindV q ops o) 1 with
        | true => rw [h1] at hk; exact fromA hk (fun v _ q => hs v _ q)
        | false => rw [h1] at hk; exact fromA hk hs
    simp only [wpDV] at hk
    split at hk
    · rename_i hg
      obtain ⟨v, u, h1, y, hv, hK, N⟩ := opDV_next F hron ho (dstok hk (fun v h1 hK => slot hK)) (by simp only [awanted, hg]) hle1 hk
      exact go v u h1 y hv N hK
    · rename_i j want hg
      split at hk
      · exact hk.elim
      · rename_i d hdst
        unfold GD at hk
        split at hk
        · rename_i b hb
          have hs : s.get d = .bool b := by
            rcases hle1.get d with e | e
            · rw [hb] at e; cases e
            · rw [← e, hb]
          have haw : awanted ops s o = (b == want) := by simp only [awanted, hg, hdst, hs]
          by_cases hbw : b = want
          · have hk := hk.1 hbw
            obtain ⟨v, u, h1, y, hv, hK, N⟩ := opDV_next F hron ho (dstok hk (fun v h1 hK => slot hK)) (by rw [haw, hbw]; simp) hle1 hk
            exact go v u h1 y hv N hK
          · have hk := hk.2 hbw
            obtain ⟨y, N⟩ := nextV_pure (q := q) F ho (slot hk) (u := undef) (.inl ⟨by rw [haw]; simpa using hbw, rfl, rfl⟩) (maskOf ms o)
            exact go undef undef h y (.inr rfl) N hk
        · exact hk.elim
        · rename_i n1 n2
          have hs : s.get d = r.get d := by
            rcases hle1.get d with e | e
            · obtain ⟨k, p, q, e2⟩ := isBot_eq e; exact absurd e2 (n2 k p q)
            · exact e.symm
          have haw : awanted ops s o = false := by
            simp only [awanted, hg, hdst, hs]
          obtain ⟨y, N⟩ := nextV_pure (q := q) F ho (slot hk) (u := undef) (.inl ⟨haw, rfl, rfl⟩) (maskOf ms o)
          exact go undef undef h y (.inr rfl) N hk

theorem drawV_ok {q : FuncId → Nat} (hmix : P.follows .mixedOrders = true) : DrawOk P (drawV P q) := by
  intro ops r s h K rd id hle wf hk
  unfold drawV at hk
  cases hc : calmV q ops with
  | false => rw [hc] at hk; exact hk.elim
  | true =>
    rw [hc] at hk
    have hk : wpDV P q ops ops.toList 0 [] [] r h K := hk
    simp only [calmV, Bool.and_eq_true] at hc
    have F0 : Sofar P ops s h ([] : List DRec) 0 s h := ⟨rfl, fun t => rfl, rfl, fun b => rfl, rfl, Nat.le_refl _, fun x hx => (by cases hx), wf.1,
      fun A1 r A2 e => by simp at e, fun A1 r A2 e => by simp at e, fun A1 x A2 y A3 e => by simp at e⟩
    obtain ⟨A, r', s', h', F, hl', hK, hf, af⟩ := wpDV_ok wf.2 ops.toList 0 [] [] [] r s h rfl (Nat.zero_le _) (fun k q hq => by simp at hq) rfl F0 (fun A1 x A2 e => by simp at e) hc.1 hc.2 hle hk
    have V : Valid P ops s h A := ⟨by rw [F.js]; exact List.nodup_range, fun i hi => by
        have : i ∈ A.map (·.j) := by rw [F.js]; exact List.mem_range.2 hi
        obtain ⟨r, hr, hj⟩ := List.mem_map.1 this
        exact ⟨r, hr, hj⟩, F.told, F.edges, F.apart⟩
    exact ⟨r', s', h', hl', hK, hf, af, T_regionDraw hmix V F.env F.size F.heap F.ro F.next F.nA (Q := fun e s1 h1 => e = .normal ∧ s1 = s' ∧ h1 = h') ⟨rfl, rfl, rfl⟩⟩
/-- A function does what is asked of it. -/
theorem DC_of_wpV {q : FuncId → Nat} (hmix : P.follows .mixedOrders = true) {n : Nat} {f : FuncId} {args : List Value} {h : AHeap} {R : Value → AHeap → Prop} (hk : wpF P (drawV P q) n f args h R) : DC P f args h R := DC_of_wpF (drawV_ok hmix) hk
end
end Go.Ai
set_option linter.unusedVariables false
namespace Go.Ai
noncomputable section
variable {P : Program}
theorem TC_closedC {f : FuncId} {v : Value} {m : Nat} {tabs : List (Nat × List Value)} (hv : scal v = true) (hn : P.globals.size ≤ m) (hfl : ∀ x, x ∈ tabs → x.1 < m ∧ x.1 < P.globals.size ∧ x.2.all flat = true) (ht : TC P f [] (tabled m tabs) (fun v1 _ => v1 = v)) {h : AHeap}
    (hh : ∀ x, x ∈ tabs → ∃ c t, h.get x.1 = some (.cells c t) ∧ ∀ (i : Nat) y, x.2[i]? = some y → c[i]? = some y) : TC P f [] h (fun v1 h1 => v1 = v ∧ h1 = h) := by
  intro ρ w cargs hr hvl
  have hT : ∀ x, x ∈ tabs → x.1 < m ∧ x.2.all flat = true ∧ HoldsTab w x.1 x.2 := by
    intro x hx
    obtain ⟨f1, f2, f3⟩ := hfl x hx
    refine ⟨f1, f3, ?_⟩
    obtain ⟨c, t, hc, hce⟩ := hh x hx
    obtain ⟨pl, hm, cs, fz, h1, h2, h3, h4, h5, h6⟩ := hr.ok x.1 _ hc
    obtain ⟨g1, g2⟩ := hr.glob x.1 pl f2 hm
    refine ⟨cs, t, fz, by rw [← g1]; exact h1, fun i y hy => ?_⟩
    obtain ⟨z, hz, hzz⟩ := h6 i y (hce i y hy)
    simp only [g2, Nat.zero_add] at hz
    rw [hz]
    simp only [List.all_eq_true] at f3
    rw [flat_eq hzz (f3 y (List.mem_of_getElem? hy))]
  refine (ht _ w cargs (rel_tabled P w m tabs hn hT) ?_).mono fun e w' => ?_
  · cases hvl.nil_inv; exact .nil _
  rintro ⟨v1, v', h1, ρ', rfl, rfl, st, hvr⟩
  have hsame : ∀ c, c < w.heap.size → w'.heap[c]? = w.heap[c]? := fun c hc => st.frame c hc (by
    rintro ⟨b, o, pl, hb, hro, _⟩
    obtain ⟨c', hc', _⟩ := get_tabled hb
    have h1 := (hfl _ hc').1
    have h2 : m ≤ b := hro
    omega)
  exact ⟨v1, v', h, ρ, rfl, ⟨rfl, rfl⟩, ⟨Ren.le_refl _, hr.grow hsame, rfl, st.os, st.tape, st.output, st.size, fun c hc _ => hsame c hc, fun c _ hm => hm⟩, scal_eq hvr hv ρ⟩
end
end Go.Ai
