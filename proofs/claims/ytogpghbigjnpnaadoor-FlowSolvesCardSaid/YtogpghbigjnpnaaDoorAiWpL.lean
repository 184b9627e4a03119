/-
  WHAT IS ASKED OF A PIECE OF CODE, 13: a region that draws its order, with calls that stand beside loads; the call is run without the blocks that those look at.
-/
import Derived.Test.YtogpghbigjnpnaaDoorAiWpV5
set_option linter.unusedVariables false
set_option linter.unusedSimpArgs false
namespace Go.Ai
noncomputable section
variable {P : Program}
def kindL (q : FuncId → Nat) (o : Oper) : Nat := match o.op with
  | .load _ _ => 1
  | .store _ _ _ => 6
  | .call { callee := .value (.func g), .. } => cond (Nat.ble (q g) 1) 5 9
  | .call { callee := .builtin .append, .. } => 5
  | .buildSlice _ _ _ => 5
  | _ => (match kindO q o with
    | 0 => 0
    | _ => 9)
/-- May y come ahead of x, too? -/
def pairL (x y : Nat) : Bool := Nat.beq x 0 || Nat.beq y 0 || (Nat.beq x 1 && (Nat.beq y 1 || Nat.beq y 5))
def kindGoL (q : FuncId → Nat) : List Oper → List Nat → List (Nat × Nat) → Bool
  | [], _, _ => true
  | o :: os, ms, prev => Nat.ble (kindL q o) 6 && (prev.all fun x => (maskOf ms o).testBit x.1 || pairL x.2 (kindL q o)) && kindGoL q os (ms ++ [maskOf ms o]) ((ms.length, kindL q o) :: prev)
def calmL (q : FuncId → Nat) (ops : Array Oper) : Bool := statGo ops ops.toList 0 [] [] && kindGoL q ops.toList [] []
/-- The blocks of loads that stand in no order. -/
def hidL (m : Nat) : List (Nat × Value) → Option (List Nat)
  | [] => some []
  | x :: l => cond (m.testBit x.1) (hidL m l) (match x.2 with
    | .pointer (some a) => (match hidL m l with
      | some r => some (a.block :: r)
      | none => none)
    | _ => none)
def callDH (P : Program) (g : FuncId) (args : List Value) (hid : List Nat) (h : AHeap) (K : Value → AHeap → Prop) : Prop :=
  callable P g = true ∧ nobot args = true ∧ DC P g args (h.hide hid) fun v h2 => K v (h2.unhide h hid)
/-- A call beside loads. -/
def callDL (P : Program) (g : FuncId) (args : List Value) (m : Nat) (fl : List (Nat × Value)) (h : AHeap) (K : Value → AHeap → Prop) : Prop := match hidL m fl with
  | some hid => callDH P g args hid h K
  | none => False
@[congr] theorem callDL_hold {g : FuncId} {l l' : List Value} {m : Nat} {fl fl' : List (Nat × Value)} {h : AHeap} {h' : Unit → AHeap} {K : Value → AHeap → Prop} (e2 : l = l') (e4 : fl = fl') (e3 : ∀ u : Unit, (h, u).1 = h' u) : callDL P g l m fl h K = callDL P g l' m fl' (h' ()) K := by rw [e2, e4, ← e3]
theorem callDL_of {g : FuncId} {args : List Value} {m : Nat} {fl : List (Nat × Value)} {hid : List Nat} {h : AHeap} {K R : Value → AHeap → Prop} (hc : callable P g = true) (hn : nobot args = true) (hh : hidL m fl = some hid) (d : DC P g args (h.hide hid) R) (k : ∀ v h2, R v h2 → K v (h2.unhide h hid)) : callDL P g args m fl h K := by
  unfold callDL
  rw [hh]
  exact ⟨hc, hn, d.mono k⟩
/-- Something beside loads, without the blocks that those look at. -/
def LH (m : Nat) (fl : List (Nat × Value)) (h : AHeap) (B : AHeap → (Value → AHeap → Prop) → Prop) (K : Value → AHeap → Prop) : Prop := match hidL m fl with
  | some hid => B (h.hide hid) fun v h2 => K v (h2.unhide h hid)
  | none => False
theorem LH_of {m : Nat} {fl : List (Nat × Value)} {hid : List Nat} {h : AHeap} {B : AHeap → (Value → AHeap → Prop) → Prop} {K : Value → AHeap → Prop} (hh : hidL m fl = some hid) (k : B (h.hide hid) fun v h2 => K v (h2.unhide h hid)) : LH m fl h B K := by
  unfold LH
  rw [hh]
  exact k
@[congr] theorem LH_hold {m : Nat} {fl fl' : List (Nat × Value)} {h : AHeap} {h' : Unit → AHeap} {B : AHeap → (Value → AHeap → Prop) → Prop} {K : Value → AHeap → Prop} (e4 : fl = fl') (e3 : ∀ u : Unit, (h, u).1 = h' u) : LH m fl h B K = LH m fl' (h' ()) B K := by rw [e4, ← e3]
def opDL (P : Program) (s : Env) (o : Oper) (m : Nat) (fl : List (Nat × Value)) (h : AHeap) (K : Value → AHeap → Prop) : Prop := match o.op with
  | .load t a => opt (aload P t (ev s a) h) fun v => K v h
  | .call { callee := .value (.func g), args, argTypes } => callDL P g (evs s args.toList) m fl h K
  | .call { callee := .builtin .append, .. } => LH m fl h (opA P s o) K
  | .buildSlice _ _ _ => LH m fl h (opA P s o) K
  | _ => opA P s o h K
def flL (s : Env) (o : Oper) (i : Nat) (fl : List (Nat × Value)) : List (Nat × Value) := match o.op with
  | .load t a => fl ++ [(i, ev s a)]
  | _ => fl
def wpDL (P : Program) (ops : Array Oper) : List Oper → Nat → List Nat → List (Nat × Value) → Env → AHeap → (Env → AHeap → Prop) → Prop
  | [], _, _, _, s, h, K => K s h
  | o :: os, i, ms, fl, s, h, K => (match o.guard with
    | none => opDL P s o (maskOf ms o) fl h fun v h1 => (match s.put o.dst v with
      | some s1 => wpDL P ops os (i + 1) (ms ++ [maskOf ms o]) (flL s o i fl) s1 h1 K
      | none => False)
    | some _ => False)
def drawL (P : Program) (q : FuncId → Nat) (ops : Array Oper) (s : Env) (h : AHeap) (K : Env → AHeap → Prop) : Prop := sel (calmL q ops) (wpDL P ops ops.toList 0 [] [] s h K) False
/-! ### Sound -/
structure RL (q : FuncId → Nat) (fl : List (Nat × Value)) (x : DRec) : Prop where
  k0 : kindL q x.o = 0 → (∀ b, x.rd b = false) ∧ ∀ b, x.tc b = false
  k1 : kindL q x.o = 1 → (∀ b, x.tc b = false) ∧ ∃ b off sp, (∀ c, x.rd c = true → c = b) ∧ (x.j, Value.pointer (some ⟨b, off, sp⟩)) ∈ fl
theorem RL.mono {q : FuncId → Nat} {fl fl' : List (Nat × Value)} {x : DRec} (r : RL q fl x) (h : ∀ e, e ∈ fl → e ∈ fl') : RL q fl' x := ⟨r.k0, fun e => by
  obtain ⟨h1, b, off, sp, h2, h3⟩ := r.k1 e
  exact ⟨h1, b, off, sp, h2, h _ h3⟩⟩
theorem hidL_mem {m : Nat} : ∀ {fl : List (Nat × Value)} {hid : List Nat}, hidL m fl = some hid → (∀ j b off sp, (j, Value.pointer (some ⟨b, off, sp⟩)) ∈ fl → m.testBit j = false → b ∈ hid) ∧ (∀ b, b ∈ hid → ∃ j off sp, (j, Value.pointer (some ⟨b, off, sp⟩)) ∈ fl)
  | [], hid, h => by
    simp only [hidL, Option.some.injEq] at h
    subst h
    exact ⟨fun j b off sp h => (by cases h), fun b h => (by cases h)⟩
  | x :: l, hid, h => by
    unfold hidL at h
    cases hb : m.testBit x.1 with
    | true =>
      rw [hb] at h
      obtain ⟨h1, h2⟩ := hidL_mem (fl := l) (hid := hid) h
      refine ⟨fun j b off sp hm hj => ?_, fun b hb2 => ?_⟩
      · rcases List.mem_cons.1 hm with e | hm
        · rw [← e] at hb; rw [hb] at hj; cases hj
        · exact h1 j b off sp hm hj
      · obtain ⟨j, off, sp, hm⟩ := h2 b hb2
        exact ⟨j, off, sp, List.mem_cons_of_mem _ hm⟩
    | false =>
      rw [hb] at h
      simp only [cond_false] at h
      split at h
      · rename_i a ha
        split at h
        · rename_i r hr
          simp only [Option.some.injEq] at h
          subst h
          obtain ⟨h1, h2⟩ := hidL_mem hr
          refine ⟨fun j b off sp hm hj => ?_, fun b hb2 => ?_⟩
          · rcases List.mem_cons.1 hm with e | hm
            · rw [← e] at ha
              simp only [Value.pointer.injEq, Option.some.injEq] at ha
              rw [← ha]
              exact List.mem_cons_self
            · exact List.mem_cons_of_mem _ (h1 j b off sp hm hj)
          · rcases List.mem_cons.1 hb2 with rfl | hb2
            · obtain ⟨k, v⟩ := x
              simp only at ha
              subst ha
              obtain ⟨ab, ao, asp⟩ := a
              exact ⟨k, ao, asp, List.mem_cons_self⟩
            · obtain ⟨j, off, sp, hm⟩ := h2 b hb2
              exact ⟨j, off, sp, List.mem_cons_of_mem _ hm⟩
        · cases h
      · cases h
structure NextL (P : Program) (q : FuncId → Nat) (ops : Array Oper) (s0 : Env) (h0 : AHeap) (A : List DRec) (i : Nat) (o : Oper) (s : Env) (h : AHeap) (u : Value) (h1 : AHeap) (m : Nat) (fl fl1 : List (Nat × Value)) (y : DRec) : Prop where
  hj : y.j = i
  hop : y.o = o
  hval : y.v = u
  told : Told P ops s0 h0 A y
  rl : RL q fl1 y
  heap : ∀ b, h1.get b = if y.tc b = true then y.g'.get b else h.get b
  ro : h1.ro = h.ro
  next : h.next ≤ h1.next
  gnext : y.g'.next ≤ h1.next
  wf : WF h1
  af : AF h h1
  sep : kindL q o = 5 → ∀ j b off sp, (j, Value.pointer (some ⟨b, off, sp⟩)) ∈ fl → m.testBit j = false → y.rd b = false ∧ y.tc b = false
  low : ∀ j b off sp, (j, Value.pointer (some ⟨b, off, sp⟩)) ∈ fl1 → (j, Value.pointer (some ⟨b, off, sp⟩)) ∈ fl ∨ b < h1.next
section
variable {q : FuncId → Nat} {ops : Array Oper} {s0 : Env} {h0 : AHeap} {A : List DRec} {i : Nat} {o : Oper} {s : Env} {h : AHeap} {m : Nat} {fl fl1 : List (Nat × Value)}
theorem nextL_pure (F : Sofar P ops s0 h0 A i s h) (ho : ops[i]? = some o) (hput : ∀ d, o.dst = some d → d < s.size) {u : Value} (hs : OpSem P ops s o (h.pick []) u (h.pick [])) (hk : kindL q o = 0) : ∃ y, NextL P q ops s0 h0 A i o s h u h m fl fl y := by
  refine ⟨⟨i, o, u, s, h.pick [], h.pick [], fun _ => false, fun _ => false⟩, rfl, rfl, rfl,
    ⟨ho, F.env, F.size, fun b => by rw [get_pick]; simp, F.ro, F.next, F.nA, Nat.le_refl _, hs, fun d hd => by rw [← F.size]; exact hput d hd, fun b hb => (by cases hb), fun b _ => rfl, fun b o' hb => (by cases hb)⟩,
    ⟨fun _ => ⟨fun _ => rfl, fun _ => rfl⟩, fun e => by simp only at e; omega⟩, fun b => by simp, rfl, Nat.le_refl _, Nat.le_refl _, F.wf, .refl _, fun e => by omega, fun j b off sp hm => .inl hm⟩
theorem nextL_load (F : Sofar P ops s0 h0 A i s h) (ho : ops[i]? = some o) (hput : ∀ d, o.dst = some d → d < s.size) (hw : awanted ops s o = true) {t : TypeId} {a : Operand} (hop : o.op = .load t a) {av u : Value} (hav : aev s a = some av) (hl : aload P t av h = some u) : ∃ y, NextL P q ops s0 h0 A i o s h u h m fl (fl ++ [(i, av)]) y := by
  have hk1 : kindL q o = 1 := by unfold kindL; rw [hop]
  obtain ⟨b, off, sp, rfl, hne, hsp⟩ : ∃ b off sp, av = .pointer (some ⟨b, off, sp⟩) ∧ h.get b ≠ none ∧ ∀ g : AHeap, g.get b = h.get b → aload P t av g = some u := by
    unfold aload at hl
    split at hl
    · rename_i b off
      exact ⟨b, off, none, rfl, (fun e => by rw [e] at hl; cases hl), fun g hg => by unfold aload; simp only; rw [hg]; exact hl⟩
    · rename_i b off
      exact ⟨b, off, some 0, rfl, (fun e => by rw [e] at hl; cases hb : b.blt P.globals.size <;> rw [hb] at hl <;> cases hl), fun g hg => by unfold aload; simp only; rw [hg]; exact hl⟩
    · cases hl
  have hlt : b < h.next := by
    cases hg : h.get b with
    | none => exact absurd hg hne
    | some o' => exact F.wf b o' hg
  refine ⟨⟨i, o, u, s, h.pick [b], h.pick [b], fun c => decide (c = b), fun _ => false⟩, rfl, rfl, rfl,
    ⟨ho, F.env, F.size, fun c => ?_, F.ro, F.next, F.nA, Nat.le_refl _, .inr ⟨hw, .inl (by unfold aop; simp only [hop, hav, hsp _ (show (h.pick [b]).get b = h.get b by rw [get_pick, if_pos (by simp)]), one])⟩, fun d hd => by rw [← F.size]; exact hput d hd, fun b hb => (by cases hb), fun b _ => rfl, fun b o' hb => (by cases hb)⟩,
    ⟨fun e => by simp only at e; omega, fun _ => ⟨fun _ => rfl, b, off, sp, fun c hc => by simpa using hc, by simp⟩⟩, fun b => by simp, rfl, Nat.le_refl _, Nat.le_refl _, F.wf, .refl _, fun e => by omega, fun j c off' sp' hm => ?_⟩
  · show (h.pick [b]).get c = if decide (c = b) = true then hpV A h0 c else none
    rw [get_pick]
    by_cases e : c = b
    · subst e; simp [F.heap]
    · simp [e]
  · rcases List.mem_append.1 hm with hm | hm
    · exact .inl hm
    · simp only [List.mem_singleton, Prod.mk.injEq, Value.pointer.injEq, Option.some.injEq, Addr.mk.injEq] at hm
      obtain ⟨_, rfl, _⟩ := hm
      exact .inr hlt
theorem nextL_call (F : Sofar P ops s0 h0 A i s h) (ho : ops[i]? = some o) (hput : ∀ d, o.dst = some d → d < s.size) {hid : List Nat} (hh : hidL m fl = some hid) (hlo : ∀ j b off sp, (j, Value.pointer (some ⟨b, off, sp⟩)) ∈ fl → b < h.next) {v : Value} {h' : AHeap} (af : AF (h.hide hid) h') (hs : OpSem P ops s o (h.hide hid) v h') (hk : kindL q o = 5) : ∃ y, NextL P q ops s0 h0 A i o s h v (h'.unhide h hid) m fl fl y := by
  obtain ⟨hm1, hm2⟩ := hidL_mem hh
  have hlt : ∀ b, b ∈ hid → b < h.next := fun b hb => by
    obtain ⟨j, off, sp, hm⟩ := hm2 b hb
    exact hlo j b off sp hm
  have hwfh : WF (h.hide hid) := fun b o' hb => by
    rw [get_hide] at hb
    split at hb
    · cases hb
    · exact F.wf b o' hb
  have hwf := hwfh.af af
  have hn : h.next ≤ h'.next := af.next
  have hgone : ∀ b, b ∈ hid → h'.get b = none := by
    intro b hb
    cases hh : h'.get b with
    | none => rfl
    | some o' =>
      rcases af.alive b o' hh with h2 | ⟨h2, _⟩
      · rw [get_hide, if_pos hb] at h2; exact absurd rfl h2
      · have : h.next ≤ b := h2
        have := hlt b hb; omega
  have hbeyond : ∀ b, ¬ b < h'.next → h'.get b = none ∧ h.get b = none := by
    intro b hb
    refine ⟨?_, ?_⟩
    · cases hh : h'.get b with | none => rfl | some o' => exact absurd (hwf b o' hh) hb
    · cases hh : h.get b with | none => rfl | some o' => exact absurd (Nat.lt_of_lt_of_le (F.wf b o' hh) hn) hb
  refine ⟨⟨i, o, v, s, h.hide hid, h', fun b => Nat.blt b h.next && !hid.contains b, fun b => Nat.blt b h'.next && !hid.contains b⟩, rfl, rfl, rfl,
    ⟨ho, F.env, F.size, fun b => ?_, F.ro, F.next, F.nA, hn, hs, fun d hd => by rw [← F.size]; exact hput d hd, fun b hb => ?_, fun b hb => ?_, fun b o' _ hlt2 hb => ?_⟩,
    ⟨fun e => by simp only at e; omega, fun e => by simp only at e; omega⟩, fun b => ?_, af.ro, hn, Nat.le_refl _, fun b o' hb => ?_, ⟨hn, af.ro, fun b o' hb => ?_⟩, fun _ j b off sp hm hj => ?_, fun j b off sp hm => .inl hm⟩
  · rw [get_hide]
    simp only [Bool.and_eq_true, Nat.blt_eq, Bool.not_eq_true', List.contains_eq_mem, decide_eq_false_iff_not]
    by_cases hm : b ∈ hid
    · rw [if_pos hm, if_neg (fun hc => hc.2 hm)]
    · rw [if_neg hm]
      by_cases hb : b < h.next
      · rw [if_pos ⟨hb, hm⟩]; exact F.heap b
      · rw [if_neg (fun hc => hb hc.1)]
        cases hh : h.get b with
        | none => rfl
        | some o' => exact absurd (F.wf b o' hh) hb
  · simp only [Bool.and_eq_true, Nat.blt_eq, Bool.not_eq_true', List.contains_eq_mem, decide_eq_false_iff_not] at hb ⊢
    by_cases hb2 : b < h.next
    · exact .inl ⟨hb2, hb.2⟩
    · exact .inr ⟨Nat.le_of_not_lt hb2, hb.1⟩
  · show h'.get b = (h.hide hid).get b
    rw [get_hide]
    by_cases hm : b ∈ hid
    · rw [if_pos hm, hgone b hm]
    · rw [if_neg hm]
      have hb' : ¬ b < h'.next := by
        intro hc
        have h3 : (Nat.blt b h'.next && !hid.contains b) = true := by simpa [Nat.blt_eq] using ⟨hc, hm⟩
        exact Bool.false_ne_true ((show (Nat.blt b h'.next && !hid.contains b) = false from hb).symm.trans h3)
      rw [(hbeyond b hb').1, (hbeyond b hb').2]
  · rcases af.alive b o' hb with h2 | ⟨h2, _⟩
    · exact h2
    · exact absurd hlt2 (by show ¬ b < (h.hide hid).next; omega)
  · rw [get_unhide]
    simp only [Bool.and_eq_true, Nat.blt_eq, Bool.not_eq_true', List.contains_eq_mem, decide_eq_false_iff_not]
    by_cases hm : b ∈ hid
    · rw [if_pos hm, if_neg (fun hc => hc.2 hm)]
    · rw [if_neg hm]
      by_cases hb : b < h'.next
      · rw [if_pos ⟨hb, hm⟩]
      · rw [if_neg (fun hc => hb hc.1), (hbeyond b hb).1, (hbeyond b hb).2]
  · rw [get_unhide] at hb
    show b < h'.next
    split at hb
    · exact Nat.lt_of_lt_of_le (F.wf b o' hb) hn
    · exact hwf b o' hb
  · rw [get_unhide] at hb
    split at hb
    · exact .inl (by rw [hb]; simp)
    · rcases af.alive b o' hb with h2 | ⟨h2, h3⟩
      · rw [get_hide] at h2
        split at h2
        · exact absurd rfl h2
        · exact .inl h2
      · exact .inr ⟨h2, h3⟩
  · have := hm1 j b off sp hm hj
    exact ⟨by simp [this], by simp [this]⟩
theorem nextL_write (F : Sofar P ops s0 h0 A i s h) (ho : ops[i]? = some o) (hput : ∀ d, o.dst = some d → d < s.size) (hk : kindL q o = 6) {h1 : AHeap} (af : AF h h1)
    {u : Value} (hs : OpSem P ops s o h u h1) : ∃ y, NextL P q ops s0 h0 A i o s h u h1 m fl fl y := by
  have hrd : ∀ n b, (Nat.blt b n = true) ↔ b < n := fun n b => by rw [Nat.blt_eq]
  have hn : h.next ≤ h1.next := af.next
  have hwf : WF h1 := F.wf.af af
  refine ⟨⟨i, o, u, s, h, h1, fun b => Nat.blt b h.next, fun b => Nat.blt b h1.next⟩, rfl, rfl, rfl,
    ⟨ho, F.env, F.size, fun b => ?_, F.ro, F.next, F.nA, hn, hs, fun d hd => by rw [← F.size]; exact hput d hd, fun b hb => ?_, fun b hb => ?_, fun b o' hb hlt hg => ?_⟩,
    ⟨fun e => by simp only at e; omega, fun e => by simp only at e; omega⟩, fun b => ?_, af.ro, hn, Nat.le_refl _, hwf, af, fun e => by omega, fun j b off sp hm => .inl hm⟩
  · show h.get b = if Nat.blt b h.next = true then hpV A h0 b else none
    by_cases hb : b < h.next
    · rw [if_pos ((hrd _ b).2 hb), F.heap]
    · rw [if_neg (fun e => hb ((hrd _ b).1 e)), wf_beyond F.wf hb]
  · have hb := (hrd _ b).1 hb
    by_cases hlt : b < h.next
    · exact .inl ((hrd _ b).2 hlt)
    · exact .inr ⟨Nat.le_of_not_lt hlt, hb⟩
  · have hb' : ¬ b < h1.next := fun e => by
      have := (hrd h1.next b).2 e
      rw [show Nat.blt b h1.next = false from hb] at this
      cases this
    show h1.get b = h.get b
    rw [wf_beyond hwf hb', wf_beyond F.wf (by omega)]
  · rcases af.alive b o' hg with h2 | ⟨h2, _⟩
    · exact h2
    · have hlt : b < h.next := hlt
      omega
  · show h1.get b = if Nat.blt b h1.next = true then h1.get b else h.get b
    by_cases hb : b < h1.next
    · rw [if_pos ((hrd _ b).2 hb)]
    · rw [if_neg (fun e => hb ((hrd _ b).1 e)), wf_beyond hwf hb, wf_beyond F.wf (by omega)]
theorem opDL_hidden (F : Sofar P ops s0 h0 A i s h) (hron : h.ro ≤ h.next) (ho : ops[i]? = some o) (hput : ∀ d, o.dst = some d → d < s.size) (hw : awanted ops s o = true) (hlo : ∀ j b off sp, (j, Value.pointer (some ⟨b, off, sp⟩)) ∈ fl → b < h.next) {r : Env} (hl : Le r s) (hk5 : kindL q o = 5) (hnl : ∀ t a, o.op ≠ .load t a)
    {K : Value → AHeap → Prop} (hk : LH m fl h (opA P r o) K) : ∃ v u h1 y, (isBot v = true ∨ v = u) ∧ K v h1 ∧ NextL P q ops s0 h0 A i o s h u h1 m fl (flL r o i fl) y := by
  unfold LH at hk
  split at hk
  · rename_i hid hh
    obtain ⟨v, u, h', he, hv, hK⟩ := opA_sound hl hk
    obtain ⟨y, hy⟩ := nextL_call (q := q) (m := m) (fl := fl) F ho hput hh hlo (aop_parts he).1 (.inr ⟨hw, .inl he⟩) hk5
    refine ⟨v, u, _, y, hv, hK, ?_⟩
    unfold flL
    split
    · rename_i hop; exact absurd hop (hnl _ _)
    · exact hy
  · exact hk.elim
/-- One operation. -/
theorem opDL_next (F : Sofar P ops s0 h0 A i s h) (hron : h.ro ≤ h.next) (ho : ops[i]? = some o) (hput : ∀ d, o.dst = some d → d < s.size) (hw : awanted ops s o = true) (hkl : kindL q o ≤ 6) (hlo : ∀ j b off sp, (j, Value.pointer (some ⟨b, off, sp⟩)) ∈ fl → b < h.next) {r : Env} (hl : Le r s)
    {K : Value → AHeap → Prop} (hk : opDL P r o m fl h K) : ∃ v u h1 y, (isBot v = true ∨ v = u) ∧ K v h1 ∧ NextL P q ops s0 h0 A i o s h u h1 m fl (flL r o i fl) y := by
  unfold opDL at hk
  split at hk
  · rename_i t a hop
    obtain ⟨v, he, hK⟩ := of_opt hk
    have hnb : isBot (ev r a) = false := by
      cases hb : isBot (ev r a) with
      | false => rfl
      | true => obtain ⟨k, p, z, e2⟩ := isBot_eq hb; rw [e2] at he; cases he
    obtain ⟨y, hy⟩ := nextL_load (q := q) (m := m) (fl := fl) F ho hput hw hop (lev' hl hnb) he
    exact ⟨v, v, h, y, .inr rfl, hK, by unfold flL; simp only [hop]; exact hy⟩
  · rename_i g args ts hop
    have ef : aev s (.func g) = some (.func (.func g) #[] #[]) := rfl
    have hk5 : kindL q o = 5 := by
      unfold kindL at hkl ⊢
      simp only [hop] at hkl ⊢
      cases hb : Nat.ble (q g) 1 with
      | true => rfl
      | false => rw [hb] at hkl; exact absurd hkl (by decide)
    unfold callDL at hk
    split at hk
    · rename_i hid hh
      obtain ⟨hc, hn, hd⟩ := hk
      have wfh : WF' (h.hide hid) := ⟨fun b o' hb => by
        rw [get_hide] at hb
        split at hb
        · cases hb
        · exact F.wf b o' hb, hron⟩
      obtain ⟨v, h2, hK, af, hT⟩ := hd wfh
      obtain ⟨y, hy⟩ := nextL_call (q := q) (m := m) (fl := fl) F ho hput hh hlo af (.inr ⟨hw, .inr (.inl ⟨.func g, args, ts, g, #[], #[], _, hop, ef, levs hl hn, hc, by simpa using hT⟩)⟩) hk5
      exact ⟨v, v, _, y, .inr rfl, hK, by unfold flL; simp only [hop]; exact hy⟩
    · exact hk.elim
  · rename_i args ts hop
    exact opDL_hidden F hron ho hput hw hlo hl (by unfold kindL; simp only [hop]) (by intro t a e; rw [hop] at e; cases e) hk
  · rename_i t n es hop
    exact opDL_hidden F hron ho hput hw hlo hl (by unfold kindL; simp only [hop]) (by intro t a e; rw [hop] at e; cases e) hk
  · rename_i n1 n2 n3 n4
    obtain ⟨v, u, h', he, hv, hK⟩ := opA_sound hl hk
    have hnc := aop_noCall he
    by_cases hst : ∃ t a x, o.op = .store t a x
    · obtain ⟨t, a, x, hop⟩ := hst
      obtain ⟨y, hy⟩ := nextL_write (q := q) (m := m) (fl := fl) F ho hput (by unfold kindL; simp only [hop]) (aop_parts he).1 (u := u) (.inr ⟨hw, .inl he⟩)
      refine ⟨v, u, h', y, hv, hK, ?_⟩
      unfold flL
      split
      · rename_i hop; exact absurd hop (n1 _ _)
      · exact hy
    have hk0 : kindL q o = 0 ∧ kindO q o = 0 := by
      unfold kindL at hkl ⊢
      split at hkl
      · rename_i hop; exact absurd hop (n1 _ _)
      · rename_i hop; exact absurd ⟨_, _, _, hop⟩ hst
      · rename_i hop; exact absurd hop (n2 _ _ _)
      · rename_i hop; exact absurd hop (n3 _ _)
      · rename_i hop; exact absurd hop (n4 _ _ _)
      · cases hko : kindO q o with
        | zero => exact ⟨rfl, rfl⟩
        | succ k => rw [hko] at hkl; exact absurd hkl (by show ¬ (9 : Nat) ≤ 6; decide)
    obtain ⟨rfl, hany⟩ := pure_any hk0.2 hnc he
    obtain ⟨y, hy⟩ := nextL_pure (q := q) (m := m) (fl := fl) F ho hput (u := u) (.inr ⟨hw, .inl (hany _)⟩) hk0.1
    refine ⟨v, u, h', y, hv, hK, ?_⟩
    unfold flL
    split
    · rename_i hop; exact absurd hop (n1 _ _)
    · exact hy
theorem free_pairL {x y : DRec} (hx : RL q fl x) (hy0 : kindL q y.o = 0 → (∀ b, y.rd b = false) ∧ ∀ b, y.tc b = false) (hy1 : kindL q y.o = 1 → ∀ b, y.tc b = false) (hsep : kindL q y.o = 5 → ∀ j b off sp, (j, Value.pointer (some ⟨b, off, sp⟩)) ∈ fl → m.testBit j = false → y.rd b = false ∧ y.tc b = false) (hs : slotsFree ops x.o y.o = true) (hbit : m.testBit x.j = false) (hp : pairL (kindL q x.o) (kindL q y.o) = true) : Free ops x y := by
  simp only [slotsFree, Bool.and_eq_true] at hs
  obtain ⟨h1, h2⟩ := hs
  have d1 : ∀ d, x.o.dst = some d → d ∉ y.o.looksAt ops ∧ y.o.dst ≠ some d := by
    intro d hd
    rw [hd] at h1
    simp only [Bool.and_eq_true, Bool.not_eq_true', decide_eq_false_iff_not, List.contains_eq_mem] at h1
    exact ⟨h1.1, h1.2⟩
  have d2 : ∀ d, y.o.dst = some d → d ∉ x.o.looksAt ops := by
    intro d hd
    rw [hd] at h2
    simp only [Bool.not_eq_true', decide_eq_false_iff_not, List.contains_eq_mem] at h2
    exact h2
  unfold pairL at hp
  simp only [Bool.or_eq_true, Bool.and_eq_true] at hp
  rcases hp with (h | h) | ⟨h, h'⟩
  · have h := Nat.eq_of_beq_eq_true h
    obtain ⟨r, t⟩ := hx.k0 h
    exact ⟨d1, d2, fun b hb => (by rw [t b] at hb; cases hb), fun b _ => r b⟩
  · have h := Nat.eq_of_beq_eq_true h
    obtain ⟨r, t⟩ := hy0 h
    exact ⟨d1, d2, fun b _ => ⟨r b, t b⟩, fun b hb => by rw [t b] at hb; cases hb⟩
  · have h := Nat.eq_of_beq_eq_true h
    obtain ⟨t, b0, off, sp, hrd, hm⟩ := hx.k1 h
    refine ⟨d1, d2, fun b hb => (by rw [t b] at hb; cases hb), fun b hb => ?_⟩
    rcases h' with h' | h'
    · have h' := Nat.eq_of_beq_eq_true h'
      rw [hy1 h' b] at hb; cases hb
    · have h' := Nat.eq_of_beq_eq_true h'
      cases hr : x.rd b with
      | false => rfl
      | true =>
        have e := hrd b hr
        subst e
        rw [(hsep h' _ _ _ _ hm hbit).2] at hb
        cases hb
end
theorem wpDL_ok {q : FuncId → Nat} {ops : Array Oper} {s0 : Env} {h0 : AHeap} (hro0 : h0.ro ≤ h0.next) : ∀ (l : List Oper) (i : Nat) (ms : List Nat) (fl : List (Nat × Value)) (A : List DRec) (r s : Env) (h : AHeap) {K : Env → AHeap → Prop},
    ops.toList.drop i = l → i ≤ ops.size → MaskOk ops ms → ms.length = i → Sofar P ops s0 h0 A i s h → (∀ x, x ∈ A → RL q fl x) → (∀ j b off sp, (j, Value.pointer (some ⟨b, off, sp⟩)) ∈ fl → b < h.next) → statGo ops l i ms (A.reverse.map fun x => (x.j, x.o)) = true → kindGoL q l ms (A.reverse.map fun x => (x.j, kindL q x.o)) = true →
    Le r s → wpDL P ops l i ms fl r h K → ∃ A' r' s' h', Sofar P ops s0 h0 A' ops.size s' h' ∧ Le r' s' ∧ K r' h' ∧ Fr (modsO l) s s' ∧ AF h h'
  | [], i, ms, fl, A, r, s, h, K, hl, hle, hm, hml, F, hrl, hlo, hst, hkd, hle1, hk => by
    have : i = ops.size := by
      have := congrArg List.length hl
      simp at this
      omega
    subst this
    exact ⟨A, r, s, h, F, hle1, hk, .refl _ _, .refl _⟩
  | o :: os, i, ms, fl, A, r, s, h, K, hl, hle, hm, hml, F, hrl, hlo, hst, hkd, hle1, hk => by
    have ho : ops[i]? = some o := by
      have := congrArg (fun l => l[0]?) hl
      simp only [List.getElem?_drop, List.getElem?_cons_zero] at this
      simpa using this
    have hlt : i < ops.size := by
      rcases Nat.lt_or_ge i ops.size with h | h
      · exact h
      · rw [Array.getElem?_eq_none h] at ho; cases ho
    have hl' : ops.toList.drop (i + 1) = os := by rw [← List.tail_drop, hl]; rfl
    simp only [statGo, Bool.and_eq_true] at hst
    obtain ⟨⟨hedge, hslots⟩, hst⟩ := hst
    simp only [kindGoL, Bool.and_eq_true] at hkd
    obtain ⟨⟨hkl, hpair⟩, hkd⟩ := hkd
    have hkl := Nat.le_of_ble_eq_true hkl
    have hron : h.ro ≤ h.next := by rw [F.ro]; exact Nat.le_trans hro0 F.next
    simp only [wpDL] at hk
    split at hk
    case h_2 => exact hk.elim
    rename_i hg
    have hput : ∀ d, o.dst = some d → d < s.size := by
      have slot : ∀ {v : Value} {h1 : AHeap}, (match r.put o.dst v with | some s1 => wpDL P ops os (i + 1) (ms ++ [maskOf ms o]) (flL r o i fl) s1 h1 K | none => False) → ∀ d, o.dst = some d → d < s.size := by
        intro v h1 hk d hd
        split at hk
        case h_2 => exact hk.elim
        rename_i r1 hp
        rw [hd] at hp
        simp only [Env.put] at hp
        obtain ⟨hb, _⟩ := cond_some hp
        rw [← hle1.size]
        simpa [Nat.blt_eq] using hb
      unfold opDL at hk
      split at hk
      · obtain ⟨v, _, hK⟩ := of_opt hk; exact slot hK
      · unfold callDL at hk
        split at hk
        · rename_i hid hh
          obtain ⟨_, _, hd⟩ := hk
          have wfh : WF' (h.hide hid) := ⟨fun b o' hb => by
            rw [get_hide] at hb
            split at hb
            · cases hb
            · exact F.wf b o' hb, hron⟩
          obtain ⟨v, h2, hK, _⟩ := hd wfh
          exact slot hK
        · exact hk.elim
      · unfold LH at hk
        split at hk
        · obtain ⟨v, u, h', _, _, hK⟩ := opA_sound hle1 hk
          exact slot hK
        · exact hk.elim
      · unfold LH at hk
        split at hk
        · obtain ⟨v, u, h', _, _, hK⟩ := opA_sound hle1 hk
          exact slot hK
        · exact hk.elim
      · obtain ⟨v, u, h', _, _, hK⟩ := opA_sound hle1 hk
        exact slot hK
    obtain ⟨v, u, h1, y, hv, hK, N⟩ := opDL_next (q := q) (m := maskOf ms o) F hron ho hput (by simp only [awanted, hg]) hkl hlo hle1 hk
    split at hK
    case h_2 => exact hK.elim
    rename_i r1 hp
    obtain ⟨s1, hp1, hl1⟩ := hle1.put hp hv
    have hs1 : ∀ t, s1.get t = if o.dst = some t then u else s.get t := by
      intro t
      cases hd : o.dst with
      | none => rw [hd] at hp1; simp only [Env.put, Option.some.injEq] at hp1; subst hp1; simp
      | some d =>
        rw [hd] at hp1
        simp only [Env.put] at hp1
        obtain ⟨_, hp1⟩ := cond_some hp1
        simp only [Option.some.injEq] at hp1
        subst hp1
        rw [Env.get_set]
        by_cases e : t = d
        · subst e; simp
        · rw [if_neg e, if_neg (by simp only [Option.some.injEq]; exact fun h => e h.symm)]
    have hs1s : s1.size = s.size := (Fr.put hp1).size
    have hfl : ∀ e, e ∈ fl → e ∈ flL r o i fl := fun e he => by
      unfold flL
      split
      · exact List.mem_append_left _ he
      · exact he
    have F1 : Sofar P ops s0 h0 (A ++ [y]) (i + 1) s1 h1 := by
      refine ⟨?_, ?_, hs1s.trans F.size, ?_, N.ro.trans F.ro, Nat.le_trans F.next N.next, ?_, N.wf, ?_, ?_, ?_⟩
      · rw [List.map_append, F.js, List.range_succ]; simp [N.hj]
      · intro t
        rw [hs1, envV_snoc, N.hop, N.hval, F.env]
      · intro b
        rw [N.heap, hpV_snoc, F.heap]
      · intro x hx
        rcases List.mem_append.1 hx with hx | hx
        · exact Nat.le_trans (F.nA x hx) N.next
        · simp only [List.mem_singleton] at hx; subst hx; exact N.gnext
      · intro A1 r A2 e
        rcases snoc_split e with ⟨_, rfl, rfl⟩ | ⟨A3, _, e3⟩
        · exact N.told
        · exact F.told A1 r A3 e3
      · intro A1 r A2 e ed hed hb
        rcases snoc_split e with ⟨_, rfl, rfl⟩ | ⟨A3, _, e3⟩
        · rw [N.hop] at hed
          simp only [List.all_eq_true, Bool.or_eq_true, Bool.not_eq_true', Nat.blt_eq] at hedge
          rcases hedge ed (by simpa using hed) with h2 | h2
          · rw [hb] at h2; cases h2
          · have : ed.on ∈ A1.map (·.j) := by rw [F.js]; exact List.mem_range.2 h2
            obtain ⟨x, hx, hxj⟩ := List.mem_map.1 this
            exact ⟨x, hx, hxj⟩
        · exact F.edges A1 r A3 e3 ed hed hb
      · intro A1 x A2 z A3 e
        have e' : A ++ [y] = (A1 ++ x :: A2) ++ z :: A3 := by rw [e]; simp
        rcases snoc_split e' with ⟨_, e1, rfl⟩ | ⟨A4, _, e3⟩
        · have hxm : x ∈ A := by rw [← e1]; simp
          simp only [List.all_eq_true, Bool.or_eq_true] at hpair hslots
          rcases hslots (x.j, x.o) (List.mem_map.2 ⟨x, by simpa using hxm, rfl⟩) with h2 | h2
          · rw [N.hj]; exact .inl (maskOf_ok hm ho h2)
          · rcases hpair (x.j, kindL q x.o) (List.mem_map.2 ⟨x, by simpa using hxm, rfl⟩) with h3 | h3
            · rw [N.hj]; exact .inl (maskOf_ok hm ho h3)
            · by_cases hbit : (maskOf ms o).testBit x.j = true
              · rw [N.hj]; exact .inl (maskOf_ok hm ho hbit)
              · simp only [Bool.not_eq_true] at hbit
                exact .inr (free_pairL (fl := fl) (m := maskOf ms o) (hrl x hxm) N.rl.k0 (fun e => (N.rl.k1 e).1) (fun e => N.sep (by rw [← N.hop]; exact e)) (by rw [N.hop]; exact h2) hbit (by rw [N.hop]; exact h3))
        · exact F.apart A1 x A2 z A4 (by rw [e3]; simp)
    obtain ⟨A', r', s', h', F', l', k', f', a'⟩ := wpDL_ok hro0 os (i + 1) (ms ++ [maskOf ms o]) (flL r o i fl) (A ++ [y]) r1 s1 h1 hl' hlt (maskOk_snoc hm hml ho) (by simp [hml]) F1
      (fun x hx => by rcases List.mem_append.1 hx with hx | hx
                      · exact (hrl x hx).mono hfl
                      · simp only [List.mem_singleton] at hx; subst hx; exact N.rl)
      (fun j b off sp hm2 => by
        rcases N.low j b off sp hm2 with q2 | q2
        · exact Nat.lt_of_lt_of_le (hlo j b off sp q2) N.next
        · exact q2)
      (by simpa [N.hj, N.hop] using hst) (by have : ms.length = y.j := by rw [N.hj, hml]
                                             simpa [this, N.hop] using hkd) hl1 hK
    exact ⟨A', r', s', h', F', l', k', (Fr.put hp1).left.trans f'.right, N.af.trans a'⟩
theorem drawL_ok {q : FuncId → Nat} (hmix : P.follows .mixedOrders = true) : DrawOk P (drawL P q) := by
  intro ops r s h K rd id hle wf hk
  unfold drawL at hk
  cases hc : calmL q ops with
  | false => rw [hc] at hk; exact hk.elim
  | true =>
    rw [hc] at hk
    have hk : wpDL P ops ops.toList 0 [] [] r h K := hk
    simp only [calmL, Bool.and_eq_true] at hc
    have F0 : Sofar P ops s h ([] : List DRec) 0 s h := ⟨rfl, fun t => rfl, rfl, fun b => rfl, rfl, Nat.le_refl _, fun x hx => (by cases hx), wf.1,
      fun A1 r A2 e => by simp at e, fun A1 r A2 e => by simp at e, fun A1 x A2 y A3 e => by simp at e⟩
    obtain ⟨A, r', s', h', F, hl', hK, hf, af⟩ := wpDL_ok (q := q) wf.2 ops.toList 0 [] [] [] r s h rfl (Nat.zero_le _) (fun k q hq => by simp at hq) rfl F0 (fun x hx => (by cases hx)) (fun j b off sp hm => (by cases hm)) hc.1 hc.2 hle hk
    have V : Valid P ops s h A := ⟨by rw [F.js]; exact List.nodup_range, fun i hi => by
        have : i ∈ A.map (·.j) := by rw [F.js]; exact List.mem_range.2 hi
        obtain ⟨r, hr, hj⟩ := List.mem_map.1 this
        exact ⟨r, hr, hj⟩, F.told, F.edges, F.apart⟩
    exact ⟨r', s', h', hl', hK, hf, af, T_regionDraw hmix V F.env F.size F.heap F.ro F.next F.nA (Q := fun e s1 h1 => e = .normal ∧ s1 = s' ∧ h1 = h') ⟨rfl, rfl, rfl⟩⟩
end
end Go.Ai
