/-
  WHAT IS ASKED OF A PIECE OF CODE, 11: a region that draws its order and makes no block; loads and stores that are in no order are of unlike cells.
-/
import Derived.Test.YtogpghbigjnpnaaDoorAiDrawZ
import Derived.Test.YtogpghbigjnpnaaDoorAiWpV5
import Derived.Test.YtogpghbigjnpnaaDoorAiWpL
set_option linter.unusedVariables false
set_option linter.unusedSimpArgs false
namespace Go.Ai
noncomputable section
variable {P : Program}
/-- Is it a slice whose length is asked? -/
def lenC (P : Program) (l : List TypeId) : Bool := match l with
  | [t] => (match srun P (underlying t) with
    | some (.slice _) => true
    | _ => false)
  | _ => false
def kindZ (P : Program) (q : FuncId → Nat) (o : Oper) : Nat := match o.op with
  | .load _ _ => 1
  | .store _ _ _ => 2
  | .call { callee := .builtin .len, argTypes, .. } => cond (lenC P argTypes.toList) 0 3
  | _ => (match kindO q o with
    | 0 => 0
    | 1 => 3
    | _ => 4)
/-- May they come in either order? -/
def pairZ (x y : Nat) : Bool := Nat.beq x 0 || Nat.beq y 0 || ((Nat.beq x 1 || Nat.beq x 3) && (Nat.beq y 1 || Nat.beq y 3)) || (Nat.beq x 1 && Nat.beq y 2) || (Nat.beq x 2 && Nat.beq y 1)
def kindGoZ (P : Program) (q : FuncId → Nat) : List Oper → List Nat → List (Nat × Nat) → Bool
  | [], _, _ => true
  | o :: os, ms, prev => Nat.ble (kindZ P q o) 3 && (prev.all fun x => (maskOf ms o).testBit x.1 || pairZ x.2 (kindZ P q o)) && kindGoZ P q os (ms ++ [maskOf ms o]) ((ms.length, kindZ P q o) :: prev)
def calmZ (P : Program) (q : FuncId → Nat) (ops : Array Oper) : Bool := statGo ops ops.toList 0 [] [] && kindGoZ P q ops.toList [] []
def szL (P : Program) (t : TypeId) : Nat := match srun P (isAgg t) with
  | some true => (match srun P (sizeOf t) with
    | some n => n
    | none => 0)
  | _ => 1
def szS (P : Program) (t : TypeId) : Nat := match srun P (sizeOf t) with
  | some n => n
  | none => 0
/-- Cells apart. -/
def apt (n : Nat) (a : Value) (m : Nat) (c : Value) : Prop := match a, c with
  | .pointer (some ⟨b, o, none⟩), .pointer (some ⟨c, p, none⟩) => b ≠ c ∨ o + n ≤ p ∨ p + m ≤ o
  | _, _ => False
theorem apt_p {n m b o c p : Nat} : apt n (.pointer (some ⟨b, o, none⟩)) m (.pointer (some ⟨c, p, none⟩)) = (b ≠ c ∨ o + n ≤ p ∨ p + m ≤ o) := rfl
def clash (m : Nat) (st : Bool) (n : Nat) (a : Value) : List (Nat × Bool × Nat × Value) → Prop → Prop
  | [], Q => Q
  | x :: l, Q => sel (m.testBit x.1 || (st == x.2.1)) (clash m st n a l Q) (apt n a x.2.2.1 x.2.2.2 ∧ clash m st n a l Q)
def opDZ (P : Program) (s : Env) (o : Oper) (m : Nat) (fl : List (Nat × Bool × Nat × Value)) (h : AHeap) (K : Value → AHeap → Prop) : Prop := match o.op with
  | .load t a => clash m false (szL P t) (ev s a) fl (opt (aload P t (ev s a) h) fun v => K v h)
  | .store t a x => clash m true (szS P t) (ev s a) fl (opt (nb [ev s x] (astore P t (ev s a) (ev s x) h)) fun h' => K undef h')
  | .call { callee := .value (.func g), args, argTypes } => callQ P g (evs s args.toList) h fun v => K v h
  | _ => opA P s o h K
def flZ (P : Program) (s : Env) (o : Oper) (i : Nat) (fl : List (Nat × Bool × Nat × Value)) : List (Nat × Bool × Nat × Value) := match o.op with
  | .load t a => fl ++ [(i, false, szL P t, ev s a)]
  | .store t a _ => fl ++ [(i, true, szS P t, ev s a)]
  | _ => fl
def wpDZ (P : Program) (ops : Array Oper) : List Oper → Nat → List Nat → List (Nat × Bool × Nat × Value) → Env → AHeap → (Env → AHeap → Prop) → Prop
  | [], _, _, _, s, h, K => K s h
  | o :: os, i, ms, fl, s, h, K => (match o.guard with
    | none => opDZ P s o (maskOf ms o) fl h fun v h1 => (match s.put o.dst v with
      | some s1 => wpDZ P ops os (i + 1) (ms ++ [maskOf ms o]) (flZ P s o i fl) s1 h1 K
      | none => False)
    | some (j, want) => (match (ops[j]?).bind (·.dst) with
      | none => False
      | some d => GD (s.get d) want (opDZ P s o (maskOf ms o) fl h) (fun v h1 => (match s.put o.dst v with
        | some s1 => wpDZ P ops os (i + 1) (ms ++ [maskOf ms o]) (flZ P s o i fl) s1 h1 K
        | none => False)) h))
def drawZ (P : Program) (q : FuncId → Nat) (ops : Array Oper) (s : Env) (h : AHeap) (K : Env → AHeap → Prop) : Prop := sel (calmZ P q ops) (wpDZ P ops ops.toList 0 [] [] s h K) False
/-! ### Sound -/
theorem clash_q {m : Nat} {st : Bool} {n : Nat} {a : Value} : ∀ {l : List (Nat × Bool × Nat × Value)} {Q : Prop}, clash m st n a l Q → Q ∧ ∀ x, x ∈ l → m.testBit x.1 = false → x.2.1 ≠ st → apt n a x.2.2.1 x.2.2.2
  | [], Q, h => ⟨h, fun x hx => (by cases hx)⟩
  | y :: l, Q, h => by
    unfold clash at h
    cases hb : (m.testBit y.1 || (st == y.2.1)) with
    | true =>
      rw [hb] at h
      obtain ⟨h1, h2⟩ := clash_q (l := l) h
      refine ⟨h1, fun x hx hm hs => ?_⟩
      rcases List.mem_cons.1 hx with rfl | hx
      · rw [hm, Bool.false_or, beq_iff_eq] at hb; exact absurd hb.symm hs
      · exact h2 x hx hm hs
    | false =>
      rw [hb] at h
      obtain ⟨h0, h⟩ := h
      obtain ⟨h1, h2⟩ := clash_q (l := l) h
      refine ⟨h1, fun x hx hm hs => ?_⟩
      rcases List.mem_cons.1 hx with rfl | hx
      · exact h0
      · exact h2 x hx hm hs
theorem get_setMany_out (vs : List Value) : ∀ (c : List Value) (o k : Nat), k < o ∨ o + vs.length ≤ k → (setMany c o vs)[k]? = c[k]? := by
  induction vs with
  | nil => intro c o k _; rfl
  | cons v vs ih =>
    intro c o k hk
    simp only [setMany]
    simp only [List.length_cons] at hk
    rw [ih _ _ _ (by omega), List.getElem?_set_ne (by omega)]
theorem rng_setMany {c vs : List Value} {t : TypeId} {o off n : Nat} (h : off + n ≤ o ∨ o + vs.length ≤ off) : rng (some (.cells (setMany c o vs) t)) off n = rng (some (.cells c t)) off n := by
  simp only [rng, length_setMany]
  by_cases hl : off + n ≤ c.length
  · rw [if_pos hl, if_pos hl]
    congr 1
    apply List.ext_getElem?
    intro k
    by_cases hk : k < n
    · rw [List.getElem?_take_of_lt hk, List.getElem?_take_of_lt hk, List.getElem?_drop, List.getElem?_drop, get_setMany_out _ _ _ _ (by omega)]
    · rw [List.getElem?_eq_none (by simp; omega), List.getElem?_eq_none (by simp; omega)]
  · rw [if_neg hl, if_neg hl]
/-- A load looks at its cells alone. -/
theorem aload_rng {t : TypeId} {b off : Nat} {g g2 : AHeap} {v : Value} (h : aload P t (.pointer (some ⟨b, off, none⟩)) g = some v) (e : rng (g2.get b) off (szL P t) = rng (g.get b) off (szL P t)) : aload P t (.pointer (some ⟨b, off, none⟩)) g2 = some v := by
  unfold aload szL at *
  simp only at *
  cases hg : g.get b with
  | none => rw [hg] at h; cases h
  | some ob =>
    rw [hg] at h e
    cases ob with
    | cells c t1 =>
      simp only at h
      cases ha : srun P (isAgg t) with
      | none => rw [ha] at h; cases h
      | some ag =>
        rw [ha] at h e
        cases ag with
        | true =>
          simp only at h e
          cases hs : srun P (sizeOf t) with
          | none => rw [hs] at h; cases h
          | some n =>
            rw [hs] at h e
            simp only at h e
            obtain ⟨hle, h⟩ := cond_some h
            rw [Nat.ble_eq] at hle
            simp only [rng, if_pos hle] at e
            cases hg2 : g2.get b with
            | none => rw [hg2] at e; cases e
            | some ob2 =>
              rw [hg2] at e
              cases ob2 with
              | cells c2 t2 =>
                simp only at e
                split at e
                · rename_i hle2
                  simp only [Option.some.injEq] at e
                  simp only [show Nat.ble (off + n) c2.length = true by rw [Nat.ble_eq]; exact hle2, cond_true, e]
                  exact h
                · cases e
              | _ => simp at e
        | false =>
          simp only at h e
          have hlt : off < c.length := by
            rcases Nat.lt_or_ge off c.length with q | q
            · exact q
            · rw [List.getElem?_eq_none q] at h; cases h
          simp only [rng, if_pos (show off + 1 ≤ c.length from hlt)] at e
          cases hg2 : g2.get b with
          | none => rw [hg2] at e; cases e
          | some ob2 =>
            rw [hg2] at e
            cases ob2 with
            | cells c2 t2 =>
              simp only at e
              split at e
              · simp only [Option.some.injEq] at e
                have := congrArg (fun l => l[0]?) e
                simp only [List.getElem?_take_of_lt (Nat.zero_lt_one), List.getElem?_drop, Nat.add_zero] at this
                exact this.trans h
              · cases e
            | _ => simp at e
    | _ => simp at h
def lkR (P : Program) (ops : Array Oper) (x : DRec) : Option (Nat × Nat × Nat) := match x.o.op with
  | .load t a => (match aev x.s a with
    | some (.pointer (some ⟨b, off, none⟩)) => cond (awanted ops x.s x.o) (some (b, off, szL P t)) none
    | _ => none)
  | _ => none
/-- What a record looks at and touches; fl: the addresses of loads and stores. -/
structure RZ (P : Program) (q : FuncId → Nat) (ops : Array Oper) (fl : List (Nat × Bool × Nat × Value)) (x : DRec) : Prop where
  k0 : kindZ P q x.o = 0 → (∀ b, x.rd b = false) ∧ ∀ b, x.tc b = false
  k13 : kindZ P q x.o = 1 ∨ kindZ P q x.o = 3 → ∀ b, x.tc b = false
  k1 : kindZ P q x.o = 1 → (∀ b, x.rd b = false) ∨ ∃ b off sp n, (∀ c, x.rd c = true → c = b) ∧ (sp = none → lkR P ops x = some (b, off, n)) ∧ (x.j, false, n, Value.pointer (some ⟨b, off, sp⟩)) ∈ fl
  k2 : kindZ P q x.o = 2 → ((∀ b, x.rd b = false) ∧ ∀ b, x.tc b = false) ∨ ∃ b off n c vs t, (∀ d, x.rd d = true ↔ d = b) ∧ (∀ d, x.tc d = true ↔ d = b) ∧ x.g.get b = some (.cells c t) ∧ x.g'.get b = some (.cells (setMany c off vs) t) ∧ vs.length = n ∧ (x.j, true, n, Value.pointer (some ⟨b, off, none⟩)) ∈ fl
theorem RZ.mono {q : FuncId → Nat} {ops : Array Oper} {fl fl' : List (Nat × Bool × Nat × Value)} {x : DRec} (r : RZ P q ops fl x) (h : ∀ e, e ∈ fl → e ∈ fl') : RZ P q ops fl' x :=
  ⟨r.k0, r.k13, fun e => by
    rcases r.k1 e with h1 | ⟨b, off, sp, n, h1, h2, h3⟩
    · exact .inl h1
    · exact .inr ⟨b, off, sp, n, h1, h2, h _ h3⟩, fun e => by
    rcases r.k2 e with h1 | ⟨b, off, n, c, vs, t, h1, h2, h3, h4, h5, h6⟩
    · exact .inl h1
    · exact .inr ⟨b, off, n, c, vs, t, h1, h2, h3, h4, h5, h _ h6⟩⟩
structure SofarZ (P : Program) (ops : Array Oper) (s0 : Env) (h0 : AHeap) (A : List DRec) (i : Nat) (s : Env) (h : AHeap) : Prop where
  js : A.map (·.j) = List.range i
  env : ∀ t, s.get t = envV A s0 t
  size : s.size = s0.size
  heap : ∀ b, h.get b = hpV A h0 b
  ro : h.ro = h0.ro
  next : h.next = h0.next
  wf : WF h
  told : ∀ A1 r A2, A = A1 ++ r :: A2 → ToldZ (lkR P ops) P ops s0 h0 A1 r
  edges : ∀ A1 r A2, A = A1 ++ r :: A2 → ∀ e, e ∈ r.o.after → Region.binds .any e = true → ∃ x, x ∈ A1 ∧ x.j = e.on
  apart : ∀ A1 x A2 y A3, A = A1 ++ x :: (A2 ++ y :: A3) → Prec ops x.j y.j ∨ FreeZ (lkR P ops) ops x y
structure NextZ (P : Program) (q : FuncId → Nat) (ops : Array Oper) (s0 : Env) (h0 : AHeap) (A : List DRec) (i : Nat) (o : Oper) (s : Env) (h : AHeap) (u : Value) (h1 : AHeap) (m : Nat) (fl fl1 : List (Nat × Bool × Nat × Value)) (y : DRec) : Prop where
  hj : y.j = i
  hop : y.o = o
  hval : y.v = u
  told : ToldZ (lkR P ops) P ops s0 h0 A y
  rz : RZ P q ops fl1 y
  heap : ∀ b, h1.get b = if y.tc b = true then y.g'.get b else h.get b
  ro : h1.ro = h.ro
  next : h1.next = h.next
  wf : WF h1
  af : AF h h1
  clash : ∀ e, e ∈ fl → m.testBit e.1 = false → (kindZ P q o = 1 ∧ e.2.1 = true → ((∀ b, y.rd b = false) ∨ ∃ b off sp n, (∀ c, y.rd c = true → c = b) ∧ (sp = none → lkR P ops y = some (b, off, n)) ∧ apt n (.pointer (some ⟨b, off, sp⟩)) e.2.2.1 e.2.2.2)) ∧
    (kindZ P q o = 2 ∧ e.2.1 = false → ((∀ b, y.tc b = false) ∨ ∃ b off n c vs t, (∀ d, y.rd d = true ↔ d = b) ∧ (∀ d, y.tc d = true ↔ d = b) ∧ y.g.get b = some (.cells c t) ∧ y.g'.get b = some (.cells (setMany c off vs) t) ∧ vs.length = n ∧ apt n (.pointer (some ⟨b, off, none⟩)) e.2.2.1 e.2.2.2))
section
variable {q : FuncId → Nat} {ops : Array Oper} {s0 : Env} {h0 : AHeap} {A : List DRec} {i : Nat} {o : Oper} {s : Env} {h : AHeap} {m : Nat} {fl fl1 : List (Nat × Bool × Nat × Value)}
theorem nextZ_pure (F : SofarZ P ops s0 h0 A i s h) (ho : ops[i]? = some o) (hput : ∀ d, o.dst = some d → d < s.size) {u : Value} (hs : OpSem P ops s o (h.pick []) u (h.pick [])) (hlk : ∀ t a, o.op = .load t a → awanted ops s o = false) : ∃ y, NextZ P q ops s0 h0 A i o s h u h m fl fl1 y := by
  refine ⟨⟨i, o, u, s, h.pick [], h.pick [], fun _ => false, fun _ => false⟩, rfl, rfl, rfl,
    ⟨⟨ho, F.env, F.size, fun b => by rw [get_pick]; simp, F.ro, by show h0.next ≤ h.next; rw [F.next]; exact Nat.le_refl _, fun x hx => ?_, Nat.le_refl _, hs, fun d hd => by rw [← F.size]; exact hput d hd, fun b hb => (by cases hb), fun b _ => rfl, fun b o' hb => (by cases hb)⟩, ⟨F.next, F.next⟩, fun b0 off n e => ?_⟩,
    ⟨fun _ => ⟨fun _ => rfl, fun _ => rfl⟩, fun _ _ => rfl, fun _ => .inl fun _ => rfl, fun _ => .inl ⟨fun _ => rfl, fun _ => rfl⟩⟩, fun b => by simp, rfl, rfl, F.wf, .refl _, fun e he hm => ⟨fun _ => .inl fun _ => rfl, fun _ => .inl fun _ => rfl⟩⟩
  · obtain ⟨A1, A2, rfl⟩ := List.append_of_mem hx
    have := (F.told A1 x A2 rfl).still.2
    show x.g'.next ≤ h.next
    rw [this, F.next]; exact Nat.le_refl _
  · exfalso
    unfold lkR at e
    simp only at e
    split at e
    · rename_i t a hop
      split at e
      · rw [hlk t a hop] at e; cases e
      · cases e
    · cases e
theorem nA_of (F : SofarZ P ops s0 h0 A i s h) : ∀ x, x ∈ A → x.g'.next ≤ h.next := fun x hx => by
  obtain ⟨A1, A2, rfl⟩ := List.append_of_mem hx
  have := (F.told A1 x A2 rfl).still.2
  rw [this, F.next]; exact Nat.le_refl _
theorem n0_of (F : SofarZ P ops s0 h0 A i s h) : h0.next ≤ h.next := by rw [F.next]; exact Nat.le_refl _
theorem wf_out {h : AHeap} (w : WF h) {b : Nat} (hb : ¬ b < h.next) : h.get b = none := by
  cases hh : h.get b with | none => rfl | some o' => exact absurd (w b o' hh) hb
/-- It looked, at anything. -/
theorem nextZ_read (F : SofarZ P ops s0 h0 A i s h) (ho : ops[i]? = some o) (hput : ∀ d, o.dst = some d → d < s.size) {u : Value} (hs : OpSem P ops s o h u h) (hk : kindZ P q o = 3) : ∃ y, NextZ P q ops s0 h0 A i o s h u h m fl fl1 y := by
  have hrd : ∀ b, (Nat.blt b h.next = true) ↔ b < h.next := fun b => by rw [Nat.blt_eq]
  have nl : ∀ t a, o.op = .load t a → False := fun t a e => by unfold kindZ at hk; rw [e] at hk; cases hk
  refine ⟨⟨i, o, u, s, h, h, fun b => Nat.blt b h.next, fun _ => false⟩, rfl, rfl, rfl,
    ⟨⟨ho, F.env, F.size, fun b => ?_, F.ro, n0_of F, nA_of F, Nat.le_refl _, hs, fun d hd => by rw [← F.size]; exact hput d hd, fun b hb => (by cases hb), fun b _ => rfl, fun b o' hb => (by cases hb)⟩, ⟨F.next, F.next⟩, fun b0 off n e => ?_⟩,
    ⟨fun e => by simp only at e; omega, fun _ _ => rfl, fun e => by simp only at e; omega, fun e => by simp only at e; omega⟩, fun b => by simp, rfl, rfl, F.wf, .refl _, fun e he hm => ⟨fun ⟨e, _⟩ => by omega, fun ⟨e, _⟩ => by omega⟩⟩
  · show h.get b = if Nat.blt b h.next = true then hpV A h0 b else none
    by_cases hb : b < h.next
    · rw [if_pos ((hrd b).2 hb), F.heap]
    · rw [if_neg (fun e => hb ((hrd b).1 e)), wf_out F.wf hb]
  · exfalso
    unfold lkR at e
    cases hop : o.op <;> simp only [hop] at e <;> first | (cases e; done) | exact nl _ _ hop
/-- A load. -/
theorem nextZ_load (F : SofarZ P ops s0 h0 A i s h) (ho : ops[i]? = some o) (hput : ∀ d, o.dst = some d → d < s.size) (hw : awanted ops s o = true) {t : TypeId} {a : Operand} (hop : o.op = .load t a) {av u : Value} (hav : aev s a = some av) (hl : aload P t av h = some u)
    (hcl : ∀ e, e ∈ fl → m.testBit e.1 = false → e.2.1 ≠ false → apt (szL P t) av e.2.2.1 e.2.2.2) : ∃ y, NextZ P q ops s0 h0 A i o s h u h m fl (fl ++ [(i, false, szL P t, av)]) y := by
  have hk1 : kindZ P q o = 1 := by unfold kindZ; rw [hop]
  -- the block that it is of
  obtain ⟨b, off, sp, rfl, hsp⟩ : ∃ b off sp, av = .pointer (some ⟨b, off, sp⟩) ∧ ∀ g : AHeap, g.get b = h.get b → aload P t av g = some u := by
    unfold aload at hl
    split at hl
    · rename_i b off
      exact ⟨b, off, none, rfl, fun g hg => by unfold aload; simp only; rw [hg]; exact hl⟩
    · rename_i b off
      exact ⟨b, off, some 0, rfl, fun g hg => by unfold aload; simp only; rw [hg]; exact hl⟩
    · cases hl
  have sem : ∀ g : AHeap, aload P t (.pointer (some ⟨b, off, sp⟩)) g = some u → OpSem P ops s o g u g := fun g hg => .inr ⟨hw, .inl (by unfold aop; simp only [hop, hav, hg, one])⟩
  refine ⟨⟨i, o, u, s, h.pick [b], h.pick [b], fun c => decide (c = b), fun _ => false⟩, rfl, rfl, rfl,
    ⟨⟨ho, F.env, F.size, fun c => ?_, F.ro, (n0_of F : h0.next ≤ h.next), fun x hx => nA_of F x hx, Nat.le_refl _, sem _ (hsp _ (by rw [get_pick, if_pos (by simp)])), fun d hd => by rw [← F.size]; exact hput d hd, fun b hb => (by cases hb), fun b _ => rfl, fun b o' hb => (by cases hb)⟩, ⟨F.next, F.next⟩, fun b0 off0 n e => ?_⟩,
    ⟨fun e => by simp only at e; omega, fun _ _ => rfl, fun _ => .inr ⟨b, off, sp, szL P t, fun c hc => by simpa using hc, fun hsp0 => ?_, by simp⟩, fun e => by simp only at e; omega⟩, fun b => by simp, rfl, rfl, F.wf, .refl _, fun e he hm => ⟨fun ⟨_, h1⟩ => .inr ⟨b, off, sp, szL P t, fun c hc => by simpa using hc, fun hsp0 => ?_, hcl e he hm (by rw [h1]; simp)⟩, fun ⟨e, _⟩ => by omega⟩⟩
  · show (h.pick [b]).get c = if decide (c = b) = true then hpV A h0 c else none
    rw [get_pick]
    by_cases e : c = b
    · subst e; simp [F.heap]
    · simp [e]
  · unfold lkR at e
    simp only [hop, hav] at e
    cases sp with
    | some k => simp at e
    | none =>
      simp only [hw, cond_true, Option.some.injEq, Prod.mk.injEq] at e
      obtain ⟨rfl, rfl, rfl⟩ := e
      exact ⟨by simp, fun c hc => by simpa using hc, fun _ => rfl, fun g hg => sem g (aload_rng (hsp _ (by rw [get_pick, if_pos (by simp)])) hg)⟩
  · subst hsp0; unfold lkR; simp only [hop, hav, hw, cond_true]
  · subst hsp0; unfold lkR; simp only [hop, hav, hw, cond_true]
/-- A store. -/
theorem nextZ_store (F : SofarZ P ops s0 h0 A i s h) (ho : ops[i]? = some o) (hput : ∀ d, o.dst = some d → d < s.size) (hw : awanted ops s o = true) {t : TypeId} {a x : Operand} (hop : o.op = .store t a x) {av xv : Value} (hav : aev s a = some av) (hxv : aev s x = some xv) {h1 : AHeap} (hl : astore P t av xv h = some h1)
    (hcl : ∀ e, e ∈ fl → m.testBit e.1 = false → e.2.1 ≠ true → apt (szS P t) av e.2.2.1 e.2.2.2) : ∃ y, NextZ P q ops s0 h0 A i o s h undef h1 m fl (fl ++ [(i, true, szS P t, av)]) y := by
  have hk2 : kindZ P q o = 2 := by unfold kindZ; rw [hop]
  have af := astore_af hl
  obtain ⟨b, off, c, t', rfl, hg, hn, hh1, hst⟩ : ∃ b off c t', av = .pointer (some ⟨b, off, none⟩) ∧ h.get b = some (.cells c t') ∧ xv.cells.size = szS P t ∧ h1 = h.set b (some (.cells (setMany c off xv.cells.toList) t')) ∧
      ∀ g : AHeap, g.get b = h.get b → g.ro = h.ro → astore P t av xv g = some (g.set b (some (.cells (setMany c off xv.cells.toList) t'))) := by
    unfold astore at hl
    split at hl
    · rename_i b off
      split at hl
      · cases hl
      · rename_i c t' hg
        split at hl
        · cases hl
        · rename_i n hs
          obtain ⟨hc, hl⟩ := cond_some hl
          simp only [Option.some.injEq] at hl
          have hc' := hc
          simp only [Bool.and_eq_true, Nat.beq_eq] at hc'
          refine ⟨b, off, c, t', rfl, hg, ?_, hl.symm, fun g hgg hro => ?_⟩
          · unfold szS; rw [hs]; exact hc'.1.1.1
          · unfold astore; simp only; rw [hgg, hg]; simp only [hs, hro, hc, cond_true]
      · cases hl
    · cases hl
  subst hh1
  have eq1 : ∀ d, (decide (d = b) = true) ↔ d = b := fun d => by simp
  have g2 : ((h.pick [b]).set b (some (.cells (setMany c off xv.cells.toList) t'))).get b = some (.cells (setMany c off xv.cells.toList) t') := by rw [AHeap.get_set, if_pos rfl]
  have g1 : (h.pick [b]).get b = some (.cells c t') := by rw [get_pick, if_pos (by simp)]; exact hg
  refine ⟨⟨i, o, undef, s, h.pick [b], (h.pick [b]).set b (some (.cells (setMany c off xv.cells.toList) t')), fun d => decide (d = b), fun d => decide (d = b)⟩, rfl, rfl, rfl,
    ⟨⟨ho, F.env, F.size, fun d => ?_, F.ro, (n0_of F : h0.next ≤ h.next), fun x hx => nA_of F x hx, Nat.le_refl _, .inr ⟨hw, .inl ?_⟩, fun d hd => by rw [← F.size]; exact hput d hd, fun d hd => .inl hd, fun d hd => ?_, fun d o' hd _ _ => ?_⟩, ⟨F.next, F.next⟩, fun b0 off0 n e => ?_⟩,
    ⟨fun e => by simp only at e; omega, fun e => by simp only at e; omega, fun e => by simp only at e; omega, fun _ => .inr ⟨b, off, szS P t, c, xv.cells.toList, t', eq1, eq1, g1, g2, by simpa using hn, by simp⟩⟩, fun d => ?_, rfl, rfl, fun d o' hd => ?_, af, fun e he hm => ⟨fun ⟨e, _⟩ => by omega, fun ⟨_, h1⟩ => .inr ⟨b, off, szS P t, c, xv.cells.toList, t', eq1, eq1, g1, g2, by simpa using hn, hcl e he hm (by rw [h1]; simp)⟩⟩⟩
  · show (h.pick [b]).get d = if decide (d = b) = true then hpV A h0 d else none
    rw [get_pick]
    by_cases e : d = b
    · subst e; simp [F.heap]
    · simp [e]
  · unfold aop; simp only [hop, hav, hxv, hst (h.pick [b]) (by rw [get_pick, if_pos (by simp)]) rfl]
  · have hd : decide (d = b) = false := hd
    have : d ≠ b := fun e => by rw [(eq1 d).2 e] at hd; cases hd
    rw [AHeap.get_set, if_neg this]
  · have := (eq1 d).1 hd; subst this; rw [g1]; simp
  · exfalso; unfold lkR at e; simp only [hop] at e; cases e
  · show (h.set b _).get d = if decide (d = b) = true then _ else _
    by_cases e : d = b
    · subst e; rw [if_pos (by simp), AHeap.get_set, if_pos rfl, AHeap.get_set, if_pos rfl]
    · rw [if_neg (by simp [e]), AHeap.get_set, if_neg e]
  · rw [AHeap.get_set] at hd
    show d < h.next
    split at hd
    · rename_i e; subst e; exact F.wf _ _ hg
    · exact F.wf _ _ hd
theorem len_any {l : List TypeId} (hl : lenC P l = true) {r : TypeId} {vs : List Value} {u : Value} {h h' : AHeap} (he : abuiltin P .len l r vs h = some (u, h')) : h' = h ∧ ∀ g, abuiltin P .len l r vs g = some (u, g) := by
  unfold lenC at hl
  split at hl
  · rename_i t
    split at hl
    · rename_i e hu
      match vs with
      | [x] =>
        have key : ∀ g, abuiltin P .len [t] r [x] g = (alen2 P t x g).map fun v => (v, g) := fun g => rfl
        have ind : ∀ g, alen2 P t x g = alen P t x := fun g => by
          unfold alen2
          cases alen P t x with
          | some v => rfl
          | none => simp only [hu]
        rw [key, ind] at he
        cases ha : alen P t x with
        | none => rw [ha] at he; cases he
        | some v =>
          rw [ha] at he
          simp only [Option.map_some, Option.some.injEq, Prod.mk.injEq] at he
          obtain ⟨rfl, rfl⟩ := he
          exact ⟨rfl, fun g => by rw [key, ind, ha]; rfl⟩
      | [] => cases he
      | _ :: _ :: _ => cases he
    · cases hl
  · cases hl
theorem kindZ_cases {u : Value} {h' : AHeap} (n1 : ∀ (t : TypeId) (a : Operand), o.op = Op.load t a → False) (n2 : ∀ (t : TypeId) (a x : Operand), o.op = Op.store t a x → False) (he : aop P s o h = some (u, h')) (hkz : kindZ P q o ≤ 3) : kindO q o = 0 ∨ (kindO q o = 1 ∧ (kindZ P q o = 3 ∨ (h' = h ∧ ∀ g, aop P s o g = some (u, g)))) := by
  unfold kindZ at hkz ⊢
  split at hkz
  · rename_i t a hop; exact absurd hop (n1 t a)
  · rename_i t a x hop; exact absurd hop (n2 t a x)
  · rename_i args ts hop
    refine .inr ⟨by unfold kindO; simp only [hop]; rfl, ?_⟩
    cases hl : lenC P ts.toList with
    | false => left; simp only [hop, hl, cond_false]
    | true =>
      right
      unfold aop at he ⊢
      simp only [hop] at he ⊢
      cases ha : aevs s args.toList with
      | none => rw [ha] at he; cases he
      | some vs =>
        rw [ha] at he
        exact len_any hl he
  · rename_i m1 m2 m3
    have e : (match o.op with
      | .load _ _ => 1
      | .store _ _ _ => 2
      | .call { callee := .builtin .len, argTypes, .. } => cond (lenC P argTypes.toList) 0 3
      | _ => (match kindO q o with
        | 0 => 0
        | 1 => 3
        | _ => 4)) = (match kindO q o with
        | 0 => 0
        | 1 => 3
        | _ => 4) := by
      split
      · rename_i t a hop; exact absurd hop (n1 t a)
      · rename_i t a x hop; exact absurd hop (n2 t a x)
      · rename_i args ts hop; exact absurd hop (m3 args ts)
      · rfl
    split at hkz
    · left; assumption
    · rename_i h1; right; exact ⟨h1, .inl (by first | rfl | (rw [h1] at e; exact e))⟩
    · omega
/-- One operation. -/
theorem opDZ_next (F : SofarZ P ops s0 h0 A i s h) (hron : h.ro ≤ h.next) (ho : ops[i]? = some o) (hput : ∀ d, o.dst = some d → d < s.size) (hw : awanted ops s o = true) (hkz : kindZ P q o ≤ 3) {r : Env} (hl : Le r s)
    {K : Value → AHeap → Prop} (hk : opDZ P r o m fl h K) : ∃ v u h1 y, (isBot v = true ∨ v = u) ∧ K v h1 ∧ NextZ P q ops s0 h0 A i o s h u h1 m fl (flZ P r o i fl) y := by
  unfold opDZ at hk
  split at hk
  · rename_i t a hop
    obtain ⟨hk, hc⟩ := clash_q hk
    obtain ⟨v, he, hK⟩ := of_opt hk
    have hnb : isBot (ev r a) = false := by
      cases hb : isBot (ev r a) with
      | false => rfl
      | true => obtain ⟨k, p, z, e2⟩ := isBot_eq hb; rw [e2] at he; cases he
    have hav := lev' hl hnb
    obtain ⟨y, hy⟩ := nextZ_load (q := q) (m := m) (fl := fl) F ho hput hw hop hav he hc
    exact ⟨v, v, h, y, .inr rfl, hK, by unfold flZ; simp only [hop]; exact hy⟩
  · rename_i t a x hop
    obtain ⟨hk, hc⟩ := clash_q hk
    obtain ⟨h1, he, hK⟩ := of_opt hk
    obtain ⟨hn, he⟩ := nb_some he
    have hnx : isBot (ev r x) = false := by
      cases hb : isBot (ev r x) with
      | false => rfl
      | true => simp only [nobot, hb, cond_true] at hn; cases hn
    have hnb : isBot (ev r a) = false := by
      cases hb : isBot (ev r a) with
      | false => rfl
      | true => obtain ⟨k, p, z, e2⟩ := isBot_eq hb; rw [e2] at he; cases he
    obtain ⟨y, hy⟩ := nextZ_store (q := q) (m := m) (fl := fl) F ho hput hw hop (lev' hl hnb) (lev' hl hnx) he hc
    exact ⟨undef, undef, h1, y, .inr rfl, hK, by unfold flZ; simp only [hop]; exact hy⟩
  · rename_i g args ts hop
    obtain ⟨hc, hn, v, hsc, hT, hK⟩ := hk
    have ef : aev s (.func g) = some (.func (.func g) #[] #[]) := rfl
    have hT2 : TC P g (evs r args.toList) h (fun v1 h1 => v1 = v ∧ h1 = h) :=
      (hT.quiet (fun v1 _ e => by rw [e]; exact hsc)).mono (by rintro v1 h1 ⟨⟨_, e1⟩, e2⟩; exact ⟨e1, e2⟩)
    have hk3 : kindZ P q o = 3 := by
      unfold kindZ at hkz ⊢
      simp only [hop] at hkz ⊢
      have : kindO q o = kindF (q g) := by unfold kindO; simp only [hop]
      rw [this] at hkz ⊢
      have kc : kindF (q g) = 1 ∨ kindF (q g) = 2 ∨ kindF (q g) = 3 := by unfold kindF; split <;> simp
      rcases kc with e | e | e <;> rw [e] at hkz ⊢ <;> simp at hkz ⊢
    obtain ⟨y, hy⟩ := nextZ_read (q := q) (m := m) (fl := fl) (fl1 := flZ P r o i fl) F ho hput (u := v) (.inr ⟨hw, .inr (.inl ⟨.func g, args, ts, g, #[], #[], _, hop, ef, levs hl hn, hc, by simpa using hT2⟩)⟩) hk3
    exact ⟨v, v, h, y, .inr rfl, hK, hy⟩
  · rename_i n1 n2 n3
    obtain ⟨v, u, h', he, hv, hK⟩ := opA_sound hl hk
    have hnc := aop_noCall he
    rcases kindZ_cases n1 n2 he hkz with h0' | ⟨h1', hz⟩
    · obtain ⟨rfl, hany⟩ := pure_any h0' hnc he
      obtain ⟨y, hy⟩ := nextZ_pure (q := q) (m := m) (fl := fl) (fl1 := flZ P r o i fl) F ho hput (u := u) (.inr ⟨hw, .inl (hany _)⟩) (fun t a e => absurd e (n1 t a))
      exact ⟨v, u, h', y, hv, hK, hy⟩
    · rcases hz with hz | ⟨e1, hany⟩
      · obtain rfl := reader_same h1' hnc he
        obtain ⟨y, hy⟩ := nextZ_read (q := q) (m := m) (fl := fl) (fl1 := flZ P r o i fl) F ho hput (u := u) (.inr ⟨hw, .inl he⟩) hz
        exact ⟨v, u, h', y, hv, hK, hy⟩
      · subst e1
        obtain ⟨y, hy⟩ := nextZ_pure (q := q) (m := m) (fl := fl) (fl1 := flZ P r o i fl) F ho hput (u := u) (.inr ⟨hw, .inl (hany _)⟩) (fun t a e => absurd e (n1 t a))
        exact ⟨v, u, h', y, hv, hK, hy⟩
theorem apt_rng {n m b o c p k : Nat} {l vs : List Value} {t : TypeId} (h : apt n (.pointer (some ⟨b, o, none⟩)) m (.pointer (some ⟨c, p, none⟩))) (e : b = c) (hv : vs.length = m) : rng (some (.cells (setMany l p vs) t)) o n = rng (some (.cells l t)) o n := by
  rw [apt_p] at h
  exact rng_setMany (by omega)
theorem apt_rng2 {n m b o c p : Nat} {l vs : List Value} {t : TypeId} (h : apt m (.pointer (some ⟨c, p, none⟩)) n (.pointer (some ⟨b, o, none⟩))) (e : b = c) (hv : vs.length = m) : rng (some (.cells (setMany l p vs) t)) o n = rng (some (.cells l t)) o n := by
  rw [apt_p] at h
  exact rng_setMany (by omega)
theorem free_pairZ {u : Value} {h1 : AHeap} {x y : DRec} (hxA : x ∈ A) (hx : RZ P q ops fl x) (N : NextZ P q ops s0 h0 A i o s h u h1 m fl fl1 y) (hkx : kindZ P q x.o ≤ 3) (hky : kindZ P q o ≤ 3)
    (hs : slotsFree ops x.o y.o = true) (hbit : m.testBit x.j = false) (hp : pairZ (kindZ P q x.o) (kindZ P q o) = true) : FreeZ (lkR P ops) ops x y := by
  have ff : ∀ {b : Bool}, b ≠ true → b = false := fun h => by simpa using h
  simp only [slotsFree, Bool.and_eq_true] at hs
  obtain ⟨a1, a2⟩ := hs
  have d1 : ∀ d, x.o.dst = some d → d ∉ y.o.looksAt ops ∧ y.o.dst ≠ some d := by
    intro d hd
    rw [hd] at a1
    simp only [Bool.and_eq_true, Bool.not_eq_true', decide_eq_false_iff_not, List.contains_eq_mem] at a1
    exact ⟨a1.1, a1.2⟩
  have d2 : ∀ d, y.o.dst = some d → d ∉ x.o.looksAt ops := by
    intro d hd
    rw [hd] at a2
    simp only [Bool.not_eq_true', decide_eq_false_iff_not, List.contains_eq_mem] at a2
    exact a2
  have hyo := N.hop
  have hy := N.rz
  unfold pairZ at hp
  simp only [Bool.or_eq_true, Bool.and_eq_true, Nat.beq_eq] at hp
  rcases hp with (((hp | hp) | ⟨hp, hq⟩) | ⟨hp, hq⟩) | ⟨hp, hq⟩
  · obtain ⟨r, t⟩ := hx.k0 hp
    exact ⟨d1, d2, fun b hb => (by rw [t b] at hb; cases hb), fun b _ => .inl (r b)⟩
  · obtain ⟨r, t⟩ := hy.k0 (by rw [hyo]; exact hp)
    exact ⟨d1, d2, fun b _ => ⟨t b, .inl (r b)⟩, fun b hb => (by rw [t b] at hb; cases hb)⟩
  · have tx := hx.k13 hp
    have ty := hy.k13 (by rw [hyo]; exact hq)
    exact ⟨d1, d2, fun b hb => (by rw [tx b] at hb; cases hb), fun b hb => (by rw [ty b] at hb; cases hb)⟩
  · -- a load, then a store
    have tx := hx.k13 (.inl hp)
    refine ⟨d1, d2, fun b hb => (by rw [tx b] at hb; cases hb), fun b hb => ?_⟩
    rcases hx.k1 hp with hn | ⟨bx, ox, sp, nx, c1, c2, c3⟩
    · exact .inl (hn b)
    · rcases (N.clash _ c3 hbit).2 ⟨hq, rfl⟩ with hn | ⟨by', oy, ny, c, vs, t, e1, e2, e3, e4, e5, e6⟩
      · rw [hn b] at hb; cases hb
      · have hb' := (e2 b).1 hb
        subst hb'
        cases hr : x.rd b with
        | false => exact .inl rfl
        | true =>
          have hbx := c1 b hr
          cases sp with
          | some k => exact e6.elim
          | none =>
            refine .inr ⟨ox, nx, by rw [c2 rfl, hbx], (e1 b).2 rfl, ?_⟩
            rw [e3, e4]
            exact apt_rng2 e6 hbx.symm e5
  · -- a store, then a load
    have ty := hy.k13 (.inl (by rw [hyo]; exact hq))
    refine ⟨d1, d2, fun b hb => ⟨ty b, ?_⟩, fun b hb => (by rw [ty b] at hb; cases hb)⟩
    rcases hx.k2 hp with ⟨_, hn⟩ | ⟨bx, ox, nx, c, vs, t, e1, e2, e3, e4, e5, e6⟩
    · rw [hn b] at hb; cases hb
    · have hb' := (e2 b).1 hb
      subst hb'
      rcases (N.clash _ e6 hbit).1 ⟨hq, rfl⟩ with hn | ⟨by', oy, sp, ny, c1, c2, c3⟩
      · exact .inl (hn b)
      · cases hr : y.rd b with
        | false => exact .inl rfl
        | true =>
          have hby := c1 b hr
          cases sp with
          | some k => exact c3.elim
          | none =>
            refine .inr ⟨oy, ny, by rw [c2 rfl, hby], (e1 b).2 rfl, ?_⟩
            rw [e3, e4]
            exact apt_rng (k := 0) c3 hby.symm e5
end
theorem wpDZ_ok {q : FuncId → Nat} {ops : Array Oper} {s0 : Env} {h0 : AHeap} (hro0 : h0.ro ≤ h0.next) : ∀ (l : List Oper) (i : Nat) (ms : List Nat) (A : List DRec) (prev : List (Nat × Nat)) (fl : List (Nat × Bool × Nat × Value)) (r s : Env) (h : AHeap) {K : Env → AHeap → Prop},
    ops.toList.drop i = l → i ≤ ops.size → MaskOk ops ms → ms.length = i → SofarZ P ops s0 h0 A i s h → (∀ x, x ∈ A → (x.j, kindZ P q x.o) ∈ prev ∧ kindZ P q x.o ≤ 3 ∧ RZ P q ops fl x) → statGo ops l i ms (A.reverse.map fun x => (x.j, x.o)) = true → kindGoZ P q l ms prev = true →
    Le r s → wpDZ P ops l i ms fl r h K → ∃ A' r' s' h', SofarZ P ops s0 h0 A' ops.size s' h' ∧ Le r' s' ∧ K r' h' ∧ Fr (modsO l) s s' ∧ AF h h'
  | [], i, ms, A, prev, fl, r, s, h, K, hl, hle, hm, hml, F, hrp, hst, hkd, hle1, hk => by
    have : i = ops.size := by
      have := congrArg List.length hl
      simp at this
      omega
    subst this
    exact ⟨A, r, s, h, F, hle1, hk, .refl _ _, .refl _⟩
  | o :: os, i, ms, A, prev, fl, r, s, h, K, hl, hle, hm, hml, F, hrp, hst, hkd, hle1, hk => by
    have ho : ops[i]? = some o := by
      have := congrArg (fun l => l[0]?) hl
      simp only [List.getElem?_drop, List.getElem?_cons_zero] at this
      simpa using this
    have hlt : i < ops.size := by
      rcases Nat.lt_or_ge i ops.size with h | h
      · exact h
      · rw [Array.getElem?_eq_none h] at ho; cases ho
    have hl' : ops.toList.drop (i + 1) = os := by rw [← List.tail_drop, hl]; rfl
    simp only [statGo, Bool.and_eq_true] at hst
    obtain ⟨⟨hedge, hslots⟩, hst⟩ := hst
    simp only [kindGoZ, Bool.and_eq_true, Nat.ble_eq] at hkd
    obtain ⟨⟨hkz, hpair⟩, hkd⟩ := hkd
    have go : ∀ (v u : Value) (h1 : AHeap) (y : DRec), (isBot v = true ∨ v = u) → NextZ P q ops s0 h0 A i o s h u h1 (maskOf ms o) fl (flZ P r o i fl) y →
        (match r.put o.dst v with | some s1 => wpDZ P ops os (i + 1) (ms ++ [maskOf ms o]) (flZ P r o i fl) s1 h1 K | none => False) →
        ∃ A' r' s' h', SofarZ P ops s0 h0 A' ops.size s' h' ∧ Le r' s' ∧ K r' h' ∧ Fr (modsO (o :: os)) s s' ∧ AF h h' := by
      intro v u h1 y hv N hk
      split at hk
      case h_2 => exact hk.elim
      rename_i r1 hp
      obtain ⟨s1, hp1, hl1⟩ := hle1.put hp hv
      have hs1 : ∀ t, s1.get t = if o.dst = some t then u else s.get t := by
        intro t
        cases hd : o.dst with
        | none => rw [hd] at hp1; simp only [Env.put, Option.some.injEq] at hp1; subst hp1; simp
        | some d =>
          rw [hd] at hp1
          simp only [Env.put] at hp1
          obtain ⟨_, hp1⟩ := cond_some hp1
          simp only [Option.some.injEq] at hp1
          subst hp1
          rw [Env.get_set]
          by_cases e : t = d
          · subst e; simp
          · rw [if_neg e, if_neg (by simp only [Option.some.injEq]; exact fun h => e h.symm)]
      have hs1s : s1.size = s.size := (Fr.put hp1).size
      have F1 : SofarZ P ops s0 h0 (A ++ [y]) (i + 1) s1 h1 := by
        refine ⟨?_, ?_, hs1s.trans F.size, ?_, N.ro.trans F.ro, N.next.trans F.next, N.wf, ?_, ?_, ?_⟩
        · rw [List.map_append, F.js, List.range_succ]; simp [N.hj]
        · intro t
          rw [hs1, envV_snoc, N.hop, N.hval, F.env]
        · intro b
          rw [N.heap, hpV_snoc, F.heap]
        · intro A1 r A2 e
          rcases snoc_split e with ⟨_, rfl, rfl⟩ | ⟨A3, _, e3⟩
          · exact N.told
          · exact F.told A1 r A3 e3
        · intro A1 r A2 e ed hed hb
          rcases snoc_split e with ⟨_, rfl, rfl⟩ | ⟨A3, _, e3⟩
          · rw [N.hop] at hed
            simp only [List.all_eq_true, Bool.or_eq_true, Bool.not_eq_true', Nat.blt_eq] at hedge
            rcases hedge ed (by simpa using hed) with h2 | h2
            · rw [hb] at h2; cases h2
            · have : ed.on ∈ A1.map (·.j) := by rw [F.js]; exact List.mem_range.2 h2
              obtain ⟨x, hx, hxj⟩ := List.mem_map.1 this
              exact ⟨x, hx, hxj⟩
          · exact F.edges A1 r A3 e3 ed hed hb
        · intro A1 x A2 z A3 e
          have e' : A ++ [y] = (A1 ++ x :: A2) ++ z :: A3 := by rw [e]; simp
          rcases snoc_split e' with ⟨_, e1, rfl⟩ | ⟨A4, _, e3⟩
          · have hxm : x ∈ A := by rw [← e1]; simp
            obtain ⟨hpm, hkx, hrx⟩ := hrp x hxm
            simp only [List.all_eq_true, Bool.or_eq_true] at hpair hslots
            rcases hslots (x.j, x.o) (List.mem_map.2 ⟨x, by simpa using hxm, rfl⟩) with h2 | h2
            · rw [N.hj]; exact .inl (maskOf_ok hm ho h2)
            · rcases hpair _ hpm with h3 | h3
              · rw [N.hj]; exact .inl (maskOf_ok hm ho h3)
              · by_cases hbit : (maskOf ms o).testBit x.j = true
                · rw [N.hj]; exact .inl (maskOf_ok hm ho hbit)
                · simp only [Bool.not_eq_true] at hbit
                  exact .inr (free_pairZ hxm hrx N hkx hkz (by rw [N.hop]; exact h2) hbit h3)
          · exact F.apart A1 x A2 z A4 (by rw [e3]; simp)
      have hfl : ∀ e, e ∈ fl → e ∈ flZ P r o i fl := fun e he => by
        unfold flZ; split <;> simp [he]
      have hrp1 : ∀ x, x ∈ A ++ [y] → (x.j, kindZ P q x.o) ∈ (ms.length, kindZ P q o) :: prev ∧ kindZ P q x.o ≤ 3 ∧ RZ P q ops (flZ P r o i fl) x := by
        intro x hx
        rcases List.mem_append.1 hx with hx | hx
        · obtain ⟨h1, h2, h3⟩ := hrp x hx
          exact ⟨List.mem_cons_of_mem _ h1, h2, h3.mono hfl⟩
        · simp only [List.mem_singleton] at hx; subst hx
          exact ⟨by rw [N.hj, N.hop, hml]; simp, by rw [N.hop]; exact hkz, N.rz⟩
      obtain ⟨A', r', s', h', F', l', k', f', a'⟩ := wpDZ_ok hro0 os (i + 1) (ms ++ [maskOf ms o]) (A ++ [y]) _ _ r1 s1 h1 hl' hlt (maskOk_snoc hm hml ho) (by simp [hml]) F1 hrp1
        (by simpa [N.hj, N.hop] using hst) hkd hl1 hk
      exact ⟨A', r', s', h', F', l', k', (Fr.put hp1).left.trans f'.right, N.af.trans a'⟩
    have slot : ∀ {v : Value} {h1 : AHeap}, (match r.put o.dst v with | some s1 => wpDZ P ops os (i + 1) (ms ++ [maskOf ms o]) (flZ P r o i fl) s1 h1 K | none => False) → ∀ d, o.dst = some d → d < s.size := by
      intro v h1 hk d hd
      split at hk
      case h_2 => exact hk.elim
      rename_i r1 hp
      rw [hd] at hp
      simp only [Env.put] at hp
      obtain ⟨hb, _⟩ := cond_some hp
      rw [← hle1.size]
      simpa [Nat.blt_eq] using hb
    have hron : h.ro ≤ h.next := by rw [F.ro, F.next]; exact hro0
    have dstok : ∀ {K' : Value → AHeap → Prop}, opDZ P r o (maskOf ms o) fl h K' → (∀ v h1, K' v h1 → ∀ d, o.dst = some d → d < s.size) → ∀ d, o.dst = some d → d < s.size := by
      intro K' hk hs
      unfold opDZ at hk
      split at hk
      · obtain ⟨v, _, hK⟩ := of_opt (clash_q hk).1; exact hs _ _ hK
      · obtain ⟨v, _, hK⟩ := of_opt (clash_q hk).1; exact hs _ _ hK
      · obtain ⟨_, _, v, _, _, hK⟩ := hk; exact hs _ _ hK
      · obtain ⟨v, u, h', _, _, hK⟩ := opA_sound hle1 hk; exact hs v h' hK
    simp only [wpDZ] at hk
    split at hk
    · rename_i hg
      obtain ⟨v, u, h1, y, hv, hK, N⟩ := opDZ_next (q := q) F hron ho (dstok hk (fun v h1 hK => slot hK)) (by simp only [awanted, hg]) hkz hle1 hk
      exact go v u h1 y hv N hK
    · rename_i j want hg
      split at hk
      · exact hk.elim
      · rename_i d hdst
        unfold GD at hk
        split at hk
        · rename_i b hb
          have hs : s.get d = .bool b := by
            rcases hle1.get d with e | e
            · rw [hb] at e; cases e
            · rw [← e, hb]
          have haw : awanted ops s o = (b == want) := by simp only [awanted, hg, hdst, hs]
          by_cases hbw : b = want
          · have hk := hk.1 hbw
            obtain ⟨v, u, h1, y, hv, hK, N⟩ := opDZ_next (q := q) F hron ho (dstok hk (fun v h1 hK => slot hK)) (by rw [haw, hbw]; simp) hkz hle1 hk
            exact go v u h1 y hv N hK
          · have hk := hk.2 hbw
            obtain ⟨y, N⟩ := nextZ_pure (q := q) (m := maskOf ms o) (fl := fl) (fl1 := flZ P r o i fl) F ho (slot hk) (u := undef) (.inl ⟨by rw [haw]; simpa using hbw, rfl, rfl⟩) (fun _ _ _ => by rw [haw]; simpa using hbw)
            exact go undef undef h y (.inr rfl) N hk
        · exact hk.elim
        · rename_i n1 n2
          have hs : s.get d = r.get d := by
            rcases hle1.get d with e | e
            · obtain ⟨k, p, q, e2⟩ := isBot_eq e; exact absurd e2 (n2 k p q)
            · exact e.symm
          have haw : awanted ops s o = false := by
            simp only [awanted, hg, hdst, hs]
          obtain ⟨y, N⟩ := nextZ_pure (q := q) (m := maskOf ms o) (fl := fl) (fl1 := flZ P r o i fl) F ho (slot hk) (u := undef) (.inl ⟨haw, rfl, rfl⟩) (fun _ _ _ => haw)
          exact go undef undef h y (.inr rfl) N hk
theorem drawZ_ok {q : FuncId → Nat} (hmix : P.follows .mixedOrders = true) : DrawOk P (drawZ P q) := by
  intro ops r s h K rd id hle wf hk
  unfold drawZ at hk
  cases hc : calmZ P q ops with
  | false => rw [hc] at hk; exact hk.elim
  | true =>
    rw [hc] at hk
    have hk : wpDZ P ops ops.toList 0 [] [] r h K := hk
    simp only [calmZ, Bool.and_eq_true] at hc
    have F0 : SofarZ P ops s h ([] : List DRec) 0 s h := ⟨rfl, fun t => rfl, rfl, fun b => rfl, rfl, rfl, wf.1,
      fun A1 r A2 e => by simp at e, fun A1 r A2 e => by simp at e, fun A1 x A2 y A3 e => by simp at e⟩
    obtain ⟨A, r', s', h', F, hl', hK, hf, af⟩ := wpDZ_ok (q := q) wf.2 ops.toList 0 [] [] [] [] r s h rfl (Nat.zero_le _) (fun k q hq => by simp at hq) rfl F0 (fun x e => by simp at e) hc.1 hc.2 hle hk
    have V : ValidZ (lkR P ops) P ops s h A := ⟨by rw [F.js]; exact List.nodup_range, fun i hi => by
        have : i ∈ A.map (·.j) := by rw [F.js]; exact List.mem_range.2 hi
        obtain ⟨r, hr, hj⟩ := List.mem_map.1 this
        exact ⟨r, hr, hj⟩, F.told, F.edges, F.apart⟩
    exact ⟨r', s', h', hl', hK, hf, af, T_regionDrawZ hmix V F.env F.size F.heap F.ro (by rw [F.next]; exact Nat.le_refl _) (fun x hx => nA_of F x hx) F.next (Q := fun e s1 h1 => e = .normal ∧ s1 = s' ∧ h1 = h') ⟨rfl, rfl, rfl⟩⟩
/-- The plain way where that is calm; else with new blocks apart; else cell by cell. -/
def drawY (P : Program) (q : FuncId → Nat) (ops : Array Oper) (s : Env) (h : AHeap) (K : Env → AHeap → Prop) : Prop := sel (calm q ops) (wpD P q ops ops.toList 0 [] [] s h K) (sel (calmV P q ops) (drawV P q ops s h K) (sel (calmZ P q ops) (drawZ P q ops s h K) (drawL P q ops s h K)))
theorem drawY_ok {q : FuncId → Nat} (hmix : P.follows .mixedOrders = true) : DrawOk P (drawY P q) := by
  intro ops r s h K rd id hle wf hk
  unfold drawY at hk
  cases hc : calm q ops with
  | true =>
    rw [hc] at hk
    exact drawW_ok hmix ops r s h K rd id hle wf (by unfold drawW; rw [hc]; exact hk)
  | false =>
    rw [hc] at hk
    have hk : sel (calmV P q ops) (drawV P q ops r h K) (sel (calmZ P q ops) (drawZ P q ops r h K) (drawL P q ops r h K)) := hk
    cases hv : calmV P q ops with
    | true => rw [hv] at hk; exact drawV_ok hmix ops r s h K rd id hle wf hk
    | false =>
      rw [hv] at hk
      have hk : sel (calmZ P q ops) (drawZ P q ops r h K) (drawL P q ops r h K) := hk
      cases hz : calmZ P q ops with
      | true => rw [hz] at hk; exact drawZ_ok hmix ops r s h K rd id hle wf hk
      | false => rw [hz] at hk; exact drawL_ok hmix ops r s h K rd id hle wf hk
/-- A function does what is asked of it. -/
theorem DC_of_wpY {q : FuncId → Nat} (hmix : P.follows .mixedOrders = true) {n : Nat} {f : FuncId} {args : List Value} {h : AHeap} {R : Value → AHeap → Prop} (hk : wpF P (drawY P q) n f args h R) : DC P f args h R := DC_of_wpF (drawY_ok hmix) hk
end
end Go.Ai
