/- A part of the proof. -/
import Derived.Test.YtfhacoddmpbgnaaDoorTI
import Derived.Test.YtfhacoddmpbgnaaDoorTF
set_option linter.unusedVariables false
set_option linter.unusedSimpArgs false
set_option linter.unusedVariables false
namespace Go.Ai
noncomputable section
variable {P : Program}
def vA (q : FuncId -> Nat) (o : Oper) : Nat := match o.op with
  | .load _ _ => 1
  | .store _ _ _ => 2
  | _ => (match y4 q o with
    | 0 => 0
    | 1 => 3
    | _ => 4)
def zlm (x y : Nat) : Bool := Nat.beq x 0 || Nat.beq y 0 || ((Nat.beq x 1 || Nat.beq x 3) && (Nat.beq y 1 || Nat.beq y 3)) || (Nat.beq x 1 && Nat.beq y 2) || (Nat.beq x 2 && Nat.beq y 1)
def QX (q : FuncId -> Nat) : List Oper -> List Nat -> List (Nat × Nat) -> Bool
  | [], _, _ => true
  | o :: os, ms, prev => Nat.ble (vA q o) 3 && (prev.all fun x => (yq ms o).testBit x.1 || zlm x.2 (vA q o)) && QX q os (ms ++ [yq ms o]) ((ms.length, vA q o) :: prev)
def zkS (q : FuncId -> Nat) (ops : Array Oper) : Bool := qF ops ops.toList 0 [] [] && QX q ops.toList [] []
def szL (P : Program) (t : TypeId) : Nat := match yM P (isAgg t) with
  | some true => (match yM P (sizeOf t) with
    | some n => n
    | none => 0)
  | _ => 1
def szS (P : Program) (t : TypeId) : Nat := match yM P (sizeOf t) with
  | some n => n
  | none => 0
def apt (n : Nat) (a : Value) (m : Nat) (c : Value) : Prop := match a, c with
  | .pointer (some ⟨b, o, none⟩), .pointer (some ⟨c, p, none⟩) => b ≠ c \/ o + n <= p \/ p + m <= o
  | _, _ => False
theorem zkn {n m b o c p : Nat} : apt n (.pointer (some ⟨b, o, none⟩)) m (.pointer (some ⟨c, p, none⟩)) = (b ≠ c \/ o + n <= p \/ p + m <= o) := rfl
def Q6 (m : Nat) (st : Bool) (n : Nat) (a : Value) : List (Nat × Bool × Nat × Value) -> Prop -> Prop
  | [], Q => Q
  | x :: l, Q => sel (m.testBit x.1 || (st == x.2.1)) (Q6 m st n a l Q) (apt n a x.2.2.1 x.2.2.2 /\ Q6 m st n a l Q)
def zlD (P : Program) (s : Env) (o : Oper) (m : Nat) (fl : List (Nat × Bool × Nat × Value)) (h : za) (K : Value -> za -> Prop) : Prop := match o.op with
  | .load t a => Q6 m false (szL P t) (ev s a) fl (opt (zd P t (ev s a) h) fun v => K v h)
  | .store t a x => Q6 m true (szS P t) (ev s a) fl (opt (nb [ev s x] (zj P t (ev s a) (ev s x) h)) fun h' => K undef h')
  | .call { callee := .value (.func g), args, argTypes } => qy P g (evs s args.toList) h fun v => K v h
  | _ => opA P s o h K
def flZ (P : Program) (s : Env) (o : Oper) (i : Nat) (fl : List (Nat × Bool × Nat × Value)) : List (Nat × Bool × Nat × Value) := match o.op with
  | .load t a => fl ++ [(i, false, szL P t, ev s a)]
  | .store t a _ => fl ++ [(i, true, szS P t, ev s a)]
  | _ => fl
def zj5 (P : Program) (ops : Array Oper) : List Oper -> Nat -> List Nat -> List (Nat × Bool × Nat × Value) -> Env -> za -> (Env -> za -> Prop) -> Prop
  | [], _, _, _, s, h, K => K s h
  | o :: os, i, ms, fl, s, h, K => (match o.guard with
    | none => zlD P s o (yq ms o) fl h fun v h1 => (match s.put o.dst v with
      | some s1 => zj5 P ops os (i + 1) (ms ++ [yq ms o]) (flZ P s o i fl) s1 h1 K
      | none => False)
    | some (j, want) => (match (ops[j]?).bind (·.dst) with
      | none => False
      | some d => GD (s.get d) want (zlD P s o (yq ms o) fl h) (fun v h1 => (match s.put o.dst v with
        | some s1 => zj5 P ops os (i + 1) (ms ++ [yq ms o]) (flZ P s o i fl) s1 h1 K
        | none => False)) h))
def zjm (P : Program) (q : FuncId -> Nat) (ops : Array Oper) (s : Env) (h : za) (K : Env -> za -> Prop) : Prop := sel (zkS q ops) (zj5 P ops ops.toList 0 [] [] s h K) False
theorem Wi {m : Nat} {st : Bool} {n : Nat} {a : Value} : ∀ {l : List (Nat × Bool × Nat × Value)} {Q : Prop}, Q6 m st n a l Q -> Q /\ ∀ x, x ∈ l -> m.testBit x.1 = false -> x.2.1 ≠ st -> apt n a x.2.2.1 x.2.2.2
  | [], Q, h => ⟨h, fun x hx => (by cases hx)⟩
  | y :: l, Q, h => by
    unfold Q6 at h
    cases hb : (m.testBit y.1 || (st == y.2.1)) with
    | true =>
      rw [hb] at h
      obtain ⟨h1, h2⟩ := Wi (l := l) h
      refine ⟨h1, fun x hx hm hs => ?_⟩
      rcases List.mem_cons.1 hx with rfl | hx
      . rw [hm, Bool.false_or, beq_iff_eq] at hb; exact absurd hb.symm hs
      . exact h2 x hx hm hs
    | false =>
      rw [hb] at h
      obtain ⟨h0, h⟩ := h
      obtain ⟨h1, h2⟩ := Wi (l := l) h
      refine ⟨h1, fun x hx hm hs => ?_⟩
      rcases List.mem_cons.1 hx with rfl | hx
      . exact h0
      . exact h2 x hx hm hs
theorem Va (vs : List Value) : ∀ (c : List Value) (o k : Nat), k < o \/ o + vs.length <= k -> (ze c o vs)[k]? = c[k]? := by
  induction vs with
  | nil => intro c o k _; rfl
  | cons v vs ih =>
    intro c o k hk
    simp only [ze]
    simp only [List.length_cons] at hk
    rw [ih _ _ _ (by omega), List.getElem?_set_ne (by omega)]
theorem Ud {c vs : List Value} {t : TypeId} {o off n : Nat} (h : off + n <= o \/ o + vs.length <= off) : rng (some (.cells (ze c o vs) t)) off n = rng (some (.cells c t)) off n := by
  simp only [rng, qX]
  by_cases hl : off + n <= c.length
  . rw [if_pos hl, if_pos hl]
    congr 1
    apply List.ext_getElem?
    intro k
    by_cases hk : k < n
    . rw [List.getElem?_take_of_lt hk, List.getElem?_take_of_lt hk, List.getElem?_drop, List.getElem?_drop, Va _ _ _ _ (by omega)]
    . rw [List.getElem?_eq_none (by simp; omega), List.getElem?_eq_none (by simp; omega)]
  . rw [if_neg hl, if_neg hl]
theorem zhO {t : TypeId} {b off : Nat} {g g2 : za} {v : Value} (h : zd P t (.pointer (some ⟨b, off, none⟩)) g = some v) (e : rng (g2.get b) off (szL P t) = rng (g.get b) off (szL P t)) : zd P t (.pointer (some ⟨b, off, none⟩)) g2 = some v := by
  unfold zd szL at *
  simp only at *
  cases hg : g.get b with
  | none => rw [hg] at h; cases h
  | some ob =>
    rw [hg] at h e
    cases ob with
    | cells c t1 =>
      simp only at h
      cases ha : yM P (isAgg t) with
      | none => rw [ha] at h; cases h
      | some ag =>
        rw [ha] at h e
        cases ag with
        | true =>
          simp only at h e
          cases hs : yM P (sizeOf t) with
          | none => rw [hs] at h; cases h
          | some n =>
            rw [hs] at h e
            simp only at h e
            obtain ⟨hle, h⟩ := zl h
            rw [Nat.ble_eq] at hle
            simp only [rng, if_pos hle] at e
            cases hg2 : g2.get b with
            | none => rw [hg2] at e; cases e
            | some ob2 =>
              rw [hg2] at e
              cases ob2 with
              | cells c2 t2 =>
                simp only at e
                split at e
                . rename_i hle2
                  simp only [Option.some.injEq] at e
                  simp only [show Nat.ble (off + n) c2.length = true by rw [Nat.ble_eq]; exact hle2, cond_true, e]
                  exact h
                . cases e
              | _ => simp at e
        | false =>
          simp only at h e
          have hlt : off < c.length := by
            rcases Nat.lt_or_ge off c.length with q | q
            . exact q
            . rw [List.getElem?_eq_none q] at h; cases h
          simp only [rng, if_pos (show off + 1 <= c.length from hlt)] at e
          cases hg2 : g2.get b with
          | none => rw [hg2] at e; cases e
          | some ob2 =>
            rw [hg2] at e
            cases ob2 with
            | cells c2 t2 =>
              simp only at e
              split at e
              . simp only [Option.some.injEq] at e
                have := congrArg (fun l => l[0]?) e
                simp only [List.getElem?_take_of_lt (Nat.zero_lt_one), List.getElem?_drop, Nat.add_zero] at this
                exact this.trans h
              . cases e
            | _ => simp at e
    | _ => simp at h
def lkR (P : Program) (ops : Array Oper) (x : yR) : Option (Nat × Nat × Nat) := match x.o.op with
  | .load t a => (match aev x.s a with
    | some (.pointer (some ⟨b, off, none⟩)) => cond (zZ ops x.s x.o) (some (b, off, szL P t)) none
    | _ => none)
  | _ => none
structure RZ (P : Program) (q : FuncId -> Nat) (ops : Array Oper) (fl : List (Nat × Bool × Nat × Value)) (x : yR) : Prop where
  k0 : vA q x.o = 0 -> (∀ b, x.rd b = false) /\ ∀ b, x.tc b = false
  k13 : vA q x.o = 1 \/ vA q x.o = 3 -> ∀ b, x.tc b = false
  k1 : vA q x.o = 1 -> (∀ b, x.rd b = false) \/ ∃ b off sp n, (∀ c, x.rd c = true -> c = b) /\ (sp = none -> lkR P ops x = some (b, off, n)) /\ (x.j, false, n, Value.pointer (some ⟨b, off, sp⟩)) ∈ fl
  k2 : vA q x.o = 2 -> ((∀ b, x.rd b = false) /\ ∀ b, x.tc b = false) \/ ∃ b off n c vs t, (∀ d, x.rd d = true ↔ d = b) /\ (∀ d, x.tc d = true ↔ d = b) /\ x.g.get b = some (.cells c t) /\ x.g'.get b = some (.cells (ze c off vs) t) /\ vs.length = n /\ (x.j, true, n, Value.pointer (some ⟨b, off, none⟩)) ∈ fl
theorem RZ.mono {q : FuncId -> Nat} {ops : Array Oper} {fl fl' : List (Nat × Bool × Nat × Value)} {x : yR} (r : RZ P q ops fl x) (h : ∀ e, e ∈ fl -> e ∈ fl') : RZ P q ops fl' x :=
  ⟨r.k0, r.k13, fun e => by
    rcases r.k1 e with h1 | ⟨b, off, sp, n, h1, h2, h3⟩
    . exact .inl h1
    . exact .inr ⟨b, off, sp, n, h1, h2, h _ h3⟩, fun e => by
    rcases r.k2 e with h1 | ⟨b, off, n, c, vs, t, h1, h2, h3, h4, h5, h6⟩
    . exact .inl h1
    . exact .inr ⟨b, off, n, c, vs, t, h1, h2, h3, h4, h5, h _ h6⟩⟩
structure jq (P : Program) (ops : Array Oper) (s0 : Env) (h0 : za) (A : List yR) (i : Nat) (s : Env) (h : za) : Prop where
  js : A.map (·.j) = List.range i
  env : ∀ t, s.get t = UQ A s0 t
  size : s.size = s0.size
  heap : ∀ b, h.get b = hpV A h0 b
  ro : h.ro = h0.ro
  next : h.next = h0.next
  wf : WF h
  told : ∀ A1 r A2, A = A1 ++ r :: A2 -> zlt (lkR P ops) P ops s0 h0 A1 r
  Wh : ∀ A1 r A2, A = A1 ++ r :: A2 -> ∀ e, e ∈ r.o.after -> Region.binds .any e = true -> ∃ x, x ∈ A1 /\ x.j = e.on
  apart : ∀ A1 x A2 y A3, A = A1 ++ x :: (A2 ++ y :: A3) -> Prec ops x.j y.j \/ Z8 (lkR P ops) ops x y
structure zbM (P : Program) (q : FuncId -> Nat) (ops : Array Oper) (s0 : Env) (h0 : za) (A : List yR) (i : Nat) (o : Oper) (s : Env) (h : za) (u : Value) (h1 : za) (m : Nat) (fl fl1 : List (Nat × Bool × Nat × Value)) (y : yR) : Prop where
  hj : y.j = i
  hop : y.o = o
  zmQ : y.v = u
  told : zlt (lkR P ops) P ops s0 h0 A y
  rz : RZ P q ops fl1 y
  heap : ∀ b, h1.get b = if y.tc b = true then y.g'.get b else h.get b
  ro : h1.ro = h.ro
  next : h1.next = h.next
  wf : WF h1
  af : AF h h1
  Q6 : ∀ e, e ∈ fl -> m.testBit e.1 = false -> (vA q o = 1 /\ e.2.1 = true -> ((∀ b, y.rd b = false) \/ ∃ b off sp n, (∀ c, y.rd c = true -> c = b) /\ (sp = none -> lkR P ops y = some (b, off, n)) /\ apt n (.pointer (some ⟨b, off, sp⟩)) e.2.2.1 e.2.2.2)) /\
    (vA q o = 2 /\ e.2.1 = false -> ((∀ b, y.tc b = false) \/ ∃ b off n c vs t, (∀ d, y.rd d = true ↔ d = b) /\ (∀ d, y.tc d = true ↔ d = b) /\ y.g.get b = some (.cells c t) /\ y.g'.get b = some (.cells (ze c off vs) t) /\ vs.length = n /\ apt n (.pointer (some ⟨b, off, none⟩)) e.2.2.1 e.2.2.2))
section
variable {q : FuncId -> Nat} {ops : Array Oper} {s0 : Env} {h0 : za} {A : List yR} {i : Nat} {o : Oper} {s : Env} {h : za} {m : Nat} {fl fl1 : List (Nat × Bool × Nat × Value)}
theorem XY (F : jq P ops s0 h0 A i s h) (ho : ops[i]? = some o) (hput : ∀ d, o.dst = some d -> d < s.size) {u : Value} (hs : qt P ops s o (h.pick []) u (h.pick [])) (hlk : ∀ t a, o.op = .load t a -> zZ ops s o = false) : ∃ y, zbM P q ops s0 h0 A i o s h u h m fl fl1 y := by
  refine ⟨⟨i, o, u, s, h.pick [], h.pick [], fun _ => false, fun _ => false⟩, rfl, rfl, rfl,
    ⟨⟨ho, F.env, F.size, fun b => by rw [xM]; simp, F.ro, by show h0.next <= h.next; rw [F.next]; exact Nat.le_refl _, fun x hx => ?_, Nat.le_refl _, hs, fun d hd => by rw [<- F.size]; exact hput d hd, fun b hb => (by cases hb), fun b _ => rfl, fun b o' hb => (by cases hb)⟩, ⟨F.next, F.next⟩, fun b0 off n e => ?_⟩,
    ⟨fun _ => ⟨fun _ => rfl, fun _ => rfl⟩, fun _ _ => rfl, fun _ => .inl fun _ => rfl, fun _ => .inl ⟨fun _ => rfl, fun _ => rfl⟩⟩, fun b => by simp, rfl, rfl, F.wf, .refl _, fun e he hm => ⟨fun _ => .inl fun _ => rfl, fun _ => .inl fun _ => rfl⟩⟩
  . obtain ⟨A1, A2, rfl⟩ := List.append_of_mem hx
    have := (F.told A1 x A2 rfl).still.2
    show x.g'.next <= h.next
    rw [this, F.next]; exact Nat.le_refl _
  . exfalso
    unfold lkR at e
    simp only at e
    split at e
    . rename_i t a hop
      split at e
      . rw [hlk t a hop] at e; cases e
      . cases e
    . cases e
theorem zh7 (F : jq P ops s0 h0 A i s h) : ∀ x, x ∈ A -> x.g'.next <= h.next := fun x hx => by
  obtain ⟨A1, A2, rfl⟩ := List.append_of_mem hx
  have := (F.told A1 x A2 rfl).still.2
  rw [this, F.next]; exact Nat.le_refl _
theorem zk2 (F : jq P ops s0 h0 A i s h) : h0.next <= h.next := by rw [F.next]; exact Nat.le_refl _
theorem zmk {h : za} (w : WF h) {b : Nat} (hb : ¬ b < h.next) : h.get b = none := by
  cases hh : h.get b with | none => rfl | some o' => exact absurd (w b o' hh) hb
theorem QL (F : jq P ops s0 h0 A i s h) (ho : ops[i]? = some o) (hput : ∀ d, o.dst = some d -> d < s.size) {u : Value} (hs : qt P ops s o h u h) (hk : vA q o = 3) : ∃ y, zbM P q ops s0 h0 A i o s h u h m fl fl1 y := by
  have hrd : ∀ b, (Nat.blt b h.next = true) ↔ b < h.next := fun b => by rw [Nat.blt_eq]
  have nl : ∀ t a, o.op = .load t a -> False := fun t a e => by unfold vA at hk; rw [e] at hk; cases hk
  refine ⟨⟨i, o, u, s, h, h, fun b => Nat.blt b h.next, fun _ => false⟩, rfl, rfl, rfl,
    ⟨⟨ho, F.env, F.size, fun b => ?_, F.ro, zk2 F, zh7 F, Nat.le_refl _, hs, fun d hd => by rw [<- F.size]; exact hput d hd, fun b hb => (by cases hb), fun b _ => rfl, fun b o' hb => (by cases hb)⟩, ⟨F.next, F.next⟩, fun b0 off n e => ?_⟩,
    ⟨fun e => by simp only at e; omega, fun _ _ => rfl, fun e => by simp only at e; omega, fun e => by simp only at e; omega⟩, fun b => by simp, rfl, rfl, F.wf, .refl _, fun e he hm => ⟨fun ⟨e, _⟩ => by omega, fun ⟨e, _⟩ => by omega⟩⟩
  . show h.get b = if Nat.blt b h.next = true then hpV A h0 b else none
    by_cases hb : b < h.next
    . rw [if_pos ((hrd b).2 hb), F.heap]
    . rw [if_neg (fun e => hb ((hrd b).1 e)), zmk F.wf hb]
  . exfalso
    unfold lkR at e
    cases hop : o.op <;> simp only [hop] at e <;> first | (cases e; done) | exact nl _ _ hop
theorem zel (F : jq P ops s0 h0 A i s h) (ho : ops[i]? = some o) (hput : ∀ d, o.dst = some d -> d < s.size) (hw : zZ ops s o = true) {t : TypeId} {a : Operand} (hop : o.op = .load t a) {av u : Value} (hav : aev s a = some av) (hl : zd P t av h = some u)
    (hcl : ∀ e, e ∈ fl -> m.testBit e.1 = false -> e.2.1 ≠ false -> apt (szL P t) av e.2.2.1 e.2.2.2) : ∃ y, zbM P q ops s0 h0 A i o s h u h m fl (fl ++ [(i, false, szL P t, av)]) y := by
  have hk1 : vA q o = 1 := by unfold vA; rw [hop]
  obtain ⟨b, off, sp, rfl, hsp⟩ : ∃ b off sp, av = .pointer (some ⟨b, off, sp⟩) /\ ∀ g : za, g.get b = h.get b -> zd P t av g = some u := by
    unfold zd at hl
    split at hl
    . rename_i b off
      exact ⟨b, off, none, rfl, fun g hg => by unfold zd; simp only; rw [hg]; exact hl⟩
    . rename_i b off
      exact ⟨b, off, some 0, rfl, fun g hg => by unfold zd; simp only; rw [hg]; exact hl⟩
    . cases hl
  have sem : ∀ g : za, zd P t (.pointer (some ⟨b, off, sp⟩)) g = some u -> qt P ops s o g u g := fun g hg => .inr ⟨hw, .inl (by unfold aop; simp only [hop, hav, hg, one])⟩
  refine ⟨⟨i, o, u, s, h.pick [b], h.pick [b], fun c => decide (c = b), fun _ => false⟩, rfl, rfl, rfl,
    ⟨⟨ho, F.env, F.size, fun c => ?_, F.ro, (zk2 F : h0.next <= h.next), fun x hx => zh7 F x hx, Nat.le_refl _, sem _ (hsp _ (by rw [xM, if_pos (by simp)])), fun d hd => by rw [<- F.size]; exact hput d hd, fun b hb => (by cases hb), fun b _ => rfl, fun b o' hb => (by cases hb)⟩, ⟨F.next, F.next⟩, fun b0 off0 n e => ?_⟩,
    ⟨fun e => by simp only at e; omega, fun _ _ => rfl, fun _ => .inr ⟨b, off, sp, szL P t, fun c hc => by simpa using hc, fun hsp0 => ?_, by simp⟩, fun e => by simp only at e; omega⟩, fun b => by simp, rfl, rfl, F.wf, .refl _, fun e he hm => ⟨fun ⟨_, h1⟩ => .inr ⟨b, off, sp, szL P t, fun c hc => by simpa using hc, fun hsp0 => ?_, hcl e he hm (by rw [h1]; simp)⟩, fun ⟨e, _⟩ => by omega⟩⟩
  . show (h.pick [b]).get c = if decide (c = b) = true then hpV A h0 c else none
    rw [xM]
    by_cases e : c = b
    . subst e; simp [F.heap]
    . simp [e]
  . unfold lkR at e
    simp only [hop, hav] at e
    cases sp with
    | some k => simp at e
    | none =>
      simp only [hw, cond_true, Option.some.injEq, Prod.mk.injEq] at e
      obtain ⟨rfl, rfl, rfl⟩ := e
      exact ⟨by simp, fun c hc => by simpa using hc, fun _ => rfl, fun g hg => sem g (zhO (hsp _ (by rw [xM, if_pos (by simp)])) hg)⟩
  . subst hsp0; unfold lkR; simp only [hop, hav, hw, cond_true]
  . subst hsp0; unfold lkR; simp only [hop, hav, hw, cond_true]
theorem zbu (F : jq P ops s0 h0 A i s h) (ho : ops[i]? = some o) (hput : ∀ d, o.dst = some d -> d < s.size) (hw : zZ ops s o = true) {t : TypeId} {a x : Operand} (hop : o.op = .store t a x) {av xv : Value} (hav : aev s a = some av) (hxv : aev s x = some xv) {h1 : za} (hl : zj P t av xv h = some h1)
    (hcl : ∀ e, e ∈ fl -> m.testBit e.1 = false -> e.2.1 ≠ true -> apt (szS P t) av e.2.2.1 e.2.2.2) : ∃ y, zbM P q ops s0 h0 A i o s h undef h1 m fl (fl ++ [(i, true, szS P t, av)]) y := by
  have hk2 : vA q o = 2 := by unfold vA; rw [hop]
  have af := J6 hl
  obtain ⟨b, off, c, t', rfl, hg, hn, hh1, hst⟩ : ∃ b off c t', av = .pointer (some ⟨b, off, none⟩) /\ h.get b = some (.cells c t') /\ xv.cells.size = szS P t /\ h1 = h.set b (some (.cells (ze c off xv.cells.toList) t')) /\
      ∀ g : za, g.get b = h.get b -> g.ro = h.ro -> zj P t av xv g = some (g.set b (some (.cells (ze c off xv.cells.toList) t'))) := by
    unfold zj at hl
    split at hl
    . rename_i b off
      split at hl
      . cases hl
      . rename_i c t' hg
        split at hl
        . cases hl
        . rename_i n hs
          obtain ⟨hc, hl⟩ := zl hl
          simp only [Option.some.injEq] at hl
          have hc' := hc
          simp only [Bool.and_eq_true, Nat.beq_eq] at hc'
          refine ⟨b, off, c, t', rfl, hg, ?_, hl.symm, fun g hgg hro => ?_⟩
          . unfold szS; rw [hs]; exact hc'.1.1.1
          . unfold zj; simp only; rw [hgg, hg]; simp only [hs, hro, hc, cond_true]
      . cases hl
    . cases hl
  subst hh1
  have eq1 : ∀ d, (decide (d = b) = true) ↔ d = b := fun d => by simp
  have g2 : ((h.pick [b]).set b (some (.cells (ze c off xv.cells.toList) t'))).get b = some (.cells (ze c off xv.cells.toList) t') := by rw [za.zP, if_pos rfl]
  have g1 : (h.pick [b]).get b = some (.cells c t') := by rw [xM, if_pos (by simp)]; exact hg
  refine ⟨⟨i, o, undef, s, h.pick [b], (h.pick [b]).set b (some (.cells (ze c off xv.cells.toList) t')), fun d => decide (d = b), fun d => decide (d = b)⟩, rfl, rfl, rfl,
    ⟨⟨ho, F.env, F.size, fun d => ?_, F.ro, (zk2 F : h0.next <= h.next), fun x hx => zh7 F x hx, Nat.le_refl _, .inr ⟨hw, .inl ?_⟩, fun d hd => by rw [<- F.size]; exact hput d hd, fun d hd => .inl hd, fun d hd => ?_, fun d o' hd _ _ => ?_⟩, ⟨F.next, F.next⟩, fun b0 off0 n e => ?_⟩,
    ⟨fun e => by simp only at e; omega, fun e => by simp only at e; omega, fun e => by simp only at e; omega, fun _ => .inr ⟨b, off, szS P t, c, xv.cells.toList, t', eq1, eq1, g1, g2, by simpa using hn, by simp⟩⟩, fun d => ?_, rfl, rfl, fun d o' hd => ?_, af, fun e he hm => ⟨fun ⟨e, _⟩ => by omega, fun ⟨_, h1⟩ => .inr ⟨b, off, szS P t, c, xv.cells.toList, t', eq1, eq1, g1, g2, by simpa using hn, hcl e he hm (by rw [h1]; simp)⟩⟩⟩
  . show (h.pick [b]).get d = if decide (d = b) = true then hpV A h0 d else none
    rw [xM]
    by_cases e : d = b
    . subst e; simp [F.heap]
    . simp [e]
  . unfold aop; simp only [hop, hav, hxv, hst (h.pick [b]) (by rw [xM, if_pos (by simp)]) rfl]
  . have hd : decide (d = b) = false := hd
    have : d ≠ b := fun e => by rw [(eq1 d).2 e] at hd; cases hd
    rw [za.zP, if_neg this]
  . have := (eq1 d).1 hd; subst this; rw [g1]; simp
  . exfalso; unfold lkR at e; simp only [hop] at e; cases e
  . show (h.set b _).get d = if decide (d = b) = true then _ else _
    by_cases e : d = b
    . subst e; rw [if_pos (by simp), za.zP, if_pos rfl, za.zP, if_pos rfl]
    . rw [if_neg (by simp [e]), za.zP, if_neg e]
  . rw [za.zP] at hd
    show d < h.next
    split at hd
    . rename_i e; subst e; exact F.wf _ _ hg
    . exact F.wf _ _ hd
theorem Jd (F : jq P ops s0 h0 A i s h) (hron : h.ro <= h.next) (ho : ops[i]? = some o) (hput : ∀ d, o.dst = some d -> d < s.size) (hw : zZ ops s o = true) (hkz : vA q o <= 3) {r : Env} (hl : Le r s)
    {K : Value -> za -> Prop} (hk : zlD P r o m fl h K) : ∃ v u h1 y, (zV v = true \/ v = u) /\ K v h1 /\ zbM P q ops s0 h0 A i o s h u h1 m fl (flZ P r o i fl) y := by
  unfold zlD at hk
  split at hk
  . rename_i t a hop
    obtain ⟨hk, hc⟩ := Wi hk
    obtain ⟨v, he, hK⟩ := wq hk
    have hnb : zV (ev r a) = false := by
      cases hb : zV (ev r a) with
      | false => rfl
      | true => obtain ⟨k, p, z, e2⟩ := qE hb; rw [e2] at he; cases he
    have hav := Yx hl hnb
    obtain ⟨y, hy⟩ := zel (q := q) (m := m) (fl := fl) F ho hput hw hop hav he hc
    exact ⟨v, v, h, y, .inr rfl, hK, by unfold flZ; simp only [hop]; exact hy⟩
  . rename_i t a x hop
    obtain ⟨hk, hc⟩ := Wi hk
    obtain ⟨h1, he, hK⟩ := wq hk
    obtain ⟨hn, he⟩ := x0 he
    have hnx : zV (ev r x) = false := by
      cases hb : zV (ev r x) with
      | false => rfl
      | true => simp only [yH, hb, cond_true] at hn; cases hn
    have hnb : zV (ev r a) = false := by
      cases hb : zV (ev r a) with
      | false => rfl
      | true => obtain ⟨k, p, z, e2⟩ := qE hb; rw [e2] at he; cases he
    obtain ⟨y, hy⟩ := zbu (q := q) (m := m) (fl := fl) F ho hput hw hop (Yx hl hnb) (Yx hl hnx) he hc
    exact ⟨undef, undef, h1, y, .inr rfl, hK, by unfold flZ; simp only [hop]; exact hy⟩
  . rename_i g args ts hop
    obtain ⟨hc, hn, v, hsc, hT, hK⟩ := hk
    have ef : aev s (.func g) = some (.func (.func g) #[] #[]) := rfl
    have hT2 : TC P g (evs r args.toList) h (fun v1 h1 => v1 = v /\ h1 = h) :=
      (hT.quiet (fun v1 _ e => by rw [e]; exact hsc)).mono (by rintro v1 h1 ⟨⟨_, e1⟩, e2⟩; exact ⟨e1, e2⟩)
    have hk3 : vA q o = 3 := by
      unfold vA at hkz ⊢
      simp only [hop] at hkz ⊢
      have : y4 q o = Kk (q g) := by unfold y4; simp only [hop]
      rw [this] at hkz ⊢
      have kc : Kk (q g) = 1 \/ Kk (q g) = 2 \/ Kk (q g) = 3 := by unfold Kk; split <;> simp
      rcases kc with e | e | e <;> rw [e] at hkz ⊢ <;> simp at hkz ⊢
    obtain ⟨y, hy⟩ := QL (q := q) (m := m) (fl := fl) (fl1 := flZ P r o i fl) F ho hput (u := v) (.inr ⟨hw, .inr (.inl ⟨.func g, args, ts, g, #[], #[], _, hop, ef, KZ hl hn, hc, by simpa using hT2⟩)⟩) hk3
    exact ⟨v, v, h, y, .inr rfl, hK, hy⟩
  . rename_i n1 n2 n3
    obtain ⟨v, u, h', he, hv, hK⟩ := vg hl hk
    have hnc := q7 he
    have hkk : vA q o = (match y4 q o with
      | 0 => 0
      | 1 => 3
      | _ => 4) := by
      unfold vA
      split
      . rename_i t a hop; exact absurd hop (n1 t a)
      . rename_i t a x hop; exact absurd hop (n2 t a x)
      . rfl
    have hcase : y4 q o = 0 \/ y4 q o = 1 := by
      rw [hkk] at hkz
      split at hkz
      . left; assumption
      . right; assumption
      . omega
    rcases hcase with h0' | h1'
    . obtain ⟨rfl, hany⟩ := Kh h0' hnc he
      obtain ⟨y, hy⟩ := XY (q := q) (m := m) (fl := fl) (fl1 := flZ P r o i fl) F ho hput (u := u) (.inr ⟨hw, .inl (hany _)⟩) (fun t a e => absurd e (n1 t a))
      exact ⟨v, u, h', y, hv, hK, hy⟩
    . obtain rfl := Yb h1' hnc he
      obtain ⟨y, hy⟩ := QL (q := q) (m := m) (fl := fl) (fl1 := flZ P r o i fl) F ho hput (u := u) (.inr ⟨hw, .inl he⟩) (by rw [hkk, h1']; rfl)
      exact ⟨v, u, h', y, hv, hK, hy⟩
theorem zkX {n m b o c p k : Nat} {l vs : List Value} {t : TypeId} (h : apt n (.pointer (some ⟨b, o, none⟩)) m (.pointer (some ⟨c, p, none⟩))) (e : b = c) (hv : vs.length = m) : rng (some (.cells (ze l p vs) t)) o n = rng (some (.cells l t)) o n := by
  rw [zkn] at h
  exact Ud (by omega)
theorem ziQ {n m b o c p : Nat} {l vs : List Value} {t : TypeId} (h : apt m (.pointer (some ⟨c, p, none⟩)) n (.pointer (some ⟨b, o, none⟩))) (e : b = c) (hv : vs.length = m) : rng (some (.cells (ze l p vs) t)) o n = rng (some (.cells l t)) o n := by
  rw [zkn] at h
  exact Ud (by omega)
theorem zeM {u : Value} {h1 : za} {x y : yR} (hxA : x ∈ A) (hx : RZ P q ops fl x) (N : zbM P q ops s0 h0 A i o s h u h1 m fl fl1 y) (hkx : vA q x.o <= 3) (hky : vA q o <= 3)
    (hs : vD ops x.o y.o = true) (hbit : m.testBit x.j = false) (hp : zlm (vA q x.o) (vA q o) = true) : Z8 (lkR P ops) ops x y := by
  have ff : ∀ {b : Bool}, b ≠ true -> b = false := fun h => by simpa using h
  simp only [vD, Bool.and_eq_true] at hs
  obtain ⟨a1, a2⟩ := hs
  have d1 : ∀ d, x.o.dst = some d -> d ∉ y.o.looksAt ops /\ y.o.dst ≠ some d := by
    intro d hd
    rw [hd] at a1
    simp only [Bool.and_eq_true, Bool.not_eq_true', decide_eq_false_iff_not, List.contains_eq_mem] at a1
    exact ⟨a1.1, a1.2⟩
  have d2 : ∀ d, y.o.dst = some d -> d ∉ x.o.looksAt ops := by
    intro d hd
    rw [hd] at a2
    simp only [Bool.not_eq_true', decide_eq_false_iff_not, List.contains_eq_mem] at a2
    exact a2
  have hyo := N.hop
  have hy := N.rz
  unfold zlm at hp
  simp only [Bool.or_eq_true, Bool.and_eq_true, Nat.beq_eq] at hp
  rcases hp with (((hp | hp) | ⟨hp, hq⟩) | ⟨hp, hq⟩) | ⟨hp, hq⟩
  . obtain ⟨r, t⟩ := hx.k0 hp
    exact ⟨d1, d2, fun b hb => (by rw [t b] at hb; cases hb), fun b _ => .inl (r b)⟩
  . obtain ⟨r, t⟩ := hy.k0 (by rw [hyo]; exact hp)
    exact ⟨d1, d2, fun b _ => ⟨t b, .inl (r b)⟩, fun b hb => (by rw [t b] at hb; cases hb)⟩
  . have tx := hx.k13 hp
    have ty := hy.k13 (by rw [hyo]; exact hq)
    exact ⟨d1, d2, fun b hb => (by rw [tx b] at hb; cases hb), fun b hb => (by rw [ty b] at hb; cases hb)⟩
  ·
    have tx := hx.k13 (.inl hp)
    refine ⟨d1, d2, fun b hb => (by rw [tx b] at hb; cases hb), fun b hb => ?_⟩
    rcases hx.k1 hp with hn | ⟨bx, ox, sp, nx, c1, c2, c3⟩
    . exact .inl (hn b)
    . rcases (N.Q6 _ c3 hbit).2 ⟨hq, rfl⟩ with hn | ⟨by', oy, ny, c, vs, t, e1, e2, e3, e4, e5, e6⟩
      . rw [hn b] at hb; cases hb
      . have hb' := (e2 b).1 hb
        subst hb'
        cases hr : x.rd b with
        | false => exact .inl rfl
        | true =>
          have hbx := c1 b hr
          cases sp with
          | some k => exact e6.elim
          | none =>
            refine .inr ⟨ox, nx, by rw [c2 rfl, hbx], (e1 b).2 rfl, ?_⟩
            rw [e3, e4]
            exact ziQ e6 hbx.symm e5
  ·
    have ty := hy.k13 (.inl (by rw [hyo]; exact hq))
    refine ⟨d1, d2, fun b hb => ⟨ty b, ?_⟩, fun b hb => (by rw [ty b] at hb; cases hb)⟩
    rcases hx.k2 hp with ⟨_, hn⟩ | ⟨bx, ox, nx, c, vs, t, e1, e2, e3, e4, e5, e6⟩
    . rw [hn b] at hb; cases hb
    . have hb' := (e2 b).1 hb
      subst hb'
      rcases (N.Q6 _ e6 hbit).1 ⟨hq, rfl⟩ with hn | ⟨by', oy, sp, ny, c1, c2, c3⟩
      . exact .inl (hn b)
      . cases hr : y.rd b with
        | false => exact .inl rfl
        | true =>
          have hby := c1 b hr
          cases sp with
          | some k => exact c3.elim
          | none =>
            refine .inr ⟨oy, ny, by rw [c2 rfl, hby], (e1 b).2 rfl, ?_⟩
            rw [e3, e4]
            exact zkX (k := 0) c3 hby.symm e5
end
theorem zf7 {q : FuncId -> Nat} {ops : Array Oper} {s0 : Env} {h0 : za} (hro0 : h0.ro <= h0.next) : ∀ (l : List Oper) (i : Nat) (ms : List Nat) (A : List yR) (prev : List (Nat × Nat)) (fl : List (Nat × Bool × Nat × Value)) (r s : Env) (h : za) {K : Env -> za -> Prop},
    ops.toList.drop i = l -> i <= ops.size -> V0 ops ms -> ms.length = i -> jq P ops s0 h0 A i s h -> (∀ x, x ∈ A -> (x.j, vA q x.o) ∈ prev /\ vA q x.o <= 3 /\ RZ P q ops fl x) -> qF ops l i ms (A.reverse.map fun x => (x.j, x.o)) = true -> QX q l ms prev = true ->
    Le r s -> zj5 P ops l i ms fl r h K -> ∃ A' r' s' h', jq P ops s0 h0 A' ops.size s' h' /\ Le r' s' /\ K r' h' /\ Fr (Xy l) s s' /\ AF h h'
  | [], i, ms, A, prev, fl, r, s, h, K, hl, hle, hm, hml, F, hrp, hst, hkd, hle1, hk => by
    have : i = ops.size := by
      have := congrArg List.length hl
      simp at this
      omega
    subst this
    exact ⟨A, r, s, h, F, hle1, hk, .refl _ _, .refl _⟩
  | o :: os, i, ms, A, prev, fl, r, s, h, K, hl, hle, hm, hml, F, hrp, hst, hkd, hle1, hk => by
    have ho : ops[i]? = some o := by
      have := congrArg (fun l => l[0]?) hl
      simp only [List.getElem?_drop, List.getElem?_cons_zero] at this
      simpa using this
    have hlt : i < ops.size := by
      rcases Nat.lt_or_ge i ops.size with h | h
      . exact h
      . rw [Array.getElem?_eq_none h] at ho; cases ho
    have hl' : ops.toList.drop (i + 1) = os := by rw [<- List.tail_drop, hl]; rfl
    simp only [qF, Bool.and_eq_true] at hst
    obtain ⟨⟨hedge, hslots⟩, hst⟩ := hst
    simp only [QX, Bool.and_eq_true, Nat.ble_eq] at hkd
    obtain ⟨⟨hkz, hpair⟩, hkd⟩ := hkd
    have go : ∀ (v u : Value) (h1 : za) (y : yR), (zV v = true \/ v = u) -> zbM P q ops s0 h0 A i o s h u h1 (yq ms o) fl (flZ P r o i fl) y ->
        (match r.put o.dst v with | some s1 => zj5 P ops os (i + 1) (ms ++ [yq ms o]) (flZ P r o i fl) s1 h1 K | none => False) ->
        ∃ A' r' s' h', jq P ops s0 h0 A' ops.size s' h' /\ Le r' s' /\ K r' h' /\ Fr (Xy (o :: os)) s s' /\ AF h h' := by
      intro v u h1 y hv N hk
      split at hk
      case h_2 => exact hk.elim
      rename_i r1 hp
      obtain ⟨s1, hp1, hl1⟩ := hle1.put hp hv
      have hs1 : ∀ t, s1.get t = if o.dst = some t then u else s.get t := by
        intro t
        cases hd : o.dst with
        | none => rw [hd] at hp1; simp only [Env.put, Option.some.injEq] at hp1; subst hp1; simp
        | some d =>
          rw [hd] at hp1
          simp only [Env.put] at hp1
          obtain ⟨_, hp1⟩ := zl hp1
          simp only [Option.some.injEq] at hp1
          subst hp1
          rw [Env.zP]
          by_cases e : t = d
          . subst e; simp
          . rw [if_neg e, if_neg (by simp only [Option.some.injEq]; exact fun h => e h.symm)]
      have hs1s : s1.size = s.size := (Fr.put hp1).size
      have F1 : jq P ops s0 h0 (A ++ [y]) (i + 1) s1 h1 := by
        refine ⟨?_, ?_, hs1s.trans F.size, ?_, N.ro.trans F.ro, N.next.trans F.next, N.wf, ?_, ?_, ?_⟩
        . rw [List.map_append, F.js, List.range_succ]; simp [N.hj]
        . intro t
          rw [hs1, Xw, N.hop, N.zmQ, F.env]
        . intro b
          rw [N.heap, WU, F.heap]
        . intro A1 r A2 e
          rcases xq e with ⟨_, rfl, rfl⟩ | ⟨A3, _, e3⟩
          . exact N.told
          . exact F.told A1 r A3 e3
        . intro A1 r A2 e ed hed hb
          rcases xq e with ⟨_, rfl, rfl⟩ | ⟨A3, _, e3⟩
          . rw [N.hop] at hed
            simp only [List.all_eq_true, Bool.or_eq_true, Bool.not_eq_true', Nat.blt_eq] at hedge
            rcases hedge ed (by simpa using hed) with h2 | h2
            . rw [hb] at h2; cases h2
            . have : ed.on ∈ A1.map (·.j) := by rw [F.js]; exact List.mem_range.2 h2
              obtain ⟨x, hx, hxj⟩ := List.mem_map.1 this
              exact ⟨x, hx, hxj⟩
          . exact F.Wh A1 r A3 e3 ed hed hb
        . intro A1 x A2 z A3 e
          have e' : A ++ [y] = (A1 ++ x :: A2) ++ z :: A3 := by rw [e]; simp
          rcases xq e' with ⟨_, e1, rfl⟩ | ⟨A4, _, e3⟩
          . have hxm : x ∈ A := by rw [<- e1]; simp
            obtain ⟨hpm, hkx, hrx⟩ := hrp x hxm
            simp only [List.all_eq_true, Bool.or_eq_true] at hpair hslots
            rcases hslots (x.j, x.o) (List.mem_map.2 ⟨x, by simpa using hxm, rfl⟩) with h2 | h2
            . rw [N.hj]; exact .inl (wu hm ho h2)
            . rcases hpair _ hpm with h3 | h3
              . rw [N.hj]; exact .inl (wu hm ho h3)
              . by_cases hbit : (yq ms o).testBit x.j = true
                . rw [N.hj]; exact .inl (wu hm ho hbit)
                . simp only [Bool.not_eq_true] at hbit
                  exact .inr (zeM hxm hrx N hkx hkz (by rw [N.hop]; exact h2) hbit h3)
          . exact F.apart A1 x A2 z A4 (by rw [e3]; simp)
      have hfl : ∀ e, e ∈ fl -> e ∈ flZ P r o i fl := fun e he => by
        unfold flZ; split <;> simp [he]
      have hrp1 : ∀ x, x ∈ A ++ [y] -> (x.j, vA q x.o) ∈ (ms.length, vA q o) :: prev /\ vA q x.o <= 3 /\ RZ P q ops (flZ P r o i fl) x := by
        intro x hx
        rcases List.mem_append.1 hx with hx | hx
        . obtain ⟨h1, h2, h3⟩ := hrp x hx
          exact ⟨List.mem_cons_of_mem _ h1, h2, h3.mono hfl⟩
        . simp only [List.mem_singleton] at hx; subst hx
          exact ⟨by rw [N.hj, N.hop, hml]; simp, by rw [N.hop]; exact hkz, N.rz⟩
      obtain ⟨A', r', s', h', F', l', k', f', a'⟩ := zf7 hro0 os (i + 1) (ms ++ [yq ms o]) (A ++ [y]) _ _ r1 s1 h1 hl' hlt (kV hm hml ho) (by simp [hml]) F1 hrp1
        (by simpa [N.hj, N.hop] using hst) hkd hl1 hk
      exact ⟨A', r', s', h', F', l', k', (Fr.put hp1).left.trans f'.right, N.af.trans a'⟩
    have slot : ∀ {v : Value} {h1 : za}, (match r.put o.dst v with | some s1 => zj5 P ops os (i + 1) (ms ++ [yq ms o]) (flZ P r o i fl) s1 h1 K | none => False) -> ∀ d, o.dst = some d -> d < s.size := by
      intro v h1 hk d hd
      split at hk
      case h_2 => exact hk.elim
      rename_i r1 hp
      rw [hd] at hp
      simp only [Env.put] at hp
      obtain ⟨hb, _⟩ := zl hp
      rw [<- hle1.size]
      simpa [Nat.blt_eq] using hb
    have hron : h.ro <= h.next := by rw [F.ro, F.next]; exact hro0
    have dstok : ∀ {K' : Value -> za -> Prop}, zlD P r o (yq ms o) fl h K' -> (∀ v h1, K' v h1 -> ∀ d, o.dst = some d -> d < s.size) -> ∀ d, o.dst = some d -> d < s.size := by
      intro K' hk hs
      unfold zlD at hk
      split at hk
      . obtain ⟨v, _, hK⟩ := wq (Wi hk).1; exact hs _ _ hK
      . obtain ⟨v, _, hK⟩ := wq (Wi hk).1; exact hs _ _ hK
      . obtain ⟨_, _, v, _, _, hK⟩ := hk; exact hs _ _ hK
      . obtain ⟨v, u, h', _, _, hK⟩ := vg hle1 hk; exact hs v h' hK
    simp only [zj5] at hk
    split at hk
    . rename_i hg
      obtain ⟨v, u, h1, y, hv, hK, N⟩ := Jd (q := q) F hron ho (dstok hk (fun v h1 hK => slot hK)) (by simp only [zZ, hg]) hkz hle1 hk
      exact go v u h1 y hv N hK
    . rename_i j want hg
      split at hk
      . exact hk.elim
      . rename_i d hdst
        unfold GD at hk
        split at hk
        . rename_i b hb
          have hs : s.get d = .bool b := by
            rcases hle1.get d with e | e
            . rw [hb] at e; cases e
            . rw [<- e, hb]
          have haw : zZ ops s o = (b == want) := by simp only [zZ, hg, hdst, hs]
          by_cases hbw : b = want
          . have hk := hk.1 hbw
            obtain ⟨v, u, h1, y, hv, hK, N⟩ := Jd (q := q) F hron ho (dstok hk (fun v h1 hK => slot hK)) (by rw [haw, hbw]; simp) hkz hle1 hk
            exact go v u h1 y hv N hK
          . have hk := hk.2 hbw
            obtain ⟨y, N⟩ := XY (q := q) (m := yq ms o) (fl := fl) (fl1 := flZ P r o i fl) F ho (slot hk) (u := undef) (.inl ⟨by rw [haw]; simpa using hbw, rfl, rfl⟩) (fun _ _ _ => by rw [haw]; simpa using hbw)
            exact go undef undef h y (.inr rfl) N hk
        . exact hk.elim
        . rename_i n1 n2
          have hs : s.get d = r.get d := by
            rcases hle1.get d with e | e
            . obtain ⟨k, p, q, e2⟩ := qE e; exact absurd e2 (n2 k p q)
            . exact e.symm
          have haw : zZ ops s o = false := by
            simp only [zZ, hg, hdst, hs]
          obtain ⟨y, N⟩ := XY (q := q) (m := yq ms o) (fl := fl) (fl1 := flZ P r o i fl) F ho (slot hk) (u := undef) (.inl ⟨haw, rfl, rfl⟩) (fun _ _ _ => haw)
          exact go undef undef h y (.inr rfl) N hk
theorem zif {q : FuncId -> Nat} (hmix : P.follows .mixedOrders = true) : Z1 P (zjm P q) := by
  intro ops r s h K rd id hle wf hk
  unfold zjm at hk
  cases hc : zkS q ops with
  | false => rw [hc] at hk; exact hk.elim
  | true =>
    rw [hc] at hk
    have hk : zj5 P ops ops.toList 0 [] [] r h K := hk
    simp only [zkS, Bool.and_eq_true] at hc
    have F0 : jq P ops s h ([] : List yR) 0 s h := ⟨rfl, fun t => rfl, rfl, fun b => rfl, rfl, rfl, wf.1,
      fun A1 r A2 e => by simp at e, fun A1 r A2 e => by simp at e, fun A1 x A2 y A3 e => by simp at e⟩
    obtain ⟨A, r', s', h', F, hl', hK, hf, af⟩ := zf7 (q := q) wf.2 ops.toList 0 [] [] [] [] r s h rfl (Nat.zero_le _) (fun k q hq => by simp at hq) rfl F0 (fun x e => by simp at e) hc.1 hc.2 hle hk
    have V : qC (lkR P ops) P ops s h A := ⟨by rw [F.js]; exact List.nodup_range, fun i hi => by
        have : i ∈ A.map (·.j) := by rw [F.js]; exact List.mem_range.2 hi
        obtain ⟨r, hr, hj⟩ := List.mem_map.1 this
        exact ⟨r, hr, hj⟩, F.told, F.Wh, F.apart⟩
    exact ⟨r', s', h', hl', hK, hf, af, Ko hmix V F.env F.size F.heap F.ro (by rw [F.next]; exact Nat.le_refl _) (fun x hx => zh7 F x hx) F.next (Q := fun e s1 h1 => e = .normal /\ s1 = s' /\ h1 = h') ⟨rfl, rfl, rfl⟩⟩
def zkG (P : Program) (q : FuncId -> Nat) (ops : Array Oper) (s : Env) (h : za) (K : Env -> za -> Prop) : Prop := sel (calm q ops) (wpD P q ops ops.toList 0 [] [] s h K) (sel (zes q ops) (zfL P q ops s h K) (zjm P q ops s h K))
theorem ziE {q : FuncId -> Nat} (hmix : P.follows .mixedOrders = true) : Z1 P (zkG P q) := by
  intro ops r s h K rd id hle wf hk
  unfold zkG at hk
  cases hc : calm q ops with
  | true =>
    rw [hc] at hk
    exact YW hmix ops r s h K rd id hle wf (by unfold Q1; rw [hc]; exact hk)
  | false =>
    rw [hc] at hk
    have hk : sel (zes q ops) (zfL P q ops r h K) (zjm P q ops r h K) := hk
    cases hv : zes q ops with
    | true => rw [hv] at hk; exact zcQ hmix ops r s h K rd id hle wf hk
    | false => rw [hv] at hk; exact zif hmix ops r s h K rd id hle wf hk
theorem zgw {q : FuncId -> Nat} (hmix : P.follows .mixedOrders = true) {n : Nat} {f : FuncId} {args : List Value} {h : za} {R : Value -> za -> Prop} (hk : wpF P (zkG P q) n f args h R) : DC P f args h R := Ui (ziE hmix) hk
end
end Go.Ai
namespace Go.Ai
theorem EE : type_of% (And.intro (And.intro (And.intro (And.intro (And.intro (And.intro (And.intro @Xc @YX) (And.intro @zk @yf)) (And.intro (And.intro @zv @zH) @yh)) (And.intro (And.intro (And.intro @zF @v9) (And.intro @vz @Xx)) (And.intro (And.intro @uD @zii) @yD))) (And.intro (And.intro (And.intro (And.intro @zO @yP) (And.intro @x8 @xQ)) (And.intro (And.intro @wX @zmx) @ZN)) (And.intro (And.intro (And.intro @zeU @ju) (And.intro @qx @qw)) (And.intro (And.intro @jH @YU) @za6)))) (And.intro (And.intro (And.intro (And.intro (And.intro @UZ @ze5) (And.intro @zgj @znf)) (And.intro (And.intro @zlO @zl1) @zc7)) (And.intro (And.intro (And.intro @zbR @zmr) (And.intro @zq @zA)) (And.intro (And.intro @Qt @yp) @zL))) (And.intro (And.intro (And.intro (And.intro @zfx @zcz) (And.intro @zdn @J7)) (And.intro (And.intro @zct @zQ) @JJ)) (And.intro (And.intro (And.intro @zcx @x5) (And.intro @QA @Wf)) (And.intro (And.intro @Zj @zgB) @zc2))))) (And.intro (And.intro (And.intro (And.intro (And.intro (And.intro @zay @Qq) (And.intro @zcn @WQ)) (And.intro (And.intro @UI @Zr) @Option.bind_some.{0,0})) (And.intro (And.intro (And.intro @Option.bind_none.{0,0} @List.getElem?_cons_zero.{0}) (And.intro @List.getElem?_cons_succ.{0} @List.toList_toArray.{0})) (And.intro (And.intro @Nat.zero_add @Nat.add_zero) @List.length_cons.{0}))) (And.intro (And.intro (And.intro (And.intro @List.length_nil.{0} @List.length_replicate.{0}) (And.intro @List.length_map.{0,0} @List.length_set.{0})) (And.intro (And.intro @List.all_cons.{0} @List.all_nil.{0}) @List.set_cons_zero.{0})) (And.intro (And.intro (And.intro @List.set_cons_succ.{0} @List.drop_zero.{0}) (And.intro @List.take_zero.{0} @List.take_succ_cons.{0})) (And.intro (And.intro @List.drop_succ_cons.{0} @List.take_nil.{0}) @List.drop_nil.{0})))) (And.intro (And.intro (And.intro (And.intro (And.intro @Bool.and_true @Bool.true_and) (And.intro @Nat.lt_irrefl @and_true)) (And.intro (And.intro @true_and @Nat.le_refl) @x6)) (And.intro (And.intro (And.intro @xB @zM) (And.intro @wa @xR)) (And.intro (And.intro @X3 @kq) @zfo))) (And.intro (And.intro (And.intro (And.intro @Xa @zw) (And.intro @zn @zu)) (And.intro (And.intro @zz @zt) @Ky)) (And.intro (And.intro (And.intro @Qe @not_false_eq_true) (And.intro @not_true_eq_false @Bool.not_true)) (And.intro (And.intro @Bool.not_false @Bool.and_false) @Bool.false_and)))))) := And.intro (And.intro (And.intro (And.intro (And.intro (And.intro (And.intro @Xc @YX) (And.intro @zk @yf)) (And.intro (And.intro @zv @zH) @yh)) (And.intro (And.intro (And.intro @zF @v9) (And.intro @vz @Xx)) (And.intro (And.intro @uD @zii) @yD))) (And.intro (And.intro (And.intro (And.intro @zO @yP) (And.intro @x8 @xQ)) (And.intro (And.intro @wX @zmx) @ZN)) (And.intro (And.intro (And.intro @zeU @ju) (And.intro @qx @qw)) (And.intro (And.intro @jH @YU) @za6)))) (And.intro (And.intro (And.intro (And.intro (And.intro @UZ @ze5) (And.intro @zgj @znf)) (And.intro (And.intro @zlO @zl1) @zc7)) (And.intro (And.intro (And.intro @zbR @zmr) (And.intro @zq @zA)) (And.intro (And.intro @Qt @yp) @zL))) (And.intro (And.intro (And.intro (And.intro @zfx @zcz) (And.intro @zdn @J7)) (And.intro (And.intro @zct @zQ) @JJ)) (And.intro (And.intro (And.intro @zcx @x5) (And.intro @QA @Wf)) (And.intro (And.intro @Zj @zgB) @zc2))))) (And.intro (And.intro (And.intro (And.intro (And.intro (And.intro @zay @Qq) (And.intro @zcn @WQ)) (And.intro (And.intro @UI @Zr) @Option.bind_some.{0,0})) (And.intro (And.intro (And.intro @Option.bind_none.{0,0} @List.getElem?_cons_zero.{0}) (And.intro @List.getElem?_cons_succ.{0} @List.toList_toArray.{0})) (And.intro (And.intro @Nat.zero_add @Nat.add_zero) @List.length_cons.{0}))) (And.intro (And.intro (And.intro (And.intro @List.length_nil.{0} @List.length_replicate.{0}) (And.intro @List.length_map.{0,0} @List.length_set.{0})) (And.intro (And.intro @List.all_cons.{0} @List.all_nil.{0}) @List.set_cons_zero.{0})) (And.intro (And.intro (And.intro @List.set_cons_succ.{0} @List.drop_zero.{0}) (And.intro @List.take_zero.{0} @List.take_succ_cons.{0})) (And.intro (And.intro @List.drop_succ_cons.{0} @List.take_nil.{0}) @List.drop_nil.{0})))) (And.intro (And.intro (And.intro (And.intro (And.intro @Bool.and_true @Bool.true_and) (And.intro @Nat.lt_irrefl @and_true)) (And.intro (And.intro @true_and @Nat.le_refl) @x6)) (And.intro (And.intro (And.intro @xB @zM) (And.intro @wa @xR)) (And.intro (And.intro @X3 @kq) @zfo))) (And.intro (And.intro (And.intro (And.intro @Xa @zw) (And.intro @zn @zu)) (And.intro (And.intro @zz @zt) @Ky)) (And.intro (And.intro (And.intro @Qe @not_false_eq_true) (And.intro @not_true_eq_false @Bool.not_true)) (And.intro (And.intro @Bool.not_false @Bool.and_false) @Bool.false_and)))))
end Go.Ai
set_option linter.unusedVariables false
namespace Go.Ai
noncomputable section
abbrev Part := Nat -> Option wB
structure Low where
  get : Nat -> Option (Option wB)
  ro : Nat
def Low.un (lo : Low) (a : Part) : Low := ⟨fun x => match a x with
  | some o => some (some o)
  | none => lo.get x, lo.ro⟩
def Low.of (h : za) : Low := ⟨fun b => if b < h.next then some (h.get b) else none, h.ro⟩
def Low.dj (lo : Low) (a : Part) : Prop := ∀ x o, a x = some o -> lo.get x = none
structure Low.Le (lo lo' : Low) : Prop where
  ro : lo'.ro = lo.ro
  get : ∀ b x, lo.get b = some x -> lo'.get b = some x
structure zfa (lo : Low) (h : za) : Prop where
  ro : h.ro = lo.ro
  rok : h.ro <= h.next
  get : ∀ b x, lo.get b = some x -> h.get b = x /\ b < h.next
abbrev HP := Part -> Prop
def Sat (lo : Low) (h : za) : List HP -> Prop
  | [] => zfa lo h
  | A :: L => ∃ a, A a /\ lo.dj a /\ (∀ b o, a b = some o -> lo.ro <= b) /\ Sat (lo.un a) h L
theorem Low.Le.refl (lo : Low) : lo.Le lo := ⟨rfl, fun _ _ h => h⟩
theorem Low.Le.trans {a b c : Low} (x : a.Le b) (y : b.Le c) : a.Le c := ⟨y.ro.trans x.ro, fun i o h => y.get i o (x.get i o h)⟩
theorem Low.KM {lo : Low} {a : Part} (d : lo.dj a) : lo.Le (lo.un a) := ⟨rfl, fun b x h => by
  unfold Low.un
  cases e : a b with
  | none => simp only [e]; exact h
  | some o => rw [d b o e] at h; cases h⟩
theorem Low.y8 {lo : Low} {a : Part} {b : Nat} {o : wB} (e : a b = some o) : (lo.un a).get b = some (some o) := by simp only [Low.un, e]
theorem Low.xH {lo : Low} {a : Part} {b : Nat} (e : a b = none) : (lo.un a).get b = lo.get b := by simp only [Low.un, e]
theorem Low.zko {lo : Low} {a c : Part} (d : (lo.un a).dj c) : (lo.un a).un c = (lo.un c).un a := by
  unfold Low.un
  congr 1
  funext x
  cases e : c x with
  | none => simp only [e]
  | some o =>
    have := d x o e
    simp only [Low.un] at this
    cases e2 : a x with
    | none => simp only [e]
    | some p => rw [e2] at this; cases this
theorem Low.zki {lo : Low} {a c : Part} (d : lo.dj a) (k : (lo.un a).dj c) : lo.dj c := fun x o e => by
  cases e2 : lo.get x with
  | none => rfl
  | some p => rw [<- k x o e, (Low.KM d).get x p e2]
theorem Low.zkm {lo : Low} {a c : Part} (d : lo.dj a) (k : (lo.un a).dj c) : (lo.un c).dj a := fun x o e => by
  cases e2 : c x with
  | none => rw [Low.xH e2]; exact d x o e
  | some p => have := k x p e2; rw [Low.y8 e] at this; cases this
theorem Low.Le.dj {lo lo' : Low} (l : lo.Le lo') {a : Part} (d : lo'.dj a) : lo.dj a := fun x o e => by
  cases e2 : lo.get x with
  | none => rfl
  | some p => rw [<- d x o e, l.get x p e2]
theorem Low.Le.un {lo lo' : Low} (l : lo.Le lo') (a : Part) : (lo.un a).Le (lo'.un a) := ⟨l.ro, fun b x h => by
  cases e : a b with
  | none => rw [Low.xH e] at h ⊢; exact l.get b x h
  | some o => rw [Low.y8 e] at h ⊢; exact h⟩
theorem zfa.mono {lo lo' : Low} {h : za} (l : lo.Le lo') (x : zfa lo' h) : zfa lo h := ⟨x.ro.trans l.ro, x.rok, fun b y e => x.get b y (l.get b y e)⟩
theorem Sat.mono {h : za} : ∀ {L : List HP} {lo lo' : Low}, lo.Le lo' -> Sat lo' h L -> Sat lo h L
  | [], lo, lo', l, x => zfa.mono l x
  | A :: L, lo, lo', l, ⟨a, ha, d, w, x⟩ => ⟨a, ha, l.dj d, fun b o e => by rw [<- l.ro]; exact w b o e, Sat.mono (l.un a) x⟩
theorem Sat.base {h : za} : ∀ {L : List HP} {lo : Low}, Sat lo h L -> zfa lo h
  | [], _, x => x
  | A :: L, _, ⟨_, _, d, _, x⟩ => (Sat.base x).mono (Low.KM d)
theorem Sat.part {h : za} {A : HP} : ∀ {L : List HP} {lo : Low}, Sat lo h L -> A ∈ L -> ∃ a, A a /\ lo.dj a /\ ∀ b o, a b = some o -> h.get b = some o /\ h.ro <= b /\ b < h.next
  | B :: L, lo, ⟨a, ha, d, w, x⟩, hm => by
    rcases List.mem_cons.1 hm with rfl | hm
    . refine ⟨a, ha, d, fun b o e => ?_⟩
      have bs := Sat.base x
      obtain ⟨g1, g2⟩ := bs.get b _ (Low.y8 e)
      exact ⟨g1, by rw [bs.ro]; exact w b o e, g2⟩
    . obtain ⟨c, hc, dc, g⟩ := Sat.part x hm
      exact ⟨c, hc, Low.zki d dc, g⟩
theorem Sat.swap {h : za} {A B : HP} {L : List HP} {lo : Low} (x : Sat lo h (A :: B :: L)) : Sat lo h (B :: A :: L) := by
  obtain ⟨a, ha, d, w, c, hc, dc, wc, x⟩ := x
  exact ⟨c, hc, Low.zki d dc, wc, a, ha, Low.zkm d dc, w, by rw [<- Low.zko dc]; exact x⟩
theorem Sat.cons {h : za} {A : HP} {L L' : List HP} (f : ∀ lo, Sat lo h L -> Sat lo h L') {lo : Low} (x : Sat lo h (A :: L)) : Sat lo h (A :: L') := by
  obtain ⟨a, ha, d, w, x⟩ := x
  exact ⟨a, ha, d, w, f _ x⟩
theorem Sat.perm {h : za} {L L' : List HP} (p : L.Perm L') : ∀ {lo : Low}, Sat lo h L -> Sat lo h L' := by
  induction p with
  | nil => exact fun x => x
  | cons A p ih => exact fun x => x.cons fun lo => ih
  | swap A B L => exact fun x => x.swap
  | trans p q ih1 ih2 => exact fun x => ih2 (ih1 x)
theorem Sat.drop {h : za} {A : HP} {L : List HP} {lo : Low} (x : Sat lo h (A :: L)) : Sat lo h L := by
  obtain ⟨a, ha, d, w, x⟩ := x
  exact x.mono (Low.KM d)
theorem Sat.zlR {h : za} {L' : List HP} {lo : Low} : ∀ {L : List HP}, Sat lo h (L ++ L') -> Sat lo h L'
  | [], x => x
  | A :: L, x => Sat.zlR (L := L) x.drop
def U6 : Nat -> List HP -> List HP
  | 0, L => L
  | _ + 1, [] => []
  | i + 1, A :: L => match U6 i L with
    | [] => [A]
    | B :: L' => B :: A :: L'
theorem W3 : ∀ (i : Nat) (L : List HP), L.Perm (U6 i L)
  | 0, L => List.Perm.refl _
  | _ + 1, [] => List.Perm.refl _
  | i + 1, A :: L => by
    have ih := W3 i L
    unfold U6
    split
    . rename_i e; rw [e] at ih; exact ih.cons A
    . rename_i B L' e; rw [e] at ih; exact (ih.cons A).trans (List.Perm.swap _ _ _)
theorem Sat.p {h : za} {L : List HP} {lo : Low} (x : Sat lo h L) (i : Nat) : Sat lo h (U6 i L) := x.perm (W3 i L)
def zl2 : List Nat -> List HP -> List HP
  | [], L => L
  | i :: is, L => zl2 is (U6 i L)
theorem Sat.ps {h : za} {lo : Low} : ∀ (is : List Nat) {L : List HP}, Sat lo h L -> Sat lo h (zl2 is L)
  | [], _, x => x
  | i :: is, _, x => Sat.ps is (x.p i)
def Kb : List Nat -> List Nat -> List HP -> List HP
  | [], _, L => L
  | i :: is, prev, L => match U6 (i - (prev.filter fun j => Nat.blt j i).length) L with
    | [] => []
    | A :: L' => A :: Kb is (i :: prev) L'
def front (is : List Nat) (L : List HP) : List HP := Kb is [] L
theorem Ww : ∀ (is prev : List Nat) (L : List HP), L.Perm (Kb is prev L)
  | [], _, L => List.Perm.refl _
  | i :: is, prev, L => by
    have p := W3 (i - (prev.filter fun j => Nat.blt j i).length) L
    unfold Kb
    split
    . rename_i e; rw [e] at p; exact p
    . rename_i A L' e; rw [e] at p; exact p.trans ((Ww _ _ L').cons A)
theorem zet (is : List Nat) (L : List HP) : L.Perm (front is L) := Ww _ _ _
theorem Sat.f {h : za} {L : List HP} {lo : Low} (x : Sat lo h L) (is : List Nat) : Sat lo h (front is L) := x.perm (zet is L)
theorem Sat.zU {h : za} {L : List HP} {lo : Low} (x : Sat lo h L) (n : Nat) : Sat lo h (L.take n) := by
  have q : (L.take n ++ L.drop n).Perm (L.drop n ++ L.take n) := List.perm_append_comm
  rw [List.take_append_drop] at q
  exact (x.perm q).zlR
theorem Sat.k {h : za} {L : List HP} {lo : Low} (x : Sat lo h L) (is : List Nat) : Sat lo h ((front is L).take is.length) := (x.f is).zU _
theorem Sat.to {h h' : za} : ∀ {L : List HP} {lo lo' : Low}, Sat lo h L -> (∀ b, b < h.next -> lo.get b = none -> lo'.get b = none) -> zfa lo' h' -> lo'.ro = lo.ro -> h.next <= h'.next -> (∀ b, b < h.next -> lo.get b = none -> h'.get b = h.get b) -> Sat lo' h' L
  | [], _, _, _, _, b, _, _, _ => b
  | A :: L, lo, lo', ⟨a, ha, d, w, x⟩, k, b, r, n, g => by
    have bs := Sat.base x
    have lt : ∀ y o, a y = some o -> y < h.next := fun y o e => (bs.get y _ (Low.y8 e)).2
    have dn : ∀ y, (lo.un a).get y = none -> a y = none /\ lo.get y = none := fun y e => by
      cases e2 : a y with
      | none => rw [Low.xH e2] at e; exact ⟨rfl, e⟩
      | some o => rw [Low.y8 e2] at e; cases e
    refine ⟨a, ha, fun y o e => k y (lt y o e) (d y o e), fun y o e => by rw [r]; exact w y o e, Sat.to x (fun y hy e => ?_) ?_ r n fun y hy e => ?_⟩
    . rw [Low.xH (dn y e).1]; exact k y hy (dn y e).2
    . refine ⟨b.ro, b.rok, fun y z e => ?_⟩
      cases e2 : a y with
      | none => rw [Low.xH e2] at e; exact b.get y z e
      | some o =>
        rw [Low.y8 e2] at e
        cases e
        exact ⟨(g y (lt y o e2) (d y o e2)).trans (bs.get y _ (Low.y8 e2)).1, Nat.lt_of_lt_of_le (lt y o e2) n⟩
    . exact g y hy (dn y e).2
theorem Sat.zoH {h : za} {L2 : List HP} : ∀ {L1 : List HP} {lo : Low}, Sat lo h (L1 ++ L2) -> ∃ lo1, lo.Le lo1 /\ Sat lo1 h L2 /\ ∀ h' L', Sat lo1 h' L' -> Sat lo h' (L1 ++ L')
  | [], lo, x => ⟨lo, .refl lo, x, fun _ _ y => y⟩
  | A :: L1, lo, ⟨a, ha, d, w, x⟩ => by
    obtain ⟨lo1, l, s, f⟩ := Sat.zoH (L1 := L1) x
    exact ⟨lo1, (Low.KM d).trans l, s, fun h' L' y => ⟨a, ha, d, w, f h' L' y⟩⟩
theorem Sat.call {h : za} {L1 L2 : List HP} {lo : Low} (x : Sat lo h (L2 ++ L1)) : ∃ lo1, lo.Le lo1 /\ Sat lo1 h L2 /\ ∀ h' L', Sat lo1 h' L' -> Sat lo h' (L' ++ L1) := by
  obtain ⟨lo1, l, s, f⟩ := Sat.zoH (x.perm List.perm_append_comm)
  exact ⟨lo1, l, s, fun h' L' y => (f h' L' y).perm List.perm_append_comm⟩
def pt (b : Nat) (o : wB) : HP := fun m => ∀ x, m x = if x = b then some o else none
theorem Sat.zoe {h : za} {L : List HP} {lo : Low} (x : Sat lo h L) {b : Nat} {o : wB} (hm : pt b o ∈ L) : h.get b = some o /\ h.ro <= b /\ b < h.next := by
  obtain ⟨a, ha, _, g⟩ := x.part hm
  exact g b o (by rw [ha b, if_pos rfl])
theorem Sat.get {h : za} {L : List HP} {lo : Low} {b : Nat} {o : wB} (x : Sat lo h (pt b o :: L)) : h.get b = some o := (x.zoe (List.mem_cons_self ..)).1
theorem Sat.wr {h : za} {L : List HP} {lo : Low} {b : Nat} {o : wB} (x : Sat lo h (pt b o :: L)) : h.ro <= b := (x.zoe (List.mem_cons_self ..)).2.1
theorem Sat.lt {h : za} {L : List HP} {lo : Low} {b : Nat} {o : wB} (x : Sat lo h (pt b o :: L)) : b < h.next := (x.zoe (List.mem_cons_self ..)).2.2
theorem Sat.ne {h : za} {L : List HP} {lo : Low} {b c : Nat} {o o' : wB} (x : Sat lo h (pt b o :: pt c o' :: L)) : ¬ b = c := by
  rintro rfl
  obtain ⟨a, ha, d, w, e, he, de, we, x⟩ := x
  have := de b o' (by rw [he, if_pos rfl])
  rw [Low.y8 (o := o) (by rw [ha, if_pos rfl])] at this
  cases this
theorem Sat.push {h : za} {L : List HP} {lo : Low} (x : Sat lo h L) (o : wB) : Sat lo (h.push o) (pt h.next o :: L) := by
  have bs := x.base
  have hn : lo.get h.next = none := by
    cases e : lo.get h.next with
    | none => rfl
    | some y => exact absurd (bs.get _ _ e).2 (Nat.lt_irrefl _)
  refine ⟨fun y => if y = h.next then some o else none, fun _ => rfl, fun y p e => ?_, fun y p e => ?_, x.to (fun y hy e => ?_) ⟨bs.ro, Nat.le_succ_of_le bs.rok, fun y z e => ?_⟩ rfl (Nat.le_succ _) fun y hy _ => zu hy⟩
  . dsimp only at e; split at e
    . rename_i q; rw [q]; exact hn
    . cases e
  . dsimp only at e; split at e
    . rename_i q; rw [q, <- bs.ro]; exact bs.rok
    . cases e
  . rw [Low.xH (by rw [if_neg (by omega)])]; exact e
  . by_cases q : y = h.next
    . subst q
      rw [Low.y8 (o := o) (by rw [if_pos rfl])] at e
      cases e
      exact ⟨zw, Nat.lt_succ_self _⟩
    . rw [Low.xH (by rw [if_neg q])] at e
      obtain ⟨g1, g2⟩ := bs.get y z e
      exact ⟨(zu g2).trans g1, Nat.lt_succ_of_lt g2⟩
theorem Sat.set {h : za} {L : List HP} {lo : Low} {b : Nat} {o : wB} (x : Sat lo h (pt b o :: L)) (o' : wB) : Sat lo (h.set b (some o')) (pt b o' :: L) := by
  obtain ⟨a, ha, d, w, x⟩ := x
  have hb : lo.get b = none := d b o (by rw [ha b, if_pos rfl])
  have bs := x.base
  refine ⟨fun y => if y = b then some o' else none, fun _ => rfl, fun y p e => ?_, fun y p e => ?_, x.to (fun y hy e => ?_) ⟨bs.ro, bs.rok, fun y z e => ?_⟩ rfl (Nat.le_refl _) fun y hy e => ?_⟩
  . dsimp only at e; split at e
    . rename_i q; rw [q]; exact hb
    . cases e
  . dsimp only at e; split at e
    . rename_i q; rw [q]; exact w b o (by rw [ha b, if_pos rfl])
    . cases e
  . have q : y ≠ b := by rintro rfl; rw [Low.y8 (o := o) (by rw [ha, if_pos rfl])] at e; cases e
    rw [Low.xH (by rw [ha, if_neg q])] at e
    rw [Low.xH (by rw [if_neg q])]; exact e
  . by_cases q : y = b
    . subst q
      rw [Low.y8 (o := o') (by rw [if_pos rfl])] at e
      cases e
      exact ⟨zz, (bs.get y _ (Low.y8 (o := o) (by rw [ha, if_pos rfl]))).2⟩
    . rw [Low.xH (by rw [if_neg q])] at e
      obtain ⟨g1, g2⟩ := bs.get y z (by rw [Low.xH (by rw [ha, if_neg q])]; exact e)
      exact ⟨(zt q).trans g1, g2⟩
  . have q : y ≠ b := by rintro rfl; rw [Low.y8 (o := o) (by rw [ha, if_pos rfl])] at e; cases e
    exact zt q
theorem Sat.forget {h : za} {L : List HP} {lo : Low} {b : Nat} {o : wB} (x : Sat lo h (pt b o :: L)) (z : Option wB) : Sat lo (h.set b z) L := by
  obtain ⟨a, ha, d, w, x⟩ := x
  have hb : lo.get b = none := d b o (by rw [ha b, if_pos rfl])
  have bs := x.base
  refine x.to (fun y hy e => ?_) ⟨bs.ro, bs.rok, fun y z e => ?_⟩ rfl (Nat.le_refl _) fun y hy e => ?_
  . cases q : lo.get y with
    | none => rfl
    | some v => rw [(Low.KM d).get y v q] at e; cases e
  . have q : y ≠ b := by rintro rfl; rw [hb] at e; cases e
    obtain ⟨g1, g2⟩ := bs.get y z ((Low.KM d).get y z e)
    exact ⟨(zt q).trans g1, g2⟩
  . have q : y ≠ b := by rintro rfl; rw [Low.y8 (o := o) (by rw [ha, if_pos rfl])] at e; cases e
    exact zt q
theorem ZO {h : za} {L : List HP} {lo : Low} {c : List Value} {t : TypeId} {K : Value -> za -> Prop} (s : Sat lo h L) (k : ∀ b h', Sat lo h' (pt b (.cells c t) :: L) -> K (.pointer (some ⟨b, 0, none⟩)) h') : nw h c t K := k _ _ (s.push _)
theorem y9 {h : za} {L : List HP} {lo : Low} {b off : Nat} {cs vs : List Value} {t : TypeId} {K : za -> Prop} (s : Sat lo h (pt b (.cells cs t) :: L)) (hl : off + vs.length <= cs.length) (hc : vs.all cellOk = true) (k : ∀ h', Sat lo h' (pt b (.cells (ze cs off vs) t) :: L) -> K h') : opt (sto h b off vs) K := by
  rw [zjU s.get, if_pos ⟨hl, s.wr, hc⟩]
  exact k _ (s.set _)
theorem Sat.zoV {h h' : za} {L : List HP} {lo : Low} (x : Sat lo h L) (hn : h.next <= h'.next) (hr : h'.ro = h.ro) (hg : ∀ b, b < h.next -> h'.get b = h.get b) : Sat lo h' L := by
  have bs := x.base
  exact x.to (fun _ _ e => e) ⟨hr.trans bs.ro, by rw [hr]; exact Nat.le_trans bs.rok hn, fun b y e => ⟨(hg b (bs.get b y e).2).trans (bs.get b y e).1, Nat.lt_of_lt_of_le (bs.get b y e).2 hn⟩⟩ rfl hn fun b hb _ => hg b hb
def ex {α : Type} (f : α -> HP) : HP := fun m => ∃ x, f x m
theorem Sat.zjQ {h : za} {α : Type} {f : α -> HP} {L : List HP} {lo : Low} : Sat lo h (ex f :: L) ↔ ∃ x, Sat lo h (f x :: L) :=
  ⟨fun ⟨a, ⟨x, hx⟩, d, w, s⟩ => ⟨x, a, hx, d, w, s⟩, fun ⟨x, a, hx, d, w, s⟩ => ⟨a, ⟨x, hx⟩, d, w, s⟩⟩
theorem Sat.zov {h : za} {α : Type} {f : α -> HP} {L : List HP} {lo : Low} (s : Sat lo h (ex f :: L)) : ∃ x, Sat lo h (f x :: L) := Sat.zjQ.1 s
theorem Sat.zou {h : za} {α : Type} {f : α -> HP} {L : List HP} {lo : Low} (x : α) (s : Sat lo h (f x :: L)) : Sat lo h (ex f :: L) := Sat.zjQ.2 ⟨x, s⟩
def fact (p : Prop) : HP := fun m => p /\ ∀ x, m x = none
theorem Low.Qx {lo : Low} {a : Part} (e : ∀ x, a x = none) : lo.un a = lo := by
  unfold Low.un
  cases lo
  congr 1
  funext x
  simp only [e x]
theorem Sat.zdI {h : za} {p : Prop} {L : List HP} {lo : Low} : Sat lo h (fact p :: L) ↔ p /\ Sat lo h L :=
  ⟨fun ⟨a, ⟨hp, ha⟩, d, w, s⟩ => ⟨hp, by rw [Low.Qx ha] at s; exact s⟩, fun ⟨hp, s⟩ => ⟨fun _ => none, ⟨hp, fun _ => rfl⟩, fun _ _ e => (by cases e), fun _ _ e => (by cases e), by rw [Low.Qx fun _ => rfl]; exact s⟩⟩
def zht : List HP -> HP
  | [] => fun m => ∀ x, m x = none
  | A :: L => fun m => ∃ a b, A a /\ zht L b /\ (∀ x o, b x = some o -> a x = none) /\ ∀ x, m x = match b x with
    | some o => some o
    | none => a x
theorem Low.zm2 {lo : Low} {a b m : Part} (hm : ∀ x, m x = match b x with
    | some o => some o
    | none => a x) : lo.un m = (lo.un a).un b := by
  unfold Low.un
  congr 1
  funext x
  rw [hm x]
  cases b x <;> rfl
theorem Sat.Xr {h : za} {L : List HP} : ∀ {M : List HP} {lo : Low}, Sat lo h (zht M :: L) ↔ Sat lo h (M ++ L)
  | [], lo => ⟨fun ⟨a, ha, d, w, s⟩ => by rw [Low.Qx ha] at s; exact s, fun s => ⟨fun _ => none, fun _ => rfl, fun _ _ e => (by cases e), fun _ _ e => (by cases e), by rw [Low.Qx fun _ => rfl]; exact s⟩⟩
  | A :: M, lo => by
    constructor
    . rintro ⟨m, ⟨a, b, ha, hb, dab, hm⟩, d, w, s⟩
      have da : lo.dj a := fun x o e => by
        cases q : b x with
        | none => exact d x o (by rw [hm x, q]; exact e)
        | some p => rw [dab x p q] at e; cases e
      refine ⟨a, ha, da, fun x o e => ?_, Sat.Xr.1 ⟨b, hb, fun x o e => ?_, fun x o e => ?_, ?_⟩⟩
      . cases q : b x with
        | none => exact w x o (by rw [hm x, q]; exact e)
        | some p => rw [dab x p q] at e; cases e
      . rw [Low.xH (dab x o e)]; exact d x o (by rw [hm x, e])
      . exact w x o (by rw [hm x, e])
      . rw [<- Low.zm2 hm]; exact s
    . rintro ⟨a, ha, d, w, s⟩
      obtain ⟨b, hb, db, wb, s⟩ := Sat.Xr.2 s
      refine ⟨fun x => match b x with
        | some o => some o
        | none => a x, ⟨a, b, ha, hb, fun x o e => ?_, fun _ => rfl⟩, fun x o e => ?_, fun x o e => ?_, ?_⟩
      . cases q : a x with
        | none => rfl
        | some p => have := db x o e; rw [Low.y8 q] at this; cases this
      . dsimp only at e; split at e
        . rename_i p q; exact Low.zki d db x p q
        . exact d x o e
      . dsimp only at e; split at e
        . rename_i p q; exact wb x p q
        . exact w x o e
      . rw [Low.zm2 (a := a) (b := b) fun _ => rfl]; exact s
theorem Sat.open {h : za} {M L : List HP} {lo : Low} (s : Sat lo h (zht M :: L)) : Sat lo h (M ++ L) := Sat.Xr.1 s
theorem Sat.close {h : za} {M L : List HP} {lo : Low} (s : Sat lo h (M ++ L)) : Sat lo h (zht M :: L) := Sat.Xr.2 s
theorem Sat.self {h : za} (hr : h.ro <= h.next) : Sat (.of h) h [] := ⟨rfl, hr, fun b x e => by
  unfold Low.of at e
  dsimp only at e
  split at e
  . cases e; exact ⟨rfl, by assumption⟩
  . cases e⟩
theorem Sat.join {h h' : za} {L L' : List HP} {lo : Low} (x : Sat lo h L) (y : Sat (.of h) h' L') : Sat lo h' (L' ++ L) := by
  have bx := x.base
  have by' := y.base
  have get : ∀ b, b < h.next -> h'.get b = h.get b /\ b < h'.next := fun b hb => by'.get b _ (by unfold Low.of; dsimp only; rw [if_pos hb])
  have hn : h.next <= h'.next := by
    rcases Nat.eq_zero_or_pos h.next with e | e
    . omega
    . have := (get (h.next - 1) (by omega)).2; omega
  have key : ∀ (L' : List HP) (lo lo2 : Low), Sat lo2 h' L' -> lo2.ro = lo.ro -> (∀ b, b < h.next -> lo2.get b ≠ none) -> (∀ b, h.next <= b -> lo.get b = lo2.get b) -> zfa lo h' ->
      (∀ lo3, Low.Le lo lo3 -> (∀ b, b < h.next -> lo3.get b = lo.get b) -> zfa lo3 h' -> Sat lo3 h' L) -> Sat lo h' (L' ++ L) := by
    intro L'
    induction L' with
    | nil => intro lo lo2 _ _ _ _ b k; exact k lo (.refl lo) (fun _ _ => rfl) b
    | cons A L' ih =>
      rintro lo lo2 ⟨a, ha, d, w, s⟩ r f e b k
      have up : ∀ y o, a y = some o -> h.next <= y := fun y o q => by
        rcases Nat.lt_or_ge y h.next with z | z
        . exact absurd (d y o q) (f y z)
        . exact z
      have bs := s.base
      have dl : lo.dj a := fun y o q => by rw [e y (up y o q)]; exact d y o q
      refine ⟨a, ha, dl, fun y o q => by rw [<- r]; exact w y o q, ih (lo.un a) (lo2.un a) s r (fun y hy => ?_) (fun y hy => ?_) ⟨b.ro, b.rok, fun y z q => ?_⟩ fun lo3 l3 q3 b3 => k lo3 ((Low.KM dl).trans l3) (fun y hy => ?_) b3⟩
      . cases q : a y with
        | none => rw [Low.xH q]; exact f y hy
        | some o => rw [Low.y8 q]; simp
      . cases q : a y with
        | none => rw [Low.xH q, Low.xH q]; exact e y hy
        | some o => rw [Low.y8 q, Low.y8 q]
      . cases q2 : a y with
        | none => rw [Low.xH q2] at q; exact b.get y z q
        | some o => rw [Low.y8 q2] at q; cases q; exact bs.get y _ (Low.y8 q2)
      . rw [q3 y hy]
        cases q : a y with
        | none => rw [Low.xH q]
        | some o => have := up y o q; omega
  have rr : (Low.of h).ro = lo.ro := bx.ro
  refine key L' lo (.of h) y rr (fun b hb => by unfold Low.of; dsimp only; rw [if_pos hb]; simp) (fun b hb => ?_) ⟨by rw [by'.ro]; exact rr, by'.rok, fun b z e => ?_⟩ fun lo3 l3 q3 b3 => ?_
  . unfold Low.of; dsimp only; rw [if_neg (by omega)]
    cases e : lo.get b with
    | none => rfl
    | some z => have := (bx.get b z e).2; omega
  . obtain ⟨g1, g2⟩ := bx.get b z e
    exact ⟨(get b g2).1.trans g1, (get b g2).2⟩
  . exact x.to (fun b hb e => by rw [q3 b hb]; exact e) b3 l3.ro hn fun b hb _ => (get b hb).1
theorem Sat.zmY {h h' : za} : ∀ {L : List HP} {lo lo' : Low}, Sat lo h L -> lo'.get = lo.get -> lo'.ro <= lo.ro -> h'.ro = lo'.ro -> h'.ro <= h'.next -> h.next <= h'.next -> (∀ b, b < h.next -> h'.get b = h.get b) -> Sat lo' h' L
  | [], lo, lo', x, g, r, e, k, n, he => ⟨e, k, fun b z hz => by
    rw [g] at hz
    obtain ⟨h1, h2⟩ := zfa.get x b z hz
    exact ⟨(he b h2).trans h1, Nat.lt_of_lt_of_le h2 n⟩⟩
  | A :: L, lo, lo', ⟨a, ha, d, w, x⟩, g, r, e, k, n, he =>
    ⟨a, ha, fun y o q => by rw [g]; exact d y o q, fun b o q => Nat.le_trans r (w b o q), Sat.zmY x (by unfold Low.un; rw [g]) r e k n he⟩
theorem Sat.wO {h h2 : za} {L L' : List HP} {lo : Low} (s : Sat lo h L) (s2 : Sat (.of h.lock) h2 L') : Sat lo (Go.Ai.wO h h2) (L' ++ L) := by
  have b1 := s.base
  have b2 := s2.base
  have old : ∀ b, b < h.next -> h2.get b = h.get b /\ b < h2.next := fun b hb => b2.get b _ (by unfold Low.of; dsimp only; rw [if_pos (by exact hb)]; rfl)
  have hn : h.next <= h2.next := by
    rcases Nat.eq_zero_or_pos h.next with e | e
    . omega
    . have := (old (h.next - 1) (by omega)).2; omega
  have gr : (Go.Ai.wO h h2).ro = h.ro := rfl
  have gn : (Go.Ai.wO h h2).next = h2.next := rfl
  refine s.join (s2.zmY (lo' := .of h) rfl b1.rok gr (by rw [gr, gn]; exact Nat.le_trans b1.rok hn) (by rw [gn]; exact Nat.le_refl _) fun b hb => ?_)
  rw [xK]
  by_cases q : h.next <= b
  . rw [if_pos ⟨q, hb⟩]
  . rw [if_neg (by omega), (old b (by omega)).1]
theorem zly {h : za} {L : List HP} {lo : Low} {c : List Value} {t : TypeId} {K : Value -> za -> Prop} (s : Sat lo h L) (wf : WF' h) (k : ∀ b h', WF' h' -> Sat lo h' (pt b (.cells c t) :: L) -> K (.pointer (some ⟨b, 0, none⟩)) h') : nw h c t K := k _ _ (zcP wf _) (s.push _)
theorem zf1 {P : Program} {g : FuncId} {args : List Value} {h : za} {L : List HP} {lo : Low} {K R : Value -> za -> Prop} (hc : yT P g = true) (hn : yH args = true) (wf : WF' h) (s : Sat lo h L) (d : DC P g args h.lock R) (hk : ∀ v h2, R v h2 -> (∀ L', Sat (.of h.lock) h2 L' -> Sat lo (wO h h2) (L' ++ L)) -> WF' (wO h h2) -> K v (wO h h2)) : K4 P g args h K := by
  have wl : WF' h.lock := ⟨wf.1, Nat.le_refl _⟩
  obtain ⟨v, h1, r, af, t⟩ := d wl
  refine ⟨hc, hn, v, h1, t, af, hk v h1 r (fun L' s2 => s.wO s2) ?_⟩
  have w1 := wl.af af
  have hn : h.next <= h1.next := af.next
  refine ⟨fun b o hb => ?_, ?_⟩
  . rw [xK] at hb
    show b < h1.next
    split at hb
    . omega
    . exact Nat.lt_of_lt_of_le (wf.1 b o hb) hn
  . show h.ro <= h1.next
    exact Nat.le_trans wf.2 hn
def own (X : za -> (Nat -> Prop) -> Prop) : HP := fun m => ∃ g, X g (fun b => m b ≠ none) /\ ∀ b o, m b = some o -> g.get b = some o
def Mv (X : za -> (Nat -> Prop) -> Prop) : Prop := ∀ g h F G, X g F -> (∀ b o, F b -> g.get b = some o -> h.get b = some o /\ G b) -> (∀ b, G b -> h.ro <= b /\ b < h.next) -> X h G
theorem Sat.Y9 {h : za} {L : List HP} {lo : Low} {X : za -> (Nat -> Prop) -> Prop} (hX : Mv X) (s : Sat lo h (own X :: L)) : ∃ F : Nat -> Prop, X h F /\ (∀ b, F b -> lo.get b = none /\ h.ro <= b /\ b < h.next) /\ ∀ h1 F' X', Mv X' -> h.next <= h1.next -> h1.ro = h.ro -> (∀ b, ¬ F b -> b < h.next -> h1.get b = h.get b) -> X' h1 F' -> (∀ b, F' b -> F b \/ h.next <= b) -> (∀ b, F' b -> h1.ro <= b /\ b < h1.next) -> Sat lo h1 (own X' :: L) := by
  obtain ⟨a, ⟨g, hx, hg⟩, d, w, s⟩ := s
  have bs := s.base
  have bl := bs.mono (Low.KM d)
  have hF : ∀ b, a b ≠ none -> lo.get b = none /\ h.ro <= b /\ b < h.next /\ ∃ o, a b = some o /\ h.get b = some o := fun b hb => by
    cases e : a b with
    | none => exact absurd e hb
    | some o =>
      obtain ⟨g1, g2⟩ := bs.get b _ (Low.y8 e)
      exact ⟨d b o e, by rw [bs.ro]; exact w b o e, g2, o, rfl, g1⟩
  refine ⟨fun b => a b ≠ none, hX g h _ _ hx (fun b o hb hgb => ?_) (fun b hb => ⟨(hF b hb).2.1, (hF b hb).2.2.1⟩), fun b hb => ⟨(hF b hb).1, (hF b hb).2.1, (hF b hb).2.2.1⟩, fun h1 F' X' hX' hn hr hget hx' hsub hok => ?_⟩
  . obtain ⟨_, _, _, o', e, g1⟩ := hF b hb
    rw [hg b o' e] at hgb
    cases hgb
    exact ⟨g1, hb⟩
  . classical
    let a' : Part := fun b => if F' b then h1.get b else none
    have ha' : ∀ b o, a' b = some o -> F' b /\ h1.get b = some o := fun b o e => by
      have e : (if F' b then h1.get b else none) = some o := e
      split at e
      . rename_i q; exact ⟨q, e⟩
      . cases e
    have out : ∀ b o, a' b = some o -> lo.get b = none := fun b o e => by
      rcases hsub b (ha' b o e).1 with q | q
      . exact (hF b q).1
      . cases e2 : lo.get b with
        | none => rfl
        | some z => have := (bl.get b z e2).2; omega
    refine ⟨a', ⟨h1, hX' h1 h1 F' _ hx' (fun b o hb e => ⟨e, by show (if F' b then h1.get b else none) ≠ none; rw [if_pos hb, e]; simp⟩) (fun b hb => ?_), fun b o e => (ha' b o e).2⟩, out, fun b o e => ?_, s.to (fun b hb e => ?_) ⟨by rw [hr]; exact bs.ro, ?_, fun b z e => ?_⟩ rfl hn fun b hb e => ?_⟩
    . cases e : a' b with
      | none => exact absurd e hb
      | some o => exact hok b (ha' b o e).1
    . have := (hok b (ha' b o e).1).1
      rw [hr, bl.ro] at this; exact this
    . cases e2 : a b with
      | some o => rw [Low.y8 e2] at e; cases e
      | none =>
        rw [Low.xH e2] at e
        cases e3 : a' b with
        | none => rw [Low.xH e3]; exact e
        | some o =>
          rcases hsub b (ha' b o e3).1 with q | q
          . exact absurd e2 q
          . omega
    . rw [hr]; exact Nat.le_trans bs.rok hn
    . cases e3 : a' b with
      | some o =>
        rw [Low.y8 e3] at e; cases e
        exact ⟨(ha' b o e3).2, (hok b (ha' b o e3).1).2⟩
      | none =>
        rw [Low.xH e3] at e
        obtain ⟨g1, g2⟩ := bl.get b z e
        refine ⟨(hget b (fun q => ?_) g2).trans g1, Nat.lt_of_lt_of_le g2 hn⟩
        rw [(hF b q).1] at e; cases e
    . cases e2 : a b with
      | some o => rw [Low.y8 e2] at e; cases e
      | none => exact hget b (fun q => q e2) hb
theorem Sat.zku {h h1 : za} {L : List HP} {lo : Low} {X : za -> (Nat -> Prop) -> Prop} {F : Nat -> Prop} (hX : Mv X) (s : Sat lo h L) (hn : h.next <= h1.next) (hr : h1.ro = h.ro) (hget : ∀ b, b < h.next -> h1.get b = h.get b) (hx : X h1 F) (hF : ∀ b, F b -> h.next <= b /\ b < h1.next) : Sat lo h1 (own X :: L) := by
  classical
  have bl := s.base
  let a : Part := fun b => if F b then h1.get b else none
  have ha : ∀ b o, a b = some o -> F b /\ h1.get b = some o := fun b o e => by
    have e : (if F b then h1.get b else none) = some o := e
    split at e
    . rename_i q; exact ⟨q, e⟩
    . cases e
  have out : ∀ b o, a b = some o -> lo.get b = none := fun b o e => by
    have := (hF b (ha b o e).1).1
    cases e2 : lo.get b with
    | none => rfl
    | some z => have := (bl.get b z e2).2; omega
  have rok : h1.ro <= h.next := by rw [hr]; exact bl.rok
  refine ⟨a, ⟨h1, hX h1 h1 F _ hx (fun b o hb e => ⟨e, by show (if F b then h1.get b else none) ≠ none; rw [if_pos hb, e]; simp⟩) (fun b hb => ?_), fun b o e => (ha b o e).2⟩, out, fun b o e => ?_, s.to (fun b hb e => ?_) ⟨by rw [hr]; exact bl.ro, Nat.le_trans rok hn, fun b z e => ?_⟩ rfl hn fun b hb e => hget b hb⟩
  . cases e : a b with
    | none => exact absurd e hb
    | some o => have := hF b (ha b o e).1; omega
  . have := hF b (ha b o e).1
    have := bl.ro
    omega
  . cases e3 : a b with
    | none => rw [Low.xH e3]; exact e
    | some o => have := hF b (ha b o e3).1; omega
  . cases e3 : a b with
    | some o =>
      rw [Low.y8 e3] at e; cases e
      exact ⟨(ha b o e3).2, (hF b (ha b o e3).1).2⟩
    | none =>
      rw [Low.xH e3] at e
      obtain ⟨g1, g2⟩ := bl.get b z e
      exact ⟨(hget b g2).trans g1, Nat.lt_of_lt_of_le g2 hn⟩
structure Low.Has (lo : Low) (h0 : za) : Prop where
  ro : lo.ro = h0.ro
  get : ∀ b, b < h0.next -> lo.get b = some (h0.get b)
theorem Low.Has.mono {lo lo' : Low} {h0 : za} (x : lo.Has h0) (l : lo.Le lo') : lo'.Has h0 := ⟨l.ro.trans x.ro, fun b hb => l.get b _ (x.get b hb)⟩
theorem Low.qg (h : za) : (Low.of h).Has h := ⟨rfl, fun b hb => by unfold Low.of; dsimp only; rw [if_pos hb]⟩
theorem Low.Has.old {lo : Low} {h0 h : za} (x : lo.Has h0) (b : zfa lo h) : h0.next <= h.next /\ h.ro = h0.ro /\ ∀ c, c < h0.next -> h.get c = h0.get c := by
  refine ⟨?_, b.ro.trans x.ro, fun c hc => (b.get c _ (x.get c hc)).1⟩
  rcases Nat.eq_zero_or_pos h0.next with e | e
  . omega
  . have := (b.get (h0.next - 1) _ (x.get _ (by omega))).2; omega
end
end Go.Ai
