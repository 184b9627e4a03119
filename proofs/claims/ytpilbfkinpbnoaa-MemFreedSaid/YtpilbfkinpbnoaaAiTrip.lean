/-
  WHAT CODE DOES, told of abstract heaps: 'T' of a piece of code in a frame, 'TO' of a region's operations, 'TC' of a call. Each rule is proved at the machine.
-/
import Derived.Test.YtpilbfkinpbnoaaAiMach
import Derived.Laws.Externs
import Derived.Lib.MakeNoZero
set_option linter.unusedVariables false
namespace Go.Ai
noncomputable section
variable {P : Program}

inductive Ex where
  | normal
  | exit (id : Nat)
  | ret
  deriving DecidableEq

def Arr (P : Program) (m : Machine) (b : Frame) (k : List Item) (cs : List Frame) (e : Ex) (tm : Array Value) (ds : List Deferred) (w : World) : Prop :=
  match e with
  | .normal => Steps P m (lone (fat b tm ds k) cs w)
  | .exit id => ∃ todo, exitTo id todo = exitTo id k ∧ Steps P m (lone (fat b tm ds (.code (.exit id) :: todo)) cs w)
  | .ret => ∃ todo, Steps P m (lone (fat b tm ds (.code .ret :: todo)) cs w)
theorem Arr.of_steps {m m₁ : Machine} {b : Frame} {k : List Item} {cs : List Frame} {e : Ex} {tm : Array Value} {ds : List Deferred} {w : World} (h : Steps P m m₁) (h' : Arr P m₁ b k cs e tm ds w) : Arr P m b k cs e tm ds w := by
  cases e with
  | normal => exact h.trans h'
  | exit id => obtain ⟨t, e, s⟩ := h'; exact ⟨t, e, h.trans s⟩
  | ret => obtain ⟨t, s⟩ := h'; exact ⟨t, h.trans s⟩

theorem not_mine {ρ : Ren} {h : AHeap} {w : World} (hr : Rel P ρ h w) {r : Nat} {o : Obj} (ho : w.heap[r]? = some o) (hn : ∃ x, o = .deferred x) : ¬ Mine ρ h r := by
  rintro ⟨b, ob, pl, hg, _, hm, rfl⟩
  obtain ⟨x, rfl⟩ := hn
  have hc := hr.objAt hg hm
  cases ob with
  | cells c t => obtain ⟨cs, fz, h1, _⟩ := hc; rw [h1] at ho; cases ho
  | map es q => obtain ⟨ms, h1, _⟩ := hc; rw [h1] at ho; cases ho
  | iter m a b c => obtain ⟨m', h1, _⟩ := hc; rw [h1] at ho; cases ho
  | tab c => obtain ⟨t, cs, fz, h1, _⟩ := hc; rw [h1] at ho; cases ho
  | siter s pos => have h1 : w.heap[pl.c]? = _ := hc.1; rw [h1] at ho; cases ho
  | loop l => obtain ⟨tm, d, fn, h1, _⟩ := hc; rw [h1] at ho; cases ho
theorem lt_of_get {w : World} {r : Nat} {o : Obj} (h : w.heap[r]? = some o) : r < w.heap.size := by
  rcases Nat.lt_or_ge r w.heap.size with hl | hl
  · exact hl
  · rw [Array.getElem?_eq_none hl] at h; cases h
/-- A mark among a frame's deferred calls. -/
def mark0 (r : Nat) : Deferred := { target := .collected r, args := #[] }
/-- A frame's deferred calls have got new marks, or none. -/
def DefExt (w : World) (ds : List Deferred) (w' : World) (ds' : List Deferred) : Prop :=
  ∃ rs : List Nat, ds' = rs.map mark0 ++ ds ∧ rs.Nodup ∧ ∀ r, r ∈ rs → w.heap.size ≤ r ∧ w'.heap[r]? = some (.deferred (some []))
theorem DefExt.refl (w w' : World) (ds : List Deferred) : DefExt w ds w' ds := ⟨[], rfl, List.nodup_nil, fun r h => by cases h⟩
theorem DefExt.trans {ρ ρ' : Ren} {h h' : AHeap} {w w1 w2 : World} {ds ds1 ds2 : List Deferred} (a : DefExt w ds w1 ds1) (b : DefExt w1 ds1 w2 ds2) (hle : w.heap.size ≤ w1.heap.size) (hr : Rel P ρ h w1) (st : Step P ρ h w1 ρ' h' w2) : DefExt w ds w2 ds2 := by
  obtain ⟨rs, h1, h2, h3⟩ := a
  obtain ⟨rs2, k1, k2, k3⟩ := b
  refine ⟨rs2 ++ rs, by rw [k1, h1, List.map_append, List.append_assoc], List.nodup_append.2 ⟨k2, h2, fun x hx y hy e => ?_⟩, fun r hr' => ?_⟩
  · have := (k3 x hx).1
    have := lt_of_get (h3 y hy).2
    omega
  · rcases List.mem_append.1 hr' with hm | hm
    · exact ⟨Nat.le_trans hle (k3 r hm).1, (k3 r hm).2⟩
    · have := (h3 r hm).2
      refine ⟨(h3 r hm).1, ?_⟩
      rw [st.frame r (lt_of_get this) (not_mine hr this ⟨_, rfl⟩)]
      exact this

/-- Is the frame a round, and of which loop? -/
def Rd (ρ : Ren) (rd : Option Nat) (b : Frame) : Prop :=
  match rd with
  | none => b.roundOf = none
  | some l => l < ρ.next ∧ ∃ pl, ρ.m l = some pl ∧ b.roundOf = some pl.c
theorem Rd.mono {ρ ρ' : Ren} (hle : ρ.le ρ') {rd : Option Nat} {b : Frame} (h : Rd ρ rd b) : Rd ρ' rd b := by
  cases rd with
  | none => exact h
  | some l => exact ⟨Nat.lt_of_lt_of_le h.1 hle.1, by obtain ⟨pl, hp, hb⟩ := h.2; exact ⟨pl, (hle.2 l h.1).trans hp, hb⟩⟩
def T (P : Program) (rd : Option Nat) (c : Code) (s : Env) (h : AHeap) (Q : Ex → Env → AHeap → Prop) : Prop :=
  ∀ (ρ : Ren) (w : World) (tm : Array Value) (ds : List Deferred), Rel P ρ h w → EnvRel ρ s tm → ∀ (b : Frame), Rd ρ rd b → ∀ (k : List Item) (cs : List Frame),
    ∃ e s' h' ρ' w' tm' ds', Q e s' h' ∧ Step P ρ h w ρ' h' w' ∧ EnvRel ρ' s' tm' ∧ DefExt w ds w' ds' ∧ Arr P (lone (fat b tm ds (.code c :: k)) cs w) b k cs e tm' ds' w'
def TO (P : Program) (ops : Array Oper) (l : List Nat) (s : Env) (h : AHeap) (Q : Env → AHeap → Prop) : Prop :=
  ∀ (ρ : Ren) (w : World) (tm : Array Value) (ds : List Deferred), Rel P ρ h w → EnvRel ρ s tm → ∀ (b : Frame) (k : List Item) (cs : List Frame),
    ∃ s' h' ρ' w' tm', Q s' h' ∧ Step P ρ h w ρ' h' w' ∧ EnvRel ρ' s' tm' ∧ Steps P (lone (fat b tm ds (.inRegion ops l :: k)) cs w) (lone (fat b tm' ds (.inRegion ops [] :: k)) cs w')
def TC (P : Program) (f : FuncId) (args : List Value) (h : AHeap) (R : Value → AHeap → Prop) : Prop :=
  ∀ (ρ : Ren) (w : World) (cargs : List Value), Rel P ρ h w → VList ρ args cargs →
    Calls P f cargs.toArray w fun e w' => ∃ v v' h' ρ', e = .returned v' ∧ R v h' ∧ Step P ρ h w ρ' h' w' ∧ VRel ρ' v v'

section rules
variable {rd : Option Nat} {s : Env} {h : AHeap} {Q : Ex → Env → AHeap → Prop}
theorem T.mono {c : Code} {Q' : Ex → Env → AHeap → Prop} (ht : T P rd c s h Q) (hq : ∀ e s h, Q e s h → Q' e s h) : T P rd c s h Q' := by
  intro ρ w tm ds hr hs b hb k cs
  obtain ⟨e, s', h', ρ', w', tm', ds', q, r⟩ := ht ρ w tm ds hr hs b hb k cs
  exact ⟨e, s', h', ρ', w', tm', ds', hq _ _ _ q, r⟩
theorem TC.mono {f : FuncId} {args : List Value} {R R' : Value → AHeap → Prop} (ht : TC P f args h R) (hq : ∀ v h, R v h → R' v h) : TC P f args h R' := by
  intro ρ w cargs hr hv
  refine (ht ρ w cargs hr hv).mono fun e w' => ?_
  rintro ⟨v, v', h', ρ', e1, q, r⟩
  exact ⟨v, v', h', ρ', e1, hq _ _ q, r⟩
theorem T_skip (hq : Q .normal s h) : T P rd .skip s h Q := fun ρ w tm ds hr hs b hb k cs => ⟨.normal, s, h, ρ, w, tm, ds, hq, .refl hr, hs, .refl _ _ _, .one fstep_skip⟩
theorem T_label {l : Nat} (hq : Q .normal s h) : T P rd (.label l) s h Q := fun ρ w tm ds hr hs b hb k cs => ⟨.normal, s, h, ρ, w, tm, ds, hq, .refl hr, hs, .refl _ _ _, .one fstep_label⟩
theorem T_exit {id : Nat} (hq : Q (.exit id) s h) : T P rd (.exit id) s h Q := fun ρ w tm ds hr hs b hb k cs => ⟨.exit id, s, h, ρ, w, tm, ds, hq, .refl hr, hs, .refl _ _ _, k, rfl, .refl P _⟩
theorem T_ret (hq : Q .ret s h) : T P rd .ret s h Q := fun ρ w tm ds hr hs b hb k cs => ⟨.ret, s, h, ρ, w, tm, ds, hq, .refl hr, hs, .refl _ _ _, k, .refl P _⟩
theorem T_seq {x y : Code} (ht : T P rd x s h (fun e s1 h1 => match e with | .normal => T P rd y s1 h1 Q | e => Q e s1 h1)) : T P rd (.seq x y) s h Q := by
  intro ρ w tm ds hr hs b hb k cs
  obtain ⟨e, s1, h1, ρ1, w1, tm1, ds1, q, st, hs1, hd1, ha⟩ := ht ρ w tm ds hr hs b hb (.code y :: k) cs
  cases e with
  | normal =>
    obtain ⟨e2, s2, h2, ρ2, w2, tm2, ds2, q2, st2, hs2, hd2, ha2⟩ := q ρ1 w1 tm1 ds1 st.rel hs1 b (hb.mono st.le) k cs
    exact ⟨e2, s2, h2, ρ2, w2, tm2, ds2, q2, st.trans st2, hs2, hd1.trans hd2 st.size st.rel st2, .of_steps (.head fstep_seq ha) ha2⟩
  | exit id => obtain ⟨t, et, sx⟩ := ha; exact ⟨_, s1, h1, ρ1, w1, tm1, ds1, q, st, hs1, hd1, t, et, .head fstep_seq sx⟩
  | ret => obtain ⟨t, sx⟩ := ha; exact ⟨_, s1, h1, ρ1, w1, tm1, ds1, q, st, hs1, hd1, t, .head fstep_seq sx⟩
theorem T_cond {c : Operand} {x y : Code} {t : Bool} (hc : aev s c = some (.bool t)) (ht : T P rd (if t then x else y) s h Q) : T P rd (.cond c x y) s h Q := by
  intro ρ w tm ds hr hs b hb k cs
  obtain ⟨e, s1, h1, ρ1, w1, tm1, ds1, q, st, hs1, hd1, ha⟩ := ht ρ w tm ds hr hs b hb k cs
  have he := aev_sound (a := ⟨tm, ds⟩) hs hc
  have : Act.eval ⟨tm, ds⟩ c = .bool t := by
    generalize Act.eval ⟨tm, ds⟩ c = v at he
    cases he; rfl
  exact ⟨e, s1, h1, ρ1, w1, tm1, ds1, q, st, hs1, hd1, .of_steps (.one (fstep_cond this)) ha⟩
theorem T_block {id : Nat} {c : Code} (ht : T P rd c s h (fun e s1 h1 => if e = .exit id then Q .normal s1 h1 else Q e s1 h1)) : T P rd (.block id c) s h Q := by
  intro ρ w tm ds hr hs b hb k cs
  obtain ⟨e, s1, h1, ρ1, w1, tm1, ds1, q, st, hs1, hd1, ha⟩ := ht ρ w tm ds hr hs b hb (.inBlock id :: k) cs
  cases e with
  | normal => rw [if_neg (by simp)] at q; exact ⟨.normal, s1, h1, ρ1, w1, tm1, ds1, q, st, hs1, hd1, .head fstep_block (Steps.trans ha (.one fstep_inBlock))⟩
  | exit id' =>
    obtain ⟨t, et, sx⟩ := ha
    by_cases hid : id' = id
    · subst hid
      rw [if_pos rfl] at q
      refine ⟨.normal, s1, h1, ρ1, w1, tm1, ds1, q, st, hs1, hd1, .head fstep_block (sx.trans (.one (fstep_exit (k' := k) ?_)))⟩
      rw [et]; simp [exitTo]
    · rw [if_neg (by simpa using hid)] at q
      refine ⟨.exit id', s1, h1, ρ1, w1, tm1, ds1, q, st, hs1, hd1, t, ?_, .head fstep_block sx⟩
      rw [et]
      have : (id == id') = false := by simp; exact fun h => hid h.symm
      simp [exitTo, this]
  | ret => obtain ⟨t, sx⟩ := ha; rw [if_neg (by simp)] at q; exact ⟨.ret, s1, h1, ρ1, w1, tm1, ds1, q, st, hs1, hd1, t, .head fstep_block sx⟩
theorem T_scope {c : Code} (ht : T P rd c s h Q) : T P rd (.scope c) s h Q := by
  intro ρ w tm ds hr hs b hb k cs
  obtain ⟨e, s1, h1, ρ1, w1, tm1, ds1, q, st, hs1, hd1, ha⟩ := ht ρ w tm ds hr hs b hb (.inScope c :: k) cs
  cases e with
  | normal => exact ⟨.normal, s1, h1, ρ1, w1, tm1, ds1, q, st, hs1, hd1, .head fstep_scope (Steps.trans ha (.one fstep_inScope))⟩
  | exit id => obtain ⟨t, et, sx⟩ := ha; exact ⟨_, s1, h1, ρ1, w1, tm1, ds1, q, st, hs1, hd1, t, by rw [et]; simp [exitTo], .head fstep_scope sx⟩
  | ret => obtain ⟨t, sx⟩ := ha; exact ⟨_, s1, h1, ρ1, w1, tm1, ds1, q, st, hs1, hd1, t, .head fstep_scope sx⟩
/-- One round of a loop. -/
theorem T_loop_step {c : Code} (ht : T P rd c s h (fun e s1 h1 => match e with | .normal => T P rd (.loop c) s1 h1 Q | e => Q e s1 h1)) : T P rd (.loop c) s h Q := by
  intro ρ w tm ds hr hs b hb k cs
  obtain ⟨e, s1, h1, ρ1, w1, tm1, ds1, q, st, hs1, hd1, ha⟩ := ht ρ w tm ds hr hs b hb (.inLoop c :: k) cs
  cases e with
  | normal =>
    obtain ⟨e2, s2, h2, ρ2, w2, tm2, ds2, q2, st2, hs2, hd2, ha2⟩ := q ρ1 w1 tm1 ds1 st.rel hs1 b (hb.mono st.le) k cs
    -- the loop's second beginning: 'inLoop' and 'loop' step to the same
    refine ⟨e2, s2, h2, ρ2, w2, tm2, ds2, q2, st.trans st2, hs2, hd1.trans hd2 st.size st.rel st2, ?_⟩
    have e0 : step P (lone (fat b tm1 ds1 (.inLoop c :: k)) cs w1) = step P (lone (fat b tm1 ds1 (.code (.loop c) :: k)) cs w1) := by rw [fstep_inLoop, fstep_loop]
    have key : ∀ m', Steps P (lone (fat b tm1 ds1 (.code (.loop c) :: k)) cs w1) m' → (m' = lone (fat b tm1 ds1 (.code (.loop c) :: k)) cs w1) ∨ Steps P (lone (fat b tm1 ds1 (.inLoop c :: k)) cs w1) m' := by
      rintro m' ⟨n, hn⟩
      cases n with
      | zero => left; simp [runN] at hn; exact hn.symm
      | succ n => right; exact ⟨n + 1, by simp only [runN] at hn ⊢; rw [e0]; exact hn⟩
    have go : ∀ m', Steps P (lone (fat b tm1 ds1 (.code (.loop c) :: k)) cs w1) m' → m' ≠ lone (fat b tm1 ds1 (.code (.loop c) :: k)) cs w1 → Steps P (lone (fat b tm ds (.code (.loop c) :: k)) cs w) m' := by
      intro m' hm hne
      exact (Steps.head fstep_loop ha).trans ((key m' hm).resolve_left hne)
    have neq : ∀ (k' : List Item) tm' ds' w', (k' = k ∨ (∃ x t, k' = .code x :: t ∧ ∀ c, x ≠ .loop c)) → lone (fat b tm' ds' k') cs w' ≠ lone (fat b tm1 ds1 (.code (.loop c) :: k)) cs w1 := by
      intro k' tm' ds' w' hk' e
      simp only [lone, Machine.mk.injEq, Array.mk.injEq, List.cons.injEq, Goroutine.mk.injEq, fat, Frame.mk.injEq] at e
      have e := e.2.1.1.1.2.2.1
      rcases hk' with rfl | ⟨x, t, rfl, hx⟩
      · have := congrArg List.length e; simp at this
      · simp only [List.cons.injEq, Item.code.injEq] at e; exact hx c e.1
    cases e2 with
    | normal => exact go _ ha2 (neq _ _ _ _ (.inl rfl))
    | exit id => obtain ⟨t, et, sx⟩ := ha2; exact ⟨t, et, go _ sx (neq _ _ _ _ (.inr ⟨_, _, rfl, fun c => by simp⟩))⟩
    | ret => obtain ⟨t, sx⟩ := ha2; exact ⟨t, go _ sx (neq _ _ _ _ (.inr ⟨_, _, rfl, fun c => by simp⟩))⟩
  | exit id => obtain ⟨t, et, sx⟩ := ha; exact ⟨_, s1, h1, ρ1, w1, tm1, ds1, q, st, hs1, hd1, t, by rw [et]; simp [exitTo], .head fstep_loop sx⟩
  | ret => obtain ⟨t, sx⟩ := ha; exact ⟨_, s1, h1, ρ1, w1, tm1, ds1, q, st, hs1, hd1, t, .head fstep_loop sx⟩
/-- A loop by a measure. -/
theorem T_loop {c : Code} (I : Env → AHeap → Prop) (μ : Env → AHeap → Nat) (h0 : I s h)
    (round : ∀ s h, I s h → T P rd c s h (fun e s1 h1 => match e with | .normal => I s1 h1 ∧ μ s1 h1 < μ s h | e => Q e s1 h1)) : T P rd (.loop c) s h Q := by
  have key : ∀ n s h, μ s h = n → I s h → T P rd (.loop c) s h Q := by
    intro n
    induction n using Nat.strongRecOn with
    | _ n ih =>
      intro s h hn hI
      refine T_loop_step ((round s h hI).mono ?_)
      intro e s1 h1 q
      cases e with
      | normal => exact ih _ (hn ▸ q.2) s1 h1 rfl q.1
      | exit id => exact q
      | ret => exact q
  exact key _ s h rfl h0
end rules

/-! ### A region's operations -/
def awanted (ops : Array Oper) (s : Env) (o : Oper) : Bool :=
  match o.guard with
  | none => true
  | some (j, want) => (match (ops[j]?).bind (·.dst) with
    | none => false
    | some d => (match s.get d with
      | .bool b => b == want
      | _ => false))
theorem awanted_eq {ρ : Ren} {s : Env} {tm : Array Value} (hs : EnvRel ρ s tm) (ops : Array Oper) (o : Oper) : Region.wanted o (yielded ops tm) = awanted ops s o := by
  unfold Region.wanted awanted
  split
  · rename_i e; rw [e]
  · rename_i j want e
    rw [e]
    simp only [yielded]
    cases hd : (ops[j]?).bind (·.dst) with
    | none => rfl
    | some d =>
      simp only [Option.bind_some]
      have hv := hs.get d
      cases ht : tm[d]? with
      | none =>
        have : tm.getD d undef = undef := by simp [Array.getD_eq_getD_getElem?, ht]
        rw [this] at hv
        generalize s.get d = sv at hv
        cases hv with
        | odd h => cases h
        | tuple _ _ => rfl
      | some tv =>
        have : tm.getD d undef = tv := by simp [Array.getD_eq_getD_getElem?, ht]
        rw [this] at hv
        generalize s.get d = sv at hv
        cases hv with
        | odd h => cases tv <;> first | rfl | cases h
        | bool bb => cases bb <;> cases want <;> rfl
        | _ => rfl

section ops
variable {s : Env} {h : AHeap} {Q : Env → AHeap → Prop} {ops : Array Oper}
theorem TO_nil (hq : Q s h) : TO P ops [] s h Q := fun ρ w tm ds hr hs b k cs => ⟨s, h, ρ, w, tm, hq, .refl hr, hs, .refl P _⟩
theorem isDefer_of_aop {o : Oper} {v : Value} {h1 : AHeap} (ho : aop P s o h = some (v, h1)) : isDefer o.op = false := by
  cases hop : o.op <;> first | rfl | (unfold aop at ho; rw [hop] at ho; cases ho)
theorem TO_ok {i : Nat} {rest : List Nat} {o : Oper} (ho : ops[i]? = some o) (hw : awanted ops s o = true) {v : Value} {h1 : AHeap} {s1 : Env} (hd : isDefer o.op = false) (hok : ∀ (ρ : Ren) (w : World) (a : Act), Rel P ρ h w → EnvRel ρ s a.tmps → OpOk P ρ h w (execOp a.eval o) v h1) (hp : s.put o.dst v = some s1) (ht : TO P ops rest s1 h1 Q) :
    TO P ops (i :: rest) s h Q := by
  intro ρ w tm ds hr hs b k cs
  obtain ⟨n, w1, ρ1, v', e, hn, st, hv⟩ := hok ρ w ⟨tm, ds⟩ hr hs
  have hs1 : EnvRel ρ1 s1 (putTm tm o.dst v') := (hs.mono st.le).put hv hp
  obtain ⟨s2, h2, ρ2, w2, tm2, q, st2, hs2, sx⟩ := ht ρ1 w1 _ ds st.rel hs1 b k cs
  have hw' : Region.wanted o (yielded ops tm) = true := (awanted_eq hs ops o).trans hw
  refine ⟨s2, h2, ρ2, w2, tm2, q, st.trans st2, hs2, .head ?_ sx⟩
  have hfin : (fat b tm ds (.inRegion ops (i :: rest) :: k)).finish v' = fat b (putTm tm o.dst v') ds (.inRegion ops rest :: k) := by
    rw [fat_finish, ho]; rfl
  rw [← hfin]
  rcases hn with rfl | ⟨rfl, rfl⟩
  · exact fstep_op_value ho hw' hd e
  · exact fstep_op_done ho hw' hd e
theorem TO_op {i : Nat} {rest : List Nat} {o : Oper} (ho : ops[i]? = some o) (hw : awanted ops s o = true) {v : Value} {h1 : AHeap} {s1 : Env} (hop : aop P s o h = some (v, h1)) (hp : s.put o.dst v = some s1) (ht : TO P ops rest s1 h1 Q) :
    TO P ops (i :: rest) s h Q := by
  intro ρ w tm ds hr hs b k cs
  obtain ⟨n, w1, ρ1, v', e, hn, st, hv⟩ := aop_sound (a := ⟨tm, ds⟩) hop hr hs
  have hs1 : EnvRel ρ1 s1 (putTm tm o.dst v') := (hs.mono st.le).put hv hp
  obtain ⟨s2, h2, ρ2, w2, tm2, q, st2, hs2, sx⟩ := ht ρ1 w1 _ ds st.rel hs1 b k cs
  have hw' : Region.wanted o (yielded ops tm) = true := (awanted_eq hs ops o).trans hw
  refine ⟨s2, h2, ρ2, w2, tm2, q, st.trans st2, hs2, .head ?_ sx⟩
  have hfin : (fat b tm ds (.inRegion ops (i :: rest) :: k)).finish v' = fat b (putTm tm o.dst v') ds (.inRegion ops rest :: k) := by
    rw [fat_finish, ho]; rfl
  rw [← hfin]
  rcases hn with rfl | ⟨rfl, rfl⟩
  · exact fstep_op_value ho hw' (isDefer_of_aop hop) e
  · exact fstep_op_done ho hw' (isDefer_of_aop hop) e
theorem TO_skip {i : Nat} {rest : List Nat} {o : Oper} (ho : ops[i]? = some o) (hw : awanted ops s o = false) {s1 : Env} (hp : s.put o.dst undef = some s1) (ht : TO P ops rest s1 h Q) : TO P ops (i :: rest) s h Q := by
  intro ρ w tm ds hr hs b k cs
  have hs1 : EnvRel ρ s1 (putTm tm o.dst undef) := hs.put (.of_plain _ rfl) hp
  obtain ⟨s2, h2, ρ2, w2, tm2, q, st2, hs2, sx⟩ := ht ρ w _ ds hr hs1 b k cs
  refine ⟨s2, h2, ρ2, w2, tm2, q, st2, hs2, .head ?_ sx⟩
  have hw' : Region.wanted o (yielded ops tm) = false := (awanted_eq hs ops o).trans hw
  rw [fstep_op_skip (by rw [ho]; exact hw'), fat_finish, ho]
  rfl
/-- A call, by what is known of the function. -/
def callable (P : Program) (g : FuncId) : Bool :=
  match P.funcs[g]? with
  | some fn => fn.body.isSome && !(fn.name == "runtime.NumGoroutine")
  | none => false
theorem TO_call {i : Nat} {rest : List Nat} {o : Oper} {f : Operand} {cargs : Array Operand} {ts : Array TypeId} {g : FuncId} {fa fc : Array Value} {vs : List Value} {R : Value → AHeap → Prop}
    (ho : ops[i]? = some o) (hw : awanted ops s o = true) (hop : o.op = .call { callee := .value f, args := cargs, argTypes := ts }) (hf : aev s f = some (.func (.func g) fa fc)) (hargs : aevs s cargs.toList = some vs)
    (hcall : callable P g = true) (hc : TC P g (fa.toList ++ vs ++ fc.toList) h R) (ht : ∀ v h1, R v h1 → ∃ s1, s.put o.dst v = some s1 ∧ TO P ops rest s1 h1 Q) : TO P ops (i :: rest) s h Q := by
  intro ρ w tm ds hr hs b k cs
  have hw' : Region.wanted o (yielded ops tm) = true := (awanted_eq hs ops o).trans hw
  have e1 := aev_sound (a := ⟨tm, ds⟩) hs hf
  have e2 := aevs_sound (a := ⟨tm, ds⟩) hs hargs
  generalize hfv : Act.eval ⟨tm, ds⟩ f = fv at e1
  cases e1 with
  | func ha hcs h1 h2 =>
    rename_i fa' fc'
    let full := fa'.toList ++ cargs.toList.map (Act.eval ⟨tm, ds⟩) ++ fc'.toList
    have hfull : VList ρ (fa.toList ++ vs ++ fc.toList) full :=
      (VList.append ⟨by simpa using ha, fun i x y hx hy => h1 i x y (by simpa using hx) (by simpa using hy)⟩ e2).append ⟨by simpa using hcs, fun i x y hx hy => h2 i x y (by simpa using hx) (by simpa using hy)⟩
    have hrun : (execOp (Act.eval ⟨tm, ds⟩) o).run P w = .ok (.enter g full.toArray) w := by
      have hargs' : fa' ++ cargs.map (Act.eval ⟨tm, ds⟩) ++ fc' = full.toArray := by apply Array.ext'; simp [full]
      simp only [execOp, hop, resolve, hfv, Deferred.ofValue, Sem.run_bind, Sem.run_pure, Result.andThen_ok, invoke, callFunc, run_program, hargs']
      unfold callable at hcall
      cases hfn : P.funcs[g]? with
      | none => rw [hfn] at hcall; cases hcall
      | some fn =>
        rw [hfn] at hcall
        simp only [Bool.and_eq_true, Bool.not_eq_true'] at hcall
        simp only [hcall.2, Bool.false_eq_true, if_false]
        rw [if_neg (by cases hb : fn.body <;> simp_all)]
        rfl
    obtain ⟨e, w1, fr, ⟨v, v', h', ρ', rfl, hR, st, hv⟩, hcomes, _, hleave⟩ := hc ρ w full hr hfull (fat b tm ds (.inRegion ops (i :: rest) :: k) :: cs)
    obtain ⟨s1, hp, hrest⟩ := ht v h' hR
    have hs1 : EnvRel ρ' s1 (putTm tm o.dst v') := (hs.mono st.le).put hv hp
    obtain ⟨s2, h2, ρ2, w2, tm2, q, st2, hs2, sx⟩ := hrest ρ' w1 _ ds st.rel hs1 b k cs
    have hd : isDefer o.op = false := by rw [hop]; rfl
    refine ⟨s2, h2, ρ2, w2, tm2, q, st.trans st2, hs2, .head (fstep_op_enter ho hw' hd hrun) (Steps.trans hcomes (.head (step_leave_returned hleave) ?_))⟩
    rw [fat_finish, ho]
    exact sx
end ops

/-- abi.NoEscape: its argument. -/
def noEsc (P : Program) (g : FuncId) (args : List Value) (h : AHeap) : Option (Value × AHeap) :=
  match P.funcs[g]? with
  | some fn => cond (fn.body.isNone && decide (fn.name = "internal/abi.NoEscape") && (Extern.findNext fn).isNone) (match args with
    | [x] => some (x, h)
    | _ => none) none
  | none => none
theorem find_noEsc {fn : Func} (h : fn.name = "internal/abi.NoEscape") : Extern.find fn = some Extern.AbiNoEscape.same := by
  unfold Extern.find
  rw [h]
  rfl
theorem noEsc_ok {ρ : Ren} {s : Env} {h h1 : AHeap} {w : World} {a : Act} {o : Oper} {f : Operand} {cargs : Array Operand} {ts : Array TypeId} {g : FuncId} {fa fc : Array Value} {vs : List Value} {v : Value}
    (hop : o.op = .call { callee := .value f, args := cargs, argTypes := ts }) (hf : aev s f = some (.func (.func g) fa fc)) (hargs : aevs s cargs.toList = some vs) (he : noEsc P g (fa.toList ++ vs ++ fc.toList) h = some (v, h1)) (hr : Rel P ρ h w) (hs : EnvRel ρ s a.tmps) :
    OpOk P ρ h w (execOp a.eval o) v h1 := by
  have e1 := aev_sound hs hf
  have e2 := aevs_sound hs hargs
  generalize hfv : a.eval f = fv at e1
  cases e1 with
  | func ha hcs q1 q2 =>
    rename_i fa' fc'
    let full := fa'.toList ++ cargs.toList.map a.eval ++ fc'.toList
    have hfull : VList ρ (fa.toList ++ vs ++ fc.toList) full :=
      (VList.append ⟨by simpa using ha, fun i x y hx hy => q1 i x y (by simpa using hx) (by simpa using hy)⟩ e2).append ⟨by simpa using hcs, fun i x y hx hy => q2 i x y (by simpa using hx) (by simpa using hy)⟩
    have hargs' : fa' ++ cargs.map a.eval ++ fc' = full.toArray := by apply Array.ext'; simp [full]
    unfold noEsc at he
    split at he
    case h_2 => cases he
    rename_i fn hfn
    obtain ⟨hc, he⟩ := cond_some he
    simp only [Bool.and_eq_true, decide_eq_true_eq] at hc
    obtain ⟨⟨hb, hn⟩, hx⟩ := hc
    split at he
    case h_2 => cases he
    rename_i x hl
    simp only [Option.some.injEq, Prod.mk.injEq] at he
    obtain ⟨rfl, rfl⟩ := he
    rw [hl] at hfull
    obtain ⟨y, ys, hy, v1, hv2⟩ := hfull.cons_inv
    cases hv2.nil_inv
    have hfn' : Extern.findNext fn = none := by simpa using hx
    refine ⟨.value y, w, ρ, y, ?_, .inl rfl, .refl hr, v1⟩
    simp only [execOp, hop, resolve, hfv, Deferred.ofValue, Sem.run_bind, Sem.run_pure, Result.andThen_ok, invoke, hargs', hy]
    rw [Go.run_callFunc_extern hfn (by rw [hn]; decide) hb hfn' (find_noEsc hn)]
    rfl

/-- bytealg.MakeNoZero: a new row of bytes of which nothing is known. -/
def mkNoZero (P : Program) (g : FuncId) (args : List Value) (h : AHeap) : Option (Value × AHeap) :=
  match P.funcs[g]?, args with
  | some fn, [.int .i64 n] => cond (fn.body.isNone && decide (fn.name = "internal/bytealg.MakeNoZero") && (Extern.findNext fn).isNone && decide (0 ≤ n) && decide (n ≤ 2 ^ 48))
      (match fn.resultTypes[0]? with
        | some t => (match srun P (underlying t) with
          | some (.slice e) => cond (Nat.beq (P.cellsOf e) 1) (some (.slice (some ⟨h.next, 0, none⟩) n.toNat 1, h.push (.cells [] e))) none
          | _ => none)
        | none => none) none
  | _, _ => none
theorem find_mkNoZero {fn : Func} (h : fn.name = "internal/bytealg.MakeNoZero") : Extern.find fn = some (Extern.BytealgMakeNoZero.makeNoZero fn.params fn.resultTypes) := by
  unfold Extern.find
  rw [h]
  rfl
theorem run_mkNoZero {ρ : Ren} {h : AHeap} {w : World} (hr : Rel P ρ h w) {ps rs : Array TypeId} {t e : TypeId} {n : Int} (ht : rs[0]? = some t) (hu : srun P (underlying t) = some (.slice e)) (hc : P.cellsOf e = 1) (h0 : 0 ≤ n) (hn : n ≤ 2 ^ 48) :
    ∃ v' w' ρ', (Extern.BytealgMakeNoZero.makeNoZero ps rs #[.int .i64 n]).run P w = .ok v' w' ∧ Step P ρ h w ρ' (h.push (.cells [] e)) w' ∧ VRel ρ' (.slice (some ⟨h.next, 0, none⟩) n.toNat 1) v' := by
  let q : Question := .appendCap n.toNat 0 e
  let cap := q.cut (w.tape w.drawn q)
  have hge : n.toNat ≤ cap := by show n.toNat ≤ n.toNat + _ % _; omega
  let w1 : World := { w with drawn := w.drawn + 1 }
  let q2 : Question := .extern "internal/bytealg.MakeNoZero.bytes" 0
  let bytes := q2.cut (w1.tape w1.drawn q2)
  let w2 : World := { w1 with drawn := w1.drawn + 1 }
  let cs := Extern.BytealgMakeNoZero.digits cap bytes #[]
  have hcs : cs.size = cap := by simp only [cs, Lib.size_digits]; simp
  have hr2 : Rel P ρ h w2 := hr.grow (fun k _ => rfl)
  let w3 : World := { w2 with heap := w2.heap.push (.cells cs e) }
  have st := Step.push (t := e) hr2 (c := []) (cs := cs) (fz := (0, 0)) (w' := w3) rfl (fun i _ hi => by simp at hi) (by simp) (fun k x hx => by simp at hx) rfl rfl rfl
  refine ⟨.slice (some ⟨w.heap.size, 0, none⟩) n.toNat cap, w3, _, ?_, ⟨st.le, st.rel, st.ro, st.os, st.tape, st.output, st.size, st.frame, st.img⟩, ?_⟩
  · have hq : (choose (.appendCap n.toNat 0 e)).run P w = .ok cap w1 := by rw [run_choose]; rfl
    have hq2 : (choose (.extern "internal/bytealg.MakeNoZero.bytes" 0)).run P w1 = .ok bytes w2 := by rw [run_choose]; rfl
    have hneg : ¬ (n < 0 ∨ n > 2 ^ 48) := by omega
    have hnr : (newRow e cs).run P w2 = .ok ⟨w.heap.size, 0, none⟩ w3 := rfl
    rw [show Extern.BytealgMakeNoZero.makeNoZero ps rs #[.int .i64 n] = (match rs[0]? with | some t => (underlying t >>= _) | _ => _) from rfl]
    simp only [ht, Sem.run_bind, srun_sound hu, Result.andThen_ok]
    rw [if_neg (by simpa using hneg)]
    simp only [Sem.run_bind, hq, Result.andThen_ok, run_askRoom, hq2]
    rw [show Extern.BytealgMakeNoZero.digits cap bytes #[] = cs from rfl, hnr]
    rfl
  · have := VRel.slice (ρ := ρ.ext ⟨w2.heap.size, 0, cs.size, P.cellsOf e⟩) (b := h.next) (off := 0) (len := n.toNat) (c := 1) (cap := cap) (pl := ⟨w2.heap.size, 0, cs.size, P.cellsOf e⟩)
      (by show h.next < ρ.next + 1; rw [hr.next]; exact Nat.lt_succ_self _) (by rw [← hr.next]; exact ρ.ext_next _) hge (fun _ => ⟨by simp [hc, hcs], fun k hk => by omega⟩)
    exact this
/-- The functions without a body that are known. -/
def aext (P : Program) (g : FuncId) (args : List Value) (h : AHeap) : Option (Value × AHeap) :=
  match noEsc P g args h with
  | some r => some r
  | none => mkNoZero P g args h
theorem aext_ok {ρ : Ren} {s : Env} {h h1 : AHeap} {w : World} {a : Act} {o : Oper} {f : Operand} {cargs : Array Operand} {ts : Array TypeId} {g : FuncId} {fa fc : Array Value} {vs : List Value} {v : Value}
    (hop : o.op = .call { callee := .value f, args := cargs, argTypes := ts }) (hf : aev s f = some (.func (.func g) fa fc)) (hargs : aevs s cargs.toList = some vs) (he : aext P g (fa.toList ++ vs ++ fc.toList) h = some (v, h1)) (hr : Rel P ρ h w) (hs : EnvRel ρ s a.tmps) :
    OpOk P ρ h w (execOp a.eval o) v h1 := by
  unfold aext at he
  split at he
  · rename_i r hn
    simp only [Option.some.injEq] at he
    subst he
    exact noEsc_ok hop hf hargs hn hr hs
  · have e1 := aev_sound hs hf
    have e2 := aevs_sound hs hargs
    generalize hfv : a.eval f = fv at e1
    cases e1 with
    | func ha hcs q1 q2 =>
      rename_i fa' fc'
      let full := fa'.toList ++ cargs.toList.map a.eval ++ fc'.toList
      have hfull : VList ρ (fa.toList ++ vs ++ fc.toList) full :=
        (VList.append ⟨by simpa using ha, fun i x y hx hy => q1 i x y (by simpa using hx) (by simpa using hy)⟩ e2).append ⟨by simpa using hcs, fun i x y hx hy => q2 i x y (by simpa using hx) (by simpa using hy)⟩
      have hargs' : fa' ++ cargs.map a.eval ++ fc' = full.toArray := by apply Array.ext'; simp [full]
      unfold mkNoZero at he
      split at he
      case h_2 => cases he
      rename_i fn n hfn hl
      obtain ⟨hc, he2⟩ := cond_some he
      clear he
      simp only [Bool.and_eq_true, decide_eq_true_eq] at hc
      obtain ⟨⟨⟨⟨hb, hn⟩, hx⟩, h0⟩, h48⟩ := hc
      split at he2
      case h_2 => cases he2
      rename_i t ht
      split at he2
      case h_2 => cases he2
      rename_i e hu
      obtain ⟨hce, he3⟩ := cond_some he2
      simp only [Option.some.injEq, Prod.mk.injEq] at he3
      obtain ⟨rfl, rfl⟩ := he3
      rw [hl] at hfull
      obtain ⟨y, ys, hy, v1, hv2⟩ := hfull.cons_inv
      cases hv2.nil_inv
      cases v1
      have hfn' : Extern.findNext fn = none := by simpa using hx
      obtain ⟨v', w', ρ', er, st, hv⟩ := run_mkNoZero (ps := fn.params) hr ht hu (Nat.eq_of_beq_eq_true hce) h0 h48
      refine ⟨.value v', w', ρ', v', ?_, .inl rfl, st, hv⟩
      simp only [execOp, hop, resolve, hfv, Deferred.ofValue, Sem.run_bind, Sem.run_pure, Result.andThen_ok, invoke, hargs', hy]
      rw [Go.run_callFunc_extern hfn (by rw [hn]; decide) hb hfn' (find_mkNoZero hn), er]
      rfl

/-- A value that names no block of the heap. -/
def scal : Value → Bool
  | .tuple a => a.toList.all flat
  | v => flat v
theorem scal_eq {ρ : Ren} {v v' : Value} (h : VRel ρ v v') (hp : scal v = true) (ρ2 : Ren) : VRel ρ2 v v' := by
  cases v with
  | tuple a =>
    cases h with
    | tuple ha hv =>
      simp only [scal, List.all_eq_true] at hp
      refine .tuple ha (fun i x y hx hy => ?_)
      have hf := hp x (List.mem_of_getElem? (by simpa using hx))
      rw [flat_eq (hv i x y hx hy) hf]
      exact .of_flat _ hf
  | _ => rw [flat_eq h hp]; exact .of_flat _ hp
theorem Rel.lock {ρ : Ren} {h : AHeap} {w : World} (hr : Rel P ρ h w) : Rel P ρ h.lock w :=
  ⟨hr.next, Nat.le_refl _, hr.dom, fun b o hb => by obtain ⟨pl, hp, hc⟩ := hr.ok b o hb; exact ⟨pl, hp, hc.weak (fun e => by
    have : h.next ≤ b := of_decide_eq_true e
    have := hr.dom b _ hb
    omega)⟩, hr.inj, Nat.le_trans hr.gro hr.ro, hr.glob⟩
/-- A call that writes nothing of what there is, and answers no address, leaves the heap as it was. -/
theorem TC.quiet {f : FuncId} {args : List Value} {h : AHeap} {R : Value → AHeap → Prop} (ht : TC P f args h.lock R) (hsc : ∀ v h1, R v h1 → scal v = true) : TC P f args h (fun v h1 => (∃ h2, R v h2) ∧ h1 = h) := by
  intro ρ w cargs hr hv
  refine (ht ρ w cargs hr.lock hv).mono fun e w' => ?_
  rintro ⟨v, v', h', ρ', e1, hR, st, hvv⟩
  have hsame : ∀ c, c < w.heap.size → w'.heap[c]? = w.heap[c]? := fun c hc => st.frame c hc (by
    rintro ⟨b, o, pl, hg, hro, _⟩
    have h1 : h.next ≤ b := hro
    have h2 := hr.dom b o hg
    omega)
  exact ⟨v, v', h, ρ, e1, ⟨⟨h', hR⟩, rfl⟩, ⟨Ren.le_refl _, hr.grow hsame, rfl, st.os, st.tape, st.output, st.size, fun c hc _ => hsame c hc, fun c _ hm => hm⟩, scal_eq hvv (hsc v h' hR) ρ⟩

theorem T_region {rd : Option Nat} {id : Nat} {ops : Array Oper} {s : Env} {h : AHeap} {Q : Ex → Env → AHeap → Prop} (ht : TO P ops (List.range ops.size) s h (fun s1 h1 => Q .normal s1 h1)) : T P rd (.region id ops false) s h Q := by
  intro ρ w tm ds hr hs b hb k cs
  obtain ⟨s1, h1, ρ1, w1, tm1, q, st, hs1, sx⟩ := ht ρ w tm ds hr hs b k cs
  exact ⟨.normal, s1, h1, ρ1, w1, tm1, ds, q, st, hs1, .refl _ _ _, .head fstep_region (sx.trans (.one fstep_region_end))⟩

end
end Go.Ai
