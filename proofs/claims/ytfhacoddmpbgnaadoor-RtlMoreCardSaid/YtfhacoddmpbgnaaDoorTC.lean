/- A part of the proof. -/
import Derived.Test.YtfhacoddmpbgnaaDoorTB
import Derived.Laws.Externs
import Derived.Lib.MakeNoZero
import Derived.Orders
set_option linter.unusedVariables false
set_option linter.unusedSimpArgs false
set_option linter.unusedVariables false
namespace Go.Ai
noncomputable section
variable {P : Program}
inductive Ex where
  | normal
  | exit (id : Nat)
  | ret
  deriving DecidableEq
def Arr (P : Program) (m : Machine) (b : Frame) (k : List Item) (cs : List Frame) (e : Ex) (tm : Array Value) (ds : List Deferred) (w : World) : Prop :=
  match e with
  | .normal => Steps P m (lone (fat b tm ds k) cs w)
  | .exit id => ∃ todo, exitTo id todo = exitTo id k /\ Steps P m (lone (fat b tm ds (.code (.exit id) :: todo)) cs w)
  | .ret => ∃ todo, Steps P m (lone (fat b tm ds (.code .ret :: todo)) cs w)
theorem Arr.of_steps {m m₁ : Machine} {b : Frame} {k : List Item} {cs : List Frame} {e : Ex} {tm : Array Value} {ds : List Deferred} {w : World} (h : Steps P m m₁) (h' : Arr P m₁ b k cs e tm ds w) : Arr P m b k cs e tm ds w := by
  cases e with
  | normal => exact h.trans h'
  | exit id => obtain ⟨t, e, s⟩ := h'; exact ⟨t, e, h.trans s⟩
  | ret => obtain ⟨t, s⟩ := h'; exact ⟨t, h.trans s⟩
theorem zin {ρ : Ren} {h : za} {w : World} (hr : Rel P ρ h w) {r : Nat} {o : Obj} (ho : w.heap[r]? = some o) (hn : ∃ x, o = .deferred x) : ¬ zdP ρ h r := by
  rintro ⟨b, ob, pl, hg, _, hm, rfl⟩
  obtain ⟨x, rfl⟩ := hn
  have hc := hr.zls hg hm
  cases ob with
  | cells c t => obtain ⟨cs, fz, h1, _⟩ := hc; rw [h1] at ho; cases ho
  | map es q => obtain ⟨ms, h1, _⟩ := hc; rw [h1] at ho; cases ho
  | iter m a b c => obtain ⟨m', h1, _⟩ := hc; rw [h1] at ho; cases ho
  | tab c => obtain ⟨t, cs, fz, h1, _⟩ := hc; rw [h1] at ho; cases ho
  | siter s pos => have h1 : w.heap[pl.c]? = _ := hc.1; rw [h1] at ho; cases ho
  | loop l => obtain ⟨tm, d, fn, h1, _⟩ := hc; rw [h1] at ho; cases ho
theorem VW {w : World} {r : Nat} {o : Obj} (h : w.heap[r]? = some o) : r < w.heap.size := by
  rcases Nat.lt_or_ge r w.heap.size with hl | hl
  . exact hl
  . rw [Array.getElem?_eq_none hl] at h; cases h
def zg9 (r : Nat) : Deferred := { target := .collected r, args := #[] }
def WE (w : World) (ds : List Deferred) (w' : World) (ds' : List Deferred) : Prop :=
  ∃ rs : List Nat, ds' = rs.map zg9 ++ ds /\ rs.Nodup /\ ∀ r, r ∈ rs -> w.heap.size <= r /\ w'.heap[r]? = some (.deferred (some []))
theorem WE.refl (w w' : World) (ds : List Deferred) : WE w ds w' ds := ⟨[], rfl, List.nodup_nil, fun r h => by cases h⟩
theorem WE.trans {ρ ρ' : Ren} {h h' : za} {w w1 w2 : World} {ds ds1 ds2 : List Deferred} (a : WE w ds w1 ds1) (b : WE w1 ds1 w2 ds2) (hle : w.heap.size <= w1.heap.size) (hr : Rel P ρ h w1) (st : Step P ρ h w1 ρ' h' w2) : WE w ds w2 ds2 := by
  obtain ⟨rs, h1, h2, h3⟩ := a
  obtain ⟨rs2, k1, k2, k3⟩ := b
  refine ⟨rs2 ++ rs, by rw [k1, h1, List.map_append, List.append_assoc], List.nodup_append.2 ⟨k2, h2, fun x hx y hy e => ?_⟩, fun r hr' => ?_⟩
  . have := (k3 x hx).1
    have := VW (h3 y hy).2
    omega
  . rcases List.mem_append.1 hr' with hm | hm
    . exact ⟨Nat.le_trans hle (k3 r hm).1, (k3 r hm).2⟩
    . have := (h3 r hm).2
      refine ⟨(h3 r hm).1, ?_⟩
      rw [st.frame r (VW this) (zin hr this ⟨_, rfl⟩)]
      exact this
def Rd (ρ : Ren) (rd : Option Nat) (b : Frame) : Prop :=
  match rd with
  | none => b.roundOf = none
  | some l => l < ρ.next /\ ∃ pl, ρ.m l = some pl /\ b.roundOf = some pl.c
theorem Rd.mono {ρ ρ' : Ren} (hle : ρ.le ρ') {rd : Option Nat} {b : Frame} (h : Rd ρ rd b) : Rd ρ' rd b := by
  cases rd with
  | none => exact h
  | some l => exact ⟨Nat.lt_of_lt_of_le h.1 hle.1, by obtain ⟨pl, hp, hb⟩ := h.2; exact ⟨pl, (hle.2 l h.1).trans hp, hb⟩⟩
def T (P : Program) (rd : Option Nat) (c : Code) (s : Env) (h : za) (Q : Ex -> Env -> za -> Prop) : Prop :=
  ∀ (ρ : Ren) (w : World) (tm : Array Value) (ds : List Deferred), Rel P ρ h w -> xe ρ s tm -> ∀ (b : Frame), Rd ρ rd b -> ∀ (k : List Item) (cs : List Frame),
    ∃ e s' h' ρ' w' tm' ds', Q e s' h' /\ Step P ρ h w ρ' h' w' /\ xe ρ' s' tm' /\ WE w ds w' ds' /\ Arr P (lone (fat b tm ds (.code c :: k)) cs w) b k cs e tm' ds' w'
def TO (P : Program) (ops : Array Oper) (l : List Nat) (s : Env) (h : za) (Q : Env -> za -> Prop) : Prop :=
  ∀ (ρ : Ren) (w : World) (tm : Array Value) (ds : List Deferred), Rel P ρ h w -> xe ρ s tm -> ∀ (b : Frame) (k : List Item) (cs : List Frame),
    ∃ s' h' ρ' w' tm', Q s' h' /\ Step P ρ h w ρ' h' w' /\ xe ρ' s' tm' /\ Steps P (lone (fat b tm ds (.inRegion ops l :: k)) cs w) (lone (fat b tm' ds (.inRegion ops [] :: k)) cs w')
def TC (P : Program) (f : FuncId) (args : List Value) (h : za) (R : Value -> za -> Prop) : Prop :=
  ∀ (ρ : Ren) (w : World) (cargs : List Value), Rel P ρ h w -> yQ ρ args cargs ->
    Calls P f cargs.toArray w fun e w' => ∃ v v' h' ρ', e = .returned v' /\ R v h' /\ Step P ρ h w ρ' h' w' /\ z9 ρ' v v'
section rules
variable {rd : Option Nat} {s : Env} {h : za} {Q : Ex -> Env -> za -> Prop}
theorem T.mono {c : Code} {Q' : Ex -> Env -> za -> Prop} (ht : T P rd c s h Q) (hq : ∀ e s h, Q e s h -> Q' e s h) : T P rd c s h Q' := by
  intro ρ w tm ds hr hs b hb k cs
  obtain ⟨e, s', h', ρ', w', tm', ds', q, r⟩ := ht ρ w tm ds hr hs b hb k cs
  exact ⟨e, s', h', ρ', w', tm', ds', hq _ _ _ q, r⟩
theorem TC.mono {f : FuncId} {args : List Value} {R R' : Value -> za -> Prop} (ht : TC P f args h R) (hq : ∀ v h, R v h -> R' v h) : TC P f args h R' := by
  intro ρ w cargs hr hv
  refine (ht ρ w cargs hr hv).mono fun e w' => ?_
  rintro ⟨v, v', h', ρ', e1, q, r⟩
  exact ⟨v, v', h', ρ', e1, hq _ _ q, r⟩
theorem zjH (hq : Q .normal s h) : T P rd .skip s h Q := fun ρ w tm ds hr hs b hb k cs => ⟨.normal, s, h, ρ, w, tm, ds, hq, .refl hr, hs, .refl _ _ _, .one zd5⟩
theorem zgR {l : Nat} (hq : Q .normal s h) : T P rd (.label l) s h Q := fun ρ w tm ds hr hs b hb k cs => ⟨.normal, s, h, ρ, w, tm, ds, hq, .refl hr, hs, .refl _ _ _, .one zbW⟩
theorem zjz {id : Nat} (hq : Q (.exit id) s h) : T P rd (.exit id) s h Q := fun ρ w tm ds hr hs b hb k cs => ⟨.exit id, s, h, ρ, w, tm, ds, hq, .refl hr, hs, .refl _ _ _, k, rfl, .refl P _⟩
theorem zmf (hq : Q .ret s h) : T P rd .ret s h Q := fun ρ w tm ds hr hs b hb k cs => ⟨.ret, s, h, ρ, w, tm, ds, hq, .refl hr, hs, .refl _ _ _, k, .refl P _⟩
theorem ziB {x y : Code} (ht : T P rd x s h (fun e s1 h1 => match e with | .normal => T P rd y s1 h1 Q | e => Q e s1 h1)) : T P rd (.seq x y) s h Q := by
  intro ρ w tm ds hr hs b hb k cs
  obtain ⟨e, s1, h1, ρ1, w1, tm1, ds1, q, st, hs1, hd1, ha⟩ := ht ρ w tm ds hr hs b hb (.code y :: k) cs
  cases e with
  | normal =>
    obtain ⟨e2, s2, h2, ρ2, w2, tm2, ds2, q2, st2, hs2, hd2, ha2⟩ := q ρ1 w1 tm1 ds1 st.rel hs1 b (hb.mono st.le) k cs
    exact ⟨e2, s2, h2, ρ2, w2, tm2, ds2, q2, st.trans st2, hs2, hd1.trans hd2 st.size st.rel st2, .of_steps (.head VU ha) ha2⟩
  | exit id => obtain ⟨t, et, sx⟩ := ha; exact ⟨_, s1, h1, ρ1, w1, tm1, ds1, q, st, hs1, hd1, t, et, .head VU sx⟩
  | ret => obtain ⟨t, sx⟩ := ha; exact ⟨_, s1, h1, ρ1, w1, tm1, ds1, q, st, hs1, hd1, t, .head VU sx⟩
theorem zcB {c : Operand} {x y : Code} {t : Bool} (hc : aev s c = some (.bool t)) (ht : T P rd (if t then x else y) s h Q) : T P rd (.cond c x y) s h Q := by
  intro ρ w tm ds hr hs b hb k cs
  obtain ⟨e, s1, h1, ρ1, w1, tm1, ds1, q, st, hs1, hd1, ha⟩ := ht ρ w tm ds hr hs b hb k cs
  have he := zB (a := ⟨tm, ds⟩) hs hc
  have : Act.eval ⟨tm, ds⟩ c = .bool t := by
    generalize Act.eval ⟨tm, ds⟩ c = v at he
    cases he; rfl
  exact ⟨e, s1, h1, ρ1, w1, tm1, ds1, q, st, hs1, hd1, .of_steps (.one (zeZ this)) ha⟩
theorem Uf {id : Nat} {c : Code} (ht : T P rd c s h (fun e s1 h1 => if e = .exit id then Q .normal s1 h1 else Q e s1 h1)) : T P rd (.block id c) s h Q := by
  intro ρ w tm ds hr hs b hb k cs
  obtain ⟨e, s1, h1, ρ1, w1, tm1, ds1, q, st, hs1, hd1, ha⟩ := ht ρ w tm ds hr hs b hb (.inBlock id :: k) cs
  cases e with
  | normal => rw [if_neg (by simp)] at q; exact ⟨.normal, s1, h1, ρ1, w1, tm1, ds1, q, st, hs1, hd1, .head kS (Steps.trans ha (.one KB))⟩
  | exit id' =>
    obtain ⟨t, et, sx⟩ := ha
    by_cases hid : id' = id
    . subst hid
      rw [if_pos rfl] at q
      refine ⟨.normal, s1, h1, ρ1, w1, tm1, ds1, q, st, hs1, hd1, .head kS (sx.trans (.one (zex (k' := k) ?_)))⟩
      rw [et]; simp [exitTo]
    . rw [if_neg (by simpa using hid)] at q
      refine ⟨.exit id', s1, h1, ρ1, w1, tm1, ds1, q, st, hs1, hd1, t, ?_, .head kS sx⟩
      rw [et]
      have : (id == id') = false := by simp; exact fun h => hid h.symm
      simp [exitTo, this]
  | ret => obtain ⟨t, sx⟩ := ha; rw [if_neg (by simp)] at q; exact ⟨.ret, s1, h1, ρ1, w1, tm1, ds1, q, st, hs1, hd1, t, .head kS sx⟩
theorem zhH {c : Code} (ht : T P rd c s h Q) : T P rd (.scope c) s h Q := by
  intro ρ w tm ds hr hs b hb k cs
  obtain ⟨e, s1, h1, ρ1, w1, tm1, ds1, q, st, hs1, hd1, ha⟩ := ht ρ w tm ds hr hs b hb (.inScope c :: k) cs
  cases e with
  | normal => exact ⟨.normal, s1, h1, ρ1, w1, tm1, ds1, q, st, hs1, hd1, .head Ym (Steps.trans ha (.one Ke))⟩
  | exit id => obtain ⟨t, et, sx⟩ := ha; exact ⟨_, s1, h1, ρ1, w1, tm1, ds1, q, st, hs1, hd1, t, by rw [et]; simp [exitTo], .head Ym sx⟩
  | ret => obtain ⟨t, sx⟩ := ha; exact ⟨_, s1, h1, ρ1, w1, tm1, ds1, q, st, hs1, hd1, t, .head Ym sx⟩
theorem kY {c : Code} (ht : T P rd c s h (fun e s1 h1 => match e with | .normal => T P rd (.loop c) s1 h1 Q | e => Q e s1 h1)) : T P rd (.loop c) s h Q := by
  intro ρ w tm ds hr hs b hb k cs
  obtain ⟨e, s1, h1, ρ1, w1, tm1, ds1, q, st, hs1, hd1, ha⟩ := ht ρ w tm ds hr hs b hb (.inLoop c :: k) cs
  cases e with
  | normal =>
    obtain ⟨e2, s2, h2, ρ2, w2, tm2, ds2, q2, st2, hs2, hd2, ha2⟩ := q ρ1 w1 tm1 ds1 st.rel hs1 b (hb.mono st.le) k cs
    refine ⟨e2, s2, h2, ρ2, w2, tm2, ds2, q2, st.trans st2, hs2, hd1.trans hd2 st.size st.rel st2, ?_⟩
    have e0 : step P (lone (fat b tm1 ds1 (.inLoop c :: k)) cs w1) = step P (lone (fat b tm1 ds1 (.code (.loop c) :: k)) cs w1) := by rw [Jb, Zl]
    have key : ∀ m', Steps P (lone (fat b tm1 ds1 (.code (.loop c) :: k)) cs w1) m' -> (m' = lone (fat b tm1 ds1 (.code (.loop c) :: k)) cs w1) \/ Steps P (lone (fat b tm1 ds1 (.inLoop c :: k)) cs w1) m' := by
      rintro m' ⟨n, hn⟩
      cases n with
      | zero => left; simp [runN] at hn; exact hn.symm
      | succ n => right; exact ⟨n + 1, by simp only [runN] at hn ⊢; rw [e0]; exact hn⟩
    have go : ∀ m', Steps P (lone (fat b tm1 ds1 (.code (.loop c) :: k)) cs w1) m' -> m' ≠ lone (fat b tm1 ds1 (.code (.loop c) :: k)) cs w1 -> Steps P (lone (fat b tm ds (.code (.loop c) :: k)) cs w) m' := by
      intro m' hm hne
      exact (Steps.head Zl ha).trans ((key m' hm).resolve_left hne)
    have neq : ∀ (k' : List Item) tm' ds' w', (k' = k \/ (∃ x t, k' = .code x :: t /\ ∀ c, x ≠ .loop c)) -> lone (fat b tm' ds' k') cs w' ≠ lone (fat b tm1 ds1 (.code (.loop c) :: k)) cs w1 := by
      intro k' tm' ds' w' hk' e
      simp only [lone, Machine.mk.injEq, Array.mk.injEq, List.cons.injEq, Goroutine.mk.injEq, fat, Frame.mk.injEq] at e
      have e := e.2.1.1.1.2.2.1
      rcases hk' with rfl | ⟨x, t, rfl, hx⟩
      . have := congrArg List.length e; simp at this
      . simp only [List.cons.injEq, Item.code.injEq] at e; exact hx c e.1
    cases e2 with
    | normal => exact go _ ha2 (neq _ _ _ _ (.inl rfl))
    | exit id => obtain ⟨t, et, sx⟩ := ha2; exact ⟨t, et, go _ sx (neq _ _ _ _ (.inr ⟨_, _, rfl, fun c => by simp⟩))⟩
    | ret => obtain ⟨t, sx⟩ := ha2; exact ⟨t, go _ sx (neq _ _ _ _ (.inr ⟨_, _, rfl, fun c => by simp⟩))⟩
  | exit id => obtain ⟨t, et, sx⟩ := ha; exact ⟨_, s1, h1, ρ1, w1, tm1, ds1, q, st, hs1, hd1, t, by rw [et]; simp [exitTo], .head Zl sx⟩
  | ret => obtain ⟨t, sx⟩ := ha; exact ⟨_, s1, h1, ρ1, w1, tm1, ds1, q, st, hs1, hd1, t, .head Zl sx⟩
end rules
def zZ (ops : Array Oper) (s : Env) (o : Oper) : Bool :=
  match o.guard with
  | none => true
  | some (j, want) => (match (ops[j]?).bind (·.dst) with
    | none => false
    | some d => (match s.get d with
      | .bool b => b == want
      | _ => false))
theorem uU {ρ : Ren} {s : Env} {tm : Array Value} (hs : xe ρ s tm) (ops : Array Oper) (o : Oper) : Region.wanted o (yielded ops tm) = zZ ops s o := by
  unfold Region.wanted zZ
  split
  . rename_i e; rw [e]
  . rename_i j want e
    rw [e]
    simp only [yielded]
    cases hd : (ops[j]?).bind (·.dst) with
    | none => rfl
    | some d =>
      simp only [Option.bind_some]
      have hv := hs.get d
      cases ht : tm[d]? with
      | none =>
        have : tm.getD d undef = undef := by simp [Array.getD_eq_getD_getElem?, ht]
        rw [this] at hv
        generalize s.get d = sv at hv
        cases hv with
        | odd h => cases h
        | tuple _ _ => rfl
      | some tv =>
        have : tm.getD d undef = tv := by simp [Array.getD_eq_getD_getElem?, ht]
        rw [this] at hv
        generalize s.get d = sv at hv
        cases hv with
        | odd h => cases tv <;> first | rfl | cases h
        | bool bb => cases bb <;> cases want <;> rfl
        | _ => rfl
section ops
variable {s : Env} {h : za} {Q : Env -> za -> Prop} {ops : Array Oper}
theorem zjr (hq : Q s h) : TO P ops [] s h Q := fun ρ w tm ds hr hs b k cs => ⟨s, h, ρ, w, tm, hq, .refl hr, hs, .refl P _⟩
theorem qM {o : Oper} {v : Value} {h1 : za} (ho : aop P s o h = some (v, h1)) : qQ o.op = false := by
  cases hop : o.op <;> first | rfl | (unfold aop at ho; rw [hop] at ho; cases ho)
theorem zlY {i : Nat} {rest : List Nat} {o : Oper} (ho : ops[i]? = some o) (hw : zZ ops s o = true) {v : Value} {h1 : za} {s1 : Env} (hd : qQ o.op = false) (hok : ∀ (ρ : Ren) (w : World) (a : Act), Rel P ρ h w -> xe ρ s a.tmps -> zgE P ρ h w (execOp a.eval o) v h1) (hp : s.put o.dst v = some s1) (ht : TO P ops rest s1 h1 Q) :
    TO P ops (i :: rest) s h Q := by
  intro ρ w tm ds hr hs b k cs
  obtain ⟨n, w1, ρ1, v', e, hn, st, hv⟩ := hok ρ w ⟨tm, ds⟩ hr hs
  have hs1 : xe ρ1 s1 (wV tm o.dst v') := (hs.mono st.le).put hv hp
  obtain ⟨s2, h2, ρ2, w2, tm2, q, st2, hs2, sx⟩ := ht ρ1 w1 _ ds st.rel hs1 b k cs
  have hw' : Region.wanted o (yielded ops tm) = true := (uU hs ops o).trans hw
  refine ⟨s2, h2, ρ2, w2, tm2, q, st.trans st2, hs2, .head ?_ sx⟩
  have hfin : (fat b tm ds (.inRegion ops (i :: rest) :: k)).finish v' = fat b (wV tm o.dst v') ds (.inRegion ops rest :: k) := by
    rw [wZ, ho]; rfl
  rw [<- hfin]
  rcases hn with rfl | ⟨rfl, rfl⟩
  . exact ub ho hw' hd e
  . exact uE ho hw' hd e
theorem zmu {i : Nat} {rest : List Nat} {o : Oper} (ho : ops[i]? = some o) (hw : zZ ops s o = true) {v : Value} {h1 : za} {s1 : Env} (hop : aop P s o h = some (v, h1)) (hp : s.put o.dst v = some s1) (ht : TO P ops rest s1 h1 Q) :
    TO P ops (i :: rest) s h Q := by
  intro ρ w tm ds hr hs b k cs
  obtain ⟨n, w1, ρ1, v', e, hn, st, hv⟩ := zaq (a := ⟨tm, ds⟩) hop hr hs
  have hs1 : xe ρ1 s1 (wV tm o.dst v') := (hs.mono st.le).put hv hp
  obtain ⟨s2, h2, ρ2, w2, tm2, q, st2, hs2, sx⟩ := ht ρ1 w1 _ ds st.rel hs1 b k cs
  have hw' : Region.wanted o (yielded ops tm) = true := (uU hs ops o).trans hw
  refine ⟨s2, h2, ρ2, w2, tm2, q, st.trans st2, hs2, .head ?_ sx⟩
  have hfin : (fat b tm ds (.inRegion ops (i :: rest) :: k)).finish v' = fat b (wV tm o.dst v') ds (.inRegion ops rest :: k) := by
    rw [wZ, ho]; rfl
  rw [<- hfin]
  rcases hn with rfl | ⟨rfl, rfl⟩
  . exact ub ho hw' (qM hop) e
  . exact uE ho hw' (qM hop) e
theorem zfs {i : Nat} {rest : List Nat} {o : Oper} (ho : ops[i]? = some o) (hw : zZ ops s o = false) {s1 : Env} (hp : s.put o.dst undef = some s1) (ht : TO P ops rest s1 h Q) : TO P ops (i :: rest) s h Q := by
  intro ρ w tm ds hr hs b k cs
  have hs1 : xe ρ s1 (wV tm o.dst undef) := hs.put (.vI _ rfl) hp
  obtain ⟨s2, h2, ρ2, w2, tm2, q, st2, hs2, sx⟩ := ht ρ w _ ds hr hs1 b k cs
  refine ⟨s2, h2, ρ2, w2, tm2, q, st2, hs2, .head ?_ sx⟩
  have hw' : Region.wanted o (yielded ops tm) = false := (uU hs ops o).trans hw
  rw [Y7 (by rw [ho]; exact hw'), wZ, ho]
  rfl
def yT (P : Program) (g : FuncId) : Bool :=
  match P.funcs[g]? with
  | some fn => fn.body.isSome && !(fn.name == "runtime.NumGoroutine")
  | none => false
theorem zhD {i : Nat} {rest : List Nat} {o : Oper} {f : Operand} {cargs : Array Operand} {ts : Array TypeId} {g : FuncId} {fa fc : Array Value} {vs : List Value} {R : Value -> za -> Prop}
    (ho : ops[i]? = some o) (hw : zZ ops s o = true) (hop : o.op = .call { callee := .value f, args := cargs, argTypes := ts }) (hf : aev s f = some (.func (.func g) fa fc)) (hargs : QD s cargs.toList = some vs)
    (hcall : yT P g = true) (hc : TC P g (fa.toList ++ vs ++ fc.toList) h R) (ht : ∀ v h1, R v h1 -> ∃ s1, s.put o.dst v = some s1 /\ TO P ops rest s1 h1 Q) : TO P ops (i :: rest) s h Q := by
  intro ρ w tm ds hr hs b k cs
  have hw' : Region.wanted o (yielded ops tm) = true := (uU hs ops o).trans hw
  have e1 := zB (a := ⟨tm, ds⟩) hs hf
  have e2 := wW (a := ⟨tm, ds⟩) hs hargs
  generalize hfv : Act.eval ⟨tm, ds⟩ f = fv at e1
  cases e1 with
  | func ha hcs h1 h2 =>
    rename_i fa' fc'
    let full := fa'.toList ++ cargs.toList.map (Act.eval ⟨tm, ds⟩) ++ fc'.toList
    have hfull : yQ ρ (fa.toList ++ vs ++ fc.toList) full :=
      (yQ.append ⟨by simpa using ha, fun i x y hx hy => h1 i x y (by simpa using hx) (by simpa using hy)⟩ e2).append ⟨by simpa using hcs, fun i x y hx hy => h2 i x y (by simpa using hx) (by simpa using hy)⟩
    have hrun : (execOp (Act.eval ⟨tm, ds⟩) o).run P w = .ok (.enter g full.toArray) w := by
      have hargs' : fa' ++ cargs.map (Act.eval ⟨tm, ds⟩) ++ fc' = full.toArray := by apply Array.ext'; simp [full]
      simp only [execOp, hop, resolve, hfv, Deferred.ofValue, Sem.run_bind, Sem.run_pure, Result.andThen_ok, invoke, callFunc, run_program, hargs']
      unfold yT at hcall
      cases hfn : P.funcs[g]? with
      | none => rw [hfn] at hcall; cases hcall
      | some fn =>
        rw [hfn] at hcall
        simp only [Bool.and_eq_true, Bool.not_eq_true'] at hcall
        simp only [hcall.2, Bool.false_eq_true, if_false]
        rw [if_neg (by cases hb : fn.body <;> simp_all)]
        rfl
    obtain ⟨e, w1, fr, ⟨v, v', h', ρ', rfl, hR, st, hv⟩, hcomes, _, hleave⟩ := hc ρ w full hr hfull (fat b tm ds (.inRegion ops (i :: rest) :: k) :: cs)
    obtain ⟨s1, hp, hrest⟩ := ht v h' hR
    have hs1 : xe ρ' s1 (wV tm o.dst v') := (hs.mono st.le).put hv hp
    obtain ⟨s2, h2, ρ2, w2, tm2, q, st2, hs2, sx⟩ := hrest ρ' w1 _ ds st.rel hs1 b k cs
    have hd : qQ o.op = false := by rw [hop]; rfl
    refine ⟨s2, h2, ρ2, w2, tm2, q, st.trans st2, hs2, .head (ZU ho hw' hd hrun) (Steps.trans hcomes (.head (step_leave_returned hleave) ?_))⟩
    rw [wZ, ho]
    exact sx
end ops
def ziT (P : Program) (g : FuncId) (args : List Value) (h : za) : Option (Value × za) :=
  match P.funcs[g]? with
  | some fn => cond (fn.body.isNone && decide (fn.name = "internal/abi.NoEscape") && (Extern.findNext fn).isNone) (match args with
    | [x] => some (x, h)
    | _ => none) none
  | none => none
theorem zd3 {fn : Func} (h : fn.name = "internal/abi.NoEscape") : Extern.find fn = some Extern.AbiNoEscape.same := by
  unfold Extern.find
  rw [h]
  rfl
theorem zia {ρ : Ren} {s : Env} {h h1 : za} {w : World} {a : Act} {o : Oper} {f : Operand} {cargs : Array Operand} {ts : Array TypeId} {g : FuncId} {fa fc : Array Value} {vs : List Value} {v : Value}
    (hop : o.op = .call { callee := .value f, args := cargs, argTypes := ts }) (hf : aev s f = some (.func (.func g) fa fc)) (hargs : QD s cargs.toList = some vs) (he : ziT P g (fa.toList ++ vs ++ fc.toList) h = some (v, h1)) (hr : Rel P ρ h w) (hs : xe ρ s a.tmps) :
    zgE P ρ h w (execOp a.eval o) v h1 := by
  have e1 := zB hs hf
  have e2 := wW hs hargs
  generalize hfv : a.eval f = fv at e1
  cases e1 with
  | func ha hcs q1 q2 =>
    rename_i fa' fc'
    let full := fa'.toList ++ cargs.toList.map a.eval ++ fc'.toList
    have hfull : yQ ρ (fa.toList ++ vs ++ fc.toList) full :=
      (yQ.append ⟨by simpa using ha, fun i x y hx hy => q1 i x y (by simpa using hx) (by simpa using hy)⟩ e2).append ⟨by simpa using hcs, fun i x y hx hy => q2 i x y (by simpa using hx) (by simpa using hy)⟩
    have hargs' : fa' ++ cargs.map a.eval ++ fc' = full.toArray := by apply Array.ext'; simp [full]
    unfold ziT at he
    split at he
    case h_2 => cases he
    rename_i fn hfn
    obtain ⟨hc, he⟩ := zl he
    simp only [Bool.and_eq_true, decide_eq_true_eq] at hc
    obtain ⟨⟨hb, hn⟩, hx⟩ := hc
    split at he
    case h_2 => cases he
    rename_i x hl
    simp only [Option.some.injEq, Prod.mk.injEq] at he
    obtain ⟨rfl, rfl⟩ := he
    rw [hl] at hfull
    obtain ⟨y, ys, hy, v1, hv2⟩ := hfull.cons_inv
    cases hv2.xJ
    have hfn' : Extern.findNext fn = none := by simpa using hx
    refine ⟨.value y, w, ρ, y, ?_, .inl rfl, .refl hr, v1⟩
    simp only [execOp, hop, resolve, hfv, Deferred.ofValue, Sem.run_bind, Sem.run_pure, Result.andThen_ok, invoke, hargs', hy]
    rw [Go.run_callFunc_extern hfn (by rw [hn]; decide) hb hfn' (zd3 hn)]
    rfl
def Ku (P : Program) (g : FuncId) (args : List Value) (h : za) : Option (Value × za) :=
  match P.funcs[g]?, args with
  | some fn, [.int .i64 n] => cond (fn.body.isNone && decide (fn.name = "internal/bytealg.MakeNoZero") && (Extern.findNext fn).isNone && decide (0 <= n) && decide (n <= 2 ^ 48))
      (match fn.resultTypes[0]? with
        | some t => (match yM P (underlying t) with
          | some (.slice e) => cond (Nat.beq (P.cellsOf e) 1) (some (.slice (some ⟨h.next, 0, none⟩) n.toNat 1, h.push (.cells [] e))) none
          | _ => none)
        | none => none) none
  | _, _ => none
theorem Kv {fn : Func} (h : fn.name = "internal/bytealg.MakeNoZero") : Extern.find fn = some (Extern.BytealgMakeNoZero.makeNoZero fn.params fn.resultTypes) := by
  unfold Extern.find
  rw [h]
  rfl
theorem JY {ρ : Ren} {h : za} {w : World} (hr : Rel P ρ h w) {ps rs : Array TypeId} {t e : TypeId} {n : Int} (ht : rs[0]? = some t) (hu : yM P (underlying t) = some (.slice e)) (hc : P.cellsOf e = 1) (h0 : 0 <= n) (hn : n <= 2 ^ 48) :
    ∃ v' w' ρ', (Extern.BytealgMakeNoZero.makeNoZero ps rs #[.int .i64 n]).run P w = .ok v' w' /\ Step P ρ h w ρ' (h.push (.cells [] e)) w' /\ z9 ρ' (.slice (some ⟨h.next, 0, none⟩) n.toNat 1) v' := by
  let q : Question := .appendCap n.toNat 0 e
  let cap := q.cut (w.tape w.drawn q)
  have hge : n.toNat <= cap := by show n.toNat <= n.toNat + _ % _; omega
  let w1 : World := { w with drawn := w.drawn + 1 }
  let q2 : Question := .extern "internal/bytealg.MakeNoZero.bytes" 0
  let bytes := q2.cut (w1.tape w1.drawn q2)
  let w2 : World := { w1 with drawn := w1.drawn + 1 }
  let cs := Extern.BytealgMakeNoZero.digits cap bytes #[]
  have hcs : cs.size = cap := by simp only [cs, Lib.size_digits]; simp
  have hr2 : Rel P ρ h w2 := hr.grow (fun k _ => rfl)
  let w3 : World := { w2 with heap := w2.heap.push (.cells cs e) }
  have st := Step.push (t := e) hr2 (c := []) (cs := cs) (fz := (0, 0)) (w' := w3) rfl (fun i _ hi => by simp at hi) (by simp) (fun k x hx => by simp at hx) rfl rfl rfl
  refine ⟨.slice (some ⟨w.heap.size, 0, none⟩) n.toNat cap, w3, _, ?_, ⟨st.le, st.rel, st.ro, st.os, st.tape, st.output, st.size, st.frame, st.img⟩, ?_⟩
  . have hq : (choose (.appendCap n.toNat 0 e)).run P w = .ok cap w1 := by rw [run_choose]; rfl
    have hq2 : (choose (.extern "internal/bytealg.MakeNoZero.bytes" 0)).run P w1 = .ok bytes w2 := by rw [run_choose]; rfl
    have hneg : ¬ (n < 0 \/ n > 2 ^ 48) := by omega
    have hnr : (newRow e cs).run P w2 = .ok ⟨w.heap.size, 0, none⟩ w3 := rfl
    rw [show Extern.BytealgMakeNoZero.makeNoZero ps rs #[.int .i64 n] = (match rs[0]? with | some t => (underlying t >>= _) | _ => _) from rfl]
    simp only [ht, Sem.run_bind, zh hu, Result.andThen_ok]
    rw [if_neg (by simpa using hneg)]
    simp only [Sem.run_bind, hq, Result.andThen_ok, run_askRoom, hq2]
    rw [show Extern.BytealgMakeNoZero.digits cap bytes #[] = cs from rfl, hnr]
    rfl
  . have := z9.slice (ρ := ρ.ext ⟨w2.heap.size, 0, cs.size, P.cellsOf e⟩) (b := h.next) (off := 0) (len := n.toNat) (c := 1) (cap := cap) (pl := ⟨w2.heap.size, 0, cs.size, P.cellsOf e⟩)
      (by show h.next < ρ.next + 1; rw [hr.next]; exact Nat.lt_succ_self _) (by rw [<- hr.next]; exact ρ.wF _) hge (fun _ => ⟨by simp [hc, hcs], fun k hk => by omega⟩)
    exact this
def zih (P : Program) (g : FuncId) (args : List Value) (h : za) : Option (Value × za) :=
  match ziT P g args h with
  | some r => some r
  | none => Ku P g args h
theorem zbD {ρ : Ren} {s : Env} {h h1 : za} {w : World} {a : Act} {o : Oper} {f : Operand} {cargs : Array Operand} {ts : Array TypeId} {g : FuncId} {fa fc : Array Value} {vs : List Value} {v : Value}
    (hop : o.op = .call { callee := .value f, args := cargs, argTypes := ts }) (hf : aev s f = some (.func (.func g) fa fc)) (hargs : QD s cargs.toList = some vs) (he : zih P g (fa.toList ++ vs ++ fc.toList) h = some (v, h1)) (hr : Rel P ρ h w) (hs : xe ρ s a.tmps) :
    zgE P ρ h w (execOp a.eval o) v h1 := by
  unfold zih at he
  split at he
  . rename_i r hn
    simp only [Option.some.injEq] at he
    subst he
    exact zia hop hf hargs hn hr hs
  . have e1 := zB hs hf
    have e2 := wW hs hargs
    generalize hfv : a.eval f = fv at e1
    cases e1 with
    | func ha hcs q1 q2 =>
      rename_i fa' fc'
      let full := fa'.toList ++ cargs.toList.map a.eval ++ fc'.toList
      have hfull : yQ ρ (fa.toList ++ vs ++ fc.toList) full :=
        (yQ.append ⟨by simpa using ha, fun i x y hx hy => q1 i x y (by simpa using hx) (by simpa using hy)⟩ e2).append ⟨by simpa using hcs, fun i x y hx hy => q2 i x y (by simpa using hx) (by simpa using hy)⟩
      have hargs' : fa' ++ cargs.map a.eval ++ fc' = full.toArray := by apply Array.ext'; simp [full]
      unfold Ku at he
      split at he
      case h_2 => cases he
      rename_i fn n hfn hl
      obtain ⟨hc, he2⟩ := zl he
      clear he
      simp only [Bool.and_eq_true, decide_eq_true_eq] at hc
      obtain ⟨⟨⟨⟨hb, hn⟩, hx⟩, h0⟩, h48⟩ := hc
      split at he2
      case h_2 => cases he2
      rename_i t ht
      split at he2
      case h_2 => cases he2
      rename_i e hu
      obtain ⟨hce, he3⟩ := zl he2
      simp only [Option.some.injEq, Prod.mk.injEq] at he3
      obtain ⟨rfl, rfl⟩ := he3
      rw [hl] at hfull
      obtain ⟨y, ys, hy, v1, hv2⟩ := hfull.cons_inv
      cases hv2.xJ
      cases v1
      have hfn' : Extern.findNext fn = none := by simpa using hx
      obtain ⟨v', w', ρ', er, st, hv⟩ := JY (ps := fn.params) hr ht hu (Nat.eq_of_beq_eq_true hce) h0 h48
      refine ⟨.value v', w', ρ', v', ?_, .inl rfl, st, hv⟩
      simp only [execOp, hop, resolve, hfv, Deferred.ofValue, Sem.run_bind, Sem.run_pure, Result.andThen_ok, invoke, hargs', hy]
      rw [Go.run_callFunc_extern hfn (by rw [hn]; decide) hb hfn' (Kv hn), er]
      rfl
def zec : Value -> Bool
  | .tuple a => a.toList.all flat
  | v => flat v
theorem zfC {ρ : Ren} {v v' : Value} (h : z9 ρ v v') (hp : zec v = true) (ρ2 : Ren) : z9 ρ2 v v' := by
  cases v with
  | tuple a =>
    cases h with
    | tuple ha hv =>
      simp only [zec, List.all_eq_true] at hp
      refine .tuple ha (fun i x y hx hy => ?_)
      have hf := hp x (List.mem_of_getElem? (by simpa using hx))
      rw [vE (hv i x y hx hy) hf]
      exact .of_flat _ hf
  | _ => rw [vE h hp]; exact .of_flat _ hp
theorem Rel.lock {ρ : Ren} {h : za} {w : World} (hr : Rel P ρ h w) : Rel P ρ h.lock w :=
  ⟨hr.next, Nat.le_refl _, hr.dom, fun b o hb => by obtain ⟨pl, hp, hc⟩ := hr.ok b o hb; exact ⟨pl, hp, hc.zlL (fun e => by
    have : h.next <= b := of_decide_eq_true e
    have := hr.dom b _ hb
    omega)⟩, hr.inj, Nat.le_trans hr.gro hr.ro, hr.Yt⟩
theorem TC.quiet {f : FuncId} {args : List Value} {h : za} {R : Value -> za -> Prop} (ht : TC P f args h.lock R) (hsc : ∀ v h1, R v h1 -> zec v = true) : TC P f args h (fun v h1 => (∃ h2, R v h2) /\ h1 = h) := by
  intro ρ w cargs hr hv
  refine (ht ρ w cargs hr.lock hv).mono fun e w' => ?_
  rintro ⟨v, v', h', ρ', e1, hR, st, hvv⟩
  have hsame : ∀ c, c < w.heap.size -> w'.heap[c]? = w.heap[c]? := fun c hc => st.frame c hc (by
    rintro ⟨b, o, pl, hg, hro, _⟩
    have h1 : h.next <= b := hro
    have h2 := hr.dom b o hg
    omega)
  exact ⟨v, v', h, ρ, e1, ⟨⟨h', hR⟩, rfl⟩, ⟨Ren.le_refl _, hr.grow hsame, rfl, st.os, st.tape, st.output, st.size, fun c hc _ => hsame c hc, fun c _ hm => hm⟩, zfC hvv (hsc v h' hR) ρ⟩
theorem zcl {rd : Option Nat} {id : Nat} {ops : Array Oper} {s : Env} {h : za} {Q : Ex -> Env -> za -> Prop} (ht : TO P ops (List.range ops.size) s h (fun s1 h1 => Q .normal s1 h1)) : T P rd (.region id ops false) s h Q := by
  intro ρ w tm ds hr hs b hb k cs
  obtain ⟨s1, h1, ρ1, w1, tm1, q, st, hs1, sx⟩ := ht ρ w tm ds hr hs b k cs
  exact ⟨.normal, s1, h1, ρ1, w1, tm1, ds, q, st, hs1, .refl _ _ _, .head Jy (sx.trans (.one uw))⟩
end
end Go.Ai
set_option linter.unusedVariables false
namespace Go.Ai
noncomputable section
variable {P : Program}
theorem zbw (fr : Frame) (hm : fr.mode = .returning) : ∀ (rs : List Nat) (w : World), fr.defers = rs.map zg9 -> rs.Nodup -> (∀ r, r ∈ rs -> w.heap[r]? = some (.deferred (some []))) -> ∀ cs,
    ∃ w', Steps P (lone fr cs w) (lone { fr with defers := [] } cs w') /\ w'.os = w.os /\ w'.tape = w.tape /\ w'.output = w.output /\ w'.heap.size = w.heap.size /\ (∀ k, k ∉ rs -> w'.heap[k]? = w.heap[k]?) := by
  intro rs
  induction rs generalizing fr with
  | nil => intro w hd _ _ cs; refine ⟨w, ?_, rfl, rfl, rfl, rfl, fun _ _ => rfl⟩; rw [show fr = { fr with defers := [] } by cases fr; simp_all]; exact .refl P _
  | cons r rs ih =>
    intro w hd hn hb cs
    have hr := hb r (by simp)
    have hlt := VW hr
    let w1 : World := { w with heap := w.heap.setIfInBounds r (.deferred none) }
    have hn := List.nodup_cons.1 hn
    have hother : ∀ k, k ≠ r -> w1.heap[k]? = w.heap[k]? := fun k hk => by show (w.heap.setIfInBounds r _)[k]? = _; rw [Array.getElem?_setIfInBounds, if_neg (Ne.symm hk)]
    obtain ⟨w', hs, h1, h2, h3, h4, h5⟩ := ih { fr with defers := rs.map zg9 } hm w1 rfl hn.2 (fun k hk => (hother k (fun e => hn.1 (e ▸ hk))).trans (hb k (by simp [hk]))) cs
    refine ⟨w', .head ?_ hs, h1, h2, h3, by rw [h4]; simp [w1], fun k hk => ?_⟩
    . refine step_lone_go ?_
      have hd' : fr.defers = { target := .collected r, args := #[] } :: rs.map zg9 := hd
      have hrun : (Instr.takeDeferred r).run P w = .ok [] w1 := by
        simp only [Instr.takeDeferred, getObj, setObj, Sem.run_bind]
        simp only [Sem.run, hr, Result.andThen_ok, Sem.run_bind]
        rfl
      simp only [stepG, hm, unwind, hd', Sem.runT_eq, hrun, GStep.bare_after]
      simp [GStep.bare]
    . simp only [List.mem_cons, not_or] at hk
      exact (h5 k hk.2).trans (hother k hk.1)
def wj (P : Program) (s : Env) (h : za) : List ResultVar -> Option (List Value)
  | [] => some []
  | .tmp t :: rs => (match wj P s h rs with
    | some vs => some (s.get t :: vs)
    | none => none)
  | .cell a t :: rs => (match zd P t (s.get a) h with
    | some v => (match wj P s h rs with
      | some vs => some (v :: vs)
      | none => none)
    | none => none)
def ux : List Value -> Value
  | [v] => v
  | vs => .tuple vs.toArray
def zgF (tm : Array Value) : ResultVar -> Sem Value
  | .tmp t => pure (tm.getD t undef)
  | .cell a t => do loadVar t (<- asAddr (tm.getD a undef))
theorem zeC (fn : Func) (tm : Array Value) : results fn tm = (do let vs <- fn.results.mapM (zgF tm); pure (if h : vs.size = 1 then vs[0] else .tuple vs)) := rfl
theorem qW {ρ : Ren} {s : Env} {h : za} {w : World} {tm : Array Value} (hr : Rel P ρ h w) (hs : xe ρ s tm) : ∀ {rs : List ResultVar} {vs : List Value}, wj P s h rs = some vs ->
    ∃ vs', (rs.mapM (zgF tm)).run P w = .ok vs' w /\ yQ ρ vs vs'
  | [], vs, he => by simp only [wj, Option.some.injEq] at he; subst he; exact ⟨[], rfl, .nil ρ⟩
  | .tmp t :: rs, vs, he => by
    simp only [wj] at he
    split at he
    case h_2 => cases he
    rename_i vs0 h0
    simp only [Option.some.injEq] at he
    subst he
    obtain ⟨vs', e, hv⟩ := qW hr hs h0
    exact ⟨_, by simp only [List.mapM_cons, zgF, Sem.run_bind, Sem.run_pure, Result.andThen_ok, e], .cons (hs.get t) hv⟩
  | .cell a t :: rs, vs, he => by
    simp only [wj] at he
    split at he
    case h_2 => cases he
    rename_i v hv0
    split at he
    case h_2 => cases he
    rename_i vs0 h0
    simp only [Option.some.injEq] at he
    subst he
    obtain ⟨vs', e, hv⟩ := qW hr hs h0
    obtain ⟨v', e1, hv1⟩ := Uz hv0 hr (hs.get a)
    have e2 : (do loadVar t (<- asAddr (tm.getD a undef)) : Sem Value).run P w = .ok v' w := by
      have hp := hs.get a
      generalize tm.getD a undef = x at hp e1 ⊢
      unfold zd at hv0
      split at hv0
      . rename_i hb
        rw [hb] at hp
        cases hp
        simpa [Instr.loadAt, Instr.sureAddr, asAddr] using e1
      . rename_i hb
        rw [hb] at hp
        cases hp
        simpa [Instr.loadAt, Instr.sureAddr, asAddr] using e1
      . cases hv0
    exact ⟨_, by rw [List.mapM_cons, Sem.run_bind, show zgF tm (.cell a t) = (do loadVar t (<- asAddr (tm.getD a undef)) : Sem Value) from rfl, e2]; simp only [Sem.run_bind, Result.andThen_ok, e, Sem.run_pure], .cons hv1 hv⟩
theorem zbZ {ρ : Ren} {s : Env} {h : za} {w : World} {tm : Array Value} (hr : Rel P ρ h w) (hs : xe ρ s tm) {fn : Func} {vs : List Value} (he : wj P s h fn.results.toList = some vs) :
    ∃ v', (results fn tm).run P w = .ok v' w /\ z9 ρ (ux vs) v' := by
  obtain ⟨vs', e, hv⟩ := qW hr hs he
  have em : (fn.results.mapM (zgF tm)).run P w = .ok vs'.toArray w := by
    rw [Array.mapM_eq_mapM_toList, Sem.run_map, e]; rfl
  rw [zeC]
  simp only [Sem.run_bind]
  refine ⟨if h : vs'.toArray.size = 1 then vs'.toArray[0] else .tuple vs'.toArray, ?_, ?_⟩
  . rw [em]; simp only [Result.andThen_ok, Sem.run_pure]
  . unfold ux
    split
    . rename_i v
      obtain ⟨y, ys, rfl, h1, h2⟩ := hv.cons_inv
      cases h2.xJ
      simpa using h1
    . rename_i hne
      rw [dif_neg (by
        intro h1
        have h1 : vs'.length = 1 := by simpa using h1
        have h2 : vs.length = 1 := by rw [hv.1]; exact h1
        cases vs with
        | nil => cases h2
        | cons v vs => cases vs with
          | nil => exact hne v rfl
          | cons => simp at h2)]
      exact .tuple (by simpa using hv.1) (fun i x y hx hy => hv.2 i x y (by simpa using hx) (by simpa using hy))
theorem zhk {f : FuncId} {fn : Func} {c : Code} {args : List Value} {h : za} {R : Value -> za -> Prop} (hf : P.funcs[f]? = some fn) (hb : fn.body = some c)
    (ht : T P none c (Env.enter args fn.ntmps) h (fun e s1 h1 => (e = .normal \/ e = .ret) /\ ∃ vs, wj P s1 h1 fn.results.toList = some vs /\ R (ux vs) h1)) : TC P f args h R := by
  intro ρ w cargs hr hv cs
  let b : Frame := { (default : Frame) with fn := f, kind := .normal, roundOf := none }
  let tm : Array Value := cargs.toArray ++ Array.replicate (fn.ntmps - cargs.toArray.size) undef
  have henter : Frame.enter P f cargs.toArray .normal = fat b tm [] [.code c] := by simp [Frame.enter, fat, hf, hb, b, tm]
  have hs : xe ρ (Env.enter args fn.ntmps) tm := by
    refine ⟨?_, fun i => ?_⟩
    . simp only [Env.Kp, tm, Array.size_append, Array.size_replicate, List.size_toArray, hv.1]; omega
    . rw [Env.zgP]
      rcases Nat.lt_or_ge i args.length with hi | hi
      . obtain ⟨y, hy, hxy⟩ := hv.get (List.getElem?_eq_getElem hi)
        have e1 : tm[i]? = some y := by
          rw [Array.getElem?_append_left (by simp; rw [<- hv.1]; exact hi)]
          simpa using hy
        rw [List.getElem?_eq_getElem hi]
        simp only [Option.getD_some, Array.getD_eq_getD_getElem?, e1]
        exact hxy
      . rw [List.getElem?_eq_none hi]
        have e1 : tm.getD i undef = undef := by
          simp only [Array.getD_eq_getD_getElem?, tm]
          rw [Array.getElem?_append_right (by simp; rw [<- hv.1]; exact hi)]
          rw [Array.getElem?_replicate]
          split <;> rfl
        rw [e1]
        exact .vI ρ rfl
  obtain ⟨e, s1, h1, ρ1, w1, tm1, ds1, ⟨he, vs, hvs, hR⟩, st, hs1, ⟨rs, hd1, hnd, hb1⟩, ha⟩ := ht ρ w tm [] hr hs b rfl [] cs
  obtain ⟨todo, hret⟩ : ∃ todo, Steps P (lone (Frame.enter P f cargs.toArray .normal) cs w) (lone { fat b tm1 ds1 todo with mode := .returning } cs w1) := by
    rw [henter]
    rcases he with rfl | rfl
    . exact ⟨[], Steps.trans ha (.one (zhI rfl))⟩
    . obtain ⟨t, sx⟩ := ha; exact ⟨_, sx.trans (.one (zfA rfl))⟩
  rw [List.append_nil] at hd1
  obtain ⟨w2, hs2, e1, e2, e3, e4, e5⟩ := zbw (P := P) { fat b tm1 ds1 todo with mode := .returning } rfl rs w1 hd1 hnd (fun r hr => (hb1 r hr).2) cs
  have hnot : ∀ b0 o pl, h1.get b0 = some o -> ρ1.m b0 = some pl -> pl.c ∉ rs := by
    intro b0 o pl hg hm hin
    have hc := st.rel.zls hg hm
    have hx := (hb1 _ hin).2
    cases o with
    | cells c t => obtain ⟨cs, fz, q1, _⟩ := hc; rw [hx] at q1; cases q1
    | map es q => obtain ⟨ms, q1, _⟩ := hc; rw [hx] at q1; cases q1
    | iter m a b c => obtain ⟨m', q1, _⟩ := hc; rw [hx] at q1; cases q1
    | tab c => obtain ⟨t, cs, fz, q1, _⟩ := hc; rw [hx] at q1; cases q1
    | siter s pos => have q1 : w1.heap[pl.c]? = _ := hc.1; rw [hx] at q1; cases q1
    | loop l => obtain ⟨tm, d, fn', q1, _⟩ := hc; rw [hx] at q1; cases q1
  have hr2 : Rel P ρ1 h1 w2 := ⟨st.rel.next, st.rel.ro, st.rel.dom, fun b0 o0 hg => by
    obtain ⟨pl, hp, hc⟩ := st.rel.ok b0 o0 hg
    exact ⟨pl, hp, hc.other (e5 _ (hnot _ _ _ hg hp))⟩, st.rel.inj, st.rel.gro, st.rel.Yt⟩
  obtain ⟨v', hv', hvr⟩ := zbZ hr2 hs1 hvs
  refine ⟨.returned v', w2, { fat b tm1 ds1 todo with mode := .returning, defers := [] }, ⟨ux vs, v', h1, ρ1, rfl, hR, ?_, hvr⟩, hret.trans hs2, rfl, rfl, rfl, rfl, fn, hf, hv'⟩
  exact ⟨st.le, hr2, st.ro, e1.trans st.os, e2.trans st.tape, e3.trans st.output, by rw [e4]; exact st.size,
    fun c hc hn => (e5 c (fun hin => by have := (hb1 c hin).1; omega)).trans (st.frame c hc hn), st.img⟩
end
end Go.Ai
set_option linter.unusedVariables false
namespace Go.Ai
noncomputable section
variable {P : Program}
theorem uL {s s' : Env} : ∀ {xs : List Operand}, (∀ x, x ∈ xs -> aev s x = aev s' x) -> QD s xs = QD s' xs
  | [], _ => rfl
  | x :: xs, h => by simp only [QD]; rw [h x (by simp), uL (fun y hy => h y (by simp [hy]))]
theorem jy {s s' : Env} : ∀ {ps : List (Nat × Operand)}, (∀ x, x ∈ ps -> aev s x.2 = aev s' x.2) -> Zf s ps = Zf s' ps
  | [], _ => rfl
  | (i, x) :: ps, h => by simp only [Zf]; rw [h (i, x) (by simp), jy (fun y hy => h y (by simp [hy]))]
theorem zgx {s s' : Env} {o : Oper} {g : za} (h : ∀ x, x ∈ o.op.operands -> aev s x = aev s' x) : aop P s o g = aop P s' o g := by
  obtain ⟨dst, op, type, pos, after, guard⟩ := o
  have one : ∀ x, x ∈ op.operands -> aev s x = aev s' x := h
  have opt : ∀ x : Option Operand, (∀ y, x = some y -> y ∈ op.operands) -> zhW s x = zhW s' x := by
    intro x hx
    cases x with
    | none => rfl
    | some y => simp only [zhW]; rw [one y (hx y rfl)]
  unfold aop
  cases op <;> simp only [] <;> first
    | rfl
    | (rw [one _ (by simp [Op.operands])]; done)
    | (rw [one _ (by simp [Op.operands]), one _ (by simp [Op.operands])]; done)
    | skip
  case pick c a b => rw [one c (by simp [Op.operands]), one a (by simp [Op.operands]), one b (by simp [Op.operands])]
  case build t parts => rw [jy (fun x hx => one _ (by simp only [Op.operands, List.mem_toArray, List.mem_map]; exact ⟨x, hx, rfl⟩))]
  case buildSlice t n parts => rw [jy (fun x hx => one _ (by simp only [Op.operands, List.mem_toArray, List.mem_map]; exact ⟨x, hx, rfl⟩))]
  case makeFunc fn first captured =>
    cases fn <;> simp only []
    rw [uL (s := s) (s' := s') (xs := first.toList) (fun x hx => one x (by simp [Op.operands]; exact .inl (by simpa using hx))), uL (s := s) (s' := s') (xs := captured.toList) (fun x hx => one x (by simp [Op.operands]; exact .inr (by simpa using hx)))]
  case slice t x lo hi mx =>
    cases mx <;> simp only []
    rw [one x (by simp [Op.operands]), opt lo (fun y e => by subst e; simp [Op.operands]), opt hi (fun y e => by subst e; simp [Op.operands])]
  case makeMap t r => cases r <;> rfl
  case mapUpdate t m k x => rw [one m (by simp [Op.operands]), one k (by simp [Op.operands]), one x (by simp [Op.operands])]
  case call c =>
    obtain ⟨callee, args, ts⟩ := c
    cases callee <;> simp only []
    rw [uL (s := s) (s' := s') (fun x hx => one x (by simp [Op.operands, Call.operands]; simpa using hx))]
def Env.only (s : Env) (l : List Nat) : Env := { t := l.foldl (fun t i => t.set i (some (s.get i))) .e, size := s.size }
theorem Env.ziZ (s : Env) (l : List Nat) (i : Nat) : (s.only l).get i = if i ∈ l then s.get i else undef := by
  have key : ∀ (l : List Nat) (t : Tr Value), (l.foldl (fun t i => t.set i (some (s.get i))) t).get i = if i ∈ l then some (s.get i) else t.get i := by
    intro l
    induction l with
    | nil => intro t; simp
    | cons j l ih =>
      intro t
      rw [List.foldl_cons, ih, Tr.zP]
      by_cases hi : i ∈ l
      . simp [hi]
      . by_cases e : i = j
        . subst e; simp [hi]
        . simp [hi, e]
  have := key l .e
  simp only [Env.get_eq, Env.only] at this ⊢
  rw [this]
  split <;> simp
theorem zaX {s s' : Env} {ops : Array Oper} {o : Oper} (h : ∀ t, t ∈ o.looksAt ops -> s.get t = s'.get t) : ∀ x, x ∈ o.op.operands -> aev s x = aev s' x := by
  intro x hx
  cases x with
  | tmp t =>
    simp only [aev]
    rw [h t (by simp only [Oper.looksAt, List.mem_append, List.mem_filterMap]; exact .inl ⟨.tmp t, by simpa using hx, rfl⟩)]
  | _ => rfl
theorem kK {tm tm' : Array Value} {ds : List Deferred} {ops : Array Oper} {o : Oper} (h : ∀ t, t ∈ o.looksAt ops -> tm.getD t undef = tm'.getD t undef) : ∀ x, x ∈ o.op.operands -> Act.eval ⟨tm, ds⟩ x = Act.eval ⟨tm', ds⟩ x := by
  intro x hx
  cases x with
  | tmp t => exact h t (by simp only [Oper.looksAt, List.mem_append, List.mem_filterMap]; exact .inl ⟨.tmp t, by simpa using hx, rfl⟩)
  | _ => rfl
theorem KG {s s' : Env} {ops : Array Oper} {o : Oper} (h : ∀ t, t ∈ o.looksAt ops -> s.get t = s'.get t) : zZ ops s o = zZ ops s' o := by
  unfold zZ
  split
  . rfl
  . rename_i j want e
    split
    . rfl
    . rename_i d hd
      rw [h d (by simp only [Oper.looksAt, List.mem_append]; right; rw [e]; simp [hd])]
def qt (P : Program) (ops : Array Oper) (s : Env) (o : Oper) (g : za) (v : Value) (g' : za) : Prop :=
  (zZ ops s o = false /\ v = undef /\ g' = g) \/
  (zZ ops s o = true /\ (aop P s o g = some (v, g') \/
    (∃ f cargs ts fid fa fc vs, o.op = .call { callee := .value f, args := cargs, argTypes := ts } /\ aev s f = some (.func (.func fid) fa fc) /\ QD s cargs.toList = some vs /\ yT P fid = true /\
      TC P fid (fa.toList ++ vs ++ fc.toList) g (fun v1 h1 => v1 = v /\ h1 = g')) \/
    (∃ f cargs ts fid fa fc vs, o.op = .call { callee := .value f, args := cargs, argTypes := ts } /\ aev s f = some (.func (.func fid) fa fc) /\ QD s cargs.toList = some vs /\ zih P fid (fa.toList ++ vs ++ fc.toList) g = some (v, g'))))
theorem qt.congr {ops : Array Oper} {s s' : Env} {o : Oper} {g g' : za} {v : Value} (hs : qt P ops s o g v g') (h : ∀ t, t ∈ o.looksAt ops -> s.get t = s'.get t) : qt P ops s' o g v g' := by
  have e1 := zaX h
  unfold qt at *
  rw [<- KG h]
  rcases hs with hs | ⟨hw, hs | ⟨f, cargs, ts, fid, fa, fc, vs, h1, h2, h3, h4, h5⟩ | ⟨f, cargs, ts, fid, fa, fc, vs, h1, h2, h3, h4⟩⟩
  . exact .inl hs
  . exact .inr ⟨hw, .inl (by rw [<- zgx e1]; exact hs)⟩
  . refine .inr ⟨hw, .inr (.inl ⟨f, cargs, ts, fid, fa, fc, vs, h1, ?_, ?_, h4, h5⟩)⟩
    . rw [<- e1 f (by rw [h1]; simp [Op.operands, Call.operands])]; exact h2
    . rw [<- uL (s := s) (s' := s') (xs := cargs.toList) (fun x hx => e1 x (by rw [h1]; simp only [Op.operands, Call.operands]; simp; right; simpa using hx))]; exact h3
  . refine .inr ⟨hw, .inr (.inr ⟨f, cargs, ts, fid, fa, fc, vs, h1, ?_, ?_, h4⟩)⟩
    . rw [<- e1 f (by rw [h1]; simp [Op.operands, Call.operands])]; exact h2
    . rw [<- uL (s := s) (s' := s') (xs := cargs.toList) (fun x hx => e1 x (by rw [h1]; simp only [Op.operands, Call.operands]; simp; right; simpa using hx))]; exact h3
theorem Yo {ops : Array Oper} {s : Env} {o : Oper} {g g' : za} {v : Value} {j : Nat} {ρ : Ren} {w : World} {tm : Array Value} (ho : ops[j]? = some o) (hsem : qt P ops s o g v g') (hr : Rel P ρ g w)
    (hsz : s.size = tm.size) (hl : ∀ t, t ∈ o.looksAt ops -> z9 ρ (s.get t) (tm.getD t undef)) (ds : List Deferred) (rest : List Nat) (b : Frame) (k : List Item) (cs : List Frame) :
    ∃ v' w' ρ', Step P ρ g w ρ' g' w' /\ z9 ρ' v v' /\
      Steps P (lone (fat b tm ds (.inRegion ops (j :: rest) :: k)) cs w) (lone (fat b (wV tm o.dst v') ds (.inRegion ops rest :: k)) cs w') := by
  let L := o.looksAt ops
  let s2 := s.only L
  let tm2 : Array Value := (Array.range tm.size).map fun t => if t ∈ L then tm.getD t undef else undef
  have hg2 : ∀ t, s2.get t = if t ∈ L then s.get t else undef := Env.ziZ s L
  have ht2 : ∀ t, t ∈ L -> tm2.getD t undef = tm.getD t undef := by
    intro t ht
    simp only [tm2, Array.getD_eq_getD_getElem?, Array.getElem?_map]
    by_cases hlt : t < tm.size
    . rw [Array.getElem?_range, if_pos hlt]; simp [ht]
    . rw [Array.getElem?_range, if_neg hlt]; simp [Array.getElem?_eq_none (Nat.le_of_not_lt hlt)]
  have ht2' : ∀ t, t ∉ L -> tm2.getD t undef = undef := by
    intro t ht
    simp only [tm2, Array.getD_eq_getD_getElem?, Array.getElem?_map]
    by_cases hlt : t < tm.size
    . rw [Array.getElem?_range, if_pos hlt]; simp [ht]
    . rw [Array.getElem?_range, if_neg hlt]; rfl
  have hs2 : xe ρ s2 tm2 := by
    refine ⟨by show s.size = _; simp [tm2, hsz], fun t => ?_⟩
    rw [hg2]
    by_cases ht : t ∈ L
    . rw [if_pos ht, ht2 t ht]; exact hl t ht
    . rw [if_neg ht, ht2' t ht]; exact .vI ρ rfl
  have hsem2 : qt P ops s2 o g v g' := hsem.congr (fun t ht => by rw [hg2, if_pos ht])
  have hwant : Region.wanted o (yielded ops tm) = zZ ops s2 o := by
    rw [<- uU hs2 ops o]
    unfold Region.wanted
    cases hgd : o.guard with
    | none => rfl
    | some gw =>
      obtain ⟨q, want⟩ := gw
      simp only []
      have : yielded ops tm q = yielded ops tm2 q := by
        unfold yielded
        cases hd : (ops[q]?).bind (·.dst) with
        | none => rfl
        | some d =>
          have hdl : d ∈ L := by simp only [L, Oper.looksAt, List.mem_append]; right; rw [hgd]; simp [hd]
          simp only [Option.bind_some]
          have e := ht2 d hdl
          simp only [Array.getD_eq_getD_getElem?] at e
          have esz : tm2.size = tm.size := by simp [tm2]
          by_cases hlt : d < tm.size
          . rw [Array.getElem?_eq_getElem hlt, Array.getElem?_eq_getElem (esz ▸ hlt)] at e ⊢
            simp only [Option.getD_some] at e
            rw [e]
          . rw [Array.getElem?_eq_none (Nat.le_of_not_lt hlt), Array.getElem?_eq_none (by rw [esz]; exact Nat.le_of_not_lt hlt)]
      rw [this]
  rcases hsem2 with ⟨hw, rfl, rfl⟩ | ⟨hw, hs | ⟨f, cargs, ts, fid, fa, fc, vs, h1, h2, h3, h4, h5⟩ | ⟨f, cargs, ts, fid, fa, fc, vs, h1, h2, h3, h4⟩⟩
  . refine ⟨undef, w, ρ, .refl hr, .vI ρ rfl, .one ?_⟩
    rw [Y7 (by rw [ho]; exact hwant.trans hw), wZ, ho]
    rfl
  . obtain ⟨n, w1, ρ1, v', e, hn, st, hv⟩ := zaq (a := ⟨tm2, []⟩) hs hr hs2
    refine ⟨v', w1, ρ1, st, hv, .one ?_⟩
    have hnd := qM hs
    have hnsel : ∀ cs' b', o.op ≠ .select cs' b' := by intro cs' b' e; unfold aop at hs; rw [e] at hs; cases hs
    have e' : (execOp (Act.eval ⟨tm, ds⟩) o).run P w = .ok n w1 := by
      rw [<- e]
      congr 1
      refine execOp_congr o hnsel (fun x hx => ?_)
      exact (kK (ds := ds) (fun t ht => (ht2 t ht).symm) x hx).trans (by cases x <;> rfl)
    have hfin : (fat b tm ds (.inRegion ops (j :: rest) :: k)).finish v' = fat b (wV tm o.dst v') ds (.inRegion ops rest :: k) := by rw [wZ, ho]; rfl
    rw [<- hfin]
    rcases hn with rfl | ⟨rfl, rfl⟩
    . exact ub ho (hwant.trans hw) hnd e'
    . exact uE ho (hwant.trans hw) hnd e'
  . have e1 := zB (a := ⟨tm2, []⟩) hs2 h2
    have e2 := wW (a := ⟨tm2, []⟩) hs2 h3
    have hlook : ∀ (ds : List Deferred) x, x ∈ o.op.operands -> Act.eval ⟨tm2, []⟩ x = Act.eval ⟨tm, ds⟩ x := fun ds x hx =>
      (show Act.eval ⟨tm2, []⟩ x = Act.eval ⟨tm2, ds⟩ x by cases x <;> rfl).trans (kK (ds := ds) (fun t ht => ht2 t ht) x hx)
    generalize hfv : Act.eval ⟨tm2, []⟩ f = fv at e1
    cases e1 with
    | func ha hcs q1 q2 =>
      rename_i fa' fc'
      let full := fa'.toList ++ cargs.toList.map (Act.eval ⟨tm2, []⟩) ++ fc'.toList
      have hfull : yQ ρ (fa.toList ++ vs ++ fc.toList) full :=
        (yQ.append ⟨by simpa using ha, fun i x y hx hy => q1 i x y (by simpa using hx) (by simpa using hy)⟩ e2).append ⟨by simpa using hcs, fun i x y hx hy => q2 i x y (by simpa using hx) (by simpa using hy)⟩
      have hrun : (execOp (Act.eval ⟨tm, ds⟩) o).run P w = .ok (.enter fid full.toArray) w := by
        have hnsel : ∀ cs' b', o.op ≠ .select cs' b' := by intro cs' b' e; rw [h1] at e; cases e
        rw [<- execOp_congr o hnsel (hlook ds)]
        have hargs' : fa' ++ cargs.map (Act.eval ⟨tm2, []⟩) ++ fc' = full.toArray := by apply Array.ext'; simp [full]
        simp only [execOp, h1, resolve, hfv, Deferred.ofValue, Sem.run_bind, Sem.run_pure, Result.andThen_ok, invoke, callFunc, run_program, hargs']
        unfold yT at h4
        cases hfn : P.funcs[fid]? with
        | none => rw [hfn] at h4; cases h4
        | some fn =>
          rw [hfn] at h4
          simp only [Bool.and_eq_true, Bool.not_eq_true'] at h4
          simp only [h4.2, Bool.false_eq_true, if_false]
          rw [if_neg (by cases hb : fn.body <;> simp_all)]
          rfl
      obtain ⟨e, w1, fr, ⟨v0, v', h', ρ', rfl, ⟨rfl, rfl⟩, st, hv⟩, hcomes, _, hleave⟩ := h5 ρ w full hr hfull (fat b tm ds (.inRegion ops (j :: rest) :: k) :: cs)
      refine ⟨v', w1, ρ', st, hv, .head (ZU ho (hwant.trans hw) (by rw [h1]; rfl) hrun) (Steps.trans hcomes (.one ?_))⟩
      rw [step_leave_returned hleave, wZ, ho]
      rfl
  . obtain ⟨n, w1, ρ1, v', e, hn, st, hv⟩ := zbD (a := ⟨tm2, []⟩) h1 h2 h3 h4 hr hs2
    refine ⟨v', w1, ρ1, st, hv, .one ?_⟩
    have hnd : qQ o.op = false := by rw [h1]; rfl
    have hnsel : ∀ cs' b', o.op ≠ .select cs' b' := by intro cs' b' e; rw [h1] at e; cases e
    have e' : (execOp (Act.eval ⟨tm, ds⟩) o).run P w = .ok n w1 := by
      rw [<- e]
      congr 1
      refine execOp_congr o hnsel (fun x hx => ?_)
      exact (kK (ds := ds) (fun t ht => (ht2 t ht).symm) x hx).trans (by cases x <;> rfl)
    have hfin : (fat b tm ds (.inRegion ops (j :: rest) :: k)).finish v' = fat b (wV tm o.dst v') ds (.inRegion ops rest :: k) := by rw [wZ, ho]; rfl
    rw [<- hfin]
    rcases hn with rfl | ⟨rfl, rfl⟩
    . exact ub ho (hwant.trans hw) hnd e'
    . exact uE ho (hwant.trans hw) hnd e'
end
end Go.Ai
set_option linter.unusedVariables false
namespace Go.Ai
noncomputable section
variable {P : Program}
def Ren.cut (ρ : Ren) (n : Nat) : Ren := { ρ with next := n }
theorem z9.ext {ρ ρ' : Ren} (hn : ρ.next <= ρ'.next) (hm : ∀ b pl, b < ρ.next -> ρ.m b = some pl -> ρ'.m b = some pl) {v v' : Value} (h : z9 ρ v v') : z9 ρ' v v' := by
  induction h with
  | odd h => exact .odd h
  | bool b => exact .bool b
  | int k n => exact .int k n
  | float k n => exact .float k n
  | string s => exact .string s
  | ptrNil => exact .ptrNil
  | ptr hb hm0 => exact .ptr (Nat.lt_of_lt_of_le hb hn) (hm _ _ hb hm0)
  | Yt => exact .Yt
  | sliceNil c => exact .sliceNil c
  | slice hb hm0 hl hc => exact .slice (Nat.lt_of_lt_of_le hb hn) (hm _ _ hb hm0) hl hc
  | sliceOut hb hc => exact .sliceOut (Nat.lt_of_lt_of_le hb hn) hc
  | nilFunc => exact .nilFunc
  | nilIface => exact .nilIface
  | mapNil => exact .mapNil
  | map hb hm0 => exact .map (Nat.lt_of_lt_of_le hb hn) (hm _ _ hb hm0)
  | yield hb hm0 => exact .yield (Nat.lt_of_lt_of_le hb hn) (hm _ _ hb hm0)
  | iface _ ih => exact .iface ih
  | func ha hc _ _ ih ih' => exact .func ha hc ih ih'
  | agg ha _ ih => exact .agg ha ih
  | tuple ha _ ih => exact .tuple ha ih
theorem z9.down {ρ ρ2 : Ren} (hm : ∀ b, b < ρ.next -> ρ2.m b = ρ.m b) {v v' : Value} (h : z9 ρ v v') : ∀ {u : Value}, z9 ρ2 v u -> z9 ρ v u := by
  induction h with
  | odd h => intro u hu; cases hu with | odd h2 => exact .odd h2
  | bool b => intro u hu; cases hu; exact .bool b
  | int k n => intro u hu; cases hu; exact .int k n
  | float k n => intro u hu; cases hu; exact .float k n
  | string s => intro u hu; cases hu; exact .string s
  | ptrNil => intro u hu; cases hu; exact .ptrNil
  | ptr hb hm0 => intro u hu; cases hu with | ptr hb2 hm2 => exact .ptr hb ((hm _ hb).symm.trans hm2)
  | Yt => intro u hu; cases hu; exact .Yt
  | sliceNil c => intro u hu; cases hu; exact .sliceNil c
  | slice hb hm0 hl hc =>
    intro u hu
    cases hu with
    | slice hb2 hm2 hl2 hc2 => exact .slice hb ((hm _ hb).symm.trans hm2) hl2 hc2
    | sliceOut hb2 hc2 => exact .sliceOut hb hc2
  | sliceOut hb hc =>
    intro u hu
    cases hu with
    | slice hb2 hm2 hl2 hc2 => exact .slice hb ((hm _ hb).symm.trans hm2) hl2 hc2
    | sliceOut hb2 hc2 => exact .sliceOut hb hc2
  | nilFunc => intro u hu; cases hu; exact .nilFunc
  | nilIface => intro u hu; cases hu; exact .nilIface
  | mapNil => intro u hu; cases hu; exact .mapNil
  | map hb hm0 => intro u hu; cases hu with | map hb2 hm2 => exact .map hb ((hm _ hb).symm.trans hm2)
  | yield hb hm0 => intro u hu; cases hu with | yield hb2 hm2 => exact .yield hb ((hm _ hb).symm.trans hm2)
  | iface _ ih => intro u hu; cases hu with | iface h2 => exact .iface (ih h2)
  | func ha hc h1 h2 ih ih' =>
    rename_i f a c a' c'
    intro u hu
    cases hu with
    | func ha2 hc2 k1 k2 =>
      refine .func ha2 hc2 (fun i x y hx hy => ?_) (fun i x y hx hy => ?_)
      . obtain ⟨z, hz⟩ : ∃ z, a'[i]? = some z := by
          have hlt : i < a.size := by
            rcases Nat.lt_or_ge i a.size with h | h
            . exact h
            . rw [Array.getElem?_eq_none h] at hx; cases hx
          exact ⟨_, Array.getElem?_eq_getElem (ha ▸ hlt)⟩
        exact ih i x z hx hz (k1 i x y hx hy)
      . obtain ⟨z, hz⟩ : ∃ z, c'[i]? = some z := by
          have hlt : i < c.size := by
            rcases Nat.lt_or_ge i c.size with h | h
            . exact h
            . rw [Array.getElem?_eq_none h] at hx; cases hx
          exact ⟨_, Array.getElem?_eq_getElem (hc ▸ hlt)⟩
        exact ih' i x z hx hz (k2 i x y hx hy)
  | agg ha h1 ih =>
    rename_i a a'
    intro u hu
    cases hu with
    | agg ha2 k1 =>
      refine .agg ha2 (fun i x y hx hy => ?_)
      obtain ⟨z, hz⟩ : ∃ z, a'[i]? = some z := by
        have hlt : i < a.size := by
          rcases Nat.lt_or_ge i a.size with h | h
          . exact h
          . rw [Array.getElem?_eq_none h] at hx; cases hx
        exact ⟨_, Array.getElem?_eq_getElem (ha ▸ hlt)⟩
      exact ih i x z hx hz (k1 i x y hx hy)
  | tuple ha h1 ih =>
    rename_i a a'
    intro u hu
    cases hu with
    | tuple ha2 k1 =>
      refine .tuple ha2 (fun i x y hx hy => ?_)
      obtain ⟨z, hz⟩ : ∃ z, a'[i]? = some z := by
        have hlt : i < a.size := by
          rcases Nat.lt_or_ge i a.size with h | h
          . exact h
          . rw [Array.getElem?_eq_none h] at hx; cases hx
        exact ⟨_, Array.getElem?_eq_getElem (ha ▸ hlt)⟩
      exact ih i x z hx hz (k1 i x y hx hy)
theorem yn.ext {ρ ρ' : Ren} (hn : ρ.next <= ρ'.next) (hm : ∀ b pl, b < ρ.next -> ρ.m b = some pl -> ρ'.m b = some pl) {wr : Bool} {c : List Value} {t : TypeId} {pl : Place} {w : World} (hc : yn P ρ wr c t pl w) : yn P ρ' wr c t pl w := by
  obtain ⟨cs, fz, h1, h2, h3, h4, h5, h6⟩ := hc
  exact ⟨cs, fz, h1, h2, h3, h4, h5, fun i x hx => by obtain ⟨y, hy, hv⟩ := h6 i x hx; exact ⟨y, hy, hv.ext hn hm⟩⟩
theorem yn.down {ρ ρ2 : Ren} (hm : ∀ b, b < ρ.next -> ρ2.m b = ρ.m b) {wr wr2 : Bool} {c : List Value} {t : TypeId} {pl : Place} {w w2 : World} (h : yn P ρ wr c t pl w) (h2 : yn P ρ2 wr2 c t pl w2) : yn P ρ wr2 c t pl w2 := by
  obtain ⟨cs, fz, a1, a2, a3, a4, a5, a6⟩ := h
  obtain ⟨cs2, fz2, b1, b2, b3, b4, b5, b6⟩ := h2
  exact ⟨cs2, fz2, b1, b2, b3, b4, b5, fun i x hx => by
    obtain ⟨y, hy, hv⟩ := a6 i x hx
    obtain ⟨y2, hy2, hv2⟩ := b6 i x hx
    exact ⟨y2, hy2, hv.down hm hv2⟩⟩
theorem xX.ext {ρ ρ' : Ren} (hn : ρ.next <= ρ'.next) (hm : ∀ b pl, b < ρ.next -> ρ.m b = some pl -> ρ'.m b = some pl) {wr : Bool} {o : wB} {pl : Place} {w : World} (hc : xX P ρ wr o pl w) : xX P ρ' wr o pl w := by
  cases o with
  | cells c t => exact yn.ext hn hm hc
  | map es q => obtain ⟨ms, h1, h2, h3⟩ := hc; exact ⟨ms, h1, h2, fun i x m hx hm0 => ⟨(h3 i x m hx hm0).1.ext hn hm, (h3 i x m hx hm0).2.1.ext hn hm, (h3 i x m hx hm0).2.2⟩⟩
  | iter m a b c => obtain ⟨m', h1, h0, h2⟩ := hc; exact ⟨m', h1, h0, h2.ext hn hm⟩
  | tab c => obtain ⟨t, h1⟩ := hc; exact ⟨t, yn.ext hn hm h1⟩
  | siter s pos => exact hc
  | loop l => obtain ⟨tm, d, fn, h1, h2⟩ := hc; exact ⟨tm, d, fn, h1, h2.size, fun i => (h2.get i).ext hn hm⟩
theorem xX.down {ρ ρ2 : Ren} (hm : ∀ b, b < ρ.next -> ρ2.m b = ρ.m b) {wr wr2 : Bool} {o : wB} {pl : Place} {w w2 : World} (h : xX P ρ wr o pl w) (h2 : xX P ρ2 wr2 o pl w2) : xX P ρ wr2 o pl w2 := by
  cases o with
  | cells c t => exact yn.down hm h h2
  | iter m a b c =>
    obtain ⟨m1, a1, _, a2⟩ := h
    obtain ⟨m2, b1, b0, b2⟩ := h2
    exact ⟨m2, b1, b0, a2.down hm b2⟩
  | siter s pos => exact h2
  | tab c =>
    obtain ⟨t, cs, fz, a1, a2, a3, a4, a5, a6⟩ := h
    obtain ⟨t2, cs2, fz2, b1, b2, b3, b4, b5, b6⟩ := h2
    exact ⟨t2, cs2, fz2, b1, b2, b3, b4, b5, fun i x hx => by
      obtain ⟨y, hy, hv⟩ := a6 i x hx
      obtain ⟨y2, hy2, hv2⟩ := b6 i x hx
      exact ⟨y2, hy2, hv.down hm hv2⟩⟩
  | map es q =>
    obtain ⟨ms, a1, a2, a3⟩ := h
    obtain ⟨ms2, b1, b2, b3⟩ := h2
    refine ⟨ms2, b1, b2, fun i x m hx hm0 => ?_⟩
    obtain ⟨z, hz⟩ : ∃ z, ms[i]? = some z := by
      have hlt : i < ms.size := by
        rcases Nat.lt_or_ge i es.length with h | h
        . omega
        . rw [List.getElem?_eq_none h] at hx; cases hx
      exact ⟨_, Array.getElem?_eq_getElem hlt⟩
    exact ⟨(a3 i x z hx hz).1.down hm (b3 i x m hx hm0).1, (a3 i x z hx hz).2.1.down hm (b3 i x m hx hm0).2.1, (b3 i x m hx hm0).2.2⟩
  | loop l =>
    obtain ⟨tm, d, fn, a1, a2⟩ := h
    obtain ⟨tm2, d2, fn2, b1, b2⟩ := h2
    exact ⟨tm2, d2, fn2, b1, b2.size, fun i => (a2.get i).down hm (b2.get i)⟩
theorem xX.UF {ρ : Ren} {n m : Nat} (h : n <= m) {wr : Bool} {o : wB} {pl : Place} {w : World} (hc : xX P (ρ.cut n) wr o pl w) : xX P (ρ.cut m) wr o pl w := xX.ext (ρ := ρ.cut n) (ρ' := ρ.cut m) h (fun _ _ _ h => h) hc
theorem xX.JE {ρ ρ' : Ren} {n : Nat} (hm : ∀ b pl, ρ.m b = some pl -> ρ'.m b = some pl) {wr : Bool} {o : wB} {pl : Place} {w : World} (hc : xX P (ρ.cut n) wr o pl w) : xX P (ρ'.cut n) wr o pl w := xX.ext (ρ := ρ.cut n) (ρ' := ρ'.cut n) (Nat.le_refl _) (fun b pl _ h => hm b pl h) hc
theorem z9.UF {ρ : Ren} {n m : Nat} (h : n <= m) {v v' : Value} (hv : z9 (ρ.cut n) v v') : z9 (ρ.cut m) v v' := z9.ext (ρ := ρ.cut n) (ρ' := ρ.cut m) h (fun _ _ _ h => h) hv
theorem z9.JE {ρ ρ' : Ren} {n : Nat} (hm : ∀ b pl, ρ.m b = some pl -> ρ'.m b = some pl) {v v' : Value} (hv : z9 (ρ.cut n) v v') : z9 (ρ'.cut n) v v' := z9.ext (ρ := ρ.cut n) (ρ' := ρ'.cut n) (Nat.le_refl _) (fun b pl _ h => hm b pl h) hv
structure yR where
  j : Nat
  o : Oper
  v : Value
  s : Env
  g : za
  g' : za
  rd : Nat -> Bool
  tc : Nat -> Bool
def xp (T : List yR) (p : yR -> Bool) : Option yR := (T.filter p).getLast?
def wrs (t : Nat) (r : yR) : Bool := decide (r.o.dst = some t)
def UQ (T : List yR) (s0 : Env) (t : Nat) : Value := match xp T (wrs t) with | some r => r.v | none => s0.get t
def zdJ (T : List yR) (n0 : Nat) (t : Nat) : Nat := match xp T (wrs t) with | some r => r.g'.next | none => n0
def hpV (T : List yR) (h0 : za) (b : Nat) : Option wB := match xp T (fun r => r.tc b) with | some r => r.g'.get b | none => h0.get b
def hpN (T : List yR) (n0 : Nat) (b : Nat) : Nat := match xp T (fun r => r.tc b) with | some r => r.g'.next | none => n0
inductive Prec (ops : Array Oper) : Nat -> Nat -> Prop
  | one {j : Nat} {o : Oper} {e : Edge} (ho : ops[j]? = some o) (he : e ∈ o.after) (hb : Region.binds .any e = true) : Prec ops e.on j
  | more {i j : Nat} {o : Oper} {e : Edge} (ho : ops[j]? = some o) (he : e ∈ o.after) (hb : Region.binds .any e = true) (h : Prec ops i e.on) : Prec ops i j
structure zho (ops : Array Oper) (x y : yR) : Prop where
  d1 : ∀ d, x.o.dst = some d -> d ∉ y.o.looksAt ops /\ y.o.dst ≠ some d
  d2 : ∀ d, y.o.dst = some d -> d ∉ x.o.looksAt ops
  b1 : ∀ b, x.tc b = true -> y.rd b = false /\ y.tc b = false
  b2 : ∀ b, y.tc b = true -> x.rd b = false
structure Told (P : Program) (ops : Array Oper) (s0 : Env) (h0 : za) (A : List yR) (r : yR) : Prop where
  op : ops[r.j]? = some r.o
  env : ∀ t, r.s.get t = UQ A s0 t
  size : r.s.size = s0.size
  heap : ∀ b, r.g.get b = if r.rd b = true then hpV A h0 b else none
  ro : r.g.ro = h0.ro
  n0 : h0.next <= r.g.next
  nA : ∀ x, x ∈ A -> x.g'.next <= r.g.next
  n1 : r.g.next <= r.g'.next
  sem : qt P ops r.s r.o r.g r.v r.g'
  put : ∀ d, r.o.dst = some d -> d < s0.size
  tc1 : ∀ b, r.tc b = true -> r.rd b = true \/ (r.g.next <= b /\ b < r.g'.next)
  tc2 : ∀ b, r.tc b = false -> r.g'.get b = r.g.get b
  tc3 : ∀ b o, r.tc b = true -> b < r.g.next -> r.g'.get b = some o -> r.g.get b ≠ none
structure Valid (P : Program) (ops : Array Oper) (s0 : Env) (h0 : za) (tr : List yR) : Prop where
  nodup : (tr.map (·.j)).Nodup
  all : ∀ i, i < ops.size -> ∃ r, r ∈ tr /\ r.j = i
  told : ∀ A r B, tr = A ++ r :: B -> Told P ops s0 h0 A r
  Wh : ∀ A r B, tr = A ++ r :: B -> ∀ e, e ∈ r.o.after -> Region.binds .any e = true -> ∃ x, x ∈ A /\ x.j = e.on
  apart : ∀ A x B y C, tr = A ++ x :: (B ++ y :: C) -> Prec ops x.j y.j \/ zho ops x y
theorem qD {tr A B : List yR} {r x : yR} (hn : (tr.map (·.j)).Nodup) (e : tr = A ++ r :: B) (hx : x ∈ A \/ x ∈ B) : x.j ≠ r.j := by
  subst e
  rw [List.map_append, List.map_cons] at hn
  have h1 := List.nodup_append.1 hn
  intro ej
  rcases hx with hx | hx
  . exact h1.2.2 x.j (List.mem_map_of_mem hx) r.j (by simp) ej
  . have := (List.nodup_cons.1 h1.2.1).1
    exact this (ej ▸ List.mem_map_of_mem hx)
theorem zjR {ops : Array Oper} {s0 : Env} {h0 : za} {tr : List yR} (V : Valid P ops s0 h0 tr) {S : Nat -> Bool} (hdown : ∀ i j, Prec ops i j -> S j = true -> S i = true) {A B : List yR} {r : yR} (e : tr = A ++ r :: B)
    (hready : ∀ i, Prec ops i r.j -> S i = true) (hnot : S r.j = false) {p : yR -> Bool} (hp : ∀ x, (x ∈ A -> p x = true -> Prec ops x.j r.j) /\ (x ∈ B -> p x = true -> Prec ops r.j x.j)) :
    (A.filter (fun x => S x.j)).filter p = A.filter p /\ (B.filter (fun x => S x.j)).filter p = [] := by
  constructor
  . rw [List.filter_filter]
    apply List.filter_congr
    intro x hx
    cases hpx : p x with
    | false => simp
    | true => rw [hready _ ((hp x).1 hx hpx)]; rfl
  . rw [List.filter_filter, List.filter_eq_nil_iff]
    intro x hx hc
    simp only [Bool.and_eq_true] at hc
    have := hdown _ _ ((hp x).2 hx hc.1) hc.2
    rw [hnot] at this
    cases this
theorem Valid.order {ops : Array Oper} {s0 : Env} {h0 : za} {tr A B : List yR} {r : yR} (V : Valid P ops s0 h0 tr) (e : tr = A ++ r :: B) {p : yR -> Bool} (hA : ∀ x, zho ops x r -> p x = false) (hB : ∀ x, zho ops r x -> p x = false) :
    ∀ x, (x ∈ A -> p x = true -> Prec ops x.j r.j) /\ (x ∈ B -> p x = true -> Prec ops r.j x.j) := by
  intro x
  constructor
  . intro hx hpx
    obtain ⟨A1, A2, rfl⟩ := List.append_of_mem hx
    rcases V.apart A1 x A2 r B (by simp [e]) with h | h
    . exact h
    . rw [hA x h] at hpx; cases hpx
  . intro hx hpx
    obtain ⟨B1, B2, rfl⟩ := List.append_of_mem hx
    rcases V.apart A r B1 x B2 e with h | h
    . exact h
    . rw [hB x h] at hpx; cases hpx
end
end Go.Ai
set_option linter.unusedVariables false
namespace Go.Ai
noncomputable section
variable {P : Program}
structure zbq (P : Program) (tr : List yR) (s0 : Env) (h0 : za) (N : Nat) (ρ0 : Ren) (w0 : World) (S : Nat -> Bool) (ρ : Ren) (w : World) (tm : Array Value) : Prop where
  next : ρ.next = N
  old : ∀ b, b < h0.next -> ρ.m b = ρ0.m b
  size : s0.size = tm.size
  env : ∀ t, z9 (ρ.cut (zdJ (tr.filter fun r => S r.j) h0.next t)) (UQ (tr.filter fun r => S r.j) s0 t) (tm.getD t undef)
  heap : ∀ b o, hpV (tr.filter fun r => S r.j) h0 b = some o -> b < hpN (tr.filter fun r => S r.j) h0.next b /\
    ∃ pl, ρ.m b = some pl /\ xX P (ρ.cut (hpN (tr.filter fun r => S r.j) h0.next b)) (decide (h0.ro <= b)) o pl w
  inj : ∀ b1 b2 o1 o2 p1 p2, hpV (tr.filter fun r => S r.j) h0 b1 = some o1 -> hpV (tr.filter fun r => S r.j) h0 b2 = some o2 -> ρ.m b1 = some p1 -> ρ.m b2 = some p2 -> p1.c = p2.c -> b1 = b2
  fresh : ∀ x, x ∈ tr -> S x.j = false -> ∀ b, x.g.next <= b -> b < x.g'.next -> ρ.m b = none
  os : w.os = w0.os
  tape : w.tape = w0.tape
  output : w.output = w0.output
  U0 : w0.heap.size <= w.heap.size
  frame : ∀ c, c < w0.heap.size -> ¬ zdP ρ0 h0 c -> w.heap[c]? = w0.heap[c]?
  img : ∀ b o pl, hpV (tr.filter fun r => S r.j) h0 b = some o -> h0.ro <= b -> ρ.m b = some pl -> pl.c < w0.heap.size -> zdP ρ0 h0 pl.c
  gro : P.globals.size <= h0.ro
  gl : ∀ b pl, b < P.globals.size -> ρ.m b = some pl -> pl.c = b /\ pl.base = 0
def qA (S : Nat -> Bool) (j : Nat) : Nat -> Bool := fun i => S i || decide (i = j)
section
variable {ops : Array Oper} {s0 : Env} {h0 : za} {tr A B : List yR} {r : yR} {S : Nat -> Bool}
theorem Wp (e : tr = A ++ r :: B) (hnot : S r.j = false) : tr.filter (fun x => S x.j) = A.filter (fun x => S x.j) ++ B.filter (fun x => S x.j) := by
  subst e; simp [hnot]
theorem Qh (V : Valid P ops s0 h0 tr) (e : tr = A ++ r :: B) : tr.filter (fun x => qA S r.j x.j) = A.filter (fun x => S x.j) ++ r :: B.filter (fun x => S x.j) := by
  have hA : A.filter (fun x => qA S r.j x.j) = A.filter (fun x => S x.j) := List.filter_congr fun x hx => by simp [qA, qD V.nodup e (.inl hx)]
  have hB : B.filter (fun x => qA S r.j x.j) = B.filter (fun x => S x.j) := List.filter_congr fun x hx => by simp [qA, qD V.nodup e (.inr hx)]
  rw [e, List.filter_append, List.filter_cons, hA, hB, if_pos (by simp [qA])]
theorem Vm (V : Valid P ops s0 h0 tr) (hdown : ∀ i j, Prec ops i j -> S j = true -> S i = true) (e : tr = A ++ r :: B) (hready : ∀ i, Prec ops i r.j -> S i = true) (hnot : S r.j = false) {p : yR -> Bool}
    (hA : ∀ x, zho ops x r -> p x = false) (hB : ∀ x, zho ops r x -> p x = false) : xp (tr.filter fun x => S x.j) p = xp A p := by
  obtain ⟨h1, h2⟩ := zjR V hdown e hready hnot (V.order e hA hB)
  rw [xp, Wp e hnot, List.filter_append, h1, h2, List.append_nil]; rfl
theorem Wd (V : Valid P ops s0 h0 tr) (hdown : ∀ i j, Prec ops i j -> S j = true -> S i = true) (e : tr = A ++ r :: B) (hready : ∀ i, Prec ops i r.j -> S i = true) (hnot : S r.j = false) {p : yR -> Bool} (hr : p r = true)
    (hA : ∀ x, zho ops x r -> p x = false) (hB : ∀ x, zho ops r x -> p x = false) : xp (tr.filter fun x => qA S r.j x.j) p = some r := by
  obtain ⟨h1, h2⟩ := zjR V hdown e hready hnot (V.order e hA hB)
  rw [xp, Qh V e, List.filter_append, List.filter_cons, if_pos hr, h1, h2]
  simp
theorem Wb (V : Valid P ops s0 h0 tr) (e : tr = A ++ r :: B) (hnot : S r.j = false) {p : yR -> Bool} (hr : p r = false) : xp (tr.filter fun x => qA S r.j x.j) p = xp (tr.filter fun x => S x.j) p := by
  rw [xp, xp, Qh V e, Wp e hnot, List.filter_append, List.filter_cons, hr, if_neg (by simp), List.filter_append]
theorem u7 {T : List yR} {p : yR -> Bool} {x : yR} (h : xp T p = some x) : x ∈ T /\ p x = true := by
  have := List.mem_of_getLast? h
  exact List.mem_filter.1 this
theorem zfn (hro0 : h0.ro <= h0.next) (V : Valid P ops s0 h0 tr) (hdown : ∀ i j, Prec ops i j -> S j = true -> S i = true) (e : tr = A ++ r :: B) (hready : ∀ i, Prec ops i r.j -> S i = true) (hnot : S r.j = false)
    {N : Nat} (hN : ∀ x, x ∈ tr -> x.g'.next <= N) {ρ0 ρ : Ren} {w0 w : World} {tm : Array Value} (I : zbq P tr s0 h0 N ρ0 w0 S ρ w tm) (ds : List Deferred) (rest : List Nat) (b : Frame) (k : List Item) (cs : List Frame) :
    ∃ ρ' w' tm', zbq P tr s0 h0 N ρ0 w0 (qA S r.j) ρ' w' tm' /\ Steps P (lone (fat b tm ds (.inRegion ops (r.j :: rest) :: k)) cs w) (lone (fat b tm' ds (.inRegion ops rest :: k)) cs w') := by
  have D := V.told A r B e
  have hrm : r ∈ tr := by rw [e]; simp
  have lookEnv : ∀ t, t ∈ r.o.looksAt ops -> xp (tr.filter fun x => S x.j) (wrs t) = xp A (wrs t) := fun t ht =>
    Vm V hdown e hready hnot (fun x hx => by
      cases hw : wrs t x with
      | false => rfl
      | true => exact absurd ht (hx.d1 t (of_decide_eq_true hw)).1) (fun x hx => by
      cases hw : wrs t x with
      | false => rfl
      | true => exact absurd ht (hx.d2 t (of_decide_eq_true hw)))
  have lookHeap : ∀ bb, r.rd bb = true -> xp (tr.filter fun x => S x.j) (fun x => x.tc bb) = xp A (fun x => x.tc bb) := fun bb hb =>
    Vm V hdown e hready hnot (fun x hx => by
      cases hw : x.tc bb with
      | false => rfl
      | true => have := (hx.b1 bb hw).1; rw [hb] at this; cases this) (fun x hx => by
      cases hw : x.tc bb with
      | false => rfl
      | true => have := hx.b2 bb hw; rw [hb] at this; cases this)
  have hpVeq : ∀ bb, r.rd bb = true -> hpV (tr.filter fun x => S x.j) h0 bb = r.g.get bb := fun bb hb => by
    rw [D.heap, if_pos hb]; simp only [hpV, lookHeap bb hb]
  have hpNle : ∀ bb, r.rd bb = true -> hpN (tr.filter fun x => S x.j) h0.next bb <= r.g.next := fun bb hb => by
    simp only [hpN, lookHeap bb hb]
    split
    . rename_i x hx; exact D.nA x (u7 hx).1
    . exact D.n0
  have galive : ∀ bb o, r.g.get bb = some o -> r.rd bb = true /\ hpV (tr.filter fun x => S x.j) h0 bb = some o := fun bb o hg => by
    rw [D.heap] at hg
    cases hb : r.rd bb with
    | false => rw [hb] at hg; simp at hg
    | true => exact ⟨rfl, by rw [hpVeq bb hb, D.heap]; exact hg⟩
  let ρr := ρ.cut r.g.next
  have hrel : Rel P ρr r.g w := by
    refine ⟨rfl, ?_, ?_, ?_, ?_, by rw [D.ro]; exact I.gro, I.gl⟩
    . have h1 := D.ro; have h2 := D.n0
      show r.g.ro <= r.g.next
      omega
    . intro bb o hg
      obtain ⟨h1, h2⟩ := galive bb o hg
      exact Nat.lt_of_lt_of_le (I.heap bb o h2).1 (hpNle bb h1)
    . intro bb o hg
      obtain ⟨h1, h2⟩ := galive bb _ hg
      obtain ⟨_, pl, hp, hc⟩ := I.heap bb o h2
      refine ⟨pl, hp, ?_⟩
      rw [D.ro]
      exact hc.UF (hpNle bb h1)
    . intro b1 b2 o1 o2 p1 p2 g1 g2
      exact I.inj b1 b2 o1 o2 p1 p2 (galive b1 o1 g1).2 (galive b2 o2 g2).2
  have hlook : ∀ t, t ∈ r.o.looksAt ops -> z9 ρr (r.s.get t) (tm.getD t undef) := by
    intro t ht
    have h1 := I.env t
    have e1 : UQ (tr.filter fun x => S x.j) s0 t = r.s.get t := by rw [D.env t]; simp only [UQ, lookEnv t ht]
    have e2 : zdJ (tr.filter fun x => S x.j) h0.next t <= r.g.next := by
      simp only [zdJ, lookEnv t ht]
      split
      . rename_i x hx; exact D.nA x (u7 hx).1
      . exact D.n0
    rw [e1] at h1
    exact h1.UF e2
  obtain ⟨v', w', ρq, st, hv, sx⟩ := Yo D.op D.sem hrel (D.size.trans I.size) hlook ds rest b k cs
  let ρ' : Ren := { next := N, m := fun bb => if r.g.next <= bb /\ bb < r.g'.next then ρq.m bb else ρ.m bb }
  have qnext : ρq.next = r.g'.next := st.rel.next
  have qlow : ∀ bb, bb < r.g.next -> ρq.m bb = ρ.m bb := fun bb hb => st.le.2 bb hb
  have pq : ∀ bb, bb < r.g'.next -> ρ'.m bb = ρq.m bb := by
    intro bb hb
    by_cases hl : r.g.next <= bb
    . exact if_pos ⟨hl, hb⟩
    . rw [show ρ'.m bb = ρ.m bb from if_neg (by omega), qlow bb (by omega)]
  have rfresh := I.fresh r hrm hnot
  have pext : ∀ bb pl, ρ.m bb = some pl -> ρ'.m bb = some pl := by
    intro bb pl hm
    rw [show ρ'.m bb = ρ.m bb from if_neg (by
      rintro ⟨h1, h2⟩
      rw [rfresh bb h1 h2] at hm; cases hm)]
    exact hm
  have hn1N : r.g'.next <= N := hN r hrm
  have notMine : ∀ bb o pl, hpV (tr.filter fun x => S x.j) h0 bb = some o -> ρ.m bb = some pl -> r.rd bb = false -> ¬ zdP ρr r.g pl.c := by
    rintro bb o pl hg hm hb ⟨b1, o1, p1, g1, _, m1, e1⟩
    obtain ⟨k1, k2⟩ := galive b1 o1 g1
    have := I.inj b1 bb o1 o p1 pl k2 hg m1 hm e1
    subst this
    rw [hb] at k1; cases k1
  have hpVnew : ∀ bb, hpV (tr.filter fun x => qA S r.j x.j) h0 bb = if r.tc bb = true then r.g'.get bb else hpV (tr.filter fun x => S x.j) h0 bb := by
    intro bb
    cases ht : r.tc bb with
    | true =>
      rw [if_pos rfl]
      simp only [hpV]
      rw [Wd V hdown e hready hnot ht (fun x hx => by
        cases hw : x.tc bb with
        | false => rfl
        | true => have := (hx.b1 bb hw).2; rw [ht] at this; cases this) (fun x hx => by
        cases hw : x.tc bb with
        | false => rfl
        | true => have := (hx.b1 bb ht).2; rw [hw] at this; cases this)]
    | false =>
      rw [if_neg (by simp)]
      simp only [hpV]
      rw [Wb V e hnot (p := fun x => x.tc bb) ht]
  have hpNnew : ∀ bb, hpN (tr.filter fun x => qA S r.j x.j) h0.next bb = if r.tc bb = true then r.g'.next else hpN (tr.filter fun x => S x.j) h0.next bb := by
    intro bb
    cases ht : r.tc bb with
    | true =>
      rw [if_pos rfl]
      simp only [hpN]
      rw [Wd V hdown e hready hnot ht (fun x hx => by
        cases hw : x.tc bb with
        | false => rfl
        | true => have := (hx.b1 bb hw).2; rw [ht] at this; cases this) (fun x hx => by
        cases hw : x.tc bb with
        | false => rfl
        | true => have := (hx.b1 bb ht).2; rw [hw] at this; cases this)]
    | false =>
      rw [if_neg (by simp)]
      simp only [hpN]
      rw [Wb V e hnot (p := fun x => x.tc bb) ht]
  have cases' : ∀ bb o, hpV (tr.filter fun x => qA S r.j x.j) h0 bb = some o -> (r.tc bb = true /\ r.g'.get bb = some o) \/ (r.tc bb = false /\ hpV (tr.filter fun x => S x.j) h0 bb = some o) := by
    intro bb o h
    rw [hpVnew] at h
    cases ht : r.tc bb with
    | true => rw [ht, if_pos rfl] at h; exact .inl ⟨rfl, h⟩
    | false => rw [ht, if_neg (by simp)] at h; exact .inr ⟨rfl, h⟩
  refine ⟨ρ', w', wV tm r.o.dst v', ⟨rfl, ?_, ?_, ?_, ?_, ?_, ?_, st.os.trans I.os, st.tape.trans I.tape, st.output.trans I.output, Nat.le_trans I.U0 st.size, ?_, ?_, I.gro, fun b pl hb hm => I.gl b pl hb (by
    rw [show ρ'.m b = ρ.m b from if_neg (by have := D.n0; have := I.gro; omega)] at hm; exact hm)⟩, sx⟩
  . intro bb hb
    rw [show ρ'.m bb = ρ.m bb from if_neg (by have := D.n0; omega)]
    exact I.old bb hb
  . cases r.o.dst with
    | none => exact I.size
    | some d => simp only [wV, Array.size_setIfInBounds]; exact I.size
  ·
    intro t
    by_cases ht : r.o.dst = some t
    . have e1 : xp (tr.filter fun x => qA S r.j x.j) (wrs t) = some r := Wd V hdown e hready hnot (p := wrs t) (by simp [wrs, ht]) (fun x hx => by
        cases hw : wrs t x with
        | false => rfl
        | true => exact absurd ht (hx.d1 t (of_decide_eq_true hw)).2) (fun x hx => by
        cases hw : wrs t x with
        | false => rfl
        | true => exact absurd (of_decide_eq_true hw) (hx.d1 t ht).2)
      simp only [UQ, zdJ, e1]
      have e2 : (wV tm r.o.dst v').getD t undef = v' := by
        have hlt : t < tm.size := by rw [<- I.size]; exact D.put t ht
        rw [ht]; simp [wV, Array.getD_eq_getD_getElem?, hlt]
      rw [e2]
      refine hv.ext (by show ρq.next <= r.g'.next; rw [qnext]; exact Nat.le_refl _) (fun bb pl hb hm => ?_)
      show ρ'.m bb = some pl
      rw [pq bb (by rw [<- qnext]; exact hb)]; exact hm
    . have e1 : xp (tr.filter fun x => qA S r.j x.j) (wrs t) = xp (tr.filter fun x => S x.j) (wrs t) := Wb V e hnot (p := wrs t) (by simp [wrs, ht])
      have e2 : (wV tm r.o.dst v').getD t undef = tm.getD t undef := by
        cases hd : r.o.dst with
        | none => rfl
        | some d =>
          have : d ≠ t := fun h => ht (by rw [hd, h])
          simp [wV, Array.getD_eq_getD_getElem?, this]
      have h1 := I.env t
      simp only [UQ, zdJ] at h1 ⊢
      rw [e1, e2]
      exact h1.JE (ρ' := ρ') pext
  ·
    intro bb o hg
    rcases cases' bb _ hg with ⟨ht, hg'⟩ | ⟨ht, hg'⟩
    . rw [hpNnew, if_pos ht]
      obtain ⟨pl, hp, hc⟩ := st.rel.ok bb o hg'
      have hlt := st.rel.dom bb _ hg'
      refine ⟨hlt, pl, by rw [pq bb hlt]; exact hp, ?_⟩
      have hro : r.g'.ro = h0.ro := st.ro.trans D.ro
      rw [hro] at hc
      exact hc.ext (by show ρq.next <= r.g'.next; rw [qnext]; exact Nat.le_refl _) (fun b2 p2 hb hm => by show ρ'.m b2 = some p2; rw [pq b2 (by rw [<- qnext]; exact hb)]; exact hm)
    . rw [hpNnew, ht, if_neg (by simp)]
      obtain ⟨hlt, pl, hp, hc⟩ := I.heap bb o hg'
      refine ⟨hlt, pl, pext bb pl hp, ?_⟩
      have hdone : xX P (ρ.cut (hpN (tr.filter fun x => S x.j) h0.next bb)) (decide (h0.ro <= bb)) o pl w' := by
        cases hb : r.rd bb with
        | true =>
          have hgg : r.g'.get bb = some o := by rw [D.tc2 bb ht, <- hpVeq bb hb]; exact hg'
          obtain ⟨p2, hp2, hc2⟩ := st.rel.ok bb o hgg
          have hbl : bb < r.g.next := Nat.lt_of_lt_of_le hlt (hpNle bb hb)
          rw [qlow bb hbl, hp] at hp2
          cases hp2
          have hro : r.g'.ro = h0.ro := st.ro.trans D.ro
          rw [hro] at hc2
          exact xX.down (ρ := ρ.cut (hpN (tr.filter fun x => S x.j) h0.next bb)) (ρ2 := ρq) (fun b2 hb2 => qlow b2 (Nat.lt_of_lt_of_le hb2 (hpNle bb hb))) hc hc2
        | false => exact hc.other (st.frame pl.c hc.lt (notMine bb _ pl hg' hp hb))
      exact hdone.JE (ρ' := ρ') pext
  ·
    have key : ∀ b1 b2 o1 o2 p1 p2, r.tc b1 = true -> r.g'.get b1 = some o1 -> r.tc b2 = false -> hpV (tr.filter fun x => S x.j) h0 b2 = some o2 -> ρ'.m b1 = some p1 -> ρ'.m b2 = some p2 -> p1.c = p2.c -> b1 = b2 := by
      intro b1 b2 o1 o2 p1 p2 t1 g1 t2 g2 m1 m2 ec
      obtain ⟨hlt2, q2, hq2, hc2⟩ := I.heap b2 o2 g2
      rw [pext b2 q2 hq2] at m2
      cases m2
      have hl1 := st.rel.dom b1 o1 g1
      rw [pq b1 hl1] at m1
      cases hb2 : r.rd b2 with
      | true =>
        have hgg : r.g'.get b2 = some o2 := by rw [D.tc2 b2 t2, <- hpVeq b2 hb2]; exact g2
        have hbl : b2 < r.g.next := Nat.lt_of_lt_of_le hlt2 (hpNle b2 hb2)
        exact st.rel.inj b1 b2 o1 _ p1 p2 g1 hgg m1 (by rw [qlow b2 hbl]; exact hq2) ec
      | false =>
        by_cases hw : h0.ro <= b1
        . have hM : zdP ρq r.g' p1.c := ⟨b1, o1, p1, g1, by rw [st.ro, D.ro]; exact hw, m1, rfl⟩
          have hlt : p1.c < w.heap.size := by rw [ec]; exact hc2.lt
          have := st.img p1.c hlt hM
          rw [ec] at this
          exact absurd this (notMine b2 _ p2 g2 hq2 hb2)
        . have hb1 : b1 < r.g.next := by have := D.n0; omega
          have hne := D.tc3 b1 o1 t1 hb1 g1
          obtain ⟨o1', ho1'⟩ : ∃ o, r.g.get b1 = some o := by cases hh : r.g.get b1 with | none => exact absurd hh hne | some o => exact ⟨o, rfl⟩
          rw [qlow b1 hb1] at m1
          exact I.inj b1 b2 o1' _ p1 p2 (galive b1 o1' ho1').2 g2 m1 hq2 ec
    intro b1 b2 o1 o2 p1 p2 g1 g2 m1 m2 ec
    rcases cases' b1 o1 g1 with ⟨t1, k1⟩ | ⟨t1, k1⟩ <;> rcases cases' b2 o2 g2 with ⟨t2, k2⟩ | ⟨t2, k2⟩
    . have l1 := st.rel.dom b1 o1 k1
      have l2 := st.rel.dom b2 o2 k2
      rw [pq b1 l1] at m1; rw [pq b2 l2] at m2
      exact st.rel.inj b1 b2 o1 o2 p1 p2 k1 k2 m1 m2 ec
    . exact key b1 b2 o1 o2 p1 p2 t1 k1 t2 k2 m1 m2 ec
    . exact (key b2 b1 o2 o1 p2 p1 t2 k2 t1 k1 m2 m1 ec.symm).symm
    . obtain ⟨_, q1, hq1, _⟩ := I.heap b1 o1 k1
      obtain ⟨_, q2, hq2, _⟩ := I.heap b2 o2 k2
      rw [pext b1 q1 hq1] at m1; rw [pext b2 q2 hq2] at m2
      cases m1; cases m2
      exact I.inj b1 b2 _ _ p1 p2 k1 k2 hq1 hq2 ec
  ·
    intro x hx hS bb h1 h2
    simp only [qA, Bool.or_eq_false_iff, decide_eq_false_iff_not] at hS
    have h3 := I.fresh x hx hS.1 bb h1 h2
    have hne : x ≠ r := fun h => hS.2 (by rw [h])
    have hdis : ¬ (r.g.next <= bb /\ bb < r.g'.next) := by
      rw [e] at hx
      rcases List.mem_append.1 hx with hxA | hxB
      . have := D.nA x hxA; omega
      . rcases List.mem_cons.1 hxB with hxr | hxB
        . exact absurd hxr hne
        . obtain ⟨B1, B2, rfl⟩ := List.append_of_mem hxB
          have := (V.told (A ++ r :: B1) x B2 (by simp [e])).nA r (by simp)
          omega
    rw [show ρ'.m bb = ρ.m bb from if_neg hdis]
    exact h3
  . intro c hc hn
    rw [st.frame c (Nat.lt_of_lt_of_le hc I.U0) (by
      rintro ⟨b1, o1, p1, g1, hro1, m1, rfl⟩
      exact hn (I.img b1 o1 p1 (galive b1 o1 g1).2 (by rw [<- D.ro]; exact hro1) m1 hc))]
    exact I.frame c hc hn
  . intro bb o pl hg hro hm hc
    rcases cases' bb o hg with ⟨ht, hg'⟩ | ⟨ht, hg'⟩
    . rw [pq bb (st.rel.dom bb o hg')] at hm
      obtain ⟨b1, o1, p1, g1, hro1, m1, e1⟩ := st.img pl.c (Nat.lt_of_lt_of_le hc I.U0) ⟨bb, o, pl, hg', by rw [st.ro, D.ro]; exact hro, hm, rfl⟩
      rw [<- e1]
      exact I.img b1 o1 p1 (galive b1 o1 g1).2 (by rw [<- D.ro]; exact hro1) m1 (by rw [e1]; exact hc)
    . obtain ⟨_, q, hq, _⟩ := I.heap bb o hg'
      rw [pext bb q hq] at hm
      cases hm
      exact I.img bb _ pl hg' hro hq hc
end
end
end Go.Ai
set_option linter.unusedVariables false
namespace Go.Ai
noncomputable section
variable {P : Program}
section
variable {ops : Array Oper} {s0 : Env} {h0 : za} {tr : List yR}
theorem YG {listed : Array Bool} {i : Nat} (h : i ∈ Region.ready .any ops listed) : i < ops.size /\ listed.getD i true = false /\ ∀ o, ops[i]? = some o -> ∀ e, e ∈ o.after -> Region.binds .any e = true -> listed.getD e.on false = true := by
  simp only [Region.ready, List.mem_filter, List.mem_range, Bool.and_eq_true, Bool.not_eq_true'] at h
  refine ⟨h.1, h.2.1, fun o ho e he hb => ?_⟩
  have := h.2.2
  rw [ho] at this
  simp only [Option.map_some, Option.getD_some, Array.all_eq_true_iff_forall_mem, Bool.or_eq_true, Bool.not_eq_true'] at this
  rcases this e he with h1 | h1
  . rw [hb] at h1; cases h1
  . exact h1
theorem zdk {listed : Array Bool} {i : Nat} (hi : i < ops.size) (hl : listed.getD i true = false) (h : ∀ o, ops[i]? = some o -> ∀ e, e ∈ o.after -> Region.binds .any e = true -> listed.getD e.on false = true) : i ∈ Region.ready .any ops listed := by
  simp only [Region.ready, List.mem_filter, List.mem_range, Bool.and_eq_true, Bool.not_eq_true']
  refine ⟨hi, hl, ?_⟩
  rw [Array.getElem?_eq_getElem hi]
  simp only [Option.map_some, Option.getD_some, Array.all_eq_true_iff_forall_mem, Bool.or_eq_true, Bool.not_eq_true']
  intro e he
  cases hb : Region.binds .any e with
  | false => exact .inl rfl
  | true => exact .inr (h _ (Array.getElem?_eq_getElem hi) e he hb)
theorem zkw (hro0 : h0.ro <= h0.next) (V : Valid P ops s0 h0 tr) {N : Nat} (hN : ∀ x, x ∈ tr -> x.g'.next <= N) {ρ0 : Ren} {w0 : World} (ds : List Deferred) (b : Frame) (k : List Item) (cs : List Frame) :
    ∀ (fuel t : Nat) (listed : Array Bool) (ρ : Ren) (w : World) (tm : Array Value), listed.size = ops.size -> ((List.range ops.size).filter fun i => !listed.getD i false).length <= fuel ->
      (∀ i j, Prec ops i j -> listed.getD j false = true -> listed.getD i false = true) -> zbq P tr s0 h0 N ρ0 w0 (fun j => listed.getD j false) ρ w tm ->
      ∃ S ρ' w' tm', (∀ r, r ∈ tr -> S r.j = true) /\ zbq P tr s0 h0 N ρ0 w0 S ρ' w' tm' /\
        Steps P (lone (fat b tm ds (.inRegion ops (Region.linearise.go .any ops fuel t listed []) :: k)) cs w) (lone (fat b tm' ds (.inRegion ops [] :: k)) cs w') := by
  intro fuel
  induction fuel with
  | zero =>
    intro t listed ρ w tm hsz hcount hdown I
    refine ⟨_, ρ, w, tm, ?_, I, .refl P _⟩
    intro r hr
    have hnil := List.eq_nil_of_length_eq_zero (Nat.le_zero.1 hcount)
    obtain ⟨A, B, e⟩ := List.append_of_mem hr
    have hop := (V.told A r B e).op
    have hlt : r.j < ops.size := by
      rcases Nat.lt_or_ge r.j ops.size with h | h
      . exact h
      . rw [Array.getElem?_eq_none h] at hop; cases hop
    cases hl : listed.getD r.j false with
    | true => rfl
    | false =>
      have : r.j ∈ (List.range ops.size).filter fun i => !listed.getD i false := List.mem_filter.2 ⟨List.mem_range.2 hlt, by rw [hl]; rfl⟩
      rw [hnil] at this; cases this
  | succ fuel ih =>
    intro t listed ρ w tm hsz hcount hdown I
    simp only [Region.linearise.go]
    change ∃ S ρ' w' tm', (∀ r, r ∈ tr -> S r.j = true) /\ zbq P tr s0 h0 N ρ0 w0 S ρ' w' tm' /\ Steps P (lone (fat b tm ds (.inRegion ops (match (Region.ready .any ops listed)[t % (Region.ready .any ops listed).length]? with
      | some i => Region.linearise.go .any ops fuel (t / (Region.ready .any ops listed).length) (listed.setIfInBounds i true) [i]
      | none => [].reverse) :: k)) cs w) _
    have getTF : ∀ i, i < ops.size -> listed.getD i true = listed.getD i false := by
      intro i hi
      simp [Array.getD_eq_getD_getElem?, Array.getElem?_eq_getElem (hsz ▸ hi)]
    by_cases hall : ∀ r, r ∈ tr -> listed.getD r.j false = true
    ·
      have hnone : Region.ready .any ops listed = [] := by
        rw [List.eq_nil_iff_forall_not_mem]
        intro i hi
        obtain ⟨h1, h2, _⟩ := YG hi
        obtain ⟨r, hr, hrj⟩ := V.all i h1
        have := hall r hr
        rw [hrj, <- getTF i h1, h2] at this
        cases this
      rw [hnone]
      exact ⟨_, ρ, w, tm, hall, I, .refl P _⟩
    ·
      have hex : ∃ i, i ∈ Region.ready .any ops listed := by
        have : ∃ A r B, tr = A ++ r :: B /\ listed.getD r.j false = false /\ ∀ x, x ∈ A -> listed.getD x.j false = true := by
          clear ih I hN V
          induction tr with
          | nil => exact absurd (fun r hr => by cases hr) hall
          | cons x tr iht =>
            cases hx : listed.getD x.j false with
            | false => exact ⟨[], x, tr, rfl, hx, fun y hy => by cases hy⟩
            | true =>
              obtain ⟨A, r, B, e, h1, h2⟩ := iht (fun h => hall (fun r hr => by rcases List.mem_cons.1 hr with rfl | hr; exact hx; exact h r hr))
              exact ⟨x :: A, r, B, by rw [e]; rfl, h1, fun y hy => by rcases List.mem_cons.1 hy with rfl | hy; exact hx; exact h2 y hy⟩
        obtain ⟨A, r, B, e, h1, h2⟩ := this
        have hop := (V.told A r B e).op
        have hlt : r.j < ops.size := by
          rcases Nat.lt_or_ge r.j ops.size with h | h
          . exact h
          . rw [Array.getElem?_eq_none h] at hop; cases hop
        refine ⟨r.j, zdk hlt (by rw [getTF _ hlt]; exact h1) (fun o ho ed hed hb => ?_)⟩
        rw [hop] at ho
        cases ho
        obtain ⟨x, hx, hxe⟩ := V.Wh A r B e ed hed hb
        rw [<- hxe]; exact h2 x hx
      cases hi : (Region.ready .any ops listed)[t % (Region.ready .any ops listed).length]? with
      | none =>
        obtain ⟨i, hmem⟩ := hex
        have hpos : 0 < (Region.ready .any ops listed).length := List.length_pos_of_mem hmem
        rw [List.getElem?_eq_getElem (Nat.mod_lt _ hpos)] at hi
        cases hi
      | some i =>
        simp only []
        rw [linearise_go_acc, List.reverse_singleton, List.singleton_append]
        obtain ⟨hlt, hl, hed⟩ := YG (List.mem_of_getElem? hi)
        obtain ⟨r, hr, hrj⟩ := V.all i hlt
        obtain ⟨A, B, e⟩ := List.append_of_mem hr
        subst hrj
        have hop := (V.told A r B e).op
        have hready : ∀ q, Prec ops q r.j -> listed.getD q false = true := by
          intro q hq
          cases hq with
          | one ho he hb => exact hed _ ho _ he hb
          | more ho he hb hp => exact hdown _ _ hp (hed _ ho _ he hb)
        have hnot : listed.getD r.j false = false := by rw [<- getTF _ hlt]; exact hl
        obtain ⟨ρ1, w1, tm1, I1, sx⟩ := zfn hro0 V hdown e hready hnot hN I ds (Region.linearise.go .any ops fuel (t / (Region.ready .any ops listed).length) (listed.setIfInBounds r.j true) []) b k cs
        have hadd : (fun j => (listed.setIfInBounds r.j true).getD j false) = qA (fun j => listed.getD j false) r.j := by
          funext j
          simp only [qA, Array.getD_eq_getD_getElem?, Array.getElem?_setIfInBounds]
          by_cases ej : r.j = j
          . subst ej
            rw [if_pos rfl, if_pos (by omega)]; simp
          . rw [if_neg ej]
            have : decide (j = r.j) = false := decide_eq_false (fun h => ej h.symm)
            rw [this, Bool.or_false]
        rw [<- hadd] at I1
        have hcnt : ((List.range ops.size).filter fun i => !(listed.setIfInBounds r.j true).getD i false).length <= fuel := by
          have hmem : r.j ∈ (List.range ops.size).filter fun i => !listed.getD i false := List.mem_filter.2 ⟨List.mem_range.2 hlt, by rw [hnot]; rfl⟩
          have hsub : (List.range ops.size).filter (fun i => !(listed.setIfInBounds r.j true).getD i false) = ((List.range ops.size).filter fun i => !listed.getD i false).filter (fun i => decide (i ≠ r.j)) := by
            rw [List.filter_filter]
            apply List.filter_congr
            intro i _
            have := congrFun hadd i
            simp only [qA] at this
            rw [this]
            by_cases ei : i = r.j <;> simp [ei]
          rw [hsub]
          have hlen : ∀ (l : List Nat), r.j ∈ l -> (l.filter fun i => decide (i ≠ r.j)).length < l.length := by
            intro l hl
            apply List.length_filter_lt_length_iff_exists.2
            exact ⟨r.j, hl, by simp⟩
          have := hlen _ hmem
          omega
        have hdn : ∀ q j, Prec ops q j -> (listed.setIfInBounds r.j true).getD j false = true -> (listed.setIfInBounds r.j true).getD q false = true := by
          intro q j hq hj
          have h1 := congrFun hadd j
          have h2 := congrFun hadd q
          rw [h1] at hj
          rw [h2]
          simp only [qA, Bool.or_eq_true, decide_eq_true_eq] at hj ⊢
          rcases hj with hj | rfl
          . exact .inl (hdown q j hq hj)
          . exact .inl (hready q hq)
        obtain ⟨S, ρ2, w2, tm2, hS, I2, sx2⟩ := ih (t / (Region.ready .any ops listed).length) (listed.setIfInBounds r.j true) ρ1 w1 tm1 (by simpa using hsz) hcnt hdn I1
        exact ⟨S, ρ2, w2, tm2, hS, I2, sx.trans sx2⟩
theorem jW (hmix : P.follows .mixedOrders = true) {id : Nat} {rd : Option Nat} {Q : Ex -> Env -> za -> Prop} (V : Valid P ops s0 h0 tr) {sf : Env} {hf : za} (hs : ∀ t, sf.get t = UQ tr s0 t) (hsz : sf.size = s0.size)
    (hh : ∀ b, hf.get b = hpV tr h0 b) (hro : hf.ro = h0.ro) (hn : h0.next <= hf.next) (hN : ∀ x, x ∈ tr -> x.g'.next <= hf.next) (hq : Q .normal sf hf) : T P rd (.region id ops true) s0 h0 Q := by
  intro ρ w tm ds hr hse b hb k cs
  let w1 : World := { w with drawn := w.drawn + 1 }
  let ρ1 : Ren := { next := hf.next, m := fun bb => if bb < h0.next then ρ.m bb else none }
  have hm1 : ∀ bb pl, bb < ρ.next -> ρ.m bb = some pl -> ρ1.m bb = some pl := fun bb pl hb hm => by
    rw [show ρ1.m bb = ρ.m bb from if_pos (by rw [<- hr.next]; exact hb)]; exact hm
  have hnil : tr.filter (fun r => (Array.replicate ops.size false).getD r.j false) = [] := by
    rw [List.filter_eq_nil_iff]
    intro r _ h
    simp only [Array.getD_eq_getD_getElem?, Array.getElem?_replicate] at h
    split at h <;> simp at h
  have I : zbq P tr s0 h0 hf.next ρ w (fun j => (Array.replicate ops.size false).getD j false) ρ1 w1 tm := by
    refine ⟨rfl, fun bb hb => if_pos hb, hse.size, ?_, ?_, ?_, ?_, rfl, rfl, rfl, Nat.le_refl _, fun _ _ _ => rfl, ?_, hr.gro, fun bb pl hb hm => hr.Yt bb pl hb (by
      rw [show ρ1.m bb = ρ.m bb from if_pos (Nat.lt_of_lt_of_le hb (Nat.le_trans hr.gro hr.ro))] at hm; exact hm)⟩
    . intro t
      rw [hnil]
      exact (hse.get t).ext (ρ' := ρ1.cut h0.next) (by rw [hr.next]; exact Nat.le_refl _) hm1
    . intro bb o hg
      rw [hnil] at hg ⊢
      have hb := hr.dom bb _ hg
      obtain ⟨pl, hp, hc⟩ := hr.ok bb o hg
      refine ⟨hb, pl, hm1 bb pl (by rw [hr.next]; exact hb) hp, ?_⟩
      exact xX.other (xX.ext (ρ := ρ) (ρ' := ρ1.cut h0.next) (by rw [hr.next]; exact Nat.le_refl _) hm1 hc) rfl
    . intro b1 b2 o1 o2 p1 p2 g1 g2 m1 m2 e
      rw [hnil] at g1 g2
      have l1 := hr.dom b1 o1 g1
      have l2 := hr.dom b2 o2 g2
      rw [show ρ1.m b1 = ρ.m b1 from if_pos l1] at m1
      rw [show ρ1.m b2 = ρ.m b2 from if_pos l2] at m2
      exact hr.inj b1 b2 o1 o2 p1 p2 g1 g2 m1 m2 e
    . intro x hx _ bb h1 h2
      obtain ⟨A, B, e⟩ := List.append_of_mem hx
      have := (V.told A x B e).n0
      exact if_neg (by omega)
    . intro bb o pl hg hro' hm hc
      rw [hnil] at hg
      have l := hr.dom bb o hg
      rw [show ρ1.m bb = ρ.m bb from if_pos l] at hm
      exact ⟨bb, o, pl, hg, hro', hm, rfl⟩
  have hcount : ((List.range ops.size).filter fun i => !(Array.replicate ops.size false).getD i false).length <= ops.size := by
    have := List.length_filter_le (fun i => !(Array.replicate ops.size false).getD i false) (List.range ops.size)
    simpa using this
  obtain ⟨S, ρ2, w2, tm2, hS, I2, sx⟩ := zkw hr.ro V hN ds b k cs ops.size (w.tape w.drawn (.order b.fn id)) (Array.replicate ops.size false) ρ1 w1 tm (by simp) hcount (fun i j _ hj => by
    simp only [Array.getD_eq_getD_getElem?, Array.getElem?_replicate] at hj
    split at hj <;> simp at hj) I
  have hfull : tr.filter (fun r => S r.j) = tr := List.filter_eq_self.2 hS
  have lastn : ∀ (p : yR -> Bool) x, xp tr p = some x -> x.g'.next <= hf.next := fun p x hx => hN x (u7 hx).1
  have hcut : ρ2 = ρ2.cut hf.next := by have := I2.next; cases ρ2; simp only at this; subst this; rfl
  have hrel : Rel P ρ2 hf w2 := by
    refine ⟨I2.next, by rw [hro]; exact Nat.le_trans hr.ro hn, ?_, ?_, ?_, by rw [hro]; exact hr.gro, I2.gl⟩
    . intro bb o hg
      rw [hh] at hg
      have := (I2.heap bb o (by rw [hfull]; exact hg)).1
      rw [hfull] at this
      refine Nat.lt_of_lt_of_le this ?_
      simp only [hpN]
      split
      . rename_i x hx; exact lastn _ x hx
      . exact hn
    . intro bb o hg
      rw [hh] at hg
      obtain ⟨_, pl, hp, hc⟩ := I2.heap bb o (by rw [hfull]; exact hg)
      refine ⟨pl, hp, ?_⟩
      rw [hro]
      rw [hfull] at hc
      rw [hcut]
      refine xX.UF ?_ hc
      simp only [hpN]
      split
      . rename_i x hx; exact lastn _ x hx
      . exact hn
    . intro b1 b2 o1 o2 p1 p2 g1 g2
      rw [hh] at g1 g2
      exact I2.inj b1 b2 o1 o2 p1 p2 (by rw [hfull]; exact g1) (by rw [hfull]; exact g2)
  refine ⟨.normal, sf, hf, ρ2, w2, tm2, ds, hq, ⟨⟨by rw [I2.next, hr.next]; exact hn, fun bb hb => I2.old bb (by rw [<- hr.next]; exact hb)⟩, hrel, hro, I2.os, I2.tape, I2.output, I2.U0, I2.frame, ?_⟩, ⟨hsz.trans I2.size, fun t => ?_⟩, .refl _ _ _, ?_⟩
  . rintro c hc ⟨bb, o, pl, hg, hrb, hm, rfl⟩
    rw [hh] at hg
    exact I2.img bb o pl (by rw [hfull]; exact hg) (by rw [<- hro]; exact hrb) hm hc
  . have := I2.env t
    rw [hfull] at this
    rw [hs t]
    rw [hcut]
    refine z9.UF ?_ this
    simp only [zdJ]
    split
    . rename_i x hx; exact lastn _ x hx
    . exact hn
  . refine .head kz ?_
    have : Region.schedule (P.follows .mixedOrders) ops (w.tape w.drawn (.order b.fn id)) = Region.linearise .any ops (w.tape w.drawn (.order b.fn id)) := by
      simp only [Region.schedule, hmix, Bool.true_or, if_true]
    rw [this]
    exact sx.trans (.one uw)
end
end
end Go.Ai
