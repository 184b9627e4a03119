/-
  WHAT IS ASKED OF A PIECE OF CODE, 3: a region that draws its order, where what writes stands in order with all that looks at memory.
-/
import Derived.Test.YtpilbfkinpbnoaaAiWp2
set_option linter.unusedVariables false
namespace Go.Ai
noncomputable section
variable {P : Program}

/-! ### Kinds of operations: 0 looks at no memory; 1 looks; 2 lays new blocks; 3 may write -/
def kindF : Nat → Nat
  | 2 => 1
  | 3 => 2
  | 4 => 2
  | _ => 3
def kindO (q : FuncId → Nat) (o : Oper) : Nat := match o.op with
  | .call { callee := .value (.func g), .. } => kindF (q g)
  | .call { callee := .value _, .. } => 3
  | .call { callee := .builtin b, .. } => cond (quietB b) 1 3
  | .move _ | .assign _ | .pick _ _ _ | .build _ _ | .nilCheck _ | .binOp _ _ _ _ _ | .unOp _ _ _ | .makeInterface _ _ | .makeFunc _ _ _ | .fieldAddr _ _ _ | .field _ _ _ | .indexAddr _ _ _ | .index _ _ _ | .extract _ _ => 0
  | .load _ _ | .lookup _ _ _ _ | .slice _ _ _ _ _ | .entry _ => 1
  | .box _ _ | .alloc _ | .buildSlice _ _ _ | .makeSlice _ _ _ | .makeMap _ _ | .convert _ _ _ | .range _ _ => 2
  | _ => 3
def pairOk (x y : Nat) : Bool := Nat.beq x 0 || Nat.beq y 0 || (Nat.beq x 1 && Nat.ble y 2) || (Nat.beq x 2 && Nat.beq y 1)
def kindGo (q : FuncId → Nat) : List Oper → Nat → List Nat → List (Nat × Nat) → Bool
  | [], _, _, _ => true
  | o :: os, i, ms, prev => (prev.all fun x => (maskOf ms o).testBit x.1 || pairOk x.2 (kindO q o)) && kindGo q os (i + 1) (ms ++ [maskOf ms o]) ((i, kindO q o) :: prev)
def calm (q : FuncId → Nat) (ops : Array Oper) : Bool := statGo ops ops.toList 0 [] [] && kindGo q ops.toList 0 [] []

/-! ### Heaps without their latest blocks -/
def trim (h : AHeap) (n : Nat) : AHeap := h.hide (List.range' n (h.next - n))
@[simp] theorem next_trim (h : AHeap) (n : Nat) : (trim h n).next = h.next := rfl
@[simp] theorem ro_trim (h : AHeap) (n : Nat) : (trim h n).ro = h.ro := rfl
theorem get_trim (h : AHeap) (n b : Nat) : (trim h n).get b = if n ≤ b ∧ b < h.next then none else h.get b := by
  unfold trim; rw [get_hide]; simp only [mem_new]
theorem get_trim_lt {h : AHeap} {n b : Nat} (hb : b < n) : (trim h n).get b = h.get b := by rw [get_trim, if_neg (by omega)]
def firstFree (m : Nat) : List (Nat × Nat) → Option Nat
  | [] => none
  | (p, n) :: l => cond (m.testBit p) (firstFree m l) (some n)
def view (m : Nat) (al : List (Nat × Nat)) (h : AHeap) : AHeap := match firstFree m al with
  | none => h
  | some n => trim h n

/-! ### Questions -/
def callQ (P : Program) (g : FuncId) (args : List Value) (h : AHeap) (K : Value → Prop) : Prop := callable P g = true ∧ nobot args = true ∧ ∃ v, scal v = true ∧ TC P g args h.lock (fun v1 _ => v1 = v) ∧ K v
def callX (P : Program) (g : FuncId) (args : List Value) (h : AHeap) (K : Value → AHeap → Prop) : Prop :=
  callable P g = true ∧ nobot args = true ∧ ∃ v h2, TC P g args h.lock (fun v1 h1 => v1 = v ∧ h1 = h2) ∧ AF h.lock h2 ∧ K v (graft h h2)
def callD (P : Program) (g : FuncId) (args : List Value) (h : AHeap) (K : Value → AHeap → Prop) : Prop :=
  callable P g = true ∧ nobot args = true ∧ DC P g args h K
def callE (P : Program) (g : FuncId) (args : List Value) (h : AHeap) (K : Value → AHeap → Prop) : Prop := nobot args = true ∧ optH (aext P g args h) K
def callVD (P : Program) (f : Value) (args : List Value) (h : AHeap) (K : Value → AHeap → Prop) : Prop := match f with
  | .func (.func g) a c => nobot args = true ∧ callD P g (a.toList ++ args ++ c.toList) h K
  | _ => False
def opD (P : Program) (q : FuncId → Nat) (s : Env) (o : Oper) (hv h : AHeap) (K : Value → AHeap → Prop) : Prop := match o.op with
  | .call { callee := .value (.func g), args, argTypes } => (match q g with
    | 2 => callQ P g (evs s args.toList) hv fun v => K v h
    | 3 => callX P g (evs s args.toList) h K
    | 4 => callE P g (evs s args.toList) h K
    | _ => callD P g (evs s args.toList) h K)
  | .call { callee := .value f, args, argTypes } => callVD P (ev s f) (evs s args.toList) h K
  | _ => cond (Nat.beq (kindO q o) 1) (opA P s o hv fun v _ => K v h) (opA P s o h K)
def wpD (P : Program) (q : FuncId → Nat) (ops : Array Oper) : List Oper → Nat → List Nat → List (Nat × Nat) → Env → AHeap → (Env → AHeap → Prop) → Prop
  | [], _, _, _, s, h, K => K s h
  | o :: os, i, ms, al, s, h, K => (match o.guard with
    | none => opD P q s o (view (maskOf ms o) al h) h fun v h1 => (match s.put o.dst v with
      | some s1 => wpD P q ops os (i + 1) (ms ++ [maskOf ms o]) (cond (Nat.beq (kindO q o) 2) (al ++ [(i, h.next)]) al) s1 h1 K
      | none => False)
    | some (j, want) => (match (ops[j]?).bind (·.dst) with
      | none => False
      | some d => GD (s.get d) want (opD P q s o (view (maskOf ms o) al h) h) (fun v h1 => (match s.put o.dst v with
        | some s1 => wpD P q ops os (i + 1) (ms ++ [maskOf ms o]) (cond (Nat.beq (kindO q o) 2) (al ++ [(i, h.next)]) al) s1 h1 K
        | none => False)) h))
def drawW (P : Program) (q : FuncId → Nat) (ops : Array Oper) (s : Env) (h : AHeap) (K : Env → AHeap → Prop) : Prop := cond (calm q ops) (wpD P q ops ops.toList 0 [] [] s h K) False

/-! ### What an operation of each kind does -/
def isCallF : Op → Bool
  | .call { callee := .value _, .. } => true
  | _ => false
theorem pure_any {q : FuncId → Nat} {s : Env} {o : Oper} {h h' : AHeap} {u : Value} (hk : kindO q o = 0) (hc : isCallF o.op = false) (he : aop P s o h = some (u, h')) : h' = h ∧ ∀ g, aop P s o g = some (u, g) := by
  have key : ∀ {x : Option Value}, one h x = some (u, h') → h' = h ∧ ∀ g, one g x = some (u, g) := fun e => by
    obtain ⟨e1, e2⟩ := one_some e; exact ⟨e2, fun g => one_of e1⟩
  unfold kindO at hk
  unfold aop at he ⊢
  split at he <;> rename_i hop <;> simp only [hop] at hk ⊢ <;> first
    | exact key he
    | (cases he; done)
    | (cases hk; done)
    | skip
  · split at he
    · exact key he
    · exact key he
    · cases he
  · split at he
    · exact key he
    · cases he
  · split at he
    · simp only [Option.some.injEq, Prod.mk.injEq] at he; obtain ⟨rfl, rfl⟩ := he; exact ⟨rfl, fun g => rfl⟩
    · simp only [Option.some.injEq, Prod.mk.injEq] at he; obtain ⟨rfl, rfl⟩ := he; exact ⟨rfl, fun g => rfl⟩
    · cases he
  · split at he
    · exact key he
    · cases he
  · split at he
    · obtain ⟨hf, he⟩ := cond_some he
      simp only [hf, cond_true]
      exact key he
    · cases he
  · split at he
    · split at he
      · simp only [Option.some.injEq, Prod.mk.injEq] at he; obtain ⟨rfl, rfl⟩ := he; exact ⟨rfl, fun g => rfl⟩
      · cases he
    · cases he
  · split at he
    · simp only [Option.some.injEq, Prod.mk.injEq] at he; obtain ⟨rfl, rfl⟩ := he; exact ⟨rfl, fun g => rfl⟩
    · cases he
  · split at he
    · exact key he
    · cases he
  · split at he
    · split at he
      · split at he
        · exact key he
        · cases he
      · cases he
    · cases he
  · split at he
    · exact key he
    · cases he
  · split at he
    · obtain ⟨hf, he⟩ := cond_some he
      simp only [hf, cond_true]
      exact key he
    · cases he
  · split at he
    · exact key he
    · cases he
  · exfalso
    rename_i b args ts
    cases hq : quietB b <;> rw [hq] at hk <;> cases hk
theorem reader_same {q : FuncId → Nat} {s : Env} {o : Oper} {h h' : AHeap} {u : Value} (hk : kindO q o = 1) (hc : isCallF o.op = false) (he : aop P s o h = some (u, h')) : h' = h := by
  unfold kindO at hk
  unfold aop at he
  split at he <;> rename_i hop <;> simp only [hop] at hk <;> first
    | (cases he; done)
    | (cases hk; done)
    | skip
  · split at he
    · exact (one_some he).2
    · cases he
  · split at he
    · split at he
      · simp only [Option.some.injEq, Prod.mk.injEq] at he; exact he.2.symm
      · cases he
    · exact (one_some he).2
    · cases he
  · rename_i b args ts
    split at he
    · refine abuiltin_quiet ?_ he
      cases hq : quietB b with
      | true => rfl
      | false => rw [hq] at hk; cases hk
    · cases he
  · split at he
    · exact (one_some he).2
    · cases he
  · split at he
    · exact (one_some he).2
    · cases he
theorem alloc_still {q : FuncId → Nat} {s : Env} {o : Oper} {h h' : AHeap} {u : Value} (hk : kindO q o = 2) (hc : isCallF o.op = false) (he : aop P s o h = some (u, h')) : Still h h' := by
  refine (aop_parts he).2 ?_
  unfold kindO at hk
  split at hk <;> rename_i hop <;> first
    | (cases hk; done)
    | (rw [hop] at hc; cases hc; done)
    | (rw [hop]; rfl)
    | skip
  rename_i b args ts
  cases hq : quietB b <;> rw [hq] at hk <;> cases hk
end
end Go.Ai
