/-
  WHAT IS ASKED OF A PIECE OF CODE, 6: a region that draws its order, where new blocks may stand free of each other, and an append onto a slice that the region itself made is no writing.
-/
import Derived.Test.YtogpghbigjnpnaaDoorAiD
set_option linter.unusedVariables false
namespace Go.Ai
noncomputable section
variable {P : Program}

/-! ### Kinds: 0 looks at no memory; 1 looks; 2 lays new blocks and may look at all; 3 may write; 7 appends onto a slice that is not the region's own; 4 appends onto a slice of the region's own; 5 lays a block and looks at none; 6 a call that lays new blocks -/
def kindFV : Nat → Nat
  | 2 => 1
  | 3 => 6
  | 4 => 2
  | _ => 3
def prodGo (d : Nat) : List Oper → Nat → Option Nat
  | [], _ => none
  | o :: os, i => (match o.op with
    | .buildSlice _ _ _ => (match o.dst with
      | some e => cond (Nat.beq e d) (some i) (prodGo d os (i + 1))
      | none => prodGo d os (i + 1))
    | _ => prodGo d os (i + 1))
/-- Where the slice comes from that an append is onto. -/
def zOf (ops : Array Oper) (o : Oper) : Option Nat := match o.op with
  | .call { callee := .builtin .append, args, .. } => (match args.toList with
    | .tmp d :: _ => prodGo d ops.toList 0
    | _ => none)
  | _ => none
/-- The slot of the slice that an append is onto. -/
def slot0 (o : Oper) : Option Nat := match o.op with
  | .call { callee := .builtin .append, args, .. } => (match args.toList with
    | .tmp d :: _ => some d
    | _ => none)
  | _ => none
def val0 (s : Env) (o : Oper) : Value := match slot0 o with
  | some d => s.get d
  | none => bot
/-- A slice's block, from and to. -/
def blkF (v : Value) : Nat := match v with
  | .slice (some a) _ _ => a.block
  | _ => 0
def blkT (v : Value) : Nat := match v with
  | .slice (some a) _ _ => a.block + 1
  | _ => 0
theorem blk_iff (v : Value) (b : Nat) : (blkF v ≤ b ∧ b < blkT v) ↔ ∃ a n c, v = .slice (some a) n c ∧ b = a.block := by
  unfold blkF blkT
  split
  · rename_i a n c
    constructor
    · intro e; exact ⟨a, n, c, rfl, by omega⟩
    · rintro ⟨a', n', c', e1, e2⟩; cases e1; omega
  · rename_i hn
    constructor
    · intro e; omega
    · rintro ⟨a', n', c', e1, e2⟩; exact absurd e1 (hn a' n' c')
/-- Is it a number that is made a number of another kind? -/
def numC (P : Program) (s d : TypeId) : Bool := (match srun P (underlying s), srun P (underlying d) with | some (.int _), some (.int _) => true | _, _ => false) && (match P.underlying s, P.underlying d with | some (.int _), some (.int _) => true | _, _ => false)
/-- Is it made a text? -/
def textC (P : Program) (d : TypeId) : Bool := (match srun P (underlying d) with | some .string => true | _ => false) && (match P.underlying d with | some .string => true | _ => false)
def kindV (P : Program) (q : FuncId → Nat) (ops : Array Oper) (o : Oper) : Nat := match o.op with
  | .call { callee := .value (.func g), .. } => kindFV (q g)
  | .call { callee := .value _, .. } => 3
  | .call { callee := .builtin .append, .. } => (match zOf ops o with | some _ => 4 | none => (match slot0 o, o.guard with | some _, none => 7 | _, _ => 3))
  | .call { callee := .builtin b, .. } => cond (quietB b) 1 3
  | .move _ | .assign _ | .pick _ _ _ | .build _ _ | .nilCheck _ | .binOp _ _ _ _ _ | .unOp _ _ _ | .makeInterface _ _ | .makeFunc _ _ _ | .fieldAddr _ _ _ | .field _ _ _ | .indexAddr _ _ _ | .index _ _ _ | .extract _ _ => 0
  | .load _ _ | .lookup _ _ _ _ | .slice _ _ _ _ _ | .entry _ => 1
  | .box _ _ | .alloc _ | .buildSlice _ _ _ | .makeSlice _ _ _ | .makeMap _ _ => 5
  | .convert a b _ => cond (numC P a b) 0 (cond (textC P b) 1 2)
  | .range _ _ => 2
  | _ => 3
def looker (k : Nat) : Bool := Nat.beq k 1 || Nat.beq k 4 || Nat.beq k 6
def layer (k : Nat) : Bool := Nat.beq k 2 || Nat.beq k 4 || Nat.beq k 5 || Nat.beq k 6 || Nat.beq k 7
/-- What is kept from those that stand in no order with it: new blocks; the block of a slice that is not the region's own (7). -/
def lays (k i n n' : Nat) (v : Value) : List (Nat × Nat × Nat) := cond (layer k) (cond (Nat.beq k 7) [(i, n, n'), (i, blkF v, blkT v)] [(i, n, n')]) []
/-- x = (its place, kind, where its slice comes from, what stands ahead of it); may y come in either order? -/
def pairV (x : Nat × Nat × Option Nat × Nat) (ky : Nat) (zy : Option Nat) (my : Nat) : Bool :=
  Nat.beq x.2.1 0 || Nat.beq ky 0 || (Nat.beq x.2.1 3 && Nat.beq ky 5) || (Nat.beq x.2.1 7 && (Nat.beq ky 1 || Nat.beq ky 5)) ||
  (!(Nat.beq x.2.1 3) && !(Nat.beq ky 3) && !(Nat.beq x.2.1 7) && !(Nat.beq ky 7) && (!(Nat.beq ky 2) || Nat.beq x.2.1 1) &&
    (!(Nat.beq x.2.1 4) || Nat.beq ky 5 || (match x.2.2.1 with | some z => !(my.testBit z) && (match zy with | some w => !(Nat.beq z w) | none => true) | none => false)) &&
    (!(Nat.beq ky 4) || Nat.beq x.2.1 5 || (looker x.2.1 && (match zy with | some w => !(x.2.2.2.testBit w) | none => false))))
def kindGoV (P : Program) (q : FuncId → Nat) (ops : Array Oper) : List Oper → List Nat → List (Nat × Nat × Option Nat × Nat) → Bool
  | [], _, _ => true
  | o :: os, ms, prev => (prev.all fun x => (maskOf ms o).testBit x.1 || pairV x (kindV P q ops o) (zOf ops o) (maskOf ms o)) && (match zOf ops o with | some z => (maskOf ms o).testBit z | none => true) &&
      kindGoV P q ops os (ms ++ [maskOf ms o]) ((ms.length, kindV P q ops o, zOf ops o, maskOf ms o) :: prev)
def calmV (P : Program) (q : FuncId → Nat) (ops : Array Oper) : Bool := statGo ops ops.toList 0 [] [] && kindGoV P q ops ops.toList [] []

/-! ### Heaps without some new blocks -/
def cut (h : AHeap) (n m : Nat) : AHeap := h.hide (List.range' n (m - n))
@[simp] theorem next_cut (h : AHeap) (n m : Nat) : (cut h n m).next = h.next := rfl
@[simp] theorem ro_cut (h : AHeap) (n m : Nat) : (cut h n m).ro = h.ro := rfl
theorem get_cut (h : AHeap) (n m b : Nat) : (cut h n m).get b = if n ≤ b ∧ b < m then none else h.get b := by
  unfold cut; rw [get_hide]; simp only [mem_new]
theorem get_cut_lt {h : AHeap} {n m b : Nat} (hb : b < n) : (cut h n m).get b = h.get b := by rw [get_cut, if_neg (by omega)]
def viewV (m : Nat) : List (Nat × Nat × Nat) → AHeap → AHeap
  | [], h => h
  | x :: l, h => cond (m.testBit x.1) (viewV m l h) (viewV m l (cut h x.2.1 x.2.2))
def seenV (m : Nat) (al : List (Nat × Nat × Nat)) (b : Nat) : Bool := al.all fun x => m.testBit x.1 || !(Nat.ble x.2.1 b && Nat.blt b x.2.2)
theorem viewV_facts (m : Nat) : ∀ (al : List (Nat × Nat × Nat)) (h : AHeap), (viewV m al h).next = h.next ∧ (viewV m al h).ro = h.ro ∧ ∀ b, (viewV m al h).get b = if seenV m al b = true then h.get b else none
  | [], h => ⟨rfl, rfl, fun b => rfl⟩
  | x :: l, h => by
    unfold viewV
    cases hb : m.testBit x.1 with
    | true =>
      obtain ⟨a1, a2, a3⟩ := viewV_facts m l h
      refine ⟨a1, a2, fun b => ?_⟩
      rw [cond_true, a3]
      unfold seenV
      rw [List.all_cons, hb, Bool.true_or, Bool.true_and]
    | false =>
      obtain ⟨a1, a2, a3⟩ := viewV_facts m l (cut h x.2.1 x.2.2)
      refine ⟨a1, a2, fun b => ?_⟩
      rw [cond_false, a3]
      unfold seenV
      rw [List.all_cons, hb, Bool.false_or, get_cut]
      by_cases hc : x.2.1 ≤ b ∧ b < x.2.2
      · have e : (Nat.ble x.2.1 b && Nat.blt b x.2.2) = true := by
          rw [Bool.and_eq_true, Nat.ble_eq, Nat.blt_eq]; exact hc
        rw [e, Bool.not_true, Bool.false_and, if_pos hc]
        split <;> simp
      · have e : (Nat.ble x.2.1 b && Nat.blt b x.2.2) = false := by
          cases he : (Nat.ble x.2.1 b && Nat.blt b x.2.2) with
          | false => rfl
          | true => rw [Bool.and_eq_true, Nat.ble_eq, Nat.blt_eq] at he; exact absurd he hc
        rw [e, Bool.not_false, Bool.true_and, if_neg hc]
def findAl (z : Nat) : List (Nat × Nat × Nat) → Option (Nat × Nat)
  | [] => none
  | x :: l => cond (Nat.beq x.1 z) (some x.2) (findAl z l)
theorem mem_findAl {z : Nat} : ∀ {al : List (Nat × Nat × Nat)} {f t : Nat}, findAl z al = some (f, t) → (z, f, t) ∈ al
  | [], _, _, h => by cases h
  | x :: l, f, t, h => by
    unfold findAl at h
    cases hb : Nat.beq x.1 z with
    | true =>
      rw [hb] at h
      have e := Nat.eq_of_beq_eq_true hb
      obtain ⟨p, f', t'⟩ := x
      cases h
      simp only at e
      subst e
      simp
    | false =>
      rw [hb] at h
      exact List.mem_cons_of_mem _ (mem_findAl h)

/-! ### Questions -/
def callXV (P : Program) (g : FuncId) (args : List Value) (hv h : AHeap) (K : Value → AHeap → Prop) : Prop :=
  callable P g = true ∧ nobot args = true ∧ ∃ v h2, TC P g args hv.lock (fun v1 h1 => v1 = v ∧ h1 = h2) ∧ AF hv.lock h2 ∧ K v (graft h h2)
/-- A slice that lies in a block of the region's own. -/
def ownS (s : Value) (f t : Nat) (hv : AHeap) : Prop := match s with
  | .slice (some a) _ _ => f ≤ a.block ∧ a.block < t ∧ hv.get a.block ≠ none
  | _ => True
/-- The slice's block as another heap has it. -/
def setS (h : AHeap) (s : Value) (h' : AHeap) : AHeap := match s with
  | .slice (some a) _ _ => h.set a.block (h'.get a.block)
  | _ => h
def appV (P : Program) (ts : List TypeId) (r : TypeId) (vs : List Value) (zr : Option (Nat × Nat)) (hv h : AHeap) (K : Value → AHeap → Prop) : Prop := match zr, vs with
  | some x, s :: _ => ownS s x.1 x.2 hv ∧ optH (nb vs (abuiltin P .append ts r vs hv)) fun v h' => K v (graft (setS h s h') h')
  | _, _ => False
def opDV (P : Program) (q : FuncId → Nat) (ops : Array Oper) (s : Env) (o : Oper) (al : List (Nat × Nat × Nat)) (hv h : AHeap) (K : Value → AHeap → Prop) : Prop := match o.op with
  | .call { callee := .value (.func g), args, argTypes } => (match q g with
    | 2 => callQ P g (evs s args.toList) hv fun v => K v h
    | 3 => callXV P g (evs s args.toList) hv h K
    | 4 => callE P g (evs s args.toList) h K
    | _ => callD P g (evs s args.toList) h K)
  | .call { callee := .value f, args, argTypes } => callVD P (ev s f) (evs s args.toList) h K
  | .call { callee := .builtin .append, args, argTypes } => (match zOf ops o with
    | some z => appV P argTypes.toList o.type (evs s args.toList) (findAl z al) hv h K
    | none => opA P s o h K)
  | _ => sel (Nat.beq (kindV P q ops o) 1) (opA P s o hv fun v _ => K v h) (opA P s o h K)
def wpDV (P : Program) (q : FuncId → Nat) (ops : Array Oper) : List Oper → Nat → List Nat → List (Nat × Nat × Nat) → Env → AHeap → (Env → AHeap → Prop) → Prop
  | [], _, _, _, s, h, K => K s h
  | o :: os, i, ms, al, s, h, K => (match o.guard with
    | none => opDV P q ops s o al (viewV (maskOf ms o) al h) h fun v h1 => (match s.put o.dst v with
      | some s1 => wpDV P q ops os (i + 1) (ms ++ [maskOf ms o]) (al ++ lays (kindV P q ops o) i h.next h1.next (val0 s o)) s1 h1 K
      | none => False)
    | some (j, want) => (match (ops[j]?).bind (·.dst) with
      | none => False
      | some d => GD (s.get d) want (opDV P q ops s o al (viewV (maskOf ms o) al h) h) (fun v h1 => (match s.put o.dst v with
        | some s1 => wpDV P q ops os (i + 1) (ms ++ [maskOf ms o]) (al ++ lays (kindV P q ops o) i h.next h1.next (val0 s o)) s1 h1 K
        | none => False)) h))
def drawV (P : Program) (q : FuncId → Nat) (ops : Array Oper) (s : Env) (h : AHeap) (K : Env → AHeap → Prop) : Prop := sel (calmV P q ops) (wpDV P q ops ops.toList 0 [] [] s h K) False
end
end Go.Ai
