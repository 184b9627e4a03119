/-
  THE ABSTRACT HEAP, and what it means that a world is described by one. No program in sight but for the sizes of its types.
  An abstract heap holds some blocks, numbered from 0 on; a renaming tells in which block of the world, from which cell on, each of them lies. A world may hold more.
-/
import Derived.Calls
import Derived.Below
import Derived.Laws.Sem
import Derived.Laws.Cells
import Derived.Laws.Entries
namespace Go.Ai
noncomputable section

/-! ### Small binary tries, numbers for keys -/
inductive Tr (α : Type) where
  | e
  | n (v : Option α) (l r : Tr α)

namespace Tr
variable {α : Type}
def get (t : Tr α) (k : Nat) : Option α :=
  @Tr.rec α (fun _ => Nat → Option α) (fun _ => none)
    (fun v _ _ gl gr k => @Bool.rec (fun _ => Option α) (@Bool.rec (fun _ => Option α) (gr (Nat.sub (Nat.div k 2) 1)) (gl (Nat.div k 2)) (Nat.beq (Nat.mod k 2) 1)) v (Nat.beq k 0)) t k
def setF (f : Nat) : Tr α → Nat → Option α → Tr α :=
  @Nat.rec (fun _ => Tr α → Nat → Option α → Tr α) (fun t _ _ => t)
    (fun _ ih t k x => @Tr.rec α (fun _ => Tr α)
      (@Bool.rec (fun _ => Tr α) (@Bool.rec (fun _ => Tr α) (.n none .e (ih .e (Nat.sub (Nat.div k 2) 1) x)) (.n none (ih .e (Nat.div k 2) x) .e) (Nat.beq (Nat.mod k 2) 1)) (.n x .e .e) (Nat.beq k 0))
      (fun v l r _ _ => @Bool.rec (fun _ => Tr α) (@Bool.rec (fun _ => Tr α) (.n v l (ih r (Nat.sub (Nat.div k 2) 1) x)) (.n v (ih l (Nat.div k 2) x) r) (Nat.beq (Nat.mod k 2) 1)) (.n x l r) (Nat.beq k 0)) t) f
def set (t : Tr α) (k : Nat) (x : Option α) : Tr α := setF (Nat.succ k) t k x
@[simp] theorem get_e (k : Nat) : (Tr.e : Tr α).get k = none := rfl
theorem beq_false {a b : Nat} (h : a ≠ b) : Nat.beq a b = false := by
  cases e : Nat.beq a b
  · rfl
  · exact absurd (Nat.eq_of_beq_eq_true e) h
theorem beq_true {a b : Nat} (h : a = b) : Nat.beq a b = true := by subst h; exact Nat.beq_refl a
theorem get_n (v : Option α) (l r : Tr α) (k : Nat) : (Tr.n v l r).get k = if k = 0 then v else if k % 2 = 1 then l.get (k / 2) else r.get (k / 2 - 1) := by
  show @Bool.rec (fun _ => Option α) (@Bool.rec (fun _ => Option α) (r.get (k / 2 - 1)) (l.get (k / 2)) (Nat.beq (k % 2) 1)) v (Nat.beq k 0) = _
  by_cases h : k = 0
  · rw [beq_true h, if_pos h]
  · rw [beq_false h, if_neg h]
    by_cases h2 : k % 2 = 1
    · rw [beq_true h2, if_pos h2]
    · rw [beq_false h2, if_neg h2]
theorem setF_e (f : Nat) (k : Nat) (x : Option α) : setF (f + 1) .e k x = setF (f + 1) (.n none .e .e) k x := rfl
theorem setF_n (f : Nat) (v : Option α) (l r : Tr α) (k : Nat) (x : Option α) :
    setF (f + 1) (.n v l r) k x = if k = 0 then .n x l r else if k % 2 = 1 then .n v (setF f l (k / 2) x) r else .n v l (setF f r (k / 2 - 1) x) := by
  show @Bool.rec (fun _ => Tr α) (@Bool.rec (fun _ => Tr α) (.n v l (setF f r (k / 2 - 1) x)) (.n v (setF f l (k / 2) x) r) (Nat.beq (k % 2) 1)) (.n x l r) (Nat.beq k 0) = _
  by_cases h : k = 0
  · rw [beq_true h, if_pos h]
  · rw [beq_false h, if_neg h]
    by_cases h2 : k % 2 = 1
    · rw [beq_true h2, if_pos h2]
    · rw [beq_false h2, if_neg h2]
theorem get_setF (f : Nat) : ∀ (t : Tr α) (k j : Nat) (x : Option α), k < f → (setF f t k x).get j = if j = k then x else t.get j := by
  induction f with
  | zero => intro t k j x h; omega
  | succ f ih =>
    have node : ∀ (v : Option α) (l r : Tr α) (k j : Nat) (x : Option α), k < f + 1 → (setF (f + 1) (.n v l r) k x).get j = if j = k then x else (Tr.n v l r).get j := by
      intro v l r k j x h
      rw [setF_n]
      by_cases h0 : k = 0
      · subst h0
        rw [if_pos rfl, get_n, get_n]
        by_cases hj : j = 0
        · simp [hj]
        · simp [hj]
      · rw [if_neg h0]
        by_cases h1 : k % 2 = 1
        · rw [if_pos h1, get_n, get_n, ih _ _ _ _ (by omega)]
          by_cases hj : j = 0
          · subst hj; simp [Ne.symm h0]
          · rw [if_neg hj, if_neg hj]
            by_cases hj2 : j % 2 = 1
            · rw [if_pos hj2, if_pos hj2]
              by_cases e : j = k
              · subst e; simp
              · rw [if_neg e, if_neg (by omega)]
            · rw [if_neg hj2, if_neg hj2, if_neg (by intro e; subst e; exact hj2 h1)]
        · rw [if_neg h1, get_n, get_n, ih _ _ _ _ (by omega)]
          by_cases hj : j = 0
          · subst hj; simp [Ne.symm h0]
          · rw [if_neg hj, if_neg hj]
            by_cases hj2 : j % 2 = 1
            · rw [if_pos hj2, if_pos hj2, if_neg (by intro e; subst e; exact h1 hj2)]
            · rw [if_neg hj2, if_neg hj2]
              by_cases e : j = k
              · subst e; simp
              · rw [if_neg e, if_neg (by omega)]
    intro t k j x h
    cases t with
    | e =>
      rw [setF_e, node _ _ _ _ _ _ h]
      by_cases e : j = k
      · simp [e]
      · simp only [if_neg e, get_n, get_e]; split <;> (try split) <;> rfl
    | n v l r => exact node v l r k j x h
theorem get_set (t : Tr α) (k j : Nat) (x : Option α) : (t.set k x).get j = if j = k then x else t.get j :=
  get_setF (k + 1) t k j x (Nat.lt_succ_self k)
/-- A trie out of a list, the first at number i. -/
def ofList (t : Tr α) (i : Nat) : List α → Tr α
  | [] => t
  | a :: l => ofList (t.set i (some a)) (i + 1) l
theorem get_ofList (l : List α) : ∀ (t : Tr α) (i j : Nat), (ofList t i l).get j = if i ≤ j ∧ j < i + l.length then l[j - i]? else t.get j := by
  induction l with
  | nil => intro t i j; simp [ofList]; omega
  | cons a l ih =>
    intro t i j
    rw [ofList, ih, get_set]
    by_cases h : j = i
    · subst h
      rw [if_neg (by omega), if_pos rfl, if_pos (by simp), Nat.sub_self]; rfl
    · by_cases h2 : i + 1 ≤ j ∧ j < i + 1 + l.length
      · rw [if_pos h2, if_pos (by simp; omega)]
        have : j - i = (j - (i + 1)) + 1 := by omega
        rw [this]; rfl
      · rw [if_neg h2, if_neg h, if_neg (by simp; omega)]
end Tr

/-! ### Frames -/
/-- The slots of a frame: how many, and what they hold. -/
structure Env where
  t : Tr Value
  size : Nat
def Env.get (s : Env) (i : Nat) : Value := @Option.rec Value (fun _ => Value) undef (fun v => v) (s.t.get i)
theorem Env.get_eq (s : Env) (i : Nat) : s.get i = (s.t.get i).getD undef := by
  unfold Env.get
  cases s.t.get i <;> rfl
def Env.set (s : Env) (i : Nat) (v : Value) : Env := @Env.rec (fun _ => Env) (fun t n => ⟨t.set i (some v), n⟩) s
theorem Env.set_t (s : Env) (i : Nat) (v : Value) : (s.set i v).t = s.t.set i (some v) := rfl
def Env.put (s : Env) (d : Option Nat) (v : Value) : Option Env :=
  match d with
  | none => some s
  | some d => cond (Nat.blt d s.size) (some (s.set d v)) none
theorem Env.get_set (s : Env) (i j : Nat) (v : Value) : (s.set i v).get j = if j = i then v else s.get j := by
  simp only [Env.get_eq, Env.set_t, Tr.get_set]; split <;> rfl
@[simp] theorem Env.size_set (s : Env) (i : Nat) (v : Value) : (s.set i v).size = s.size := rfl
/-- A frame at its function's beginning. -/
def strictN {α : Type} (n : Nat) (f : Nat → α) : α := @Nat.rec (fun _ => α) (f 0) (fun m _ => f (Nat.succ m)) n
theorem strictN_eq {α : Type} (n : Nat) (f : Nat → α) : strictN n f = f n := by cases n <;> rfl
def Env.enter (args : List Value) (n : Nat) : Env := strictN (max args.length n) fun k => { t := Tr.ofList .e 0 args, size := k }
theorem Env.enter_eq (args : List Value) (n : Nat) : Env.enter args n = { t := Tr.ofList .e 0 args, size := max args.length n } := strictN_eq _ _
theorem Env.get_enter (args : List Value) (n j : Nat) : (Env.enter args n).get j = (args[j]?).getD undef := by
  simp only [Env.get_eq, Env.enter_eq, Tr.get_ofList, Tr.get_e]
  by_cases h : j < args.length
  · rw [if_pos (by omega)]; rfl
  · rw [if_neg (by omega), List.getElem?_eq_none (by omega)]

/-! ### Heaps -/
/-- A loop over a function: what its object holds, but for the block of its deferred calls. -/
structure ALoop where
  state : LoopState
  pending : Option Code
  s : Env
  params : Array Tmp
  assign : Code
  body : Code
inductive AObj where
  | cells (c : List Value) (elem : TypeId)
  | map (es : List (Value × Value × Nat)) (clock : Nat)
  | iter (m : Option Nat) (since : Nat) (seen : List Nat) (last : Nat)
  | siter (s : ByteArray) (pos : Nat)
  | tab (c : List Value)
  | loop (l : ALoop)
/-- Some blocks; the number of the next one; those below 'ro' are not written. -/
structure AHeap where
  t : Tr AObj
  next : Nat
  ro : Nat
def AHeap.get (h : AHeap) (b : Nat) : Option AObj := h.t.get b
def AHeap.set (h : AHeap) (b : Nat) (o : Option AObj) : AHeap := @AHeap.rec (fun _ => AHeap) (fun t n r => ⟨t.set b o, n, r⟩) h
def AHeap.push (h : AHeap) (o : AObj) : AHeap := @AHeap.rec (fun _ => AHeap) (fun t n r => ⟨t.set n (some o), Nat.succ n, r⟩) h
theorem AHeap.get_set (h : AHeap) (b c : Nat) (o : Option AObj) : (h.set b o).get c = if c = b then o else h.get c := Tr.get_set _ _ _ _
theorem AHeap.get_push (h : AHeap) (c : Nat) (o : AObj) : (h.push o).get c = if c = h.next then some o else h.get c := Tr.get_set _ _ _ _
@[simp] theorem AHeap.next_set (h : AHeap) (b : Nat) (o : Option AObj) : (h.set b o).next = h.next := rfl
@[simp] theorem AHeap.ro_set (h : AHeap) (b : Nat) (o : Option AObj) : (h.set b o).ro = h.ro := rfl
@[simp] theorem AHeap.next_push (h : AHeap) (o : AObj) : (h.push o).next = h.next + 1 := rfl
@[simp] theorem AHeap.ro_push (h : AHeap) (o : AObj) : (h.push o).ro = h.ro := rfl
/-- The same heap, with nothing that may be written. -/
def AHeap.lock (h : AHeap) : AHeap := @AHeap.rec (fun _ => AHeap) (fun t n _ => ⟨t, n, n⟩) h

/-! ### The renaming, and what describes what -/
/-- Where an abstract block lies: the world's block, the first cell, how many cells that block has, how many cells an element has. -/
structure Place where
  c : Nat
  base : Nat
  size : Nat
  esz : Nat
structure Ren where
  next : Nat
  m : Nat → Option Place
/-- A slice's third number is no capacity in an abstract value: 0: nothing is known; 1: it may be appended to; k + 2: likewise, and its capacity is k. -/
def CapOk (pl : Place) (off cap : Nat) (c : Nat) : Prop := c ≠ 0 → off + cap * pl.esz ≤ pl.size ∧ ∀ k, c = k + 2 → cap = k

/-- What is not known: no bool, and one cell. -/
def bot : Value := .complex .f32 0 0
def odd : Value → Bool
  | .bool _ | .agg _ | .tuple _ => false
  | _ => true
inductive VRel (ρ : Ren) : Value → Value → Prop
  | odd {v : Value} (h : odd v = true) : VRel ρ bot v
  | bool (b : Bool) : VRel ρ (.bool b) (.bool b)
  | int (k : IntKind) (n : Int) : VRel ρ (.int k n) (.int k n)
  | float (k : FloatKind) (n : Nat) : VRel ρ (.float k n) (.float k n)
  | string (s : ByteArray) : VRel ρ (.string s) (.string s)
  | ptrNil : VRel ρ (.pointer none) (.pointer none)
  | ptr {b off : Nat} {pl : Place} (hb : b < ρ.next) (hm : ρ.m b = some pl) : VRel ρ (.pointer (some ⟨b, off, none⟩)) (.pointer (some ⟨pl.c, pl.base + off, none⟩))
  | glob {g off : Nat} : VRel ρ (.pointer (some ⟨g, off, some 0⟩)) (.pointer (some ⟨g, off, none⟩))
  | sliceNil (c : Nat) : VRel ρ (.slice none 0 c) (.slice none 0 0)
  | slice {b off len c cap : Nat} {pl : Place} (hb : b < ρ.next) (hm : ρ.m b = some pl) (hl : len ≤ cap) (hc : CapOk pl (pl.base + off) cap c) :
      VRel ρ (.slice (some ⟨b, off, none⟩) len c) (.slice (some ⟨pl.c, pl.base + off, none⟩) len cap)
  | sliceOut {b off c : Nat} {a : Addr} (hb : b < ρ.next) (hc : c ≤ 2) : VRel ρ (.slice (some ⟨b, off, none⟩) 0 c) (.slice (some a) 0 0)
  | nilFunc : VRel ρ .nilFunc .nilFunc
  | nilIface : VRel ρ .nilIface .nilIface
  | mapNil : VRel ρ (.map none) (.map none)
  | map {b : Nat} {pl : Place} (hb : b < ρ.next) (hm : ρ.m b = some pl) : VRel ρ (.map (some b)) (.map (some pl.c))
  | yield {b : Nat} {pl : Place} (hb : b < ρ.next) (hm : ρ.m b = some pl) : VRel ρ (.func (.yield b) #[] #[]) (.func (.yield pl.c) #[] #[])
  | iface {t : TypeId} {x y : Value} (h : VRel ρ x y) : VRel ρ (.iface t x) (.iface t y)
  | func {f : FuncId} {a c a' c' : Array Value} (ha : a.size = a'.size) (hc : c.size = c'.size)
      (h : ∀ (i : Nat) x y, a[i]? = some x → a'[i]? = some y → VRel ρ x y) (h' : ∀ (i : Nat) x y, c[i]? = some x → c'[i]? = some y → VRel ρ x y) : VRel ρ (.func (.func f) a c) (.func (.func f) a' c')
  | agg {a a' : Array Value} (ha : a.size = a'.size) (h : ∀ (i : Nat) x y, a[i]? = some x → a'[i]? = some y → VRel ρ x y) : VRel ρ (.agg a) (.agg a')
  | tuple {a a' : Array Value} (ha : a.size = a'.size) (h : ∀ (i : Nat) x y, a[i]? = some x → a'[i]? = some y → VRel ρ x y) : VRel ρ (.tuple a) (.tuple a')

/-- A later renaming: the old blocks lie where they lay. -/
def Ren.le (ρ ρ' : Ren) : Prop := ρ.next ≤ ρ'.next ∧ ∀ b, b < ρ.next → ρ'.m b = ρ.m b
theorem Ren.le_refl (ρ : Ren) : ρ.le ρ := ⟨Nat.le_refl _, fun _ _ => rfl⟩
theorem Ren.le_trans {a b c : Ren} (h : a.le b) (k : b.le c) : a.le c := ⟨Nat.le_trans h.1 k.1, fun x hx => (k.2 x (Nat.lt_of_lt_of_le hx h.1)).trans (h.2 x hx)⟩
theorem VRel.mono {ρ ρ' : Ren} (hle : ρ.le ρ') {v v' : Value} (h : VRel ρ v v') : VRel ρ' v v' := by
  induction h with
  | odd h => exact .odd h
  | bool b => exact .bool b
  | int k n => exact .int k n
  | float k n => exact .float k n
  | string s => exact .string s
  | ptrNil => exact .ptrNil
  | ptr hb hm => exact .ptr (Nat.lt_of_lt_of_le hb hle.1) ((hle.2 _ hb).trans hm)
  | glob => exact .glob
  | sliceNil c => exact .sliceNil c
  | slice hb hm hl hc => exact .slice (Nat.lt_of_lt_of_le hb hle.1) ((hle.2 _ hb).trans hm) hl hc
  | sliceOut hb hc => exact .sliceOut (Nat.lt_of_lt_of_le hb hle.1) hc
  | nilFunc => exact .nilFunc
  | nilIface => exact .nilIface
  | mapNil => exact .mapNil
  | map hb hm => exact .map (Nat.lt_of_lt_of_le hb hle.1) ((hle.2 _ hb).trans hm)
  | yield hb hm => exact .yield (Nat.lt_of_lt_of_le hb hle.1) ((hle.2 _ hb).trans hm)
  | iface _ ih => exact .iface ih
  | func ha hc _ _ ih ih' => exact .func ha hc ih ih'
  | agg ha _ ih => exact .agg ha ih
  | tuple ha _ ih => exact .tuple ha ih

/-- Lists of values. -/
def VList (ρ : Ren) (xs ys : List Value) : Prop := xs.length = ys.length ∧ ∀ (i : Nat) x y, xs[i]? = some x → ys[i]? = some y → VRel ρ x y
theorem VList.nil (ρ : Ren) : VList ρ [] [] := ⟨rfl, fun i x y h => by simp at h⟩
theorem VList.cons {ρ : Ren} {x y : Value} {xs ys : List Value} (h : VRel ρ x y) (hs : VList ρ xs ys) : VList ρ (x :: xs) (y :: ys) :=
  ⟨by simp [hs.1], fun i a b ha hb => by
    cases i with
    | zero => simp at ha hb; subst ha hb; exact h
    | succ i => exact hs.2 i a b (by simpa using ha) (by simpa using hb)⟩
theorem VList.cons_inv {ρ : Ren} {x : Value} {xs ys : List Value} (h : VList ρ (x :: xs) ys) : ∃ y ys', ys = y :: ys' ∧ VRel ρ x y ∧ VList ρ xs ys' := by
  cases ys with
  | nil => simp [VList] at h
  | cons y ys => exact ⟨y, ys, rfl, h.2 0 x y rfl rfl, by simpa using h.1, fun i a b ha hb => h.2 (i + 1) a b (by simpa using ha) (by simpa using hb)⟩
theorem VList.nil_inv {ρ : Ren} {ys : List Value} (h : VList ρ [] ys) : ys = [] := by
  have := h.1; simp at this; exact List.eq_nil_of_length_eq_zero this.symm
theorem VList.mono {ρ ρ' : Ren} (hle : ρ.le ρ') {xs ys : List Value} (h : VList ρ xs ys) : VList ρ' xs ys := ⟨h.1, fun i x y hx hy => (h.2 i x y hx hy).mono hle⟩
theorem VList.append {ρ : Ren} {a b c d : List Value} (h : VList ρ a b) (k : VList ρ c d) : VList ρ (a ++ c) (b ++ d) := by
  refine ⟨by simp [h.1, k.1], fun i x y hx hy => ?_⟩
  by_cases hi : i < a.length
  · rw [List.getElem?_append_left hi] at hx
    rw [List.getElem?_append_left (by rw [← h.1]; exact hi)] at hy
    exact h.2 i x y hx hy
  · rw [List.getElem?_append_right (by omega)] at hx
    rw [List.getElem?_append_right (by rw [← h.1]; omega), ← h.1] at hy
    exact k.2 _ x y hx hy
theorem VList.get {ρ : Ren} {xs ys : List Value} (h : VList ρ xs ys) {i : Nat} {x : Value} (hx : xs[i]? = some x) : ∃ y, ys[i]? = some y ∧ VRel ρ x y := by
  have hi : i < xs.length := by
    rcases Nat.lt_or_ge i xs.length with h | h
    · exact h
    · rw [List.getElem?_eq_none h] at hx; cases hx
  have hj : i < ys.length := h.1 ▸ hi
  exact ⟨ys[i], List.getElem?_eq_getElem hj, h.2 i x _ hx (List.getElem?_eq_getElem hj)⟩

/-- A value of the world's that holds no address: it describes itself. -/
def plain : Value → Bool
  | .bool _ | .int _ _ | .float _ _ | .string _ | .pointer none | .nilFunc | .nilIface | .map none => true
  | .slice none n c => Nat.beq n 0 && Nat.beq c 0
  | .func (.func _) a c => Nat.beq a.size 0 && Nat.beq c.size 0
  | .tuple a => Nat.beq a.size 0
  | _ => false
theorem arr_nil {a : Array Value} (h : Nat.beq a.size 0 = true) : a = #[] := Array.eq_empty_of_size_eq_zero (Nat.eq_of_beq_eq_true h)
theorem VRel.of_plain (ρ : Ren) {v : Value} (h : plain v = true) : VRel ρ v v := by
  cases v with
  | bool b => exact .bool _
  | int k n => exact .int _ _
  | float k n => exact .float _ _
  | string s => exact .string _
  | nilFunc => exact .nilFunc
  | nilIface => exact .nilIface
  | pointer a => cases a <;> first | exact .ptrNil | cases h
  | map a => cases a <;> first | exact .mapNil | cases h
  | slice a n c =>
    cases a with
    | some a => cases h
    | none =>
      simp only [plain, Bool.and_eq_true] at h
      obtain rfl := Nat.eq_of_beq_eq_true h.1
      obtain rfl := Nat.eq_of_beq_eq_true h.2
      exact .sliceNil _
  | func f a c =>
    cases f with
    | func f =>
      simp only [plain, Bool.and_eq_true] at h
      obtain rfl := arr_nil h.1
      obtain rfl := arr_nil h.2
      exact .func rfl rfl (fun i x y hx => by simp at hx) (fun i x y hx => by simp at hx)
    | _ => cases h
  | tuple a =>
    obtain rfl := arr_nil h
    exact .tuple rfl (fun i x y hx => by simp at hx)
  | _ => cases h

/-- What a cell may hold. -/
def cellOk : Value → Bool
  | .agg _ | .tuple _ => false
  | _ => true
theorem cellOk_rel {ρ : Ren} {v v' : Value} (h : VRel ρ v v') : cellOk v' = cellOk v := by
  cases h with
  | odd h => cases v' <;> first | rfl | cases h
  | _ => rfl

/-- An abstract block at its place. -/
def CellsOk (P : Program) (ρ : Ren) (wr : Bool) (c : List Value) (elem : TypeId) (pl : Place) (w : World) : Prop :=
  ∃ cs fz, w.heap[pl.c]? = some (.cells cs elem fz) ∧ cs.size = pl.size ∧ (pl.esz = P.cellsOf elem ∧ pl.base % pl.esz = 0) ∧ pl.base + c.length ≤ cs.size ∧
    (wr = true → ∀ i, i < pl.size → ¬(fz.1 ≤ i ∧ i < fz.2)) ∧ ∀ i x, c[i]? = some x → ∃ y, cs[pl.base + i]? = some y ∧ VRel ρ x y

/-- The slots of a running frame. -/
structure EnvRel (ρ : Ren) (s : Env) (tm : Array Value) : Prop where
  size : s.size = tm.size
  get : ∀ i, VRel ρ (s.get i) (tm.getD i undef)
theorem EnvRel.mono {ρ ρ' : Ren} (hle : ρ.le ρ') {s : Env} {tm : Array Value} (h : EnvRel ρ s tm) : EnvRel ρ' s tm := ⟨h.size, fun i => (h.get i).mono hle⟩
/-- An abstract map at its place: its entries, in their order, with their stamps. -/
def MapOk (ρ : Ren) (es : List (Value × Value × Nat)) (clock : Nat) (pl : Place) (w : World) : Prop :=
  ∃ ms, w.heap[pl.c]? = some (.map ms clock) ∧ ms.size = es.length ∧ ∀ (i : Nat) x m, es[i]? = some x → ms[i]? = some m → VRel ρ x.1 m.key ∧ VRel ρ x.2.1 m.val ∧ m.born = x.2.2
def IterOk (ρ : Ren) (m : Option Nat) (since : Nat) (seen : List Nat) (last : Nat) (pl : Place) (w : World) : Prop :=
  ∃ m', w.heap[pl.c]? = some (.mapIter m' since seen.toArray last) ∧ pl.base = 0 ∧ VRel ρ (.map m) (.map m')
def LoopOk (ρ : Ren) (l : ALoop) (pl : Place) (w : World) : Prop :=
  ∃ tm d fn, w.heap[pl.c]? = some (.loop { state := l.state, pending := l.pending, fn := fn, tmps := tm, params := l.params, assign := l.assign, body := l.body, defers := d }) ∧ EnvRel ρ l.s tm
def ObjOk (P : Program) (ρ : Ren) (wr : Bool) (o : AObj) (pl : Place) (w : World) : Prop :=
  match o with
  | .cells c t => CellsOk P ρ wr c t pl w
  | .map es q => MapOk ρ es q pl w
  | .iter m since seen last => IterOk ρ m since seen last pl w
  | .siter s pos => w.heap[pl.c]? = some (.stringIter s pos) ∧ pl.base = 0
  | .tab c => ∃ t, CellsOk P ρ false c t { pl with esz := P.cellsOf t } w
  | .loop l => LoopOk ρ l pl w

structure Rel (P : Program) (ρ : Ren) (h : AHeap) (w : World) : Prop where
  next : ρ.next = h.next
  ro : h.ro ≤ h.next
  dom : ∀ b o, h.get b = some o → b < h.next
  ok : ∀ b o, h.get b = some o → ∃ pl, ρ.m b = some pl ∧ ObjOk P ρ (decide (h.ro ≤ b)) o pl w
  inj : ∀ b1 b2 o1 o2 p1 p2, h.get b1 = some o1 → h.get b2 = some o2 → ρ.m b1 = some p1 → ρ.m b2 = some p2 → p1.c = p2.c → b1 = b2
  gro : P.globals.size ≤ h.ro
  glob : ∀ b pl, b < P.globals.size → ρ.m b = some pl → pl.c = b ∧ pl.base = 0

/-- May the world's block c be written, by what the abstract heap says? -/
def Mine (ρ : Ren) (h : AHeap) (c : Nat) : Prop := ∃ b o pl, h.get b = some o ∧ h.ro ≤ b ∧ ρ.m b = some pl ∧ pl.c = c

/-- From a heap and a world to later ones: what was there and is not ours is as it was. -/
structure Step (P : Program) (ρ : Ren) (h : AHeap) (w : World) (ρ' : Ren) (h' : AHeap) (w' : World) : Prop where
  le : ρ.le ρ'
  rel : Rel P ρ' h' w'
  ro : h'.ro = h.ro
  os : w'.os = w.os
  tape : w'.tape = w.tape
  output : w'.output = w.output
  size : w.heap.size ≤ w'.heap.size
  frame : ∀ c, c < w.heap.size → ¬ Mine ρ h c → w'.heap[c]? = w.heap[c]?
  img : ∀ c, c < w.heap.size → Mine ρ' h' c → Mine ρ h c

theorem Step.refl {P : Program} {ρ : Ren} {h : AHeap} {w : World} (hr : Rel P ρ h w) : Step P ρ h w ρ h w :=
  ⟨Ren.le_refl _, hr, rfl, rfl, rfl, rfl, Nat.le_refl _, fun _ _ _ => rfl, fun _ _ h => h⟩
theorem Step.trans {P : Program} {ρ ρ' ρ'' : Ren} {h h' h'' : AHeap} {w w' w'' : World} (a : Step P ρ h w ρ' h' w') (b : Step P ρ' h' w' ρ'' h'' w'') :
    Step P ρ h w ρ'' h'' w'' :=
  ⟨Ren.le_trans a.le b.le, b.rel, b.ro.trans a.ro, b.os.trans a.os, b.tape.trans a.tape, b.output.trans a.output, Nat.le_trans a.size b.size,
    fun c hc hn => (b.frame c (Nat.lt_of_lt_of_le hc a.size) (fun hm => hn (a.img c hc hm))).trans (a.frame c hc hn),
    fun c hc hm => a.img c hc (b.img c (Nat.lt_of_lt_of_le hc a.size) hm)⟩

/-- A slot written, if there is one. -/
def putTm (tm : Array Value) (d : Option Nat) (v : Value) : Array Value :=
  match d with
  | some d => tm.setIfInBounds d v
  | none => tm
theorem EnvRel.put {ρ : Ren} {s s' : Env} {tm : Array Value} {d : Option Nat} {v v' : Value} (h : EnvRel ρ s tm) (hv : VRel ρ v v') (hp : s.put d v = some s') :
    EnvRel ρ s' (putTm tm d v') := by
  cases d with
  | none => simp only [Env.put, Option.some.injEq] at hp; subst hp; exact h
  | some d =>
    simp only [Env.put] at hp
    cases hb : Nat.blt d s.size with
    | false => rw [hb] at hp; cases hp
    | true =>
      rw [hb] at hp
      simp only [cond_true, Option.some.injEq] at hp
      subst hp
      have hd : d < s.size := by simpa [Nat.blt_eq] using hb
      refine ⟨by simp [putTm, h.size], fun i => ?_⟩
      rw [Env.get_set]
      simp only [putTm]
      by_cases e : i = d
      · subst e
        rw [if_pos rfl]
        have : (tm.setIfInBounds i v').getD i undef = v' := by
          simp [Array.getD_eq_getD_getElem?, ← h.size, hd]
        rw [this]; exact hv
      · rw [if_neg e]
        have : (tm.setIfInBounds d v').getD i undef = tm.getD i undef := by
          simp [Array.getD_eq_getD_getElem?, Ne.symm e]
        rw [this]; exact h.get i

end
end Go.Ai
namespace Go.Ai
noncomputable section
variable {P : Program}

theorem Rel.place {ρ : Ren} {h : AHeap} {w : World} (hr : Rel P ρ h w) {b : Nat} {c : List Value} {t : TypeId} {pl : Place} (hg : h.get b = some (.cells c t)) (hm : ρ.m b = some pl) :
    CellsOk P ρ (decide (h.ro ≤ b)) c t pl w := by
  obtain ⟨pl', hm', hc⟩ := hr.ok b _ hg
  rw [hm] at hm'
  cases hm'
  exact hc
theorem Rel.cells {ρ : Ren} {h : AHeap} {w : World} (hr : Rel P ρ h w) (b : Nat) (c : List Value) (t : TypeId) (hg : h.get b = some (.cells c t)) : ∃ pl, ρ.m b = some pl ∧ CellsOk P ρ (decide (h.ro ≤ b)) c t pl w := hr.ok b _ hg
theorem Rel.objAt {ρ : Ren} {h : AHeap} {w : World} (hr : Rel P ρ h w) {b : Nat} {o : AObj} {pl : Place} (hg : h.get b = some o) (hm : ρ.m b = some pl) : ObjOk P ρ (decide (h.ro ≤ b)) o pl w := by
  obtain ⟨pl', hm', hc⟩ := hr.ok b _ hg
  rw [hm] at hm'
  cases hm'
  exact hc

theorem CellsOk.cell {ρ : Ren} {wr : Bool} {c : List Value} {t : TypeId} {pl : Place} {w : World} (hc : CellsOk P ρ wr c t pl w) {i : Nat} {x : Value} (hx : c[i]? = some x) :
    ∃ y, w.cell? ⟨pl.c, pl.base + i, none⟩ = some y ∧ VRel ρ x y := by
  obtain ⟨cs, fz, hb, _, _, _, _, hv⟩ := hc
  obtain ⟨y, hy, hxy⟩ := hv i x hx
  exact ⟨y, by simp [World.cell?, hb, hy], hxy⟩

theorem CellsOk.unfrozen {ρ : Ren} {c : List Value} {t : TypeId} {pl : Place} {w : World} (hc : CellsOk P ρ true c t pl w) {i : Nat} (hi : i < pl.size) :
    w.frozen? ⟨pl.c, i, none⟩ = false := by
  obtain ⟨cs, fz, hb, _, _, _, hf, _⟩ := hc
  have := hf rfl i hi
  obtain ⟨lo, hi'⟩ := fz
  simp [World.frozen?, hb] at this ⊢
  exact this

/-- A block of the world's whose cells are replaced, as many as there were. -/
theorem CellsOk.other {ρ : Ren} {wr : Bool} {c : List Value} {t : TypeId} {pl : Place} {w w' : World} (hc : CellsOk P ρ wr c t pl w) (hb : w'.heap[pl.c]? = w.heap[pl.c]?) : CellsOk P ρ wr c t pl w' := by
  obtain ⟨cs, fz, h1, h2⟩ := hc
  exact ⟨cs, fz, hb.trans h1, h2⟩
theorem CellsOk.mono {ρ ρ' : Ren} (hle : ρ.le ρ') {wr : Bool} {c : List Value} {t : TypeId} {pl : Place} {w : World} (hc : CellsOk P ρ wr c t pl w) : CellsOk P ρ' wr c t pl w := by
  obtain ⟨cs, fz, h1, h2, h3, h4, h5, h6⟩ := hc
  exact ⟨cs, fz, h1, h2, h3, h4, h5, fun i x hx => by obtain ⟨y, hy, hv⟩ := h6 i x hx; exact ⟨y, hy, hv.mono hle⟩⟩
theorem CellsOk.lt {ρ : Ren} {wr : Bool} {c : List Value} {t : TypeId} {pl : Place} {w : World} (hc : CellsOk P ρ wr c t pl w) : pl.c < w.heap.size := by
  obtain ⟨cs, fz, h1, _⟩ := hc
  rcases Nat.lt_or_ge pl.c w.heap.size with h | h
  · exact h
  · rw [Array.getElem?_eq_none h] at h1; cases h1
theorem CellsOk.weak {ρ : Ren} {c : List Value} {t : TypeId} {pl : Place} {w : World} {wr wr' : Bool} (hw : wr' = true → wr = true) (hc : CellsOk P ρ wr c t pl w) : CellsOk P ρ wr' c t pl w := by
  obtain ⟨cs, fz, h1, h2, h3, h4, h5, h6⟩ := hc
  exact ⟨cs, fz, h1, h2, h3, h4, fun e => h5 (hw e), h6⟩

theorem ObjOk.other {ρ : Ren} {wr : Bool} {o : AObj} {pl : Place} {w w' : World} (hc : ObjOk P ρ wr o pl w) (hb : w'.heap[pl.c]? = w.heap[pl.c]?) : ObjOk P ρ wr o pl w' := by
  cases o with
  | cells c t => exact CellsOk.other hc hb
  | map es q => obtain ⟨ms, h1, h2⟩ := hc; exact ⟨ms, hb.trans h1, h2⟩
  | iter m a b c => obtain ⟨m', h1, h2⟩ := hc; exact ⟨m', hb.trans h1, h2⟩
  | siter s pos => exact ⟨hb.trans hc.1, hc.2⟩
  | tab c => obtain ⟨t, h1⟩ := hc; exact ⟨t, CellsOk.other h1 hb⟩
  | loop l => obtain ⟨tm, d, fn, h1, h2⟩ := hc; exact ⟨tm, d, fn, hb.trans h1, h2⟩
theorem ObjOk.mono {ρ ρ' : Ren} (hle : ρ.le ρ') {wr : Bool} {o : AObj} {pl : Place} {w : World} (hc : ObjOk P ρ wr o pl w) : ObjOk P ρ' wr o pl w := by
  cases o with
  | cells c t => exact CellsOk.mono hle hc
  | map es q => obtain ⟨ms, h1, h2, h3⟩ := hc; exact ⟨ms, h1, h2, fun i x m hx hm => ⟨(h3 i x m hx hm).1.mono hle, (h3 i x m hx hm).2.1.mono hle, (h3 i x m hx hm).2.2⟩⟩
  | iter m a b c => obtain ⟨m', h1, h0, h2⟩ := hc; exact ⟨m', h1, h0, h2.mono hle⟩
  | tab c => obtain ⟨t, h1⟩ := hc; exact ⟨t, CellsOk.mono hle h1⟩
  | siter s pos => exact hc
  | loop l => obtain ⟨tm, d, fn, h1, h2⟩ := hc; exact ⟨tm, d, fn, h1, h2.mono hle⟩
theorem lt_of_obj {w : World} {r : Nat} {o : Obj} (h : w.heap[r]? = some o) : r < w.heap.size := by
  rcases Nat.lt_or_ge r w.heap.size with hl | hl
  · exact hl
  · rw [Array.getElem?_eq_none hl] at h; cases h
theorem ObjOk.lt {ρ : Ren} {wr : Bool} {o : AObj} {pl : Place} {w : World} (hc : ObjOk P ρ wr o pl w) : pl.c < w.heap.size := by
  cases o with
  | cells c t => exact CellsOk.lt hc
  | map es q => obtain ⟨ms, h1, _⟩ := hc; exact lt_of_obj h1
  | iter m a b c => obtain ⟨m', h1, _⟩ := hc; exact lt_of_obj h1
  | siter s pos => exact lt_of_obj hc.1
  | tab c => obtain ⟨t, h1⟩ := hc; exact h1.lt
  | loop l => obtain ⟨tm, d, fn, h1, _⟩ := hc; exact lt_of_obj h1
theorem ObjOk.weak {ρ : Ren} {o : AObj} {pl : Place} {w : World} {wr wr' : Bool} (hw : wr' = true → wr = true) (hc : ObjOk P ρ wr o pl w) : ObjOk P ρ wr' o pl w := by
  cases o with
  | cells c t => exact CellsOk.weak hw hc
  | map es q => exact hc
  | tab c => exact hc
  | iter m a b c => exact hc
  | siter s pos => exact hc
  | loop l => exact hc

/-- A block less. -/
theorem Rel.drop {ρ : Ren} {h : AHeap} {w : World} (hr : Rel P ρ h w) (b : Nat) : Rel P ρ (h.set b none) w := by
  have hsub : ∀ x o, (h.set b none).get x = some o → h.get x = some o := by
    intro x o hx
    rw [AHeap.get_set] at hx
    split at hx
    · cases hx
    · exact hx
  exact ⟨hr.next, hr.ro, fun x o hx => hr.dom x o (hsub x o hx), fun x o hx => hr.ok x o (hsub x _ hx),
    fun b1 b2 o1 o2 p1 p2 h1 h2 => hr.inj b1 b2 o1 o2 p1 p2 (hsub _ _ h1) (hsub _ _ h2), hr.gro, hr.glob⟩

/-- A block whose contents are other ones, at the same place. -/
theorem Step.putObj {ρ : Ren} {h : AHeap} {w w' : World} (hr : Rel P ρ h w) {b : Nat} {ob ob' : AObj} {pl : Place} (hg : h.get b = some ob) (hm : ρ.m b = some pl) (hro : h.ro ≤ b)
    (hok : ObjOk P ρ true ob' pl w') (hos : w'.os = w.os) (htape : w'.tape = w.tape) (hout : w'.output = w.output) (hsz : w'.heap.size = w.heap.size)
    (hfr : ∀ k, k ≠ pl.c → w'.heap[k]? = w.heap[k]?) : Step P ρ h w ρ (h.set b (some ob')) w' := by
  have hold : ∀ x o, (h.set b (some ob')).get x = some o → ∃ o', h.get x = some o' := by
    intro x o hx
    rw [AHeap.get_set] at hx
    split at hx
    · rename_i e; subst e; exact ⟨_, hg⟩
    · exact ⟨o, hx⟩
  refine ⟨Ren.le_refl _, ⟨hr.next, hr.ro, ?_, ?_, ?_, hr.gro, hr.glob⟩, rfl, hos, htape, hout, by omega, ?_, ?_⟩
  · intro x o hx
    obtain ⟨o', ho'⟩ := hold x o hx
    exact hr.dom x o' ho'
  · intro x ox hx
    rw [AHeap.get_set] at hx
    split at hx
    · rename_i e; subst e; cases hx; exact ⟨pl, hm, hok.weak (fun _ => rfl)⟩
    · rename_i e
      obtain ⟨p, hp, hc⟩ := hr.ok x ox hx
      refine ⟨p, hp, hc.other (hfr _ ?_)⟩
      intro e2
      exact e (hr.inj x b _ _ p pl hx hg hp hm e2)
  · intro b1 b2 o1 o2 p1 p2 h1 h2
    obtain ⟨o1', h1'⟩ := hold _ _ h1
    obtain ⟨o2', h2'⟩ := hold _ _ h2
    exact hr.inj b1 b2 o1' o2' p1 p2 h1' h2'
  · intro k hk hn
    refine hfr k ?_
    intro e
    exact hn ⟨b, _, pl, hg, hro, hm, e.symm⟩
  · rintro k hk ⟨x, o, p, hx, hrx, hp, hpc⟩
    obtain ⟨o', ho'⟩ := hold x o hx
    exact ⟨x, o', p, ho', hrx, hp, hpc⟩

theorem Step.write {ρ : Ren} {h : AHeap} {w w' : World} (hr : Rel P ρ h w) {b : Nat} {c c' : List Value} {t : TypeId} {pl : Place} (hg : h.get b = some (.cells c t)) (hm : ρ.m b = some pl) (hro : h.ro ≤ b)
    (hok : CellsOk P ρ true c' t pl w') (hos : w'.os = w.os) (htape : w'.tape = w.tape) (hout : w'.output = w.output) (hsz : w'.heap.size = w.heap.size)
    (hfr : ∀ k, k ≠ pl.c → w'.heap[k]? = w.heap[k]?) : Step P ρ h w ρ (h.set b (some (.cells c' t))) w' :=
  Step.putObj hr hg hm hro (ob' := .cells c' t) hok hos htape hout hsz hfr

theorem size_setCell (w : World) (a : Addr) (v : Value) : (w.setCell a v).heap.size = w.heap.size := by simp [World.setCell]
theorem heap_setCell_ne (w : World) (a : Addr) (v : Value) (k : Nat) (h : k ≠ a.block) : (w.setCell a v).heap[k]? = w.heap[k]? := RowKit.Below.heap_setCell w a v k h

theorem CellsOk.setCell {ρ : Ren} {wr : Bool} {c : List Value} {t : TypeId} {pl : Place} {w : World} (hc : CellsOk P ρ wr c t pl w) {i : Nat} {v v' : Value} (hi : i < c.length) (hv : VRel ρ v v') :
    CellsOk P ρ wr (c.set i v) t pl (w.setCell ⟨pl.c, pl.base + i, none⟩ v') := by
  obtain ⟨cs, fz, h1, h2, h3, h4, h5, h6⟩ := hc
  refine ⟨cs.setIfInBounds (pl.base + i) v', fz, ?_, by simpa using h2, h3, by simpa using h4, h5, ?_⟩
  · simp [World.setCell, Array.getElem?_modify, h1]
  · intro j x hx
    by_cases e : j = i
    · subst e
      rw [List.getElem?_set_self hi] at hx
      cases hx
      exact ⟨v', by rw [Array.getElem?_setIfInBounds, if_pos rfl, if_pos (by omega)], hv⟩
    · rw [List.getElem?_set_ne (fun h => e h.symm)] at hx
      obtain ⟨y, hy, hxy⟩ := h6 j x hx
      exact ⟨y, by rw [Array.getElem?_setIfInBounds, if_neg (by omega)]; exact hy, hxy⟩

/-- One cell is stored. -/
theorem run_store_cell {ρ : Ren} {h : AHeap} {w : World} (hr : Rel P ρ h w) {b : Nat} {c : List Value} {t : TypeId} {pl : Place} (hg : h.get b = some (.cells c t)) (hm : ρ.m b = some pl) (hro : h.ro ≤ b)
    {i : Nat} (hi : i < c.length) {v v' : Value} (hv : VRel ρ v v') (hcell : cellOk v = true) :
    (store ⟨pl.c, pl.base + i, none⟩ v').run P w = .ok () (w.setCell ⟨pl.c, pl.base + i, none⟩ v') ∧
      Step P ρ h w ρ (h.set b (some (.cells (c.set i v) t))) (w.setCell ⟨pl.c, pl.base + i, none⟩ v') := by
  have hc := hr.place hg hm
  rw [show decide (h.ro ≤ b) = true by simpa using hro] at hc
  obtain ⟨y, hy, _⟩ := hc.cell (i := i) (List.getElem?_eq_getElem hi)
  have hsz : pl.base + i < pl.size := by obtain ⟨cs, fz, _, h2, _, h4, _⟩ := hc; omega
  have hone : v'.oneCell' = true := by have := cellOk_rel hv; rw [hcell] at this; cases v' <;> simp_all [cellOk, Value.oneCell']
  refine ⟨?_, Step.write hr hg hm hro (hc.setCell hi hv) rfl rfl rfl (size_setCell _ _ _) (fun k hk => heap_setCell_ne _ _ _ _ hk)⟩
  rw [run_store _ _ _ _ _ hone, hy]
  simp [hc.unfrozen hsz]

/-- A list's items from i on are replaced. -/
def setMany (c : List Value) (i : Nat) : List Value → List Value
  | [] => c
  | v :: vs => setMany (c.set i v) (i + 1) vs
theorem length_setMany (vs : List Value) : ∀ (c : List Value) (i : Nat), (setMany c i vs).length = c.length := by
  induction vs with
  | nil => intro c i; rfl
  | cons v vs ih => intro c i; simp [setMany, ih]
theorem AHeap.set_set (h : AHeap) (b : Nat) (x y : Option AObj) (k : Nat) : ((h.set b x).set b y).get k = (h.set b y).get k := by
  simp only [AHeap.get_set]; split <;> rfl
/-- Heaps that hold the same. -/
structure Same (h h' : AHeap) : Prop where
  next : h'.next = h.next
  ro : h'.ro = h.ro
  get : ∀ b, h'.get b = h.get b
theorem Rel.same {ρ : Ren} {h h' : AHeap} {w : World} (hr : Rel P ρ h w) (e : Same h h') : Rel P ρ h' w :=
  ⟨hr.next.trans e.next.symm, by rw [e.ro, e.next]; exact hr.ro, fun b o hb => by rw [e.next]; exact hr.dom b o ((e.get b) ▸ hb),
    fun b o hb => by rw [e.ro]; exact hr.ok b o ((e.get b) ▸ hb),
    fun b1 b2 o1 o2 p1 p2 h1 h2 => hr.inj b1 b2 o1 o2 p1 p2 ((e.get b1) ▸ h1) ((e.get b2) ▸ h2), by rw [e.ro]; exact hr.gro, hr.glob⟩
theorem Step.same {ρ ρ' : Ren} {h h' h'' : AHeap} {w w' : World} (s : Step P ρ h w ρ' h' w') (e : Same h' h'') : Step P ρ h w ρ' h'' w' :=
  ⟨s.le, s.rel.same e, e.ro.trans s.ro, s.os, s.tape, s.output, s.size, s.frame, fun c hc hm => s.img c hc (by
    obtain ⟨b, o, pl, hb, hro, hp⟩ := hm
    exact ⟨b, o, pl, by rw [← e.get]; exact hb, by rw [← e.ro]; exact hro, hp⟩)⟩

theorem addr_add (c o i : Nat) : (Addr.mk c o none).add i = ⟨c, o + i, none⟩ := by
  unfold Addr.add
  split
  · rename_i h; subst h; rfl
  · rfl

/-- Several cells are stored. -/
theorem run_storeCells {ρ : Ren} {t : TypeId} {pl : Place} {b : Nat} {o : Nat} (hm : ρ.m b = some pl) : ∀ (vs vs' : List Value) (h : AHeap) (w : World) (c : List Value) (j : Nat), Rel P ρ h w → h.get b = some (.cells c t) → h.ro ≤ b →
    o + j + vs.length ≤ c.length → VList ρ vs vs' → (∀ x ∈ vs, cellOk x = true) →
    ∃ w', (storeCells ⟨pl.c, pl.base + o, none⟩ vs' j).run P w = .ok () w' ∧ Step P ρ h w ρ (h.set b (some (.cells (setMany c (o + j) vs) t))) w' := by
  intro vs
  induction vs with
  | nil =>
    intro vs' h w c j hr hg hro hl hv hcell
    cases hv.nil_inv
    refine ⟨w, rfl, (Step.refl hr).same ⟨rfl, rfl, fun x => ?_⟩⟩
    rw [AHeap.get_set]; split
    · rename_i e; subst e; exact hg.symm
    · rfl
  | cons v vs ih =>
    intro vs' h w c j hr hg hro hl hv hcell
    obtain ⟨v', vs'', rfl, hv1, hv2⟩ := hv.cons_inv
    simp only [List.length_cons] at hl
    obtain ⟨e1, s1⟩ := run_store_cell hr hg hm hro (i := o + j) (by omega) hv1 (hcell v (by simp))
    obtain ⟨w', e2, s2⟩ := ih vs'' _ _ (c.set (o + j) v) (j + 1) s1.rel (by rw [AHeap.get_set, if_pos rfl]) hro (by simp; omega) hv2 (fun x hx => hcell x (by simp [hx]))
    refine ⟨w', ?_, (s1.trans s2).same ⟨rfl, rfl, fun x => ?_⟩⟩
    · simp only [storeCells, addr_add, Sem.run_bind, Nat.add_assoc] at e1 ⊢
      rw [e1]; exact e2
    · rw [AHeap.set_set]; rfl

/-- The renaming with one block more. -/
def Ren.ext (ρ : Ren) (pl : Place) : Ren := { next := ρ.next + 1, m := fun b => if b = ρ.next then some pl else ρ.m b }
theorem Ren.le_ext (ρ : Ren) (pl : Place) : ρ.le (ρ.ext pl) := ⟨Nat.le_succ _, fun _ hb => if_neg (Nat.ne_of_lt hb)⟩
theorem Ren.ext_next (ρ : Ren) (pl : Place) : (ρ.ext pl).m ρ.next = some pl := if_pos rfl

/-- A block more, at a place that is no other's. -/
theorem Rel.pushObj {ρ : Ren} {h : AHeap} {w : World} (hr : Rel P ρ h w) {ob : AObj} {pl : Place} (hc : ObjOk P (ρ.ext pl) true ob pl w)
    (hfresh : ∀ b o p, h.get b = some o → ρ.m b = some p → p.c ≠ pl.c) : Rel P (ρ.ext pl) (h.push ob) w := by
  have hle := ρ.le_ext pl
  have hcase : ∀ x o, (h.push ob).get x = some o → (x = h.next ∧ o = ob) ∨ (x < h.next ∧ h.get x = some o) := by
    intro x o hx
    rw [AHeap.get_push] at hx
    split at hx
    · rename_i e; cases hx; exact .inl ⟨e, rfl⟩
    · exact .inr ⟨hr.dom x o hx, hx⟩
  have hold : ∀ x, x < h.next → (ρ.ext pl).m x = ρ.m x := fun x hx => hle.2 x (by rw [hr.next]; exact hx)
  have hnew : (ρ.ext pl).m h.next = some pl := by rw [← hr.next]; exact ρ.ext_next pl
  refine ⟨by show ρ.next + 1 = h.next + 1; rw [hr.next], Nat.le_trans hr.ro (Nat.le_succ _), ?_, ?_, ?_, hr.gro, fun b p hb hm => hr.glob b p hb (by rw [← hold b (Nat.lt_of_lt_of_le hb (Nat.le_trans hr.gro hr.ro))]; exact hm)⟩
  · intro x o hx
    rcases hcase x o hx with ⟨e, _⟩ | ⟨hlt, _⟩
    · subst e; exact Nat.lt_succ_self _
    · exact Nat.lt_succ_of_lt hlt
  · intro x ox hx
    rcases hcase x _ hx with ⟨e, eo⟩ | ⟨hlt, hx'⟩
    · cases eo; subst e
      exact ⟨pl, hnew, hc.weak (fun _ => rfl)⟩
    · obtain ⟨p, hp, hcx⟩ := hr.ok x ox hx'
      exact ⟨p, (hold x hlt).trans hp, hcx.mono hle⟩
  · intro b1 b2 o1 o2 p1 p2 h1 h2 m1 m2 e
    rcases hcase b1 o1 h1 with ⟨e1, _⟩ | ⟨l1, g1⟩ <;> rcases hcase b2 o2 h2 with ⟨e2, _⟩ | ⟨l2, g2⟩
    · omega
    · subst e1
      rw [hnew] at m1; cases m1
      rw [hold _ l2] at m2
      exact absurd e.symm (hfresh b2 o2 p2 g2 m2)
    · subst e2
      rw [hnew] at m2; cases m2
      rw [hold _ l1] at m1
      exact absurd e (hfresh b1 o1 p1 g1 m1)
    · rw [hold _ l1] at m1; rw [hold _ l2] at m2
      exact hr.inj b1 b2 o1 o2 p1 p2 g1 g2 m1 m2 e

theorem Rel.push {ρ : Ren} {h : AHeap} {w : World} (hr : Rel P ρ h w) {c : List Value} {t : TypeId} {pl : Place} (hc : CellsOk P (ρ.ext pl) true c t pl w)
    (hfresh : ∀ b o p, h.get b = some o → ρ.m b = some p → p.c ≠ pl.c) : Rel P (ρ.ext pl) (h.push (.cells c t)) w := hr.pushObj (ob := .cells c t) hc hfresh

/-- What was there stays described when the world's heap gets blocks more. -/
theorem Rel.grow {ρ : Ren} {h : AHeap} {w w' : World} (hr : Rel P ρ h w) (hold : ∀ k, k < w.heap.size → w'.heap[k]? = w.heap[k]?) : Rel P ρ h w' :=
  ⟨hr.next, hr.ro, hr.dom, fun b o hb => by obtain ⟨pl, hp, hc⟩ := hr.ok b o hb; exact ⟨pl, hp, hc.other (hold _ hc.lt)⟩, hr.inj, hr.gro, hr.glob⟩

/-- A new block, whatever it holds. -/
theorem Step.pushObj {ρ : Ren} {h : AHeap} {w w' : World} (hr : Rel P ρ h w) {ob : AObj} {pl : Place} {wo : Obj} (hpl : pl.c = w.heap.size)
    (hnew : w'.heap = w.heap.push wo) (hok : ObjOk P (ρ.ext pl) true ob pl w')
    (hos : w'.os = w.os) (htape : w'.tape = w.tape) (hout : w'.output = w.output) :
    Step P ρ h w (ρ.ext pl) (h.push ob) w' := by
  have hold : ∀ k, k < w.heap.size → w'.heap[k]? = w.heap[k]? := by
    intro k hk; rw [hnew, Array.getElem?_push, if_neg (by omega)]
  have hle := ρ.le_ext pl
  have hr' := hr.grow hold
  refine ⟨hle, hr'.pushObj hok ?_, rfl, hos, htape, hout, by rw [hnew]; simp, fun k hk _ => hold k hk, ?_⟩
  · intro b o p hg hm e
    obtain ⟨p', hp', hcx⟩ := hr.ok b o hg
    rw [hm] at hp'; cases hp'
    have := hcx.lt
    omega
  · rintro k hk ⟨b, o, p, hg, hro, hm, e⟩
    rw [AHeap.get_push] at hg
    split at hg
    · rename_i eb
      subst eb
      rw [← hr.next, Ren.ext_next] at hm
      cases hm
      omega
    · have hlt := hr.dom b o hg
      refine ⟨b, o, p, hg, hro, ?_, e⟩
      rw [← hm]
      exact (hle.2 b (by rw [hr.next]; exact hlt)).symm
/-- A new block, its cells the first of the world's new block's. -/
theorem Step.push {ρ : Ren} {h : AHeap} {w w' : World} (hr : Rel P ρ h w) {c : List Value} {t : TypeId} {cs : Array Value} {fz : Nat × Nat}
    (hnew : w'.heap = w.heap.push (.cells cs t fz)) (hfz : ∀ i, i < cs.size → ¬(fz.1 ≤ i ∧ i < fz.2)) (hlen : c.length ≤ cs.size) (hv : ∀ (i : Nat) x, c[i]? = some x → ∃ y, cs[i]? = some y ∧ VRel ρ x y)
    (hos : w'.os = w.os) (htape : w'.tape = w.tape) (hout : w'.output = w.output) :
    Step P ρ h w (ρ.ext ⟨w.heap.size, 0, cs.size, P.cellsOf t⟩) (h.push (.cells c t)) w' := by
  refine Step.pushObj hr (ob := .cells c t) rfl hnew ⟨cs, fz, by rw [hnew]; simp, rfl, ⟨rfl, Nat.zero_mod _⟩, by simpa using hlen, fun _ => hfz, ?_⟩ hos htape hout
  intro i x hx
  obtain ⟨y, hy, hxy⟩ := hv i x hx
  exact ⟨y, by simpa using hy, hxy.mono (ρ.le_ext _)⟩

theorem run_newRow {ρ : Ren} {h : AHeap} {w : World} (hr : Rel P ρ h w) {c : List Value} {t : TypeId} {cs : Array Value} (hlen : c.length ≤ cs.size) (hv : ∀ (i : Nat) x, c[i]? = some x → ∃ y, cs[i]? = some y ∧ VRel ρ x y) :
    (newRow t cs).run P w = .ok ⟨w.heap.size, 0, none⟩ { w with heap := w.heap.push (.cells cs t) } ∧
      Step P ρ h w (ρ.ext ⟨w.heap.size, 0, cs.size, P.cellsOf t⟩) (h.push (.cells c t)) { w with heap := w.heap.push (.cells cs t) } :=
  ⟨rfl, Step.push hr rfl (fun i _ hi => by simp at hi) hlen hv rfl rfl rfl⟩
theorem VRel.new {ρ : Ren} {h : AHeap} {w : World} (hr : Rel P ρ h w) (pl : Place) (hb : pl.base = 0) : VRel (ρ.ext pl) (.pointer (some ⟨h.next, 0, none⟩)) (.pointer (some ⟨pl.c, 0, none⟩)) := by
  have := VRel.ptr (ρ := ρ.ext pl) (b := h.next) (off := 0) (pl := pl) (by show h.next < ρ.next + 1; rw [hr.next]; exact Nat.lt_succ_self _) (by rw [← hr.next]; exact ρ.ext_next pl)
  rw [hb] at this
  exact this

/-- Several cells are loaded. -/
theorem run_loadCells_at {ρ : Ren} {wr : Bool} {c : List Value} {t : TypeId} {pl : Place} {w : World} (hc : CellsOk P ρ wr c t pl w) (o n : Nat) (h : o + n ≤ c.length) :
    ∃ ys : List Value, (loadCells ⟨pl.c, pl.base + o, none⟩ n).run P w = .ok ys.toArray w ∧ VList ρ ((c.drop o).take n) ys := by
  obtain ⟨cs, fz, h1, h2, h3, h4, h5, h6⟩ := hc
  refine ⟨((cs.toList.drop (pl.base + o)).take n), ?_, ?_, ?_⟩
  · have hlen : ((cs.toList.drop (pl.base + o)).take n).length = n := by simp; omega
    have := run_loadCells_list (P := P) w ⟨pl.c, pl.base + o, none⟩ ((cs.toList.drop (pl.base + o)).take n) (fun j v hj => by
      have hjn : j < n := by
        rcases Nat.lt_or_ge j n with h | h
        · exact h
        · rw [List.getElem?_eq_none (by omega)] at hj; cases hj
      rw [List.getElem?_take_of_lt hjn, List.getElem?_drop] at hj
      rw [addr_add]
      simp [World.cell?, h1]
      simpa using hj)
    rw [hlen] at this
    exact this
  · simp; omega
  · intro i x y hx hy
    have hi : i < n := by
      rcases Nat.lt_or_ge i n with h | h
      · exact h
      · rw [List.getElem?_eq_none (by simp; omega)] at hx; cases hx
    rw [List.getElem?_take_of_lt hi, List.getElem?_drop] at hx hy
    obtain ⟨y', hy', hxy⟩ := h6 _ _ hx
    have : y = y' := by
      have e : pl.base + (o + i) = pl.base + o + i := by omega
      rw [e] at hy'
      have hy2 : cs[pl.base + o + i]? = some y := by simpa using hy
      rw [hy2] at hy'; cases hy'; rfl
    rw [this]; exact hxy

end
end Go.Ai
namespace Go.Ai
noncomputable section

/-! ### What reads the program alone -/
def srun {α : Type} (P : Program) : Sem α → Option α
  | .pure a => some a
  | .program k => srun P (k P)
  | _ => none
theorem srun_sound {α : Type} {P : Program} {s : Sem α} {a : α} (h : srun P s = some a) (w : World) : s.run P w = .ok a w := by
  induction s with
  | pure b => simp only [srun, Option.some.injEq] at h; subst h; rfl
  | program k ih => simp only [srun] at h; exact ih P h
  | _ => cases h

/-! ### Values without addresses -/
def flat : Value → Bool
  | .agg a => a.toList.all plain
  | v => plain v
theorem plain_eq {ρ : Ren} {v v' : Value} (h : VRel ρ v v') (hp : plain v = true) : v' = v := by
  cases h with
  | odd h => cases hp
  | bool | int | float | string | ptrNil | nilFunc | nilIface | mapNil => rfl
  | ptr | glob | slice | sliceOut | iface | agg | map | yield => simp [plain] at hp
  | sliceNil c => simp only [plain, Bool.and_eq_true] at hp; obtain rfl := Nat.eq_of_beq_eq_true hp.2; rfl
  | func ha hc _ _ =>
    simp only [plain, Bool.and_eq_true] at hp
    obtain rfl := arr_nil hp.1
    obtain rfl := arr_nil hp.2
    rw [Array.eq_empty_of_size_eq_zero ha.symm, Array.eq_empty_of_size_eq_zero hc.symm]
  | tuple ha _ =>
    obtain rfl := arr_nil hp
    rw [Array.eq_empty_of_size_eq_zero ha.symm]
theorem list_eq_of {xs ys : List Value} (hl : xs.length = ys.length) (h : ∀ (i : Nat) x y, xs[i]? = some x → ys[i]? = some y → y = x) : ys = xs := by
  apply List.ext_getElem? 
  intro i
  rcases Nat.lt_or_ge i xs.length with hi | hi
  · rw [List.getElem?_eq_getElem hi, List.getElem?_eq_getElem (hl ▸ hi)]
    congr 1
    exact h i _ _ (List.getElem?_eq_getElem hi) (List.getElem?_eq_getElem (hl ▸ hi))
  · rw [List.getElem?_eq_none hi, List.getElem?_eq_none (by omega)]
theorem flat_eq {ρ : Ren} {v v' : Value} (h : VRel ρ v v') (hp : flat v = true) : v' = v := by
  cases h with
  | agg ha hv =>
    rename_i a a'
    simp only [flat, List.all_eq_true] at hp
    congr 1
    apply Array.ext'
    refine list_eq_of (by simpa using ha) (fun i x y hx hy => ?_)
    exact plain_eq (hv i x y (by simpa using hx) (by simpa using hy)) (hp x (List.mem_of_getElem? hx))
  | _ => first | rfl | exact plain_eq (ρ := ρ) (by constructor <;> assumption) hp
theorem VRel.of_flat (ρ : Ren) {v : Value} (h : flat v = true) : VRel ρ v v := by
  cases v with
  | agg a =>
    simp only [flat, List.all_eq_true] at h
    exact .agg rfl (fun i x y hx hy => by
      rw [hx] at hy; cases hy
      exact .of_plain ρ (h x (List.mem_of_getElem? (by simpa using hx))))
  | _ => exact .of_plain ρ h

/-! ### Operands -/
def aev (s : Env) : Operand → Option Value
  | .tmp t => some (s.get t)
  | .const v => cond (flat v) (some v) none
  | .global g => some (.pointer (some ⟨g, 0, some 0⟩))
  | .func f => some (.func (.func f) #[] #[])
theorem aev_sound {ρ : Ren} {s : Env} {a : Act} (hs : EnvRel ρ s a.tmps) {x : Operand} {v : Value} (h : aev s x = some v) : VRel ρ v (a.eval x) := by
  cases x with
  | tmp t => simp only [aev, Option.some.injEq] at h; subst h; exact hs.get t
  | const c =>
    simp only [aev] at h
    cases hf : flat c with
    | false => rw [hf] at h; cases h
    | true => rw [hf] at h; simp only [cond_true, Option.some.injEq] at h; subst h; exact .of_flat ρ hf
  | global g => simp only [aev, Option.some.injEq] at h; subst h; exact .glob
  | func f => simp only [aev, Option.some.injEq] at h; subst h; exact .of_plain ρ rfl
def aevs (s : Env) : List Operand → Option (List Value)
  | [] => some []
  | x :: xs => match aev s x with
    | none => none
    | some v => match aevs s xs with
      | none => none
      | some vs => some (v :: vs)
theorem aevs_sound {ρ : Ren} {s : Env} {a : Act} (hs : EnvRel ρ s a.tmps) : ∀ {xs : List Operand} {vs : List Value}, aevs s xs = some vs → VList ρ vs (xs.map a.eval)
  | [], vs, h => by simp only [aevs, Option.some.injEq] at h; subst h; exact .nil ρ
  | x :: xs, vs, h => by
    simp only [aevs] at h
    split at h
    · cases h
    · rename_i v hv
      split at h
      · cases h
      · rename_i vs' hvs
        simp only [Option.some.injEq] at h
        subst h
        exact .cons (aev_sound hs hv) (aevs_sound hs hvs)

/-! ### The parts of a value -/
theorem VRel.cells {ρ : Ren} {v v' : Value} (h : VRel ρ v v') : VList ρ v.cells.toList v'.cells.toList := by
  cases h with
  | agg ha hv => exact ⟨by simpa [Value.cells] using ha, fun i x y hx hy => hv i x y (by simpa [Value.cells] using hx) (by simpa [Value.cells] using hy)⟩
  | odd h => cases v' <;> first | exact .cons (.odd h) (.nil ρ) | cases h
  | _ => exact .cons (by constructor <;> assumption) (.nil ρ)

def apart (P : Program) (t : TypeId) (cs : List Value) (off : Nat) : Option Value :=
  match srun P (isAgg t) with
  | none => none
  | some true => (match srun P (sizeOf t) with
    | none => none
    | some n => some (.agg ((cs.drop off).take n).toArray))
  | some false => cs[off]?
theorem apart_sound {P : Program} {ρ : Ren} {t : TypeId} {cs : List Value} {cs' : Array Value} {off : Nat} {v : Value} (h : apart P t cs off = some v) (hc : VList ρ cs cs'.toList) (w : World) :
    ∃ v', (part t cs' off).run P w = .ok v' w ∧ VRel ρ v v' := by
  simp only [apart] at h
  split at h
  · cases h
  · rename_i hagg
    split at h
    · cases h
    · rename_i n hn
      simp only [Option.some.injEq] at h
      subst h
      refine ⟨_, by simp only [part, Sem.run_bind, srun_sound hagg, Result.andThen_ok, if_true, srun_sound hn, Sem.run_pure]; rfl, ?_⟩
      refine .agg ?_ ?_
      · simp only [List.size_toArray, List.length_take, List.length_drop, Array.size_extract, hc.1, Array.length_toList]; omega
      · intro i x y hx hy
        rw [List.getElem?_toArray] at hx
        rw [Array.getElem?_extract] at hy
        split at hy
        · rename_i hi
          rw [List.getElem?_take_of_lt (by omega), List.getElem?_drop] at hx
          exact hc.2 _ _ _ hx (by simpa using hy)
        · cases hy
  · rename_i hagg
    obtain ⟨y, hy, hxy⟩ := hc.get h
    refine ⟨y, ?_, hxy⟩
    have hy' : cs'[off]? = some y := by simpa using hy
    simp only [part, Sem.run_bind, srun_sound hagg, Result.andThen_ok, Bool.false_eq_true, if_false, hy', Sem.run_pure]

/-! ### Loads and stores -/
def aload (P : Program) (t : TypeId) (a : Value) (h : AHeap) : Option Value :=
  match a with
  | .pointer (some ⟨b, off, none⟩) => (match h.get b with
    | none => none
    | some (.cells c _) => (match srun P (isAgg t) with
      | none => none
      | some true => (match srun P (sizeOf t) with
        | none => none
        | some n => cond (Nat.ble (off + n) c.length) (some (.agg ((c.drop off).take n).toArray)) none)
      | some false => c[off]?)
    | some _ => none)
  | .pointer (some ⟨b, off, some 0⟩) => cond (Nat.blt b P.globals.size) (match h.get b with
    | none => none
    | some (.tab c) => (match srun P (isAgg t) with
      | none => none
      | some true => (match srun P (sizeOf t) with
        | none => none
        | some n => cond (Nat.ble (off + n) c.length) (some (.agg ((c.drop off).take n).toArray)) none)
      | some false => c[off]?)
    | some _ => none) none
  | _ => none
theorem aload_sound {P : Program} {ρ : Ren} {t : TypeId} {a a' : Value} {h : AHeap} {v : Value} {w : World} (he : aload P t a h = some v) (hr : Rel P ρ h w) (ha : VRel ρ a a') :
    ∃ v', (Instr.loadAt t a').run P w = .ok v' w ∧ VRel ρ v v' := by
  unfold aload at he
  split at he
  · rename_i b off
    cases ha with
    | ptr hb hm =>
      rename_i pl
      split at he
      · cases he
      · rename_i c t' hg
        have hc := hr.place hg hm
        split at he
        · cases he
        · rename_i hagg
          split at he
          · cases he
          · rename_i n hn
            cases hle : Nat.ble (off + n) c.length with
            | false => rw [hle] at he; cases he
            | true =>
              rw [hle] at he
              simp only [cond_true, Option.some.injEq] at he
              subst he
              obtain ⟨ys, hys, hv⟩ := run_loadCells_at hc off n (Nat.le_of_ble_eq_true hle)
              refine ⟨.agg ys.toArray, ?_, .agg (by simpa using hv.1) (fun i x y hx hy => hv.2 i x y (by simpa using hx) (by simpa using hy))⟩
              simp only [Instr.loadAt, Instr.sureAddr, loadVar, Sem.run_bind, Sem.run_pure, Result.andThen_ok, srun_sound hagg, if_true, srun_sound hn, hys]
        · rename_i hagg
          obtain ⟨y, hy, hxy⟩ := hc.cell he
          refine ⟨y, ?_, hxy⟩
          simp only [Instr.loadAt, Instr.sureAddr, loadVar, Sem.run_bind, Sem.run_pure, Result.andThen_ok, srun_sound hagg, Bool.false_eq_true, if_false, run_load, hy]
      · cases he
  · rename_i b off
    cases ha with
    | glob =>
      cases hbl : Nat.blt b P.globals.size with
      | false => rw [hbl] at he; cases he
      | true =>
        rw [hbl] at he
        simp only [cond_true] at he
        have hbl : b < P.globals.size := by simpa [Nat.blt_eq] using hbl
        split at he
        · cases he
        · rename_i c hg
          obtain ⟨pl, hm, t', hc⟩ := hr.ok b _ hg
          obtain ⟨q1, q2⟩ := hr.glob b pl hbl hm
          split at he
          · cases he
          · rename_i hagg
            split at he
            · cases he
            · rename_i n hn
              cases hle : Nat.ble (off + n) c.length with
              | false => rw [hle] at he; cases he
              | true =>
                rw [hle] at he
                simp only [cond_true, Option.some.injEq] at he
                subst he
                obtain ⟨ys, hys, hv⟩ := run_loadCells_at hc off n (Nat.le_of_ble_eq_true hle)
                simp only [q1, q2, Nat.zero_add] at hys
                refine ⟨.agg ys.toArray, ?_, .agg (by simpa using hv.1) (fun i x y hx hy => hv.2 i x y (by simpa using hx) (by simpa using hy))⟩
                simp only [Instr.loadAt, Instr.sureAddr, loadVar, Sem.run_bind, Sem.run_pure, Result.andThen_ok, srun_sound hagg, if_true, srun_sound hn, hys]
          · rename_i hagg
            obtain ⟨y, hy, hxy⟩ := hc.cell he
            simp only [q1, q2, Nat.zero_add] at hy
            refine ⟨y, ?_, hxy⟩
            simp only [Instr.loadAt, Instr.sureAddr, loadVar, Sem.run_bind, Sem.run_pure, Result.andThen_ok, srun_sound hagg, Bool.false_eq_true, if_false, run_load, hy]
        · cases he
  · cases he

def astore (P : Program) (t : TypeId) (a v : Value) (h : AHeap) : Option AHeap :=
  match a with
  | .pointer (some ⟨b, off, none⟩) => (match h.get b with
    | none => none
    | some (.cells c t') => (match srun P (sizeOf t) with
      | none => none
      | some n => cond (Nat.beq v.cells.size n && Nat.ble (off + n) c.length && Nat.ble h.ro b && v.cells.toList.all cellOk) (some (h.set b (some (.cells (setMany c off v.cells.toList) t')))) none)
    | some _ => none)
  | _ => none
theorem astore_sound {P : Program} {ρ : Ren} {t : TypeId} {a a' v v' : Value} {h h' : AHeap} {w : World} (he : astore P t a v h = some h') (hr : Rel P ρ h w) (ha : VRel ρ a a') (hv : VRel ρ v v') :
    ∃ w', (Instr.storeAt t a' v').run P w = .ok () w' ∧ Step P ρ h w ρ h' w' := by
  unfold astore at he
  split at he
  · rename_i b off
    cases ha with
    | ptr hb hm =>
      rename_i pl
      split at he
      · cases he
      · rename_i c t' hg
        split at he
        · cases he
        · rename_i n hn
          cases hc : (Nat.beq v.cells.size n && Nat.ble (off + n) c.length && Nat.ble h.ro b && v.cells.toList.all cellOk) with
          | false => rw [hc] at he; cases he
          | true =>
            rw [hc] at he
            simp only [cond_true, Option.some.injEq] at he
            subst he
            simp only [Bool.and_eq_true, List.all_eq_true] at hc
            obtain ⟨⟨⟨h1, h2⟩, h3⟩, h4⟩ := hc
            have h1 := Nat.eq_of_beq_eq_true h1
            have h2 := Nat.le_of_ble_eq_true h2
            have h3 := Nat.le_of_ble_eq_true h3
            have hcells := hv.cells
            have hsz : v'.cells.size = n := by have := hcells.1; simp only [Array.length_toList] at this; omega
            obtain ⟨w', e, st⟩ := run_storeCells (o := off) hm v.cells.toList v'.cells.toList h w c 0 hr hg h3 (by simp only [Array.length_toList]; omega) hcells h4
            refine ⟨w', ?_, st⟩
            simp only [Instr.storeAt, Instr.sureAddr, storeVar, Sem.run_bind, Sem.run_pure, Result.andThen_ok, srun_sound hn, Sem.run_ite, hsz]
            simp only [ne_eq, not_true, if_false]
            exact e
      · cases he
  · cases he

/-! ### Places -/
def afield (P : Program) (s : TypeId) (a : Value) (i : Nat) : Option Value :=
  match a with
  | .pointer (some ⟨b, off, none⟩) => (match srun P (underlying s) with
    | some (.struct fields) => (match fields[i]? with
      | none => none
      | some f => (match srun P (sizeOf f.type) with
        | none => none
        | some n => cond (Nat.beq n 0) none (some (.pointer (some ⟨b, off + f.offset, none⟩)))))
    | _ => none)
  | .pointer (some ⟨b, off, some 0⟩) => (match srun P (underlying s) with
    | some (.struct fields) => (match fields[i]? with
      | none => none
      | some f => (match srun P (sizeOf f.type) with
        | none => none
        | some n => cond (Nat.beq n 0) none (some (.pointer (some ⟨b, off + f.offset, some 0⟩)))))
    | _ => none)
  | _ => none
theorem afield_sound {P : Program} {ρ : Ren} {s : TypeId} {a a' v : Value} {i : Nat} (he : afield P s a i = some v) (ha : VRel ρ a a') (w : World) :
    ∃ v', (Instr.fieldAt s a' i).run P w = .ok v' w ∧ VRel ρ v v' := by
  unfold afield at he
  split at he
  · rename_i b off
    cases ha with
    | ptr hb hm =>
      rename_i pl
      split at he
      · rename_i fields hu
        split at he
        · cases he
        · rename_i f hf
          split at he
          · cases he
          · rename_i n hn
            cases hz : Nat.beq n 0 with
            | true => rw [hz] at he; cases he
            | false =>
              rw [hz] at he
              simp only [cond_false, Option.some.injEq] at he
              subst he
              have hne : n ≠ 0 := by intro e; subst e; simp at hz
              refine ⟨.pointer (some ⟨pl.c, pl.base + (off + f.offset), none⟩), ?_, .ptr hb hm⟩
              simp only [Instr.fieldAt, Instr.sureAddr, fieldPlace, Sem.run_bind, Sem.run_pure, Result.andThen_ok, srun_sound hu, hf, srun_sound hn, Sem.run_ite, if_neg hne, addr_add, Nat.add_assoc]
      · cases he
  · rename_i b off
    cases ha with
    | glob =>
      split at he
      · rename_i fields hu
        split at he
        · cases he
        · rename_i f hf
          split at he
          · cases he
          · rename_i n hn
            cases hz : Nat.beq n 0 with
            | true => rw [hz] at he; cases he
            | false =>
              rw [hz] at he
              simp only [cond_false, Option.some.injEq] at he
              subst he
              have hne : n ≠ 0 := by intro e; subst e; simp at hz
              refine ⟨.pointer (some ⟨b, off + f.offset, none⟩), ?_, .glob⟩
              simp only [Instr.fieldAt, Instr.sureAddr, fieldPlace, Sem.run_bind, Sem.run_pure, Result.andThen_ok, srun_sound hu, hf, srun_sound hn, Sem.run_ite, if_neg hne, addr_add]
      · cases he
  · cases he

/-- An index: of an array in memory, or of a slice. -/
def aindex (P : Program) (t : TypeId) (x ix : Value) : Option Value :=
  match ix with
  | .int _ i => (match srun P (underlying t), x with
    | some (.array len elem), .pointer (some ⟨b, off, none⟩) => (match srun P (sizeOf elem) with
      | none => none
      | some n => cond (decide (0 ≤ i) && decide (i < len)) (some (.pointer (some ⟨b, off + i.toNat * n, none⟩))) none)
    | some (.array len elem), .pointer (some ⟨b, off, some 0⟩) => (match srun P (sizeOf elem) with
      | none => none
      | some n => cond (decide (0 ≤ i) && decide (i < len)) (some (.pointer (some ⟨b, off + i.toNat * n, some 0⟩))) none)
    | some (.slice elem), .slice (some ⟨b, off, none⟩) len _ => (match srun P (sizeOf elem) with
      | none => none
      | some n => cond (decide (0 ≤ i) && decide (i < len)) (some (.pointer (some ⟨b, off + i.toNat * n, none⟩))) none)
    | _, _ => none)
  | _ => none
theorem aindex_sound {P : Program} {ρ : Ren} {t : TypeId} {x x' ix ix' v : Value} (he : aindex P t x ix = some v) (hx : VRel ρ x x') (hi : VRel ρ ix ix') (w : World) :
    ∃ v', (Instr.indexAt t x' ix').run P w = .ok v' w ∧ VRel ρ v v' := by
  unfold aindex at he
  split at he
  · rename_i k i
    cases hi
    split at he
    · rename_i hu
      cases hx with
      | ptr hb hm =>
        split at he
        · cases he
        · rename_i n hn
          cases hc : (decide (0 ≤ i) && decide (i < _)) with
          | false => rw [hc] at he; cases he
          | true =>
            rw [hc] at he
            simp only [cond_true, Option.some.injEq] at he
            subst he
            simp only [Bool.and_eq_true, decide_eq_true_eq] at hc
            refine ⟨_, ?_, .ptr hb hm⟩
            simp only [Instr.indexAt, Instr.sureAddr, asIntOf, Sem.run_bind, Sem.run_pure, Result.andThen_ok, srun_sound hu, srun_sound hn, Sem.run_ite, if_pos hc, addr_add, Nat.add_assoc]
    · rename_i hu
      cases hx with
      | glob =>
        split at he
        · cases he
        · rename_i n hn
          cases hc : (decide (0 ≤ i) && decide (i < _)) with
          | false => rw [hc] at he; cases he
          | true =>
            rw [hc] at he
            simp only [cond_true, Option.some.injEq] at he
            subst he
            simp only [Bool.and_eq_true, decide_eq_true_eq] at hc
            refine ⟨_, ?_, .glob⟩
            simp only [Instr.indexAt, Instr.sureAddr, asIntOf, Sem.run_bind, Sem.run_pure, Result.andThen_ok, srun_sound hu, srun_sound hn, Sem.run_ite, if_pos hc, addr_add]
    · rename_i hu
      cases hx with
      | slice hb hm hl hcap =>
        split at he
        · cases he
        · rename_i n hn
          cases hc : (decide (0 ≤ i) && decide (i < _)) with
          | false => rw [hc] at he; cases he
          | true =>
            rw [hc] at he
            simp only [cond_true, Option.some.injEq] at he
            subst he
            simp only [Bool.and_eq_true, decide_eq_true_eq] at hc
            refine ⟨_, ?_, .ptr hb hm⟩
            simp only [Instr.indexAt, asIntOf, Sem.run_bind, Sem.run_pure, Result.andThen_ok, srun_sound hu, srun_sound hn, Sem.run_ite, if_pos hc, addr_add, Nat.add_assoc]
      | sliceOut hb hc =>
        split at he
        · cases he
        · rename_i n hn
          rw [show (decide (0 ≤ i) && decide (i < ((0 : Nat) : Int))) = false by simp] at he
          cases he
    · cases he
  · cases he

end
end Go.Ai
namespace Go.Ai
noncomputable section
variable {P : Program}

/-! ### What is reckoned out of values without addresses -/
def fl (x : Option Value) : Option Value :=
  match x with
  | none => none
  | some v => cond (flat v) (some v) none
theorem fl_some {x : Option Value} {v : Value} (h : fl x = some v) : x = some v ∧ flat v = true := by
  unfold fl at h
  split at h
  · cases h
  · rename_i u
    cases hf : flat u with
    | false => rw [hf] at h; cases h
    | true => rw [hf] at h; simp only [cond_true, Option.some.injEq] at h; subst h; exact ⟨rfl, hf⟩

/-- Comparing with nil. -/
def isNil (P : Program) (t : TypeId) (a b : Value) : Option Bool :=
  match srun P (underlying t), a, b with
  | some (.pointer _), .pointer (some _), .pointer none | some (.pointer _), .pointer none, .pointer (some _) => some false
  | some (.slice _), .slice (some _) _ _, .slice none _ _ | some (.slice _), .slice none _ _, .slice (some _) _ _ => some false
  | some (.func _ _ _), .func _ _ _, .nilFunc | some (.func _ _ _), .nilFunc, .func _ _ _ => some false
  | some (.interface _), .iface _ _, .nilIface | some (.interface _), .nilIface, .iface _ _ => some false
  | _, _, _ => none
def anil (P : Program) (op : BinOp) (t : TypeId) (a b : Value) : Option Value :=
  match op with
  | .eql => (isNil P t a b).map .bool
  | .neq => (isNil P t a b).map fun x => .bool (!x)
  | _ => none
theorem isNil_sound {ρ : Ren} {t : TypeId} {a b a' b' : Value} {r : Bool} (h : isNil P t a b = some r) (ha : VRel ρ a a') (hb : VRel ρ b b') (w : World) :
    (∀ d, (Op.equalIn (d + 1) t a' b').run P w = .ok r w) ∧ (∀ op x y, (eqGuard op t x y a' b').run P w = .ok () w) ∧ (∀ op, op = .eql ∨ op = .neq → binOp op t a' b' = if op = .eql then (do pure (.bool (← Op.equal t a' b'))) else (do pure (.bool (!(← Op.equal t a' b'))))) := by
  unfold isNil at h
  split at h <;> first
    | cases h; done
    | (simp only [Option.some.injEq] at h
       subst h
       rename_i hu
       cases ha <;> cases hb <;>
       (refine ⟨fun d => ?_, fun op x y => ?_, fun op hop => ?_⟩
        · simp [Op.equalIn, srun_sound hu]
        · cases op <;> simp [eqGuard]
        · rcases hop with rfl | rfl <;> rfl))
theorem isNil_eql {ρ : Ren} {t : TypeId} {a b a' b' : Value} {r : Bool} (h : isNil P t a b = some r) (ha : VRel ρ a a') (hb : VRel ρ b b') (w : World) :
    (binOp .eql t a' b').run P w = .ok (.bool r) w := by
  obtain ⟨h1, _, h3⟩ := isNil_sound h ha hb w
  rw [h3 .eql (.inl rfl), if_pos rfl]
  have h1 : (Op.equal t a' b').run P w = .ok r w := h1 9999
  simp only [Sem.run_bind, h1, Result.andThen_ok, Sem.run_pure]
theorem isNil_neq {ρ : Ren} {t : TypeId} {a b a' b' : Value} {r : Bool} (h : isNil P t a b = some r) (ha : VRel ρ a a') (hb : VRel ρ b b') (w : World) :
    (binOp .neq t a' b').run P w = .ok (.bool (!r)) w := by
  obtain ⟨h1, _, h3⟩ := isNil_sound h ha hb w
  rw [h3 .neq (.inr rfl), if_neg (by simp)]
  have h1 : (Op.equal t a' b').run P w = .ok r w := h1 9999
  simp only [Sem.run_bind, h1, Result.andThen_ok, Sem.run_pure]

def abin (P : Program) (op : BinOp) (t : TypeId) (x y : Operand) (a b : Value) : Option Value :=
  cond (flat a && flat b) (fl (srun P (do eqGuard op t x y a b; binOp op t a b))) (anil P op t a b)
theorem abin_sound {ρ : Ren} {op : BinOp} {t : TypeId} {x y : Operand} {a b a' b' v : Value} (h : abin P op t x y a b = some v) (ha : VRel ρ a a') (hb : VRel ρ b b') (w : World) :
    ∃ v', (do eqGuard op t x y a' b'; binOp op t a' b' : Sem Value).run P w = .ok v' w ∧ VRel ρ v v' := by
  unfold abin at h
  cases hf : (flat a && flat b) with
  | true =>
    rw [hf] at h
    simp only [Bool.and_eq_true] at hf
    obtain rfl := flat_eq ha hf.1
    obtain rfl := flat_eq hb hf.2
    obtain ⟨h1, h2⟩ := fl_some h
    exact ⟨v, srun_sound h1 w, .of_flat ρ h2⟩
  | false =>
    rw [hf] at h
    simp only [cond_false] at h
    unfold anil at h
    split at h
    · simp only [Option.map_eq_some_iff] at h
      obtain ⟨r, hr, rfl⟩ := h
      obtain ⟨_, h2, _⟩ := isNil_sound hr ha hb w
      have h3 := isNil_eql hr ha hb w
      exact ⟨.bool r, by simp only [Sem.run_bind, h2, Result.andThen_ok, h3], .bool r⟩
    · simp only [Option.map_eq_some_iff] at h
      obtain ⟨r, hr, rfl⟩ := h
      obtain ⟨_, h2, _⟩ := isNil_sound hr ha hb w
      have h4 := isNil_neq hr ha hb w
      exact ⟨.bool (!r), by simp only [Sem.run_bind, h2, Result.andThen_ok, h4], .bool (!r)⟩
    · cases h

/-! ### Parts put together -/
def fillRel (ρ : Ren) (ps ps' : List (Nat × Value)) : Prop := VList ρ (ps.map (·.2)) (ps'.map (·.2)) ∧ ps.map (·.1) = ps'.map (·.1)
theorem vlist_set {ρ : Ren} {xs ys : List Value} (h : VList ρ xs ys) (i : Nat) {x y : Value} (hv : VRel ρ x y) : VList ρ (xs.set i x) (ys.set i y) := by
  refine ⟨by simp [h.1], fun j a b ha hb => ?_⟩
  by_cases e : i = j
  · subst e
    rcases Nat.lt_or_ge i xs.length with hi | hi
    · rw [List.getElem?_set_self hi] at ha
      rw [List.getElem?_set_self (h.1 ▸ hi)] at hb
      cases ha; cases hb; exact hv
    · rw [List.getElem?_eq_none (by simpa using hi)] at ha; cases ha
  · rw [List.getElem?_set_ne e] at ha hb
    exact h.2 j a b ha hb
theorem foldl_fill {ρ : Ren} (off : Nat) : ∀ (l l' : List (Value × Nat)) (c c' : Array Value), VList ρ (l.map (·.1)) (l'.map (·.1)) → l.map (·.2) = l'.map (·.2) → VList ρ c.toList c'.toList →
    VList ρ (l.foldl (fun cs x => cs.setIfInBounds (off + x.2) x.1) c).toList (l'.foldl (fun cs x => cs.setIfInBounds (off + x.2) x.1) c').toList
  | [], l', c, c', hl, hn, hc => by
    cases l' with
    | nil => exact hc
    | cons x l' => simp at hn
  | x :: l, l', c, c', hl, hn, hc => by
    cases l' with
    | nil => simp at hn
    | cons y l' =>
      simp only [List.map_cons, List.cons.injEq] at hl hn
      obtain ⟨y', ys', e, hv, hr⟩ := hl.cons_inv
      simp only [List.cons.injEq] at e
      obtain ⟨e1, e2⟩ := e
      subst e1 e2
      simp only [List.foldl_cons]
      refine foldl_fill off l l' _ _ hr hn.2 ?_
      rw [Array.toList_setIfInBounds, Array.toList_setIfInBounds, hn.1]
      exact vlist_set hc _ hv
theorem fill_rel {ρ : Ren} {place : Nat → Option (Nat × Nat)} : ∀ (ps ps' : List (Nat × Value)) (c c' : Array Value) (r : Array Value), fillRel ρ ps ps' → VList ρ c.toList c'.toList → Instr.fill place c ps = some r →
    ∃ r', Instr.fill place c' ps' = some r' ∧ VList ρ r.toList r'.toList
  | [], ps', c, c', r, hp, hc, he => by
    have : ps' = [] := by have := hp.2; simp at this; cases ps' <;> simp_all
    subst this
    simp only [Instr.fill, Option.some.injEq] at he
    subst he
    exact ⟨c', rfl, hc⟩
  | (i, v) :: ps, ps', c, c', r, hp, hc, he => by
    cases ps' with
    | nil => have := hp.2; simp at this
    | cons p ps' =>
      obtain ⟨i', v'⟩ := p
      obtain ⟨h1, h2⟩ := hp
      simp only [List.map_cons, List.cons.injEq] at h1 h2
      obtain ⟨rfl, h2⟩ := h2
      obtain ⟨y, ys, e, hv, hr⟩ := h1.cons_inv
      simp only [List.cons.injEq] at e
      obtain ⟨e1, e2⟩ := e
      subst e1 e2
      simp only [Instr.fill] at he ⊢
      cases hpl : place i with
      | none => rw [hpl] at he; cases he
      | some x =>
        obtain ⟨off, size⟩ := x
        rw [hpl] at he
        simp only at he ⊢
        have hcells := hv.cells
        have e1 : v'.cells.size = v.cells.size := by simpa using hcells.1.symm
        have e2 : c'.size = c.size := by simpa using hc.1.symm
        split at he
        · cases he
        · rename_i hcond
          rw [if_neg (by rw [e1, e2]; exact hcond)]
          refine fill_rel ps ps' _ _ r ⟨hr, h2⟩ ?_ he
          rw [← Array.foldl_toList, ← Array.foldl_toList]
          refine foldl_fill off _ _ c c' ?_ ?_ hc
          · simp only [Array.toList_zipIdx]
            have q : ∀ (l : List Value) k, (l.zipIdx k).map (·.1) = l := fun l k => by simp
            rw [q, q]; exact hcells
          · simp only [Array.toList_zipIdx]
            have q : ∀ (l : List Value) k, (l.zipIdx k).map (·.2) = List.range' k l.length := fun l k => by simp
            rw [q, q, hcells.1]

def aparts (s : Env) : List (Nat × Operand) → Option (List (Nat × Value))
  | [] => some []
  | (i, x) :: ps => match aev s x with
    | none => none
    | some v => match aparts s ps with
      | none => none
      | some vs => some ((i, v) :: vs)
theorem aparts_sound {ρ : Ren} {s : Env} {a : Act} (hs : EnvRel ρ s a.tmps) : ∀ {ps : List (Nat × Operand)} {vs : List (Nat × Value)}, aparts s ps = some vs → fillRel ρ vs (ps.map fun x => (x.1, a.eval x.2))
  | [], vs, h => by simp only [aparts, Option.some.injEq] at h; subst h; exact ⟨.nil ρ, rfl⟩
  | (i, x) :: ps, vs, h => by
    simp only [aparts] at h
    split at h
    · cases h
    · rename_i v hv
      split at h
      · cases h
      · rename_i vs' hvs
        simp only [Option.some.injEq] at h
        subst h
        have := aparts_sound hs hvs
        exact ⟨.cons (aev_sound hs hv) this.1, by simp [this.2]⟩

/-- The zero value of a type, as cells. -/
def azero (P : Program) (t : TypeId) : Option Value := fl (srun P (zeroValue t))
theorem azero_sound {ρ : Ren} {t : TypeId} {z : Value} (h : azero P t = some z) (w : World) : (zeroValue t).run P w = .ok z w ∧ VRel ρ z z := by
  obtain ⟨h1, h2⟩ := fl_some h
  exact ⟨srun_sound h1 w, .of_flat ρ h2⟩
def fplaces (P : Program) (fields : Array Field) : Option (Array (Nat × Nat)) := srun P (fields.mapM fun f => do pure (f.offset, ← sizeOf f.type))
def abuild (P : Program) (t : TypeId) (parts : List (Nat × Value)) : Option Value :=
  match azero P t with
  | none => none
  | some z => match srun P (underlying t) with
    | some (.struct fields) => (match fplaces P fields with
      | none => none
      | some places => (Instr.fill (places[·]?) z.cells parts).map .agg)
    | some (.array _ elem) => (match srun P (sizeOf elem) with
      | none => none
      | some n => (Instr.fill (fun i => some (i * n, n)) z.cells parts).map .agg)
    | _ => none
theorem abuild_sound {ρ : Ren} {t : TypeId} {parts parts' : List (Nat × Value)} {v : Value} (h : abuild P t parts = some v) (hp : fillRel ρ parts parts') (w : World) :
    ∃ v', (Instr.build t parts'.toArray).run P w = .ok v' w ∧ VRel ρ v v' := by
  unfold abuild at h
  split at h
  · cases h
  · rename_i z hz
    obtain ⟨e0, hz⟩ := azero_sound (ρ := ρ) hz w
    split at h
    · rename_i fields hu
      split at h
      · cases h
      · rename_i places hpl
        simp only [Option.map_eq_some_iff] at h
        obtain ⟨r, hr, rfl⟩ := h
        obtain ⟨r', hr', hv⟩ := fill_rel _ _ _ _ _ hp hz.cells hr
        refine ⟨.agg r', ?_, .agg (by simpa using hv.1) (fun i x y hx hy => hv.2 i x y (by simpa using hx) (by simpa using hy))⟩
        simp only [Instr.build, Sem.run_bind, e0, Result.andThen_ok, srun_sound hu, srun_sound hpl, hr', Sem.run_pure]
    · rename_i n elem hu
      split at h
      · cases h
      · rename_i n hn
        simp only [Option.map_eq_some_iff] at h
        obtain ⟨r, hr, rfl⟩ := h
        obtain ⟨r', hr', hv⟩ := fill_rel _ _ _ _ _ hp hz.cells hr
        refine ⟨.agg r', ?_, .agg (by simpa using hv.1) (fun i x y hx hy => hv.2 i x y (by simpa using hx) (by simpa using hy))⟩
        simp only [Instr.build, Sem.run_bind, e0, Result.andThen_ok, srun_sound hu, srun_sound hn, hr', Sem.run_pure]
    · cases h

/-! ### New blocks -/
def newb (h : AHeap) (c : List Value) (t : TypeId) : Value × AHeap := (.pointer (some ⟨h.next, 0, none⟩), h.push (.cells c t))
theorem newVar_sound {ρ : Ren} {h : AHeap} {w : World} (hr : Rel P ρ h w) {v v' : Value} (hv : VRel ρ v v') (t : TypeId) :
    ∃ a' w' ρ', (newVar t v').run P w = .ok a' w' ∧ Step P ρ h w ρ' (newb h v.cells.toList t).2 w' ∧ VRel ρ' (newb h v.cells.toList t).1 (.pointer (some a')) := by
  have hc := hv.cells
  obtain ⟨e, st⟩ := run_newRow (t := t) hr (c := v.cells.toList) (cs := v'.cells) (by rw [hc.1, Array.length_toList]; exact Nat.le_refl _) (fun i x hx => by
    obtain ⟨y, hy, hxy⟩ := hc.get hx
    exact ⟨y, by simpa using hy, hxy⟩)
  exact ⟨_, _, _, e, st, .new hr _ rfl⟩
/-- n cells of zeros. -/
def zcells (z : List Value) (n : Nat) : List Value := (List.range n).map fun i => (z[i % z.length]?).getD default
theorem zcells_eq (z : Array Value) (n : Nat) : ((Array.range n).map fun i => z[i % z.size]!) = (zcells z.toList n).toArray := by
  apply Array.ext'
  simp only [Array.toList_map, Array.toList_range, zcells]
  apply List.map_congr_left
  intro i _
  simp [getElem!_def]
  cases z[i % z.size]? <;> rfl
theorem zcells_rel {ρ : Ren} {z : Value} (h : VRel ρ z z) (hd : z.cells.size ≠ 0) (n : Nat) : VList ρ (zcells z.cells.toList n) (zcells z.cells.toList n) := by
  refine ⟨rfl, fun i x y hx hy => ?_⟩
  rw [hx] at hy
  cases hy
  simp only [zcells, List.getElem?_map, Option.map_eq_some_iff] at hx
  obtain ⟨k, _, hk⟩ := hx
  have hlt : k % z.cells.toList.length < z.cells.toList.length := Nat.mod_lt _ (by simp; omega)
  rw [List.getElem?_eq_getElem hlt] at hk
  simp only [Option.getD_some] at hk
  have := h.cells.2 _ _ _ (List.getElem?_eq_getElem hlt) (List.getElem?_eq_getElem hlt)
  rw [hk] at this
  exact this

def amake (P : Program) (t : TypeId) (len cap : Value) (h : AHeap) : Option (Value × AHeap) :=
  match len, cap, srun P (underlying t) with
  | .int _ l, .int _ c, some (.slice elem) => (match srun P (typeInfo elem) with
    | none => none
    | some i => (match azero P elem with
      | none => none
      | some z => cond (decide (IntKind.i64.wrap l = l) && decide (IntKind.i64.wrap c = c) && decide (0 ≤ l) && decide (l ≤ c) && decide (i.bytes * c ≤ 2 ^ 48) && Nat.beq z.cells.size i.size && Nat.blt 0 i.size)
          (some (.slice (some ⟨h.next, 0, none⟩) l.toNat (c.toNat + 2), h.push (.cells (zcells z.cells.toList (c.toNat * i.size)) elem))) none))
  | _, _, _ => none
theorem sizeOf_of_info {t : TypeId} {i : TypeInfo} (h : srun P (typeInfo t) = some i) : P.cellsOf t = i.size ∧ ∀ w, (sizeOf t).run P w = .ok i.size w := by
  have h0 := h
  constructor
  · simp only [typeInfo, program, Sem.bind, bind, srun] at h
    cases hp : P.info? t with
    | none => rw [hp] at h; cases h
    | some j => rw [hp] at h; simp only [pure, srun, Option.some.injEq] at h; subst h; simp [Program.cellsOf, hp]
  · intro w
    simp only [sizeOf, Sem.run_bind, srun_sound h0, Result.andThen_ok, Sem.run_pure]
theorem amake_sound {ρ : Ren} {t : TypeId} {l l' c c' v : Value} {h h' : AHeap} {w : World} (he : amake P t l c h = some (v, h')) (hr : Rel P ρ h w) (hl : VRel ρ l l') (hc : VRel ρ c c') :
    ∃ v' w' ρ', (Instr.makeSlice t l' c').run P w = .ok v' w' ∧ Step P ρ h w ρ' h' w' ∧ VRel ρ' v v' := by
  unfold amake at he
  split at he
  · rename_i kl l kc c elem hu
    cases hl; cases hc
    split at he
    · cases he
    · rename_i i hi
      split at he
      · cases he
      · rename_i z hz
        cases hcond : (decide (IntKind.i64.wrap l = l) && decide (IntKind.i64.wrap c = c) && decide (0 ≤ l) && decide (l ≤ c) && decide (i.bytes * c ≤ 2 ^ 48) && Nat.beq z.cells.size i.size && Nat.blt 0 i.size) with
        | false => rw [hcond] at he; cases he
        | true =>
          rw [hcond] at he
          simp only [cond_true, Option.some.injEq, Prod.mk.injEq] at he
          obtain ⟨rfl, rfl⟩ := he
          simp only [Bool.and_eq_true, decide_eq_true_eq] at hcond
          obtain ⟨⟨⟨⟨⟨⟨w1, w2⟩, p1⟩, p2⟩, p3⟩, zs⟩, sp⟩ := hcond
          have zs := Nat.eq_of_beq_eq_true zs
          have sp : 0 < i.size := by simpa [Nat.blt_eq] using sp
          obtain ⟨e0, hz'⟩ := azero_sound (ρ := ρ) hz w
          obtain ⟨sz1, sz2⟩ := sizeOf_of_info hi
          obtain ⟨e, st⟩ := run_newRow (t := elem) hr (c := zcells z.cells.toList (c.toNat * i.size)) (cs := (Array.range (c.toNat * i.size)).map fun k => z.cells[k % z.cells.size]!)
            (by simp [zcells]) (fun k x hx => by
              rw [zcells_eq]
              obtain ⟨y, hy, hxy⟩ := (zcells_rel hz' (by omega) (c.toNat * i.size)).get hx
              exact ⟨y, by simpa using hy, hxy⟩)
          refine ⟨.slice (some ⟨w.heap.size, 0, none⟩) l.toNat c.toNat, _, _, ?_, st, ?_⟩
          · have b1 : ¬ ((i.bytes : Int) * c > 2 ^ 48) := by omega
            have b2 : ¬ (c < 0) := by omega
            have b3 : ¬ (l < 0) := by omega
            have b4 : ¬ (l > c) := by omega
            simp only [Instr.makeSlice, asInt, asIntOf, Sem.run_bind, Sem.run_pure, Result.andThen_ok, srun_sound hu, srun_sound hi, w1, w2]
            rw [if_neg (by simp [b2, b3, b4]; omega)]
            simp only [Sem.run_bind, run_askRoom, Result.andThen_ok, sz2]
            by_cases hn : c.toNat * i.size = 0
            · rw [if_pos hn]
              have e1 : ((Array.range (c.toNat * i.size)).map fun k => (#[] : Array Value)[k % (#[] : Array Value).size]!) = ((Array.range (c.toNat * i.size)).map fun k => z.cells[k % z.cells.size]!) := by rw [hn]; simp
              simp only [Sem.run_bind, Sem.run_pure, Result.andThen_ok]
              rw [e1, e]
              simp only [Result.andThen_ok]
            · rw [if_neg hn]
              simp only [Sem.run_bind, e0, Sem.run_pure, Result.andThen_ok, e]
          · refine VRel.slice (ρ := ρ.ext _) (b := h.next) (off := 0) (pl := ⟨w.heap.size, 0, _, _⟩) (by show h.next < ρ.next + 1; rw [hr.next]; exact Nat.lt_succ_self _) (by rw [← hr.next]; exact ρ.ext_next _) (by omega) ?_
            intro _
            refine ⟨by simp [sz1], fun k hk => by omega⟩
  · cases he

end
end Go.Ai
namespace Go.Ai
noncomputable section
variable {P : Program}

/-! ### x[lo:hi] -/
def capsub : Nat → Nat → Nat
  | 0, _ => 0
  | 1, _ => 1
  | k + 2, l => (k - l) + 2
/-- An optional bound: an integer, or what stands for it. -/
def abound (x : Option Value) (d : Nat) (most : Nat) : Option Nat :=
  match x with
  | none => some d
  | some (.int _ i) => cond (decide (0 ≤ i) && decide (i ≤ most)) (some i.toNat) none
  | some _ => none
/-- Is a slice's element as wide as its block's? -/
def wide (P : Program) (h : AHeap) (b n : Nat) : Bool :=
  match h.get b with
  | some (.cells _ t) => Nat.beq (P.cellsOf t) n
  | _ => false
def aslice (P : Program) (t : TypeId) (x : Value) (lo hi : Option Value) (h : AHeap) : Option Value :=
  match srun P (underlying t), x with
  | some (.slice elem), .slice base len c => (match srun P (sizeOf elem) with
    | none => none
    | some n => (match abound hi len len with
      | none => none
      | some hh => (match abound lo 0 hh with
        | none => none
        | some l => (match base with
          | none => cond (Nat.beq len 0) (some (.slice none 0 0)) none
          | some ⟨b, off, none⟩ => some (.slice (some ⟨b, off + l * n, none⟩) (hh - l) (cond (wide P h b n) (capsub c l) 0))
          | some _ => none))))
  | some (.array k elem), .pointer (some ⟨b, off, none⟩) => (match srun P (sizeOf elem) with
    | none => none
    | some n => (match abound hi k k with
      | none => none
      | some hh => (match abound lo 0 hh with
        | none => none
        | some l => some (.slice (some ⟨b, off + (if k = l then 0 else l * n), none⟩) (hh - l) 0))))
  | _, _ => none
theorem abound_le {x : Option Value} {d most r : Nat} (h : abound x d most = some r) (hd : d ≤ most) : r ≤ most := by
  unfold abound at h
  split at h
  · simp only [Option.some.injEq] at h; omega
  · rename_i k i
    cases hc : (decide (0 ≤ i) && decide (i ≤ (most : Int))) with
    | false => rw [hc] at h; cases h
    | true =>
      rw [hc] at h
      simp only [cond_true, Option.some.injEq] at h
      simp only [Bool.and_eq_true, decide_eq_true_eq] at hc
      omega
  · cases h
theorem abound_run {ρ : Ren} {x x' : Option Value} {d most r : Nat} (h : abound x d most = some r) (hx : ∀ v, x = some v → ∃ v', x' = some v' ∧ VRel ρ v v') (hn : x = none → x' = none) {y : Nat} (hy : most ≤ y) (code : BoundsCode) (w : World) :
    (match x' with | some v => Instr.sliceBound v y code | none => (pure d : Sem Nat)).run P w = .ok r w := by
  unfold abound at h
  split at h
  · rw [hn rfl]
    simp only [Option.some.injEq] at h
    subst h; rfl
  · rename_i k i
    obtain ⟨v', rfl, hv⟩ := hx _ rfl
    cases hv
    cases hc : (decide (0 ≤ i) && decide (i ≤ (most : Int))) with
    | false => rw [hc] at h; cases h
    | true =>
      rw [hc] at h
      simp only [cond_true, Option.some.injEq] at h
      simp only [Bool.and_eq_true, decide_eq_true_eq] at hc
      subst h
      simp only [Instr.sliceBound, asIntOf, Sem.run_bind, Sem.run_pure, Result.andThen_ok, Sem.run_ite]
      rw [if_pos (by omega)]
  · cases h
/-- What an operand reads as, if there is one. -/
def ORel (ρ : Ren) (x x' : Option Value) : Prop := (∀ v, x = some v → ∃ v', x' = some v' ∧ VRel ρ v v') ∧ (x = none → x' = none)
theorem bounds_run {ρ : Ren} {lo lo' hi hi' : Option Value} {len cap hh l : Nat} (hhi : abound hi len len = some hh) (hlo : abound lo 0 hh = some l) (rl : ORel ρ lo lo') (rh : ORel ρ hi hi') (hl : len ≤ cap) (b : Bool) (w : World) :
    (Instr.sliceBounds b len cap lo' hi' none).run P w = .ok (l, hh, cap) w := by
  have h1 := abound_run (P := P) hhi rh.1 rh.2 hl (if b then .sliceAcap else .sliceAlen) w
  have h2 := abound_run (P := P) hlo rl.1 rl.2 (Nat.le_refl hh) (.sliceB) w
  unfold Instr.sliceBounds
  cases hi' with
  | none =>
    have e1 : len = hh := by simpa using h1
    subst e1
    cases lo' with
    | none => have e2 : 0 = l := by simpa using h2
              subst e2; rfl
    | some v =>
      simp only at h2
      simp only [Sem.run_bind, Sem.run_pure, Result.andThen_ok, Option.isSome_none, Bool.false_eq_true, if_false, h2]
  | some u =>
    simp only at h1
    cases lo' with
    | none => have e2 : 0 = l := by simpa using h2
              subst e2
              simp only [Sem.run_bind, Sem.run_pure, Result.andThen_ok, h1]
    | some v =>
      simp only at h2
      simp only [Sem.run_bind, Sem.run_pure, Result.andThen_ok, Option.isSome_none, Bool.false_eq_true, if_false, h1, h2]
theorem capsub_zero (c l : Nat) (h : capsub c l = 0) : c = 0 := by
  unfold capsub at h; split at h <;> first | rfl | omega
theorem aslice_sound {ρ : Ren} {t : TypeId} {x x' v : Value} {lo lo' hi hi' : Option Value} {h : AHeap} {w : World} (he : aslice P t x lo hi h = some v) (hr : Rel P ρ h w) (hx : VRel ρ x x') (rl : ORel ρ lo lo') (rh : ORel ρ hi hi') :
    ∃ v', (Instr.sliceAt t x' lo' hi' none).run P w = .ok v' w ∧ VRel ρ v v' := by
  unfold aslice at he
  split at he
  · rename_i elem base len c hu
    split at he
    · cases he
    · rename_i n hn
      split at he
      · cases he
      · rename_i hh hhi
        split at he
        · cases he
        · rename_i l hlo
          have h1 := abound_le hhi (Nat.le_refl _)
          have h2 := abound_le hlo (Nat.zero_le _)
          cases hx with
          | sliceNil =>
            simp only [Nat.beq_refl, cond_true, Option.some.injEq] at he
            subst he
            have : hh = 0 := by omega
            subst this
            have : l = 0 := by omega
            subst this
            refine ⟨.slice none 0 0, ?_, .sliceNil 0⟩
            have hb := bounds_run (P := P) hhi hlo rl rh (Nat.le_refl 0) true w
            simp only [Instr.sliceAt, Instr.slice, Sem.run_bind, srun_sound hu, Result.andThen_ok, hb, srun_sound hn, Sem.run_pure, if_true, Nat.sub_self]
          | slice hb hm hl hc =>
            rename_i b off cap pl
            simp only [Option.some.injEq] at he
            subst he
            have hbd := bounds_run (P := P) hhi hlo rl rh hl true w
            have hrun : (Instr.sliceAt t (.slice (some ⟨pl.c, pl.base + off, none⟩) len cap) lo' hi' none).run P w = .ok (.slice (if cap = l then some ⟨pl.c, pl.base + off, none⟩ else some ⟨pl.c, pl.base + off + l * n, none⟩) (hh - l) (cap - l)) w := by
              simp only [Instr.sliceAt, Instr.slice, Sem.run_bind, srun_sound hu, Result.andThen_ok, hbd, srun_sound hn, Sem.run_pure, Option.map_some, addr_add]
            by_cases hcl : cap = l
            · refine ⟨_, hrun, ?_⟩
              rw [if_pos hcl]
              have e1 : hh - l = 0 := by omega
              have e2 : cap - l = 0 := by omega
              rw [e1, e2]
              refine .sliceOut hb ?_
              cases hw : wide P h b n with
              | false => exact Nat.zero_le _
              | true =>
                simp only [cond_true]
                unfold capsub
                split
                · omega
                · omega
                · rename_i k
                  have := (hc (by omega)).2 k rfl
                  omega
            · refine ⟨_, hrun, ?_⟩
              rw [if_neg hcl, Nat.add_assoc]
              refine .slice hb hm (by omega) ?_
              cases hw : wide P h b n with
              | false => intro hne; exact absurd rfl hne
              | true =>
                simp only [cond_true]
                intro hne
                have hc0 : c ≠ 0 := by intro e; subst e; exact hne rfl
                obtain ⟨c1, c2⟩ := hc hc0
                unfold wide at hw
                split at hw
                · rename_i cs tb hg
                  have hw := Nat.eq_of_beq_eq_true hw
                  obtain ⟨cs', fz, _, _, hesz, _⟩ := hr.place hg hm
                  rw [hesz.1, hw] at c1 ⊢
                  refine ⟨?_, ?_⟩
                  · have : l * n + (cap - l) * n = cap * n := by rw [← Nat.add_mul]; congr 1; omega
                    omega
                  · intro k hk
                    unfold capsub at hk
                    split at hk
                    · omega
                    · omega
                    · have := c2 _ rfl
                      omega
                · cases hw
          | sliceOut hb hc =>
            rename_i b off a
            simp only [Option.some.injEq] at he
            subst he
            have : hh = 0 := by omega
            subst this
            have : l = 0 := by omega
            subst this
            refine ⟨.slice (some a) 0 0, ?_, .sliceOut hb ?_⟩
            · have hbd := bounds_run (P := P) hhi hlo rl rh (Nat.le_refl 0) true w
              simp only [Instr.sliceAt, Instr.slice, Sem.run_bind, srun_sound hu, Result.andThen_ok, hbd, srun_sound hn, Sem.run_pure, if_true, Nat.sub_self]
            · cases wide P h b n with
              | false => exact Nat.zero_le _
              | true => simp only [cond_true]; unfold capsub; split <;> omega
  · rename_i k elem b off hu
    cases hx with
    | ptr hb hm =>
      rename_i pl
      split at he
      · cases he
      · rename_i n hn
        split at he
        · cases he
        · rename_i hh hhi
          split at he
          · cases he
          · rename_i l hlo
            simp only [Option.some.injEq] at he
            subst he
            have h1 := abound_le hhi (Nat.le_refl _)
            have h2 := abound_le hlo (Nat.zero_le _)
            have hbd := bounds_run (P := P) hhi hlo rl rh (Nat.le_refl k) false w
            refine ⟨_, by simp only [Instr.sliceAt, Instr.sureAddr, Sem.run_bind, srun_sound hu, Sem.run_pure, Result.andThen_ok, hbd, srun_sound hn]; rfl, ?_⟩
            have : (if k = l then (Addr.mk pl.c (pl.base + off) none) else (Addr.mk pl.c (pl.base + off) none).add (l * n)) = ⟨pl.c, pl.base + (off + (if k = l then 0 else l * n)), none⟩ := by
              split
              · rfl
              · rw [addr_add, Nat.add_assoc]
            rw [this]
            exact .slice hb hm (by omega) (fun hne => absurd rfl hne)
  · cases he

/-! ### len -/
def alen (P : Program) (t : TypeId) (x : Value) : Option Value :=
  match srun P (underlying t), x with
  | some (.slice _), .slice _ n _ => some (goInt n)
  | some .string, .string s => some (goInt s.size)
  | some (.array n _), _ => some (goInt n)
  | _, _ => none
theorem alen_sound {ρ : Ren} {t : TypeId} {x x' v : Value} (he : alen P t x = some v) (hx : VRel ρ x x') (r : TypeId) (w : World) : (Builtin.len_ #[t] r #[x']).run P w = .ok v w ∧ VRel ρ v v := by
  unfold alen at he
  split at he
  · rename_i hu
    simp only [Option.some.injEq] at he
    subst he
    refine ⟨?_, .int _ _⟩
    cases hx <;> simp [Builtin.len_, srun_sound hu]
  · rename_i hu
    simp only [Option.some.injEq] at he
    subst he
    refine ⟨?_, .int _ _⟩
    cases hx; simp [Builtin.len_, srun_sound hu]
  · rename_i hu
    simp only [Option.some.injEq] at he
    subst he
    refine ⟨?_, .int _ _⟩
    simp [Builtin.len_, srun_sound hu]
  · cases he

end
end Go.Ai
namespace Go.Ai
noncomputable section
variable {P : Program}

/-- The cells of the first n elements, each of so many cells. -/
def firstc (h : AHeap) (n size : Nat) : Value → Option (List Value)
  | .slice (some ⟨b, off, none⟩) _ _ => cond (Nat.beq (n * size) 0) (some []) (match h.get b with
    | some (.cells c _) => cond (Nat.ble (off + n * size) c.length) (some ((c.drop off).take (n * size))) none
    | _ => none)
  | .slice none _ _ => some []
  | .string s => some ((s.extract 0 n).data.toList.map fun b => .int .u8 b.toNat)
  | _ => none
def alenv : Value → Option Nat
  | .slice _ n _ => some n
  | .string s => some s.size
  | _ => none
theorem alenv_sound {ρ : Ren} {x x' : Value} {n : Nat} (h : alenv x = some n) (hx : VRel ρ x x') (w : World) : (Builtin.lenOf x').run P w = .ok n w := by
  cases hx with
  | odd _ => cases h
  | _ => simp only [alenv, Option.some.injEq, reduceCtorEq] at h <;> subst h <;> rfl
theorem firstc_sound {ρ : Ren} {h : AHeap} {w : World} {n size : Nat} {x x' : Value} {c : List Value} (he : firstc h n size x = some c) (hr : Rel P ρ h w) (hx : VRel ρ x x') (hn : ∀ b l cap, x = .slice b l cap → n ≤ l) :
    ∃ c' : List Value, (Builtin.firstCells size n x').run P w = .ok c'.toArray w ∧ VList ρ c c' := by
  have hzero : n * size = 0 → ∀ a : Addr, (loadCells a (n * size)).run P w = .ok ([] : List Value).toArray w := by
    intro e a; rw [e]; rfl
  cases hx with
  | sliceNil c0 =>
    simp only [firstc, Option.some.injEq] at he
    subst he
    exact ⟨[], rfl, .nil ρ⟩
  | slice hb hm hl hc =>
    rename_i b off len c0 cap pl
    simp only [firstc] at he
    cases hz : Nat.beq (n * size) 0 with
    | true =>
      rw [hz] at he
      simp only [cond_true, Option.some.injEq] at he
      subst he
      exact ⟨[], by simp only [Builtin.firstCells]; exact hzero (Nat.eq_of_beq_eq_true hz) _, .nil ρ⟩
    | false =>
      rw [hz] at he
      simp only [cond_false] at he
      split at he
      · rename_i cs t hg
        cases hle : Nat.ble (off + n * size) cs.length with
        | false => rw [hle] at he; cases he
        | true =>
          rw [hle] at he
          simp only [cond_true, Option.some.injEq] at he
          subst he
          obtain ⟨ys, hys, hv⟩ := run_loadCells_at (hr.place hg hm) off (n * size) (Nat.le_of_ble_eq_true hle)
          exact ⟨ys, by simpa only [Builtin.firstCells] using hys, hv⟩
      · cases he
  | sliceOut hb hc =>
    rename_i b off c0 a
    have := hn _ _ _ rfl
    have hz : n * size = 0 := by have : n = 0 := by omega
                                 subst this; simp
    simp only [firstc, hz, Nat.beq_refl, cond_true, Option.some.injEq] at he
    subst he
    exact ⟨[], by simp only [Builtin.firstCells]; exact hzero hz _, .nil ρ⟩
  | string s =>
    simp only [firstc, Option.some.injEq] at he
    subst he
    refine ⟨_, ?_, ⟨rfl, fun i x y hx hy => ?_⟩⟩
    · simp only [Builtin.firstCells, Sem.run_pure]
      congr 1
      apply Array.ext'
      simp
    · rw [hx] at hy; cases hy
      simp only [List.getElem?_map, Option.map_eq_some_iff] at hx
      obtain ⟨b, _, rfl⟩ := hx
      exact .int _ _
  | _ => cases he

def isIntD : TypeDesc → Bool
  | .int _ => true
  | _ => false
theorem growBy_le (need : Nat) (hn : 255 ≤ need) : ∀ (r c : Nat), c ≤ 2 * need → Builtin.growBy need r c ≤ 2 * need
  | 0, c, h => h
  | r + 1, c, h => by
    unfold Builtin.growBy
    split
    · exact h
    · exact growBy_le need hn r _ (by omega)
theorem nextcap_le (need cap : Nat) (h : cap < need) : Builtin.nextslicecap need cap ≤ 2 * need := by
  unfold Builtin.nextslicecap
  split
  · omega
  · split
    · omega
    · exact growBy_le need (by omega) 4 cap (by omega)
theorem nextcap_zero (need : Nat) (h : 0 < need) : Builtin.nextslicecap need 0 = need := by
  unfold Builtin.nextslicecap; rw [if_pos (by omega)]

/-- An append that copies. -/
theorem run_append_grow {ρ : Ren} {h : AHeap} {w : World} (hr : Rel P ρ h w) {sT xT elem : TypeId} {r : TypeId} {xd : TypeDesc} {i : TypeInfo} {z : Value} {base : Option Addr} {len cap n : Nat} {x' : Value} {old old' new new' : List Value}
    (h1 : srun P (underlying sT) = some (.slice elem)) (h2 : srun P (underlying xT) = some xd) (h3 : isIntD xd = false) (hi : srun P (typeInfo elem) = some i) (hz : azero P elem = some z)
    (hb : 0 < i.bytes) (hzs : z.cells.size = i.size)
    (hlen : ∀ w, (Builtin.lenOf x').run P w = .ok n w) (hgrow : cap < len + n) (hlim : Builtin.nextslicecap (len + n) cap * i.bytes ≤ 2 ^ 48)
    (hold : (Builtin.firstCells i.size len (.slice base len cap)).run P { w with drawn := w.drawn + 1 } = .ok old'.toArray { w with drawn := w.drawn + 1 }) (hnew : (Builtin.firstCells i.size n x').run P { w with drawn := w.drawn + 1 } = .ok new'.toArray { w with drawn := w.drawn + 1 })
    (vold : VList ρ old old') (vnew : VList ρ new new') (hol : old.length = len * i.size) (hnl : new.length = n * i.size) :
    ∃ cap' w' pl, (Builtin.append_ #[sT, xT] r #[.slice base len cap, x']).run P w = .ok (.slice (some ⟨w.heap.size, 0, none⟩) (len + n) cap') w' ∧ len + n ≤ cap' ∧ pl.c = w.heap.size ∧ pl.base = 0 ∧ pl.esz = i.size ∧ cap' * i.size ≤ pl.size ∧
      Step P ρ h w (ρ.ext pl) (h.push (.cells (old ++ new) elem)) w' := by
  obtain ⟨sz1, sz2⟩ := sizeOf_of_info hi
  obtain ⟨z1, _⟩ := azero_sound (ρ := ρ) hz w
  have z1 : ∀ w, (zeroValue elem).run P w = .ok z w := fun w => (azero_sound (ρ := ρ) hz w).1
  let q : Question := .appendCap (len + n) cap elem
  let newCap := q.cut (w.tape w.drawn q)
  let w1 : World := { w with drawn := w.drawn + 1 }
  have hge : len + n ≤ newCap := by show len + n ≤ (len + n) + _ % _; omega
  let cs : Array Value := old'.toArray ++ new'.toArray ++ Builtin.zeroCells z.cells (newCap - (len + n))
  have hr1 : Rel P ρ h w1 := hr.grow (fun k _ => rfl)
  have hcs : cs.size = newCap * i.size := by
    simp only [cs, Builtin.zeroCells, Array.size_append, List.size_toArray, Array.size_map, Array.size_range, ← vold.1, ← vnew.1, hol, hnl, hzs]
    rw [← Nat.add_mul, ← Nat.add_mul]; congr 1; omega
  have st := Step.push (t := elem) hr1 (c := old ++ new) (cs := cs) (fz := (0, 0)) (w' := { w1 with heap := w1.heap.push (.cells cs elem) }) rfl (fun i _ hi => by simp at hi)
    (by simp only [cs, Array.size_append, List.length_append, List.size_toArray, vold.1, vnew.1]; omega)
    (fun k x hx => by
      obtain ⟨y, hy, hxy⟩ := (vold.append vnew).get hx
      refine ⟨y, ?_, hxy⟩
      have hlt : k < (old' ++ new').length := by
        rcases Nat.lt_or_ge k (old' ++ new').length with h | h
        · exact h
        · rw [List.getElem?_eq_none h] at hy; cases hy
      have : cs = (old' ++ new').toArray ++ Builtin.zeroCells z.cells (newCap - (len + n)) := by
        have e : old'.toArray ++ new'.toArray = (old' ++ new').toArray := by simp
        simp only [cs]; rw [e]
      rw [this, Array.getElem?_append_left (by simpa using hlt)]
      simpa using hy) rfl rfl rfl
  refine ⟨newCap, _, ⟨w.heap.size, 0, cs.size, P.cellsOf elem⟩, ?_, hge, rfl, rfl, sz1, by rw [hcs]; exact Nat.le_refl _, ⟨st.le, st.rel, st.ro, st.os, st.tape, st.output, st.size, st.frame, st.img⟩⟩
  have e1 : ¬ (len + n ≤ cap) := by omega
  simp only [Builtin.append_]
  simp only [List.getElem?_toArray, List.getElem?_cons_zero, List.getElem?_cons_succ, Sem.run_bind, srun_sound h1, Result.andThen_ok, sz2, srun_sound h2, Sem.run_pure]
  rw [if_neg (by cases xd <;> first | exact Bool.false_ne_true | cases h3)]
  simp only [Sem.run_bind, hlen, Result.andThen_ok]
  rw [if_neg e1]
  simp only [Sem.run_bind, srun_sound hi, Result.andThen_ok]
  rw [if_neg (by
    rintro ⟨_, h | h⟩
    · revert h; cases xd <;> first | exact Bool.false_ne_true | cases h3
    · omega)]
  simp only [Sem.run_bind, srun_sound hi, Result.andThen_ok]
  rw [if_neg (by omega)]
  have hq : (choose (.appendCap (len + n) cap elem)).run P w = .ok newCap w1 := by rw [run_choose]; rfl
  simp only [Sem.run_bind, hq, Result.andThen_ok, srun_sound hi, run_askRoom]
  rw [show w1 = { w with drawn := w.drawn + 1 } from rfl, hold]
  simp only [Result.andThen_ok]
  rw [if_pos (by cases xd <;> first | rfl | cases h3)]
  rw [hnew]
  simp only [Result.andThen_ok, z1, Sem.run_pure]
  rfl

/-- An append in place. -/
theorem run_append_in {ρ : Ren} {h : AHeap} {w : World} (hr : Rel P ρ h w) {sT xT elem : TypeId} {r : TypeId} {xd : TypeDesc} {i : TypeInfo} {b off len cap n : Nat} {cs : List Value} {pl : Place} {x' : Value} {new new' : List Value}
    (h1 : srun P (underlying sT) = some (.slice elem)) (h2 : srun P (underlying xT) = some xd) (h3 : isIntD xd = false) (hi : srun P (typeInfo elem) = some i)
    (hlen : ∀ w, (Builtin.lenOf x').run P w = .ok n w) (hfits : len + n ≤ cap) (hg : h.get b = some (.cells cs elem)) (hm : ρ.m b = some pl) (hro : h.ro ≤ b)
    (hnew : (Builtin.firstCells i.size n x').run P w = .ok new'.toArray w) (vnew : VList ρ new new') (hnl : new.length = n * i.size) (hcell : ∀ x ∈ new, cellOk x = true)
    (hroom : pl.base + off + cap * i.size ≤ pl.size) (hhave : off + len * i.size ≤ cs.length) (hoff : off % i.size = 0) :
    ∃ w', (Builtin.append_ #[sT, xT] r #[.slice (some ⟨pl.c, pl.base + off, none⟩) len cap, x']).run P w = .ok (.slice (some ⟨pl.c, pl.base + off, none⟩) (len + n) cap) w' ∧
      Step P ρ h w (ρ.ext ⟨pl.c, pl.base + off, pl.size, pl.esz⟩) ((h.set b none).push (.cells (((cs.drop off).take (len * i.size)) ++ new) elem)) w' := by
  obtain ⟨sz1, sz2⟩ := sizeOf_of_info hi
  obtain ⟨cs', fz, g1, g2, g3, g4, g5, g6⟩ := hr.place hg hm
  -- the abstract block, as long as the world's
  have key : ∀ (vs vs' : List Value) (w0 : World) (cc : Array Value) (j : Nat), w0.heap[pl.c]? = some (.cells cc elem fz) → cc.size = pl.size → pl.base + off + len * i.size + j + vs.length ≤ pl.size → VList ρ vs vs' → (∀ x ∈ vs, cellOk x = true) →
      ∃ w', (storeCells ⟨pl.c, pl.base + off + len * i.size, none⟩ vs' j).run P w0 = .ok () w' ∧ (∃ dd : Array Value, w'.heap[pl.c]? = some (.cells dd elem fz) ∧ dd.size = cc.size ∧
        (∀ k, (k < pl.base + off + len * i.size + j) → dd[k]? = cc[k]?) ∧ (∀ k y, vs'[k]? = some y → dd[pl.base + off + len * i.size + j + k]? = some y)) ∧
        (∀ k, k ≠ pl.c → w'.heap[k]? = w0.heap[k]?) ∧ w'.os = w0.os ∧ w'.tape = w0.tape ∧ w'.output = w0.output ∧ w'.heap.size = w0.heap.size := by
    intro vs
    induction vs with
    | nil =>
      intro vs' w0 cc j hb hsz _ hv _
      cases hv.nil_inv
      exact ⟨w0, rfl, ⟨cc, hb, rfl, fun _ _ => rfl, fun k y hy => by simp at hy⟩, fun _ _ => rfl, rfl, rfl, rfl, rfl⟩
    | cons v vs ih =>
      intro vs' w0 cc j hb hsz hle hv hco
      obtain ⟨v', vs'', rfl, hv1, hv2⟩ := hv.cons_inv
      simp only [List.length_cons] at hle
      let p := pl.base + off + len * i.size + j
      have hp : p < pl.size := by show pl.base + off + len * i.size + j < pl.size; omega
      have hone : v'.oneCell' = true := by have := cellOk_rel hv1; rw [hco v (by simp)] at this; cases v' <;> simp_all [cellOk, Value.oneCell']
      have hcell0 : w0.cell? ⟨pl.c, p, none⟩ = some cc[p]! := by
        simp only [World.cell?, hb]
        simp [getElem!_def, Array.getElem?_eq_getElem (show p < cc.size by omega)]
      have hfr : w0.frozen? ⟨pl.c, p, none⟩ = false := by
        have := g5 (by simpa using hro) p hp
        obtain ⟨lo, hi'⟩ := fz
        simp [World.frozen?, hb] at this ⊢
        exact this
      have e1 : (store ⟨pl.c, p, none⟩ v').run P w0 = .ok () (w0.setCell ⟨pl.c, p, none⟩ v') := by
        rw [run_store _ _ _ _ _ hone, hcell0]; simp [hfr]
      have hb1 : (w0.setCell ⟨pl.c, p, none⟩ v').heap[pl.c]? = some (.cells (cc.setIfInBounds p v') elem fz) := by simp [World.setCell, Array.getElem?_modify, hb]
      obtain ⟨w', e2, ⟨dd, d1, d2, d3, d4⟩, d5, d6, d7, d8, d9⟩ := ih vs'' _ (cc.setIfInBounds p v') (j + 1) hb1 (by simpa using hsz) (by omega) hv2 (fun x hx => hco x (by simp [hx]))
      refine ⟨w', ?_, ⟨dd, d1, by simpa using d2, fun k hk => ?_, fun k y hy => ?_⟩, fun k hk => (d5 k hk).trans (heap_setCell_ne _ _ _ _ hk), d6, d7, d8, d9.trans (size_setCell _ _ _)⟩
      · simp only [storeCells, addr_add, Sem.run_bind]
        rw [show (⟨pl.c, pl.base + off + len * i.size + j, none⟩ : Addr) = ⟨pl.c, p, none⟩ from rfl, e1]
        exact e2
      · rw [d3 k (by omega), Array.getElem?_setIfInBounds, if_neg (by show p ≠ k; omega)]
      · cases k with
        | zero =>
          simp only [List.getElem?_cons_zero, Option.some.injEq] at hy
          subst hy
          rw [Nat.add_zero, d3 _ (by omega), Array.getElem?_setIfInBounds, if_pos rfl, if_pos (by omega)]
        | succ k =>
          have := d4 k y (by simpa using hy)
          rw [show pl.base + off + len * i.size + j + (k + 1) = pl.base + off + len * i.size + (j + 1) + k by omega]
          exact this
  have hfit : pl.base + off + len * i.size + 0 + new.length ≤ pl.size := by
    have : len * i.size + n * i.size ≤ cap * i.size := by rw [← Nat.add_mul]; exact Nat.mul_le_mul_right _ hfits
    omega
  obtain ⟨w', e, ⟨dd, d1, d2, d3, d4⟩, d5, d6, d7, d8, d9⟩ := key new new' w cs' 0 g1 g2 hfit vnew hcell
  refine ⟨w', ?_, ?_⟩
  · simp only [Builtin.append_]
    simp only [List.getElem?_toArray, List.getElem?_cons_zero, List.getElem?_cons_succ, Sem.run_bind, srun_sound h1, Result.andThen_ok, sz2, srun_sound h2, Sem.run_pure]
    rw [if_neg (by cases xd <;> first | exact Bool.false_ne_true | cases h3)]
    simp only [Sem.run_bind, hlen, Result.andThen_ok]
    rw [if_pos hfits]
    rw [if_pos (by cases xd <;> first | rfl | cases h3)]
    simp only [Sem.run_bind, hnew, Result.andThen_ok, addr_add, e, Sem.run_pure]
  · have hr0 := hr.drop b
    have hle := ρ.le_ext ⟨pl.c, pl.base + off, pl.size, pl.esz⟩
    have hr1 : Rel P ρ (h.set b none) w' := ⟨hr0.next, hr0.ro, hr0.dom, fun x ox hx => by
        obtain ⟨p, hp, hc⟩ := hr0.ok x ox hx
        refine ⟨p, hp, hc.other (d5 _ ?_)⟩
        intro ec
        rw [AHeap.get_set] at hx
        split at hx
        · cases hx
        · rename_i ne
          exact ne (hr.inj x b _ _ p pl hx hg hp hm ec), hr0.inj, hr0.gro, hr0.glob⟩
    refine ⟨hle, hr1.push ⟨dd, fz, d1, d2.trans g2, ⟨g3.1, by
      show (pl.base + off) % pl.esz = 0
      rw [Nat.add_mod, g3.2, g3.1, sz1, hoff]; simp⟩, ?_, fun _ => g5 (by simpa using hro), ?_⟩ ?_, rfl, d6, d7, d8, by omega, fun k hk hn => d5 k (fun ec => hn ⟨b, _, pl, hg, hro, hm, ec.symm⟩), ?_⟩
    · simp only [List.length_append, List.length_take, List.length_drop, hnl] at hfit ⊢
      have : len * i.size + n * i.size ≤ cap * i.size := by rw [← Nat.add_mul]; exact Nat.mul_le_mul_right _ hfits
      show pl.base + off + (min (len * i.size) (cs.length - off) + n * i.size) ≤ dd.size
      omega
    · intro k x hx
      rcases Nat.lt_or_ge k (len * i.size) with hk | hk
      · have hk' : k < ((cs.drop off).take (len * i.size)).length := by simp only [List.length_take, List.length_drop]; omega
        rw [List.getElem?_append_left hk', List.getElem?_take_of_lt hk, List.getElem?_drop] at hx
        obtain ⟨y, hy, hxy⟩ := g6 _ _ hx
        exact ⟨y, by rw [show (pl.base + off : Nat) + k = pl.base + (off + k) by omega, d3 _ (by omega)]; exact hy, hxy.mono hle⟩
      · have hl0 : ((cs.drop off).take (len * i.size)).length = len * i.size := by simp only [List.length_take, List.length_drop]; omega
        rw [List.getElem?_append_right (by omega), hl0] at hx
        obtain ⟨y, hy, hxy⟩ := vnew.get hx
        refine ⟨y, ?_, hxy.mono hle⟩
        have := d4 _ _ hy
        rw [show (pl.base + off : Nat) + k = pl.base + off + len * i.size + 0 + (k - len * i.size) by omega]
        exact this
    · intro x o p hx hp ec
      rw [AHeap.get_set] at hx
      split at hx
      · cases hx
      · rename_i ne
        exact ne (hr.inj x b _ _ p pl hx hg hp hm ec)
    · rintro k hk ⟨x, o, p, hx, hrx, hp, hpc⟩
      rw [AHeap.get_push] at hx
      split at hx
      · rename_i ex
        subst ex
        rw [show (h.set b none).next = ρ.next from hr.next.symm, Ren.ext_next] at hp
        cases hp
        exact ⟨b, _, pl, hg, hro, hm, hpc⟩
      · have hlt := hr0.dom x o hx
        have hp' : ρ.m x = some p := by rw [← hp]; exact (hle.2 x (by rw [hr0.next]; exact hlt)).symm
        rw [AHeap.get_set] at hx
        split at hx
        · cases hx
        · exact ⟨x, o, p, hx, hrx, hp', hpc⟩

end
end Go.Ai
namespace Go.Ai
noncomputable section
variable {P : Program}

def capafter (c need : Nat) : Nat :=
  match c with
  | k + 2 => cond (Nat.ble need k) (k + 2) 1
  | _ => 1
theorem capafter_exact {c need k : Nat} (h : capafter c need = k + 2) : c = k + 2 ∧ need ≤ k := by
  unfold capafter at h
  split at h
  · rename_i q
    cases hq : Nat.ble need q with
    | true => rw [hq] at h; simp only [cond_true] at h; exact ⟨h, by have := Nat.le_of_ble_eq_true hq; omega⟩
    | false => rw [hq] at h; simp only [cond_false] at h; omega
  · omega
/-- How many bytes a slice may come to by an append. -/
def roomFor (c need bytes : Nat) : Bool := Nat.ble (need * bytes) (cond (Nat.beq c 2) (2 ^ 48) (2 ^ 47))
def aappend2 (h : AHeap) (elem : TypeId) (i : TypeInfo) (n : Nat) (new : List Value) (s : Value) : Option (Value × AHeap) :=
  match s with
  | .slice none 0 0 => cond (Nat.beq n 0) (some (.slice none 0 0, h)) (cond (Nat.ble (n * i.bytes) (2 ^ 48)) (some (.slice (some ⟨h.next, 0, none⟩) n 1, h.push (.cells new elem))) none)
  | .slice (some ⟨b, off, none⟩) len c => cond (Nat.beq n 0) (some (s, h)) (match h.get b with
    | some (.cells cs t) => cond (!(Nat.beq c 0) && Nat.beq t elem && Nat.ble h.ro b && Nat.ble (off + len * i.size) cs.length && (roomFor c (len + n) i.bytes && Nat.beq (off % i.size) 0))
        (some (.slice (some ⟨h.next, 0, none⟩) (len + n) (capafter c (len + n)), (h.set b none).push (.cells (((cs.drop off).take (len * i.size)) ++ new) elem))) none
    | _ => none)
  | _ => none
def aappend (P : Program) (sT xT : TypeId) (s x : Value) (h : AHeap) : Option (Value × AHeap) :=
  match srun P (underlying sT), srun P (underlying xT), alenv x with
  | some (.slice elem), some xd, some n => (match srun P (typeInfo elem), azero P elem with
    | some i, some z => (match firstc h n i.size x with
      | some new => cond (!(isIntD xd) && Nat.blt 0 i.bytes && Nat.beq z.cells.size i.size && new.all cellOk && Nat.beq new.length (n * i.size)) (aappend2 h elem i n new s) none
      | none => none)
    | _, _ => none)
  | _, _, _ => none

theorem Step.ofDrop {ρ : Ren} {h : AHeap} {w : World} (hr : Rel P ρ h w) (b : Nat) : Step P ρ h w ρ (h.set b none) w :=
  ⟨Ren.le_refl _, hr.drop b, rfl, rfl, rfl, rfl, Nat.le_refl _, fun _ _ _ => rfl, fun c _ hm => by
    obtain ⟨x, o, pl, hx, h1, h2, h3⟩ := hm
    rw [AHeap.get_set] at hx
    split at hx
    · cases hx
    · exact ⟨x, o, pl, hx, h1, h2, h3⟩⟩
theorem run_append_none {sT xT elem : TypeId} {r : TypeId} {xd : TypeDesc} {i : TypeInfo} {len cap : Nat} {base : Option Addr} {x' : Value} {w : World}
    (h1 : srun P (underlying sT) = some (.slice elem)) (h2 : srun P (underlying xT) = some xd) (h3 : isIntD xd = false) (hi : srun P (typeInfo elem) = some i)
    (hlen : ∀ w, (Builtin.lenOf x').run P w = .ok 0 w) (hl : len ≤ cap) (hnew : (Builtin.firstCells i.size 0 x').run P w = .ok ([] : List Value).toArray w) :
    (Builtin.append_ #[sT, xT] r #[.slice base len cap, x']).run P w = .ok (.slice base len cap) w := by
  obtain ⟨sz1, sz2⟩ := sizeOf_of_info hi
  simp only [Builtin.append_]
  simp only [List.getElem?_toArray, List.getElem?_cons_zero, List.getElem?_cons_succ, Sem.run_bind, srun_sound h1, Result.andThen_ok, sz2, srun_sound h2, Sem.run_pure]
  rw [if_neg (by cases xd <;> first | exact Bool.false_ne_true | cases h3)]
  simp only [Sem.run_bind, hlen, Result.andThen_ok]
  rw [if_pos (by omega)]
  rw [if_pos (by cases xd <;> first | rfl | cases h3)]
  simp only [Sem.run_bind, hnew, Result.andThen_ok, Nat.add_zero]
  cases base with
  | none => simp only [Sem.run_pure]
  | some a => simp only [storeCells, Sem.run_pure, Result.andThen_ok, Sem.run_bind]

set_option maxHeartbeats 1000000 in
theorem aappend_sound {ρ : Ren} {sT xT r : TypeId} {s s' x x' v : Value} {h h' : AHeap} {w : World} (he : aappend P sT xT s x h = some (v, h')) (hr : Rel P ρ h w) (hs : VRel ρ s s') (hx : VRel ρ x x') :
    ∃ v' w' ρ', (Builtin.append_ #[sT, xT] r #[s', x']).run P w = .ok v' w' ∧ Step P ρ h w ρ' h' w' ∧ VRel ρ' v v' := by
  unfold aappend at he
  split at he
  case h_2 => cases he
  rename_i elem xd n h1 h2 hn
  split at he
  case h_2 => cases he
  rename_i i z hi hz
  split at he
  case h_2 => cases he
  rename_i new hnew
  cases hc : (!(isIntD xd) && Nat.blt 0 i.bytes && Nat.beq z.cells.size i.size && new.all cellOk && Nat.beq new.length (n * i.size)) with
  | false => rw [hc] at he; cases he
  | true =>
    rw [hc] at he
    simp only [cond_true] at he
    simp only [Bool.and_eq_true, Bool.not_eq_true', List.all_eq_true] at hc
    obtain ⟨⟨⟨⟨h3, hb⟩, hzs⟩, hco⟩, hnl⟩ := hc
    have hb : 0 < i.bytes := by simpa [Nat.blt_eq] using hb
    have hzs := Nat.eq_of_beq_eq_true hzs
    have hnl := Nat.eq_of_beq_eq_true hnl
    have hlen : ∀ w, (Builtin.lenOf x').run P w = .ok n w := fun w => alenv_sound hn hx w
    have hnx : ∀ b l cap, x = .slice b l cap → n ≤ l := by intro b l cap e; subst e; simp only [alenv, Option.some.injEq] at hn; omega
    obtain ⟨new', hnew', vnew⟩ := firstc_sound hnew hr hx hnx
    have hnil : n = 0 → (Builtin.firstCells i.size 0 x').run P w = .ok ([] : List Value).toArray w := by
      intro e
      subst e
      have : new' = [] := by have := vnew.1; rw [hnl, Nat.zero_mul] at this; exact List.eq_nil_of_length_eq_zero this.symm
      rw [this] at hnew'; exact hnew'
    have hr1 : Rel P ρ h { w with drawn := w.drawn + 1 } := hr.grow (fun k _ => rfl)
    obtain ⟨new1, hnew1, vnew1⟩ := firstc_sound (w := { w with drawn := w.drawn + 1 }) hnew hr1 hx hnx
    unfold aappend2 at he
    split at he
    · -- the nil slice
      cases hs
      cases hz0 : Nat.beq n 0 with
      | true =>
        obtain rfl := Nat.eq_of_beq_eq_true hz0
        rw [hz0] at he
        simp only [cond_true, Option.some.injEq, Prod.mk.injEq] at he
        obtain ⟨rfl, rfl⟩ := he
        exact ⟨_, w, ρ, run_append_none h1 h2 h3 hi hlen (Nat.le_refl 0) (hnil rfl), .refl hr, .sliceNil 0⟩
      | false =>
        rw [hz0] at he
        have hn0 : 0 < n := by rcases Nat.eq_zero_or_pos n with e | e; · subst e; simp at hz0
                               · exact e
        cases hlim : Nat.ble (n * i.bytes) (2 ^ 48) with
        | false => rw [hlim] at he; cases he
        | true =>
          rw [hlim] at he
          simp only [cond_true, cond_false, Option.some.injEq, Prod.mk.injEq] at he
          obtain ⟨rfl, rfl⟩ := he
          have hlim := Nat.le_of_ble_eq_true hlim
          obtain ⟨cap', w', pl, e1, e2, e3, e4, e5, e6, st⟩ := run_append_grow (r := r) (base := none) (len := 0) (cap := 0) (old := []) (old' := []) hr h1 h2 h3 hi hz hb hzs hlen (by omega)
            (by rw [nextcap_zero _ (by omega)]; simpa using hlim) (by simp [Builtin.firstCells]) hnew1 (.nil ρ) vnew1 (by simp) hnl
          rw [Nat.zero_add] at e1 e2
          refine ⟨_, w', _, e1, st, ?_⟩
          have := VRel.slice (ρ := ρ.ext pl) (b := h.next) (off := 0) (len := n) (c := 1) (cap := cap') (pl := pl) (by show h.next < ρ.next + 1; rw [hr.next]; exact Nat.lt_succ_self _) (by rw [← hr.next]; exact ρ.ext_next _) e2
            (fun _ => ⟨by rw [e4, e5]; simpa using e6, fun k hk => by omega⟩)
          rw [e3, e4] at this
          exact this
    · rename_i b off len c
      cases hz0 : Nat.beq n 0 with
      | true =>
        obtain rfl := Nat.eq_of_beq_eq_true hz0
        rw [hz0] at he
        simp only [cond_true, Option.some.injEq, Prod.mk.injEq] at he
        obtain ⟨rfl, rfl⟩ := he
        cases hs with
        | slice hb' hm' hl' hc' => exact ⟨_, w, ρ, run_append_none h1 h2 h3 hi hlen hl' (hnil rfl), .refl hr, .slice hb' hm' hl' hc'⟩
        | sliceOut hb' hc' => exact ⟨_, w, ρ, run_append_none h1 h2 h3 hi hlen (Nat.le_refl 0) (hnil rfl), .refl hr, .sliceOut hb' hc'⟩
      | false =>
        rw [hz0] at he
        have hn0 : 0 < n := by rcases Nat.eq_zero_or_pos n with e | e; · subst e; simp at hz0
                               · exact e
        simp only [cond_false] at he
        split at he
        case h_2 => cases he
        rename_i cs t hg
        cases hcc : (!(Nat.beq c 0) && Nat.beq t elem && Nat.ble h.ro b && Nat.ble (off + len * i.size) cs.length && (roomFor c (len + n) i.bytes && Nat.beq (off % i.size) 0)) with
        | false => rw [hcc] at he; cases he
        | true =>
          rw [hcc] at he
          simp only [cond_true, Option.some.injEq, Prod.mk.injEq] at he
          obtain ⟨rfl, rfl⟩ := he
          simp only [Bool.and_eq_true, Bool.not_eq_true'] at hcc
          obtain ⟨⟨⟨⟨k1, k2⟩, k3⟩, k4⟩, k5, k6⟩ := hcc
          have k1 : c ≠ 0 := by intro e; subst e; simp at k1
          obtain rfl := Nat.eq_of_beq_eq_true k2
          have k3 := Nat.le_of_ble_eq_true k3
          have k4 := Nat.le_of_ble_eq_true k4
          have hlim : ∀ cap, cap < len + n → (c = 2 → cap = 0) → Builtin.nextslicecap (len + n) cap * i.bytes ≤ 2 ^ 48 := by
            intro cap hcap h2c
            unfold roomFor at k5
            by_cases e2 : c = 2
            · subst e2
              rw [h2c rfl, nextcap_zero _ (by omega)]
              simp only [Nat.beq_refl, cond_true] at k5
              exact Nat.le_of_ble_eq_true k5
            · rw [show Nat.beq c 2 = false from Tr.beq_false e2] at k5
              simp only [cond_false] at k5
              have k5 := Nat.le_of_ble_eq_true k5
              have := nextcap_le (len + n) cap hcap
              calc Builtin.nextslicecap (len + n) cap * i.bytes ≤ (2 * (len + n)) * i.bytes := Nat.mul_le_mul_right _ this
                _ = 2 * ((len + n) * i.bytes) := Nat.mul_assoc _ _ _
                _ ≤ 2 * 2 ^ 47 := Nat.mul_le_mul_left _ k5
                _ = 2 ^ 48 := by decide
          have hdropr := hr.drop b
          cases hs with
          | slice hb' hm' hl' hc' =>
            rename_i cap pl
            obtain ⟨c1, c2⟩ := hc' k1
            obtain ⟨sz1, _⟩ := sizeOf_of_info hi
            have hpl := hr.place hg hm'
            have hesz : pl.esz = i.size := by obtain ⟨_, _, _, _, q, _⟩ := hpl; rw [q.1, sz1]
            by_cases hfit : len + n ≤ cap
            · obtain ⟨w', e1, st⟩ := run_append_in (r := r) hr h1 h2 h3 hi hlen hfit hg hm' k3 hnew' vnew hnl hco (by rw [← hesz]; exact c1) k4 (Nat.eq_of_beq_eq_true k6)
              refine ⟨_, w', _, e1, st, ?_⟩
              have := VRel.slice (ρ := ρ.ext ⟨pl.c, pl.base + off, pl.size, pl.esz⟩) (b := h.next) (off := 0) (len := len + n) (c := capafter c (len + n)) (cap := cap) (pl := ⟨pl.c, pl.base + off, pl.size, pl.esz⟩)
                (by show h.next < ρ.next + 1; rw [hr.next]; exact Nat.lt_succ_self _) (by rw [← hr.next]; exact ρ.ext_next _) hfit
                (fun _ => ⟨by simpa using c1, fun k hk => c2 k (capafter_exact hk).1⟩)
              simpa using this
            · have hfull : (c = 2 → cap = 0) := fun e => c2 0 (by omega)
              obtain ⟨old', hold', vold⟩ := run_loadCells_at (hr1.place hg hm') off (len * i.size) k4
              obtain ⟨cap', w', pl', e1, e2, e3, e4, e5, e6, st⟩ := run_append_grow (r := r) (base := some ⟨pl.c, pl.base + off, none⟩) (len := len) (cap := cap) hdropr h1 h2 h3 hi hz hb hzs hlen (by omega)
                (hlim cap (by omega) hfull) (by simpa only [Builtin.firstCells] using hold') hnew1 vold vnew1 (by simp only [List.length_take, List.length_drop]; omega) hnl
              refine ⟨_, w', _, e1, (Step.ofDrop hr b).trans st, ?_⟩
              have := VRel.slice (ρ := ρ.ext pl') (b := h.next) (off := 0) (len := len + n) (c := capafter c (len + n)) (cap := cap') (pl := pl') (by show h.next < ρ.next + 1; rw [hr.next]; exact Nat.lt_succ_self _) (by rw [← hr.next]; exact ρ.ext_next _) e2
                (fun _ => ⟨by rw [e4, e5]; simpa using e6, fun k hk => by
                  have q := capafter_exact hk
                  have := c2 k q.1
                  omega⟩)
              rw [e3, e4] at this
              exact this
          | sliceOut hb' hc' =>
            obtain ⟨cap', w', pl', e1, e2, e3, e4, e5, e6, st⟩ := run_append_grow (r := r) (base := some _) (len := 0) (cap := 0) (old := (cs.drop off).take (0 * i.size)) (old' := []) hdropr h1 h2 h3 hi hz hb hzs hlen (by omega)
              (hlim 0 (by omega) (fun _ => rfl)) (by simp only [Builtin.firstCells, Nat.zero_mul]; rfl) hnew1 (by simp [VList]) vnew1 (by simp) hnl
            refine ⟨_, w', _, e1, (Step.ofDrop hr b).trans st, ?_⟩
            have := VRel.slice (ρ := ρ.ext pl') (b := h.next) (off := 0) (len := 0 + n) (c := capafter c (0 + n)) (cap := cap') (pl := pl') (by show h.next < ρ.next + 1; rw [hr.next]; exact Nat.lt_succ_self _) (by rw [← hr.next]; exact ρ.ext_next _) e2
              (fun _ => ⟨by rw [e4, e5]; simpa using e6, fun k hk => by
                have q := capafter_exact hk
                omega⟩)
            rw [e3, e4] at this
            exact this
    · cases he

end
end Go.Ai
namespace Go.Ai
noncomputable section
variable {P : Program}

/-! ### copy -/
def asplice (h : AHeap) (b off : Nat) (new : List Value) : Option AHeap :=
  cond (Nat.beq new.length 0) (some h) (match h.get b with
    | some (.cells cs t) => cond (Nat.ble h.ro b && Nat.ble (off + new.length) cs.length && new.all cellOk) (some (h.set b (some (.cells (setMany cs off new) t)))) none
    | _ => none)
theorem asplice_sound {ρ : Ren} {h h' : AHeap} {w : World} {b off : Nat} {pl : Place} {new new' : List Value} (he : asplice h b off new = some h') (hr : Rel P ρ h w) (hm : ρ.m b = some pl) (hv : VList ρ new new') :
    ∃ w', (storeCells ⟨pl.c, pl.base + off, none⟩ new').run P w = .ok () w' ∧ Step P ρ h w ρ h' w' := by
  unfold asplice at he
  cases hz : Nat.beq new.length 0 with
  | true =>
    rw [hz] at he
    simp only [cond_true, Option.some.injEq] at he
    subst he
    have : new = [] := List.eq_nil_of_length_eq_zero (Nat.eq_of_beq_eq_true hz)
    subst this
    cases hv.nil_inv
    exact ⟨w, rfl, .refl hr⟩
  | false =>
    rw [hz] at he
    simp only [cond_false] at he
    split at he
    case h_2 => cases he
    rename_i cs t hg
    cases hc : (Nat.ble h.ro b && Nat.ble (off + new.length) cs.length && new.all cellOk) with
    | false => rw [hc] at he; cases he
    | true =>
      rw [hc] at he
      simp only [cond_true, Option.some.injEq] at he
      subst he
      simp only [Bool.and_eq_true, List.all_eq_true] at hc
      exact run_storeCells (o := off) hm new new' h w cs 0 hr hg (Nat.le_of_ble_eq_true hc.1.1) (by have := Nat.le_of_ble_eq_true hc.1.2; omega) hv hc.2

def acopy (P : Program) (dT : TypeId) (d x : Value) (h : AHeap) : Option (Value × AHeap) :=
  match srun P (underlying dT), d, alenv x with
  | some (.slice elem), .slice base dl _, some m => (match srun P (typeInfo elem) with
    | none => none
    | some i => (match firstc h (Nat.min m dl) i.size x with
      | none => none
      | some new => (match base with
        | none => some (goInt (Nat.min m dl), h)
        | some ⟨b, off, none⟩ => (asplice h b off new).map fun h' => (goInt (Nat.min m dl), h')
        | some _ => none)))
  | _, _, _ => none
theorem acopy_sound {ρ : Ren} {dT r : TypeId} {ts : Array TypeId} {d d' x x' v : Value} {h h' : AHeap} {w : World} (he : acopy P dT d x h = some (v, h')) (hr : Rel P ρ h w) (hd : VRel ρ d d') (hx : VRel ρ x x') (hts : ts[0]? = some dT) :
    ∃ v' w', (Builtin.copy_ ts r #[d', x']).run P w = .ok v' w' ∧ Step P ρ h w ρ h' w' ∧ VRel ρ v v' := by
  unfold acopy at he
  split at he
  case h_2 => cases he
  rename_i elem base dl c m hu hm
  split at he
  case h_1 => cases he
  rename_i i hi
  obtain ⟨sz1, sz2⟩ := sizeOf_of_info hi
  split at he
  case h_1 => cases he
  rename_i new hnew
  have hlen := fun w => alenv_sound (P := P) hm hx w
  obtain ⟨new', hnew', vnew⟩ := firstc_sound hnew hr hx (by intro b l cap e; subst e; simp only [alenv, Option.some.injEq] at hm; subst hm; exact Nat.min_le_left _ _)
  cases hd with
  | sliceNil =>
    simp only [Option.some.injEq, Prod.mk.injEq] at he
    obtain ⟨rfl, rfl⟩ := he
    refine ⟨goInt (Nat.min m 0), w, ?_, .refl hr, .int _ _⟩
    simp only [Builtin.copy_, hts]
    simp only [List.getElem?_toArray, List.getElem?_cons_zero, List.getElem?_cons_succ, Sem.run_bind, srun_sound hu, Result.andThen_ok, hlen, sz2, hnew', Sem.run_pure]
  | slice hb hmm hl hc =>
    simp only [Option.map_eq_some_iff, Prod.mk.injEq] at he
    obtain ⟨h2, hsp, rfl, rfl⟩ := he
    obtain ⟨w', e, st⟩ := asplice_sound hsp hr hmm vnew
    refine ⟨_, w', ?_, st, .int _ _⟩
    simp only [Builtin.copy_, hts]
    simp only [List.getElem?_toArray, List.getElem?_cons_zero, List.getElem?_cons_succ, Sem.run_bind, srun_sound hu, Result.andThen_ok, hlen, sz2, hnew', e, Sem.run_pure]
    rfl
  | sliceOut hb hc =>
    simp only [Option.map_eq_some_iff, Prod.mk.injEq] at he
    obtain ⟨h2, hsp, rfl, rfl⟩ := he
    have hmin : Nat.min m 0 = 0 := Nat.min_zero m
    have hnil : new = [] := by
      rw [hmin] at hnew
      cases hx with
      | sliceNil => simp only [firstc, Option.some.injEq] at hnew; exact hnew.symm
      | slice => simp only [firstc, Nat.zero_mul, Nat.beq_refl, cond_true, Option.some.injEq] at hnew; exact hnew.symm
      | sliceOut => simp only [firstc, Nat.zero_mul, Nat.beq_refl, cond_true, Option.some.injEq] at hnew; exact hnew.symm
      | string => simp only [firstc, Option.some.injEq] at hnew; rw [← hnew]; simp
      | _ => cases hm
    subst hnil
    cases vnew.nil_inv
    simp only [asplice, List.length_nil, Nat.beq_refl, cond_true, Option.some.injEq] at hsp
    subst hsp
    refine ⟨goInt (Nat.min m 0), w, ?_, .refl hr, .int _ _⟩
    simp only [Builtin.copy_, hts]
    simp only [List.getElem?_toArray, List.getElem?_cons_zero, List.getElem?_cons_succ, Sem.run_bind, srun_sound hu, Result.andThen_ok, hlen, sz2, hnew', Sem.run_pure, storeCells]

/-! ### clear, of a slice -/
def aclear (P : Program) (t : TypeId) (x : Value) (h : AHeap) : Option AHeap :=
  match srun P (underlying t), x with
  | some (.slice elem), .slice base n _ => cond (Nat.beq n 0) (some h) (match azero P elem, base with
    | some z, some ⟨b, off, none⟩ => cond (Nat.blt 0 z.cells.size) (asplice h b off (zcells z.cells.toList (n * z.cells.size))) none
    | _, _ => none)
  | _, _ => none
theorem aclear_sound {ρ : Ren} {t r : TypeId} {x x' : Value} {h h' : AHeap} {w : World} (he : aclear P t x h = some h') (hr : Rel P ρ h w) (hx : VRel ρ x x') :
    ∃ w', (Builtin.clear_ #[t] r #[x']).run P w = .ok undef w' ∧ Step P ρ h w ρ h' w' := by
  unfold aclear at he
  split at he
  case h_2 => cases he
  rename_i elem base n c hu
  cases hz : Nat.beq n 0 with
  | true =>
    rw [hz] at he
    obtain rfl := Nat.eq_of_beq_eq_true hz
    simp only [cond_true, Option.some.injEq] at he
    subst he
    refine ⟨w, ?_, .refl hr⟩
    cases hx <;> simp [Builtin.clear_, srun_sound hu, undef]
  | false =>
    rw [hz] at he
    simp only [cond_false] at he
    split at he
    case h_2 => cases he
    rename_i z b off hzero
    cases hp : Nat.blt 0 z.cells.size with
    | false => rw [hp] at he; cases he
    | true =>
      rw [hp] at he
      simp only [cond_true] at he
      have hp : 0 < z.cells.size := by simpa [Nat.blt_eq] using hp
      obtain ⟨z1, z2⟩ := azero_sound (ρ := ρ) hzero w
      cases hx with
      | slice hb hm hl hc =>
        obtain ⟨w', e, st⟩ := asplice_sound he hr hm (zcells_rel z2 (by omega) _)
        refine ⟨w', ?_, st⟩
        have hn0 : n ≠ 0 := by intro e; subst e; simp at hz
        obtain ⟨k, rfl⟩ : ∃ k, n = k + 1 := ⟨n - 1, by omega⟩
        simp only [Builtin.clear_]
        simp only [List.getElem?_toArray, List.getElem?_cons_zero, Sem.run_bind, srun_sound hu, Result.andThen_ok, z1, Builtin.zeroCells, zcells_eq, e, Sem.run_pure, undef]
      | sliceOut => simp at hz

/-! ### Bytes as text, text as bytes -/
/-- The bytes of some cells. -/
def bytesOf : List Value → ByteArray → Option ByteArray
  | [], s => some s
  | .int .u8 n :: l, s => bytesOf l (s.push (UInt8.ofNat n.toNat))
  | _ :: _, _ => none
def ab2s (h : AHeap) (x : Value) : Option Value :=
  match x with
  | .slice none _ _ => some (.string .empty)
  | .slice (some ⟨b, off, none⟩) n _ => cond (Nat.beq n 0) (some (.string .empty)) (match h.get b with
    | some (.cells c _) => cond (Nat.ble (off + n) c.length) ((bytesOf ((c.drop off).take n) .empty).map .string) none
    | _ => none)
  | _ => none
theorem bytesOf_run {ρ : Ren} : ∀ (l l' : List Value) (s r : ByteArray), bytesOf l s = some r → VList ρ l l' → ∀ w : World,
    (forIn l' s fun c s => (match c with
      | .int .u8 n => pure (ForInStep.yield (s.push (UInt8.ofNat n.toNat)))
      | _ => (do stuck "bytesToString: byte expected"; pure (ForInStep.yield s)) : Sem (ForInStep ByteArray))).run P w = .ok r w
  | [], l', s, r, h, hv, w => by
    cases hv.nil_inv
    simp only [bytesOf, Option.some.injEq] at h
    subst h; rfl
  | x :: l, l', s, r, h, hv, w => by
    obtain ⟨y, ys, rfl, h1, h2⟩ := hv.cons_inv
    unfold bytesOf at h
    split at h
    · rename_i e; cases e
    · rename_i e
      simp only [List.cons.injEq] at e
      obtain ⟨rfl, rfl⟩ := e
      cases h1
      rw [List.forIn_cons]
      simp only [Sem.run_bind, Sem.run_pure, Result.andThen_ok]
      exact bytesOf_run _ _ _ _ h h2 w
    · cases h
theorem ab2s_sound {ρ : Ren} {h : AHeap} {w : World} {x x' v : Value} (he : ab2s h x = some v) (hr : Rel P ρ h w) (hx : VRel ρ x x') : (Conv.bytesToString x').run P w = .ok v w ∧ VRel ρ v v := by
  unfold ab2s at he
  split at he
  · simp only [Option.some.injEq] at he
    subst he
    cases hx
    exact ⟨rfl, .string _⟩
  · rename_i b off n c
    cases hz : Nat.beq n 0 with
    | true =>
      rw [hz] at he
      obtain rfl := Nat.eq_of_beq_eq_true hz
      simp only [cond_true, Option.some.injEq] at he
      subst he
      refine ⟨?_, .string _⟩
      cases hx <;> (simp only [Conv.bytesToString, loadCells, loadCellsFrom, Sem.run_bind, Sem.run_pure, Result.andThen_ok]; rw [← Array.forIn_toList]; rfl)
    | false =>
      rw [hz] at he
      simp only [cond_false] at he
      split at he
      case h_2 => cases he
      rename_i cs t hg
      cases hle : Nat.ble (off + n) cs.length with
      | false => rw [hle] at he; cases he
      | true =>
        rw [hle] at he
        simp only [cond_true, Option.map_eq_some_iff] at he
        obtain ⟨r, hb, rfl⟩ := he
        refine ⟨?_, .string _⟩
        cases hx with
        | slice hb' hm hl hc =>
          obtain ⟨ys, hys, hv⟩ := run_loadCells_at (hr.place hg hm) off n (Nat.le_of_ble_eq_true hle)
          simp only [Conv.bytesToString, Sem.run_bind, hys, Result.andThen_ok]
          rw [← Array.forIn_toList]
          have := bytesOf_run (P := P) _ _ _ _ hb hv w
          rw [show ys.toArray.toList = ys from rfl]
          exact (congrArg (fun q : Result ByteArray => q.andThen fun a w' => Sem.run P (pure (Value.string a)) w') this)
        | sliceOut => simp at hz
  · cases he

end
end Go.Ai
