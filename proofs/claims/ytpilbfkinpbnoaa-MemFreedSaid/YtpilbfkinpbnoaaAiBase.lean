/-
  THE ABSTRACT HEAP, and what it means that a world is described by one. No program in sight but for the sizes of its types.
  An abstract heap holds some blocks, numbered from 0 on; a renaming tells in which block of the world, from which cell on, each of them lies. A world may hold more.
-/
import Derived.Calls
import Derived.Below
namespace Go.Ai
noncomputable section

/-! ### Small binary tries, numbers for keys -/
inductive Tr (α : Type) where
  | e
  | n (v : Option α) (l r : Tr α)

namespace Tr
variable {α : Type}
def get (t : Tr α) (k : Nat) : Option α :=
  @Tr.rec α (fun _ => Nat → Option α) (fun _ => none)
    (fun v _ _ gl gr k => @Bool.rec (fun _ => Option α) (@Bool.rec (fun _ => Option α) (gr (Nat.sub (Nat.div k 2) 1)) (gl (Nat.div k 2)) (Nat.beq (Nat.mod k 2) 1)) v (Nat.beq k 0)) t k
def setF (f : Nat) : Tr α → Nat → Option α → Tr α :=
  @Nat.rec (fun _ => Tr α → Nat → Option α → Tr α) (fun t _ _ => t)
    (fun _ ih t k x => @Tr.rec α (fun _ => Tr α)
      (@Bool.rec (fun _ => Tr α) (@Bool.rec (fun _ => Tr α) (.n none .e (ih .e (Nat.sub (Nat.div k 2) 1) x)) (.n none (ih .e (Nat.div k 2) x) .e) (Nat.beq (Nat.mod k 2) 1)) (.n x .e .e) (Nat.beq k 0))
      (fun v l r _ _ => @Bool.rec (fun _ => Tr α) (@Bool.rec (fun _ => Tr α) (.n v l (ih r (Nat.sub (Nat.div k 2) 1) x)) (.n v (ih l (Nat.div k 2) x) r) (Nat.beq (Nat.mod k 2) 1)) (.n x l r) (Nat.beq k 0)) t) f
def set (t : Tr α) (k : Nat) (x : Option α) : Tr α := setF (Nat.succ k) t k x
@[simp] theorem get_e (k : Nat) : (Tr.e : Tr α).get k = none := rfl
theorem beq_false {a b : Nat} (h : a ≠ b) : Nat.beq a b = false := by
  cases e : Nat.beq a b
  · rfl
  · exact absurd (Nat.eq_of_beq_eq_true e) h
theorem beq_true {a b : Nat} (h : a = b) : Nat.beq a b = true := by subst h; exact Nat.beq_refl a
theorem get_n (v : Option α) (l r : Tr α) (k : Nat) : (Tr.n v l r).get k = if k = 0 then v else if k % 2 = 1 then l.get (k / 2) else r.get (k / 2 - 1) := by
  show @Bool.rec (fun _ => Option α) (@Bool.rec (fun _ => Option α) (r.get (k / 2 - 1)) (l.get (k / 2)) (Nat.beq (k % 2) 1)) v (Nat.beq k 0) = _
  by_cases h : k = 0
  · rw [beq_true h, if_pos h]
  · rw [beq_false h, if_neg h]
    by_cases h2 : k % 2 = 1
    · rw [beq_true h2, if_pos h2]
    · rw [beq_false h2, if_neg h2]
theorem setF_e (f : Nat) (k : Nat) (x : Option α) : setF (f + 1) .e k x = setF (f + 1) (.n none .e .e) k x := rfl
theorem setF_n (f : Nat) (v : Option α) (l r : Tr α) (k : Nat) (x : Option α) :
    setF (f + 1) (.n v l r) k x = if k = 0 then .n x l r else if k % 2 = 1 then .n v (setF f l (k / 2) x) r else .n v l (setF f r (k / 2 - 1) x) := by
  show @Bool.rec (fun _ => Tr α) (@Bool.rec (fun _ => Tr α) (.n v l (setF f r (k / 2 - 1) x)) (.n v (setF f l (k / 2) x) r) (Nat.beq (k % 2) 1)) (.n x l r) (Nat.beq k 0) = _
  by_cases h : k = 0
  · rw [beq_true h, if_pos h]
  · rw [beq_false h, if_neg h]
    by_cases h2 : k % 2 = 1
    · rw [beq_true h2, if_pos h2]
    · rw [beq_false h2, if_neg h2]
theorem get_setF (f : Nat) : ∀ (t : Tr α) (k j : Nat) (x : Option α), k < f → (setF f t k x).get j = if j = k then x else t.get j := by
  induction f with
  | zero => intro t k j x h; omega
  | succ f ih =>
    have node : ∀ (v : Option α) (l r : Tr α) (k j : Nat) (x : Option α), k < f + 1 → (setF (f + 1) (.n v l r) k x).get j = if j = k then x else (Tr.n v l r).get j := by
      intro v l r k j x h
      rw [setF_n]
      by_cases h0 : k = 0
      · subst h0
        rw [if_pos rfl, get_n, get_n]
        by_cases hj : j = 0
        · simp [hj]
        · simp [hj]
      · rw [if_neg h0]
        by_cases h1 : k % 2 = 1
        · rw [if_pos h1, get_n, get_n, ih _ _ _ _ (by omega)]
          by_cases hj : j = 0
          · subst hj; simp [Ne.symm h0]
          · rw [if_neg hj, if_neg hj]
            by_cases hj2 : j % 2 = 1
            · rw [if_pos hj2, if_pos hj2]
              by_cases e : j = k
              · subst e; simp
              · rw [if_neg e, if_neg (by omega)]
            · rw [if_neg hj2, if_neg hj2, if_neg (by intro e; subst e; exact hj2 h1)]
        · rw [if_neg h1, get_n, get_n, ih _ _ _ _ (by omega)]
          by_cases hj : j = 0
          · subst hj; simp [Ne.symm h0]
          · rw [if_neg hj, if_neg hj]
            by_cases hj2 : j % 2 = 1
            · rw [if_pos hj2, if_pos hj2, if_neg (by intro e; subst e; exact h1 hj2)]
            · rw [if_neg hj2, if_neg hj2]
              by_cases e : j = k
              · subst e; simp
              · rw [if_neg e, if_neg (by omega)]
    intro t k j x h
    cases t with
    | e =>
      rw [setF_e, node _ _ _ _ _ _ h]
      by_cases e : j = k
      · simp [e]
      · simp only [if_neg e, get_n, get_e]; split <;> (try split) <;> rfl
    | n v l r => exact node v l r k j x h
theorem get_set (t : Tr α) (k j : Nat) (x : Option α) : (t.set k x).get j = if j = k then x else t.get j :=
  get_setF (k + 1) t k j x (Nat.lt_succ_self k)
/-- A trie out of a list, the first at number i. -/
def ofList (t : Tr α) (i : Nat) : List α → Tr α
  | [] => t
  | a :: l => ofList (t.set i (some a)) (i + 1) l
theorem get_ofList (l : List α) : ∀ (t : Tr α) (i j : Nat), (ofList t i l).get j = if i ≤ j ∧ j < i + l.length then l[j - i]? else t.get j := by
  induction l with
  | nil => intro t i j; simp [ofList]; omega
  | cons a l ih =>
    intro t i j
    rw [ofList, ih, get_set]
    by_cases h : j = i
    · subst h
      rw [if_neg (by omega), if_pos rfl, if_pos (by simp), Nat.sub_self]; rfl
    · by_cases h2 : i + 1 ≤ j ∧ j < i + 1 + l.length
      · rw [if_pos h2, if_pos (by simp; omega)]
        have : j - i = (j - (i + 1)) + 1 := by omega
        rw [this]; rfl
      · rw [if_neg h2, if_neg h, if_neg (by simp; omega)]
end Tr

/-! ### Frames -/
/-- The slots of a frame: how many, and what they hold. -/
structure Env where
  t : Tr Value
  size : Nat
def Env.get (s : Env) (i : Nat) : Value := @Option.rec Value (fun _ => Value) undef (fun v => v) (s.t.get i)
theorem Env.get_eq (s : Env) (i : Nat) : s.get i = (s.t.get i).getD undef := by
  unfold Env.get
  cases s.t.get i <;> rfl
def Env.set (s : Env) (i : Nat) (v : Value) : Env := @Env.rec (fun _ => Env) (fun t n => ⟨t.set i (some v), n⟩) s
theorem Env.set_t (s : Env) (i : Nat) (v : Value) : (s.set i v).t = s.t.set i (some v) := rfl
def Env.put (s : Env) (d : Option Nat) (v : Value) : Option Env :=
  match d with
  | none => some s
  | some d => cond (Nat.blt d s.size) (some (s.set d v)) none
theorem Env.get_set (s : Env) (i j : Nat) (v : Value) : (s.set i v).get j = if j = i then v else s.get j := by
  simp only [Env.get_eq, Env.set_t, Tr.get_set]; split <;> rfl
@[simp] theorem Env.size_set (s : Env) (i : Nat) (v : Value) : (s.set i v).size = s.size := rfl
/-- A frame at its function's beginning. -/
def strictN {α : Type} (n : Nat) (f : Nat → α) : α := @Nat.rec (fun _ => α) (f 0) (fun m _ => f (Nat.succ m)) n
theorem strictN_eq {α : Type} (n : Nat) (f : Nat → α) : strictN n f = f n := by cases n <;> rfl
def Env.enter (args : List Value) (n : Nat) : Env := strictN (max args.length n) fun k => { t := Tr.ofList .e 0 args, size := k }
theorem Env.enter_eq (args : List Value) (n : Nat) : Env.enter args n = { t := Tr.ofList .e 0 args, size := max args.length n } := strictN_eq _ _
theorem Env.get_enter (args : List Value) (n j : Nat) : (Env.enter args n).get j = (args[j]?).getD undef := by
  simp only [Env.get_eq, Env.enter_eq, Tr.get_ofList, Tr.get_e]
  by_cases h : j < args.length
  · rw [if_pos (by omega)]; rfl
  · rw [if_neg (by omega), List.getElem?_eq_none (by omega)]

/-! ### Heaps -/
/-- A loop over a function: what its object holds, but for the block of its deferred calls. -/
structure ALoop where
  state : LoopState
  pending : Option Code
  s : Env
  params : Array Tmp
  assign : Code
  body : Code
inductive AObj where
  | cells (c : List Value) (elem : TypeId)
  | map (es : List (Value × Value × Nat)) (clock : Nat)
  | iter (m : Option Nat) (since : Nat) (seen : List Nat) (last : Nat)
  | siter (s : ByteArray) (pos : Nat)
  | tab (c : List Value)
  | loop (l : ALoop)
/-- Some blocks; the number of the next one; those below 'ro' are not written. -/
structure AHeap where
  t : Tr AObj
  next : Nat
  ro : Nat
def AHeap.get (h : AHeap) (b : Nat) : Option AObj := h.t.get b
def AHeap.set (h : AHeap) (b : Nat) (o : Option AObj) : AHeap := @AHeap.rec (fun _ => AHeap) (fun t n r => ⟨t.set b o, n, r⟩) h
def AHeap.push (h : AHeap) (o : AObj) : AHeap := @AHeap.rec (fun _ => AHeap) (fun t n r => ⟨t.set n (some o), Nat.succ n, r⟩) h
theorem AHeap.get_set (h : AHeap) (b c : Nat) (o : Option AObj) : (h.set b o).get c = if c = b then o else h.get c := Tr.get_set _ _ _ _
theorem AHeap.get_push (h : AHeap) (c : Nat) (o : AObj) : (h.push o).get c = if c = h.next then some o else h.get c := Tr.get_set _ _ _ _
@[simp] theorem AHeap.next_set (h : AHeap) (b : Nat) (o : Option AObj) : (h.set b o).next = h.next := rfl
@[simp] theorem AHeap.ro_set (h : AHeap) (b : Nat) (o : Option AObj) : (h.set b o).ro = h.ro := rfl
@[simp] theorem AHeap.next_push (h : AHeap) (o : AObj) : (h.push o).next = h.next + 1 := rfl
@[simp] theorem AHeap.ro_push (h : AHeap) (o : AObj) : (h.push o).ro = h.ro := rfl
/-- The same heap, with nothing that may be written. -/
def AHeap.lock (h : AHeap) : AHeap := @AHeap.rec (fun _ => AHeap) (fun t n _ => ⟨t, n, n⟩) h

/-! ### The renaming, and what describes what -/
/-- Where an abstract block lies: the world's block, the first cell, how many cells that block has, how many cells an element has. -/
structure Place where
  c : Nat
  base : Nat
  size : Nat
  esz : Nat
structure Ren where
  next : Nat
  m : Nat → Option Place
/-- A slice's third number is no capacity in an abstract value: 0: nothing is known; 1: it may be appended to; k + 2: likewise, and its capacity is k. -/
def CapOk (pl : Place) (off cap : Nat) (c : Nat) : Prop := c ≠ 0 → off + cap * pl.esz ≤ pl.size ∧ ∀ k, c = k + 2 → cap = k

/-- What is not known: no bool, and one cell. -/
def bot : Value := .complex .f32 0 0
def odd : Value → Bool
  | .bool _ | .agg _ | .tuple _ => false
  | _ => true
inductive VRel (ρ : Ren) : Value → Value → Prop
  | odd {v : Value} (h : odd v = true) : VRel ρ bot v
  | bool (b : Bool) : VRel ρ (.bool b) (.bool b)
  | int (k : IntKind) (n : Int) : VRel ρ (.int k n) (.int k n)
  | float (k : FloatKind) (n : Nat) : VRel ρ (.float k n) (.float k n)
  | string (s : ByteArray) : VRel ρ (.string s) (.string s)
  | ptrNil : VRel ρ (.pointer none) (.pointer none)
  | ptr {b off : Nat} {pl : Place} (hb : b < ρ.next) (hm : ρ.m b = some pl) : VRel ρ (.pointer (some ⟨b, off, none⟩)) (.pointer (some ⟨pl.c, pl.base + off, none⟩))
  | glob {g off : Nat} : VRel ρ (.pointer (some ⟨g, off, some 0⟩)) (.pointer (some ⟨g, off, none⟩))
  | sliceNil (c : Nat) : VRel ρ (.slice none 0 c) (.slice none 0 0)
  | slice {b off len c cap : Nat} {pl : Place} (hb : b < ρ.next) (hm : ρ.m b = some pl) (hl : len ≤ cap) (hc : CapOk pl (pl.base + off) cap c) :
      VRel ρ (.slice (some ⟨b, off, none⟩) len c) (.slice (some ⟨pl.c, pl.base + off, none⟩) len cap)
  | sliceOut {b off c : Nat} {a : Addr} (hb : b < ρ.next) (hc : c ≤ 2) : VRel ρ (.slice (some ⟨b, off, none⟩) 0 c) (.slice (some a) 0 0)
  | nilFunc : VRel ρ .nilFunc .nilFunc
  | nilIface : VRel ρ .nilIface .nilIface
  | mapNil : VRel ρ (.map none) (.map none)
  | map {b : Nat} {pl : Place} (hb : b < ρ.next) (hm : ρ.m b = some pl) : VRel ρ (.map (some b)) (.map (some pl.c))
  | yield {b : Nat} {pl : Place} (hb : b < ρ.next) (hm : ρ.m b = some pl) : VRel ρ (.func (.yield b) #[] #[]) (.func (.yield pl.c) #[] #[])
  | iface {t : TypeId} {x y : Value} (h : VRel ρ x y) : VRel ρ (.iface t x) (.iface t y)
  | func {f : FuncId} {a c a' c' : Array Value} (ha : a.size = a'.size) (hc : c.size = c'.size)
      (h : ∀ (i : Nat) x y, a[i]? = some x → a'[i]? = some y → VRel ρ x y) (h' : ∀ (i : Nat) x y, c[i]? = some x → c'[i]? = some y → VRel ρ x y) : VRel ρ (.func (.func f) a c) (.func (.func f) a' c')
  | agg {a a' : Array Value} (ha : a.size = a'.size) (h : ∀ (i : Nat) x y, a[i]? = some x → a'[i]? = some y → VRel ρ x y) : VRel ρ (.agg a) (.agg a')
  | tuple {a a' : Array Value} (ha : a.size = a'.size) (h : ∀ (i : Nat) x y, a[i]? = some x → a'[i]? = some y → VRel ρ x y) : VRel ρ (.tuple a) (.tuple a')

/-- A later renaming: the old blocks lie where they lay. -/
def Ren.le (ρ ρ' : Ren) : Prop := ρ.next ≤ ρ'.next ∧ ∀ b, b < ρ.next → ρ'.m b = ρ.m b
theorem Ren.le_refl (ρ : Ren) : ρ.le ρ := ⟨Nat.le_refl _, fun _ _ => rfl⟩
theorem Ren.le_trans {a b c : Ren} (h : a.le b) (k : b.le c) : a.le c := ⟨Nat.le_trans h.1 k.1, fun x hx => (k.2 x (Nat.lt_of_lt_of_le hx h.1)).trans (h.2 x hx)⟩
theorem VRel.mono {ρ ρ' : Ren} (hle : ρ.le ρ') {v v' : Value} (h : VRel ρ v v') : VRel ρ' v v' := by
  induction h with
  | odd h => exact .odd h
  | bool b => exact .bool b
  | int k n => exact .int k n
  | float k n => exact .float k n
  | string s => exact .string s
  | ptrNil => exact .ptrNil
  | ptr hb hm => exact .ptr (Nat.lt_of_lt_of_le hb hle.1) ((hle.2 _ hb).trans hm)
  | glob => exact .glob
  | sliceNil c => exact .sliceNil c
  | slice hb hm hl hc => exact .slice (Nat.lt_of_lt_of_le hb hle.1) ((hle.2 _ hb).trans hm) hl hc
  | sliceOut hb hc => exact .sliceOut (Nat.lt_of_lt_of_le hb hle.1) hc
  | nilFunc => exact .nilFunc
  | nilIface => exact .nilIface
  | mapNil => exact .mapNil
  | map hb hm => exact .map (Nat.lt_of_lt_of_le hb hle.1) ((hle.2 _ hb).trans hm)
  | yield hb hm => exact .yield (Nat.lt_of_lt_of_le hb hle.1) ((hle.2 _ hb).trans hm)
  | iface _ ih => exact .iface ih
  | func ha hc _ _ ih ih' => exact .func ha hc ih ih'
  | agg ha _ ih => exact .agg ha ih
  | tuple ha _ ih => exact .tuple ha ih

/-- Lists of values. -/
def VList (ρ : Ren) (xs ys : List Value) : Prop := xs.length = ys.length ∧ ∀ (i : Nat) x y, xs[i]? = some x → ys[i]? = some y → VRel ρ x y
theorem VList.nil (ρ : Ren) : VList ρ [] [] := ⟨rfl, fun i x y h => by simp at h⟩
theorem VList.cons {ρ : Ren} {x y : Value} {xs ys : List Value} (h : VRel ρ x y) (hs : VList ρ xs ys) : VList ρ (x :: xs) (y :: ys) :=
  ⟨by simp [hs.1], fun i a b ha hb => by
    cases i with
    | zero => simp at ha hb; subst ha hb; exact h
    | succ i => exact hs.2 i a b (by simpa using ha) (by simpa using hb)⟩
theorem VList.cons_inv {ρ : Ren} {x : Value} {xs ys : List Value} (h : VList ρ (x :: xs) ys) : ∃ y ys', ys = y :: ys' ∧ VRel ρ x y ∧ VList ρ xs ys' := by
  cases ys with
  | nil => simp [VList] at h
  | cons y ys => exact ⟨y, ys, rfl, h.2 0 x y rfl rfl, by simpa using h.1, fun i a b ha hb => h.2 (i + 1) a b (by simpa using ha) (by simpa using hb)⟩
theorem VList.nil_inv {ρ : Ren} {ys : List Value} (h : VList ρ [] ys) : ys = [] := by
  have := h.1; simp at this; exact List.eq_nil_of_length_eq_zero this.symm
theorem VList.mono {ρ ρ' : Ren} (hle : ρ.le ρ') {xs ys : List Value} (h : VList ρ xs ys) : VList ρ' xs ys := ⟨h.1, fun i x y hx hy => (h.2 i x y hx hy).mono hle⟩
theorem VList.append {ρ : Ren} {a b c d : List Value} (h : VList ρ a b) (k : VList ρ c d) : VList ρ (a ++ c) (b ++ d) := by
  refine ⟨by simp [h.1, k.1], fun i x y hx hy => ?_⟩
  by_cases hi : i < a.length
  · rw [List.getElem?_append_left hi] at hx
    rw [List.getElem?_append_left (by rw [← h.1]; exact hi)] at hy
    exact h.2 i x y hx hy
  · rw [List.getElem?_append_right (by omega)] at hx
    rw [List.getElem?_append_right (by rw [← h.1]; omega), ← h.1] at hy
    exact k.2 _ x y hx hy
theorem VList.get {ρ : Ren} {xs ys : List Value} (h : VList ρ xs ys) {i : Nat} {x : Value} (hx : xs[i]? = some x) : ∃ y, ys[i]? = some y ∧ VRel ρ x y := by
  have hi : i < xs.length := by
    rcases Nat.lt_or_ge i xs.length with h | h
    · exact h
    · rw [List.getElem?_eq_none h] at hx; cases hx
  have hj : i < ys.length := h.1 ▸ hi
  exact ⟨ys[i], List.getElem?_eq_getElem hj, h.2 i x _ hx (List.getElem?_eq_getElem hj)⟩

/-- A value of the world's that holds no address: it describes itself. -/
def plain : Value → Bool
  | .bool _ | .int _ _ | .float _ _ | .string _ | .pointer none | .nilFunc | .nilIface | .map none => true
  | .slice none n c => Nat.beq n 0 && Nat.beq c 0
  | .func (.func _) a c => Nat.beq a.size 0 && Nat.beq c.size 0
  | .tuple a => Nat.beq a.size 0
  | _ => false
theorem arr_nil {a : Array Value} (h : Nat.beq a.size 0 = true) : a = #[] := Array.eq_empty_of_size_eq_zero (Nat.eq_of_beq_eq_true h)
theorem VRel.of_plain (ρ : Ren) {v : Value} (h : plain v = true) : VRel ρ v v := by
  cases v with
  | bool b => exact .bool _
  | int k n => exact .int _ _
  | float k n => exact .float _ _
  | string s => exact .string _
  | nilFunc => exact .nilFunc
  | nilIface => exact .nilIface
  | pointer a => cases a <;> first | exact .ptrNil | cases h
  | map a => cases a <;> first | exact .mapNil | cases h
  | slice a n c =>
    cases a with
    | some a => cases h
    | none =>
      simp only [plain, Bool.and_eq_true] at h
      obtain rfl := Nat.eq_of_beq_eq_true h.1
      obtain rfl := Nat.eq_of_beq_eq_true h.2
      exact .sliceNil _
  | func f a c =>
    cases f with
    | func f =>
      simp only [plain, Bool.and_eq_true] at h
      obtain rfl := arr_nil h.1
      obtain rfl := arr_nil h.2
      exact .func rfl rfl (fun i x y hx => by simp at hx) (fun i x y hx => by simp at hx)
    | _ => cases h
  | tuple a =>
    obtain rfl := arr_nil h
    exact .tuple rfl (fun i x y hx => by simp at hx)
  | _ => cases h

/-- What a cell may hold. -/
def cellOk : Value → Bool
  | .agg _ | .tuple _ => false
  | _ => true
theorem cellOk_rel {ρ : Ren} {v v' : Value} (h : VRel ρ v v') : cellOk v' = cellOk v := by
  cases h with
  | odd h => cases v' <;> first | rfl | cases h
  | _ => rfl

/-- An abstract block at its place. -/
def CellsOk (P : Program) (ρ : Ren) (wr : Bool) (c : List Value) (elem : TypeId) (pl : Place) (w : World) : Prop :=
  ∃ cs fz, w.heap[pl.c]? = some (.cells cs elem fz) ∧ cs.size = pl.size ∧ (pl.esz = P.cellsOf elem ∧ pl.base % pl.esz = 0) ∧ pl.base + c.length ≤ cs.size ∧
    (wr = true → ∀ i, i < pl.size → ¬(fz.1 ≤ i ∧ i < fz.2)) ∧ ∀ i x, c[i]? = some x → ∃ y, cs[pl.base + i]? = some y ∧ VRel ρ x y

/-- The slots of a running frame. -/
structure EnvRel (ρ : Ren) (s : Env) (tm : Array Value) : Prop where
  size : s.size = tm.size
  get : ∀ i, VRel ρ (s.get i) (tm.getD i undef)
theorem EnvRel.mono {ρ ρ' : Ren} (hle : ρ.le ρ') {s : Env} {tm : Array Value} (h : EnvRel ρ s tm) : EnvRel ρ' s tm := ⟨h.size, fun i => (h.get i).mono hle⟩
/-- An abstract map at its place: its entries, in their order, with their stamps. -/
def MapOk (ρ : Ren) (es : List (Value × Value × Nat)) (clock : Nat) (pl : Place) (w : World) : Prop :=
  ∃ ms, w.heap[pl.c]? = some (.map ms clock) ∧ ms.size = es.length ∧ ∀ (i : Nat) x m, es[i]? = some x → ms[i]? = some m → VRel ρ x.1 m.key ∧ VRel ρ x.2.1 m.val ∧ m.born = x.2.2
def IterOk (ρ : Ren) (m : Option Nat) (since : Nat) (seen : List Nat) (last : Nat) (pl : Place) (w : World) : Prop :=
  ∃ m', w.heap[pl.c]? = some (.mapIter m' since seen.toArray last) ∧ pl.base = 0 ∧ VRel ρ (.map m) (.map m')
def LoopOk (ρ : Ren) (l : ALoop) (pl : Place) (w : World) : Prop :=
  ∃ tm d fn, w.heap[pl.c]? = some (.loop { state := l.state, pending := l.pending, fn := fn, tmps := tm, params := l.params, assign := l.assign, body := l.body, defers := d }) ∧ EnvRel ρ l.s tm
def ObjOk (P : Program) (ρ : Ren) (wr : Bool) (o : AObj) (pl : Place) (w : World) : Prop :=
  match o with
  | .cells c t => CellsOk P ρ wr c t pl w
  | .map es q => MapOk ρ es q pl w
  | .iter m since seen last => IterOk ρ m since seen last pl w
  | .siter s pos => w.heap[pl.c]? = some (.stringIter s pos) ∧ pl.base = 0
  | .tab c => ∃ t, CellsOk P ρ false c t { pl with esz := P.cellsOf t } w
  | .loop l => LoopOk ρ l pl w

structure Rel (P : Program) (ρ : Ren) (h : AHeap) (w : World) : Prop where
  next : ρ.next = h.next
  ro : h.ro ≤ h.next
  dom : ∀ b o, h.get b = some o → b < h.next
  ok : ∀ b o, h.get b = some o → ∃ pl, ρ.m b = some pl ∧ ObjOk P ρ (decide (h.ro ≤ b)) o pl w
  inj : ∀ b1 b2 o1 o2 p1 p2, h.get b1 = some o1 → h.get b2 = some o2 → ρ.m b1 = some p1 → ρ.m b2 = some p2 → p1.c = p2.c → b1 = b2
  gro : P.globals.size ≤ h.ro
  glob : ∀ b pl, b < P.globals.size → ρ.m b = some pl → pl.c = b ∧ pl.base = 0

/-- May the world's block c be written, by what the abstract heap says? -/
def Mine (ρ : Ren) (h : AHeap) (c : Nat) : Prop := ∃ b o pl, h.get b = some o ∧ h.ro ≤ b ∧ ρ.m b = some pl ∧ pl.c = c

/-- From a heap and a world to later ones: what was there and is not ours is as it was. -/
structure Step (P : Program) (ρ : Ren) (h : AHeap) (w : World) (ρ' : Ren) (h' : AHeap) (w' : World) : Prop where
  le : ρ.le ρ'
  rel : Rel P ρ' h' w'
  ro : h'.ro = h.ro
  os : w'.os = w.os
  tape : w'.tape = w.tape
  output : w'.output = w.output
  size : w.heap.size ≤ w'.heap.size
  frame : ∀ c, c < w.heap.size → ¬ Mine ρ h c → w'.heap[c]? = w.heap[c]?
  img : ∀ c, c < w.heap.size → Mine ρ' h' c → Mine ρ h c

theorem Step.refl {P : Program} {ρ : Ren} {h : AHeap} {w : World} (hr : Rel P ρ h w) : Step P ρ h w ρ h w :=
  ⟨Ren.le_refl _, hr, rfl, rfl, rfl, rfl, Nat.le_refl _, fun _ _ _ => rfl, fun _ _ h => h⟩
theorem Step.trans {P : Program} {ρ ρ' ρ'' : Ren} {h h' h'' : AHeap} {w w' w'' : World} (a : Step P ρ h w ρ' h' w') (b : Step P ρ' h' w' ρ'' h'' w'') :
    Step P ρ h w ρ'' h'' w'' :=
  ⟨Ren.le_trans a.le b.le, b.rel, b.ro.trans a.ro, b.os.trans a.os, b.tape.trans a.tape, b.output.trans a.output, Nat.le_trans a.size b.size,
    fun c hc hn => (b.frame c (Nat.lt_of_lt_of_le hc a.size) (fun hm => hn (a.img c hc hm))).trans (a.frame c hc hn),
    fun c hc hm => a.img c hc (b.img c (Nat.lt_of_lt_of_le hc a.size) hm)⟩

/-- A slot written, if there is one. -/
def putTm (tm : Array Value) (d : Option Nat) (v : Value) : Array Value :=
  match d with
  | some d => tm.setIfInBounds d v
  | none => tm
theorem EnvRel.put {ρ : Ren} {s s' : Env} {tm : Array Value} {d : Option Nat} {v v' : Value} (h : EnvRel ρ s tm) (hv : VRel ρ v v') (hp : s.put d v = some s') :
    EnvRel ρ s' (putTm tm d v') := by
  cases d with
  | none => simp only [Env.put, Option.some.injEq] at hp; subst hp; exact h
  | some d =>
    simp only [Env.put] at hp
    cases hb : Nat.blt d s.size with
    | false => rw [hb] at hp; cases hp
    | true =>
      rw [hb] at hp
      simp only [cond_true, Option.some.injEq] at hp
      subst hp
      have hd : d < s.size := by simpa [Nat.blt_eq] using hb
      refine ⟨by simp [putTm, h.size], fun i => ?_⟩
      rw [Env.get_set]
      simp only [putTm]
      by_cases e : i = d
      · subst e
        rw [if_pos rfl]
        have : (tm.setIfInBounds i v').getD i undef = v' := by
          simp [Array.getD_eq_getD_getElem?, ← h.size, hd]
        rw [this]; exact hv
      · rw [if_neg e]
        have : (tm.setIfInBounds d v').getD i undef = tm.getD i undef := by
          simp [Array.getD_eq_getD_getElem?, Ne.symm e]
        rw [this]; exact h.get i

end
end Go.Ai
