/- A part of the proof. -/
import Derived.Calls
import Derived.Below
import Derived.Laws.Sem
import Derived.Laws.Cells
import Derived.Laws.Entries
set_option linter.unusedVariables false
set_option linter.unusedSimpArgs false
namespace Go.Ai
noncomputable section
inductive Tr (α : Type) where
  | e
  | n (v : Option α) (l r : Tr α)
namespace Tr
variable {α : Type}
def get (t : Tr α) (k : Nat) : Option α :=
  @Tr.rec α (fun _ => Nat -> Option α) (fun _ => none)
    (fun v _ _ gl gr k => @Bool.rec (fun _ => Option α) (@Bool.rec (fun _ => Option α) (gr (Nat.sub (Nat.div k 2) 1)) (gl (Nat.div k 2)) (Nat.beq (Nat.mod k 2) 1)) v (Nat.beq k 0)) t k
def zh0 (f : Nat) : Tr α -> Nat -> Option α -> Tr α :=
  @Nat.rec (fun _ => Tr α -> Nat -> Option α -> Tr α) (fun t _ _ => t)
    (fun _ ih t k x => @Tr.rec α (fun _ => Tr α)
      (@Bool.rec (fun _ => Tr α) (@Bool.rec (fun _ => Tr α) (.n none .e (ih .e (Nat.sub (Nat.div k 2) 1) x)) (.n none (ih .e (Nat.div k 2) x) .e) (Nat.beq (Nat.mod k 2) 1)) (.n x .e .e) (Nat.beq k 0))
      (fun v l r _ _ => @Bool.rec (fun _ => Tr α) (@Bool.rec (fun _ => Tr α) (.n v l (ih r (Nat.sub (Nat.div k 2) 1) x)) (.n v (ih l (Nat.div k 2) x) r) (Nat.beq (Nat.mod k 2) 1)) (.n x l r) (Nat.beq k 0)) t) f
def set (t : Tr α) (k : Nat) (x : Option α) : Tr α := zh0 (Nat.succ k) t k x
@[simp] theorem zl0 (k : Nat) : (Tr.e : Tr α).get k = none := rfl
theorem beq_false {a b : Nat} (h : a ≠ b) : Nat.beq a b = false := by
  cases e : Nat.beq a b
  . rfl
  . exact absurd (Nat.eq_of_beq_eq_true e) h
theorem beq_true {a b : Nat} (h : a = b) : Nat.beq a b = true := by subst h; exact Nat.beq_refl a
theorem zcg (v : Option α) (l r : Tr α) (k : Nat) : (Tr.n v l r).get k = if k = 0 then v else if k % 2 = 1 then l.get (k / 2) else r.get (k / 2 - 1) := by
  show @Bool.rec (fun _ => Option α) (@Bool.rec (fun _ => Option α) (r.get (k / 2 - 1)) (l.get (k / 2)) (Nat.beq (k % 2) 1)) v (Nat.beq k 0) = _
  by_cases h : k = 0
  . rw [beq_true h, if_pos h]
  . rw [beq_false h, if_neg h]
    by_cases h2 : k % 2 = 1
    . rw [beq_true h2, if_pos h2]
    . rw [beq_false h2, if_neg h2]
theorem zmq (f : Nat) (k : Nat) (x : Option α) : zh0 (f + 1) .e k x = zh0 (f + 1) (.n none .e .e) k x := rfl
theorem znc (f : Nat) (v : Option α) (l r : Tr α) (k : Nat) (x : Option α) :
    zh0 (f + 1) (.n v l r) k x = if k = 0 then .n x l r else if k % 2 = 1 then .n v (zh0 f l (k / 2) x) r else .n v l (zh0 f r (k / 2 - 1) x) := by
  show @Bool.rec (fun _ => Tr α) (@Bool.rec (fun _ => Tr α) (.n v l (zh0 f r (k / 2 - 1) x)) (.n v (zh0 f l (k / 2) x) r) (Nat.beq (k % 2) 1)) (.n x l r) (Nat.beq k 0) = _
  by_cases h : k = 0
  . rw [beq_true h, if_pos h]
  . rw [beq_false h, if_neg h]
    by_cases h2 : k % 2 = 1
    . rw [beq_true h2, if_pos h2]
    . rw [beq_false h2, if_neg h2]
theorem ziV (f : Nat) : ∀ (t : Tr α) (k j : Nat) (x : Option α), k < f -> (zh0 f t k x).get j = if j = k then x else t.get j := by
  induction f with
  | zero => intro t k j x h; omega
  | succ f ih =>
    have node : ∀ (v : Option α) (l r : Tr α) (k j : Nat) (x : Option α), k < f + 1 -> (zh0 (f + 1) (.n v l r) k x).get j = if j = k then x else (Tr.n v l r).get j := by
      intro v l r k j x h
      rw [znc]
      by_cases h0 : k = 0
      . subst h0
        rw [if_pos rfl, zcg, zcg]
        by_cases hj : j = 0
        . simp [hj]
        . simp [hj]
      . rw [if_neg h0]
        by_cases h1 : k % 2 = 1
        . rw [if_pos h1, zcg, zcg, ih _ _ _ _ (by omega)]
          by_cases hj : j = 0
          . subst hj; simp [Ne.symm h0]
          . rw [if_neg hj, if_neg hj]
            by_cases hj2 : j % 2 = 1
            . rw [if_pos hj2, if_pos hj2]
              by_cases e : j = k
              . subst e; simp
              . rw [if_neg e, if_neg (by omega)]
            . rw [if_neg hj2, if_neg hj2, if_neg (by intro e; subst e; exact hj2 h1)]
        . rw [if_neg h1, zcg, zcg, ih _ _ _ _ (by omega)]
          by_cases hj : j = 0
          . subst hj; simp [Ne.symm h0]
          . rw [if_neg hj, if_neg hj]
            by_cases hj2 : j % 2 = 1
            . rw [if_pos hj2, if_pos hj2, if_neg (by intro e; subst e; exact h1 hj2)]
            . rw [if_neg hj2, if_neg hj2]
              by_cases e : j = k
              . subst e; simp
              . rw [if_neg e, if_neg (by omega)]
    intro t k j x h
    cases t with
    | e =>
      rw [zmq, node _ _ _ _ _ _ h]
      by_cases e : j = k
      . simp [e]
      . simp only [if_neg e, zcg, zl0]; split <;> (try split) <;> rfl
    | n v l r => exact node v l r k j x h
theorem zP (t : Tr α) (k j : Nat) (x : Option α) : (t.set k x).get j = if j = k then x else t.get j :=
  ziV (k + 1) t k j x (Nat.lt_succ_self k)
def ofList (t : Tr α) (i : Nat) : List α -> Tr α
  | [] => t
  | a :: l => ofList (t.set i (some a)) (i + 1) l
theorem zeA (l : List α) : ∀ (t : Tr α) (i j : Nat), (ofList t i l).get j = if i <= j /\ j < i + l.length then l[j - i]? else t.get j := by
  induction l with
  | nil => intro t i j; simp [ofList]; omega
  | cons a l ih =>
    intro t i j
    rw [ofList, ih, zP]
    by_cases h : j = i
    . subst h
      rw [if_neg (by omega), if_pos rfl, if_pos (by simp), Nat.sub_self]; rfl
    . by_cases h2 : i + 1 <= j /\ j < i + 1 + l.length
      . rw [if_pos h2, if_pos (by simp; omega)]
        have : j - i = (j - (i + 1)) + 1 := by omega
        rw [this]; rfl
      . rw [if_neg h2, if_neg h, if_neg (by simp; omega)]
end Tr
structure Env where
  t : Tr Value
  size : Nat
def Env.get (s : Env) (i : Nat) : Value := @Option.rec Value (fun _ => Value) undef (fun v => v) (s.t.get i)
theorem Env.get_eq (s : Env) (i : Nat) : s.get i = (s.t.get i).getD undef := by
  unfold Env.get
  cases s.t.get i <;> rfl
def Env.set (s : Env) (i : Nat) (v : Value) : Env := @Env.rec (fun _ => Env) (fun t n => ⟨t.set i (some v), n⟩) s
theorem Env.zn4 (s : Env) (i : Nat) (v : Value) : (s.set i v).t = s.t.set i (some v) := rfl
def Env.put (s : Env) (d : Option Nat) (v : Value) : Option Env :=
  match d with
  | none => some s
  | some d => cond (Nat.blt d s.size) (some (s.set d v)) none
theorem Env.zP (s : Env) (i j : Nat) (v : Value) : (s.set i v).get j = if j = i then v else s.get j := by
  simp only [Env.get_eq, Env.zn4, Tr.zP]; split <;> rfl
@[simp] theorem Env.size_set (s : Env) (i : Nat) (v : Value) : (s.set i v).size = s.size := rfl
def zhb {α : Type} (n : Nat) (f : Nat -> α) : α := @Nat.rec (fun _ => α) (f 0) (fun m _ => f (Nat.succ m)) n
theorem zed {α : Type} (n : Nat) (f : Nat -> α) : zhb n f = f n := by cases n <;> rfl
def Env.enter (args : List Value) (n : Nat) : Env := zhb (max args.length n) fun k => { t := Tr.ofList .e 0 args, size := k }
theorem Env.Kp (args : List Value) (n : Nat) : Env.enter args n = { t := Tr.ofList .e 0 args, size := max args.length n } := zed _ _
theorem Env.zgP (args : List Value) (n j : Nat) : (Env.enter args n).get j = (args[j]?).getD undef := by
  simp only [Env.get_eq, Env.Kp, Tr.zeA, Tr.zl0]
  by_cases h : j < args.length
  . rw [if_pos (by omega)]; rfl
  . rw [if_neg (by omega), List.getElem?_eq_none (by omega)]
structure u5 where
  state : LoopState
  pending : Option Code
  s : Env
  params : Array Tmp
  assign : Code
  body : Code
inductive wB where
  | cells (c : List Value) (elem : TypeId)
  | map (es : List (Value × Value × Nat)) (clock : Nat)
  | iter (m : Option Nat) (since : Nat) (seen : List Nat) (last : Nat)
  | siter (s : ByteArray) (pos : Nat)
  | tab (c : List Value)
  | loop (l : u5)
structure za where
  t : Tr wB
  next : Nat
  ro : Nat
def za.get (h : za) (b : Nat) : Option wB := h.t.get b
def za.set (h : za) (b : Nat) (o : Option wB) : za := @za.rec (fun _ => za) (fun t n r => ⟨t.set b o, n, r⟩) h
def za.push (h : za) (o : wB) : za := @za.rec (fun _ => za) (fun t n r => ⟨t.set n (some o), Nat.succ n, r⟩) h
theorem za.zP (h : za) (b c : Nat) (o : Option wB) : (h.set b o).get c = if c = b then o else h.get c := Tr.zP _ _ _ _
theorem za.y6 (h : za) (c : Nat) (o : wB) : (h.push o).get c = if c = h.next then some o else h.get c := Tr.zP _ _ _ _
@[simp] theorem za.YL (h : za) (o : wB) : (h.push o).next = h.next + 1 := rfl
def za.lock (h : za) : za := @za.rec (fun _ => za) (fun t n _ => ⟨t, n, n⟩) h
structure Place where
  c : Nat
  base : Nat
  size : Nat
  esz : Nat
structure Ren where
  next : Nat
  m : Nat -> Option Place
def znQ (pl : Place) (off cap : Nat) (c : Nat) : Prop := c ≠ 0 -> off + cap * pl.esz <= pl.size /\ ∀ k, c = k + 2 -> cap = k
def bot : Value := .complex .f32 0 0
def odd : Value -> Bool
  | .bool _ | .agg _ | .tuple _ => false
  | _ => true
inductive z9 (ρ : Ren) : Value -> Value -> Prop
  | odd {v : Value} (h : odd v = true) : z9 ρ bot v
  | bool (b : Bool) : z9 ρ (.bool b) (.bool b)
  | int (k : IntKind) (n : Int) : z9 ρ (.int k n) (.int k n)
  | float (k : FloatKind) (n : Nat) : z9 ρ (.float k n) (.float k n)
  | string (s : ByteArray) : z9 ρ (.string s) (.string s)
  | ptrNil : z9 ρ (.pointer none) (.pointer none)
  | ptr {b off : Nat} {pl : Place} (hb : b < ρ.next) (hm : ρ.m b = some pl) : z9 ρ (.pointer (some ⟨b, off, none⟩)) (.pointer (some ⟨pl.c, pl.base + off, none⟩))
  | Yt {g off : Nat} : z9 ρ (.pointer (some ⟨g, off, some 0⟩)) (.pointer (some ⟨g, off, none⟩))
  | sliceNil (c : Nat) : z9 ρ (.slice none 0 c) (.slice none 0 0)
  | slice {b off len c cap : Nat} {pl : Place} (hb : b < ρ.next) (hm : ρ.m b = some pl) (hl : len <= cap) (hc : znQ pl (pl.base + off) cap c) :
      z9 ρ (.slice (some ⟨b, off, none⟩) len c) (.slice (some ⟨pl.c, pl.base + off, none⟩) len cap)
  | sliceOut {b off c : Nat} {a : Addr} (hb : b < ρ.next) (hc : c <= 2) : z9 ρ (.slice (some ⟨b, off, none⟩) 0 c) (.slice (some a) 0 0)
  | nilFunc : z9 ρ .nilFunc .nilFunc
  | nilIface : z9 ρ .nilIface .nilIface
  | mapNil : z9 ρ (.map none) (.map none)
  | map {b : Nat} {pl : Place} (hb : b < ρ.next) (hm : ρ.m b = some pl) : z9 ρ (.map (some b)) (.map (some pl.c))
  | yield {b : Nat} {pl : Place} (hb : b < ρ.next) (hm : ρ.m b = some pl) : z9 ρ (.func (.yield b) #[] #[]) (.func (.yield pl.c) #[] #[])
  | iface {t : TypeId} {x y : Value} (h : z9 ρ x y) : z9 ρ (.iface t x) (.iface t y)
  | func {f : FuncId} {a c a' c' : Array Value} (ha : a.size = a'.size) (hc : c.size = c'.size)
      (h : ∀ (i : Nat) x y, a[i]? = some x -> a'[i]? = some y -> z9 ρ x y) (h' : ∀ (i : Nat) x y, c[i]? = some x -> c'[i]? = some y -> z9 ρ x y) : z9 ρ (.func (.func f) a c) (.func (.func f) a' c')
  | agg {a a' : Array Value} (ha : a.size = a'.size) (h : ∀ (i : Nat) x y, a[i]? = some x -> a'[i]? = some y -> z9 ρ x y) : z9 ρ (.agg a) (.agg a')
  | tuple {a a' : Array Value} (ha : a.size = a'.size) (h : ∀ (i : Nat) x y, a[i]? = some x -> a'[i]? = some y -> z9 ρ x y) : z9 ρ (.tuple a) (.tuple a')
def Ren.le (ρ ρ' : Ren) : Prop := ρ.next <= ρ'.next /\ ∀ b, b < ρ.next -> ρ'.m b = ρ.m b
theorem Ren.le_refl (ρ : Ren) : ρ.le ρ := ⟨Nat.le_refl _, fun _ _ => rfl⟩
theorem Ren.le_trans {a b c : Ren} (h : a.le b) (k : b.le c) : a.le c := ⟨Nat.le_trans h.1 k.1, fun x hx => (k.2 x (Nat.lt_of_lt_of_le hx h.1)).trans (h.2 x hx)⟩
theorem z9.mono {ρ ρ' : Ren} (hle : ρ.le ρ') {v v' : Value} (h : z9 ρ v v') : z9 ρ' v v' := by
  induction h with
  | odd h => exact .odd h
  | bool b => exact .bool b
  | int k n => exact .int k n
  | float k n => exact .float k n
  | string s => exact .string s
  | ptrNil => exact .ptrNil
  | ptr hb hm => exact .ptr (Nat.lt_of_lt_of_le hb hle.1) ((hle.2 _ hb).trans hm)
  | Yt => exact .Yt
  | sliceNil c => exact .sliceNil c
  | slice hb hm hl hc => exact .slice (Nat.lt_of_lt_of_le hb hle.1) ((hle.2 _ hb).trans hm) hl hc
  | sliceOut hb hc => exact .sliceOut (Nat.lt_of_lt_of_le hb hle.1) hc
  | nilFunc => exact .nilFunc
  | nilIface => exact .nilIface
  | mapNil => exact .mapNil
  | map hb hm => exact .map (Nat.lt_of_lt_of_le hb hle.1) ((hle.2 _ hb).trans hm)
  | yield hb hm => exact .yield (Nat.lt_of_lt_of_le hb hle.1) ((hle.2 _ hb).trans hm)
  | iface _ ih => exact .iface ih
  | func ha hc _ _ ih ih' => exact .func ha hc ih ih'
  | agg ha _ ih => exact .agg ha ih
  | tuple ha _ ih => exact .tuple ha ih
def yQ (ρ : Ren) (xs ys : List Value) : Prop := xs.length = ys.length /\ ∀ (i : Nat) x y, xs[i]? = some x -> ys[i]? = some y -> z9 ρ x y
theorem yQ.nil (ρ : Ren) : yQ ρ [] [] := ⟨rfl, fun i x y h => by simp at h⟩
theorem yQ.cons {ρ : Ren} {x y : Value} {xs ys : List Value} (h : z9 ρ x y) (hs : yQ ρ xs ys) : yQ ρ (x :: xs) (y :: ys) :=
  ⟨by simp [hs.1], fun i a b ha hb => by
    cases i with
    | zero => simp at ha hb; subst ha hb; exact h
    | succ i => exact hs.2 i a b (by simpa using ha) (by simpa using hb)⟩
theorem yQ.cons_inv {ρ : Ren} {x : Value} {xs ys : List Value} (h : yQ ρ (x :: xs) ys) : ∃ y ys', ys = y :: ys' /\ z9 ρ x y /\ yQ ρ xs ys' := by
  cases ys with
  | nil => simp [yQ] at h
  | cons y ys => exact ⟨y, ys, rfl, h.2 0 x y rfl rfl, by simpa using h.1, fun i a b ha hb => h.2 (i + 1) a b (by simpa using ha) (by simpa using hb)⟩
theorem yQ.xJ {ρ : Ren} {ys : List Value} (h : yQ ρ [] ys) : ys = [] := by
  have := h.1; simp at this; exact List.eq_nil_of_length_eq_zero this.symm
theorem yQ.mono {ρ ρ' : Ren} (hle : ρ.le ρ') {xs ys : List Value} (h : yQ ρ xs ys) : yQ ρ' xs ys := ⟨h.1, fun i x y hx hy => (h.2 i x y hx hy).mono hle⟩
theorem yQ.append {ρ : Ren} {a b c d : List Value} (h : yQ ρ a b) (k : yQ ρ c d) : yQ ρ (a ++ c) (b ++ d) := by
  refine ⟨by simp [h.1, k.1], fun i x y hx hy => ?_⟩
  by_cases hi : i < a.length
  . rw [List.getElem?_append_left hi] at hx
    rw [List.getElem?_append_left (by rw [<- h.1]; exact hi)] at hy
    exact h.2 i x y hx hy
  . rw [List.getElem?_append_right (by omega)] at hx
    rw [List.getElem?_append_right (by rw [<- h.1]; omega), <- h.1] at hy
    exact k.2 _ x y hx hy
theorem yQ.get {ρ : Ren} {xs ys : List Value} (h : yQ ρ xs ys) {i : Nat} {x : Value} (hx : xs[i]? = some x) : ∃ y, ys[i]? = some y /\ z9 ρ x y := by
  have hi : i < xs.length := by
    rcases Nat.lt_or_ge i xs.length with h | h
    . exact h
    . rw [List.getElem?_eq_none h] at hx; cases hx
  have hj : i < ys.length := h.1 ▸ hi
  exact ⟨ys[i], List.getElem?_eq_getElem hj, h.2 i x _ hx (List.getElem?_eq_getElem hj)⟩
def plain : Value -> Bool
  | .bool _ | .int _ _ | .float _ _ | .string _ | .pointer none | .nilFunc | .nilIface | .map none => true
  | .slice none n c => Nat.beq n 0 && Nat.beq c 0
  | .func (.func _) a c => Nat.beq a.size 0 && Nat.beq c.size 0
  | .tuple a => Nat.beq a.size 0
  | _ => false
theorem jR {a : Array Value} (h : Nat.beq a.size 0 = true) : a = #[] := Array.eq_empty_of_size_eq_zero (Nat.eq_of_beq_eq_true h)
theorem z9.vI (ρ : Ren) {v : Value} (h : plain v = true) : z9 ρ v v := by
  cases v with
  | bool b => exact .bool _
  | int k n => exact .int _ _
  | float k n => exact .float _ _
  | string s => exact .string _
  | nilFunc => exact .nilFunc
  | nilIface => exact .nilIface
  | pointer a => cases a <;> first | exact .ptrNil | cases h
  | map a => cases a <;> first | exact .mapNil | cases h
  | slice a n c =>
    cases a with
    | some a => cases h
    | none =>
      simp only [plain, Bool.and_eq_true] at h
      obtain rfl := Nat.eq_of_beq_eq_true h.1
      obtain rfl := Nat.eq_of_beq_eq_true h.2
      exact .sliceNil _
  | func f a c =>
    cases f with
    | func f =>
      simp only [plain, Bool.and_eq_true] at h
      obtain rfl := jR h.1
      obtain rfl := jR h.2
      exact .func rfl rfl (fun i x y hx => by simp at hx) (fun i x y hx => by simp at hx)
    | _ => cases h
  | tuple a =>
    obtain rfl := jR h
    exact .tuple rfl (fun i x y hx => by simp at hx)
  | _ => cases h
def cellOk : Value -> Bool
  | .agg _ | .tuple _ => false
  | _ => true
theorem Qk {ρ : Ren} {v v' : Value} (h : z9 ρ v v') : cellOk v' = cellOk v := by
  cases h with
  | odd h => cases v' <;> first | rfl | cases h
  | _ => rfl
def yn (P : Program) (ρ : Ren) (wr : Bool) (c : List Value) (elem : TypeId) (pl : Place) (w : World) : Prop :=
  ∃ cs fz, w.heap[pl.c]? = some (.cells cs elem fz) /\ cs.size = pl.size /\ (pl.esz = P.cellsOf elem /\ pl.base % pl.esz = 0) /\ pl.base + c.length <= cs.size /\
    (wr = true -> ∀ i, i < pl.size -> ¬(fz.1 <= i /\ i < fz.2)) /\ ∀ i x, c[i]? = some x -> ∃ y, cs[pl.base + i]? = some y /\ z9 ρ x y
structure xe (ρ : Ren) (s : Env) (tm : Array Value) : Prop where
  size : s.size = tm.size
  get : ∀ i, z9 ρ (s.get i) (tm.getD i undef)
theorem xe.mono {ρ ρ' : Ren} (hle : ρ.le ρ') {s : Env} {tm : Array Value} (h : xe ρ s tm) : xe ρ' s tm := ⟨h.size, fun i => (h.get i).mono hle⟩
def zor (ρ : Ren) (es : List (Value × Value × Nat)) (clock : Nat) (pl : Place) (w : World) : Prop :=
  ∃ ms, w.heap[pl.c]? = some (.map ms clock) /\ ms.size = es.length /\ ∀ (i : Nat) x m, es[i]? = some x -> ms[i]? = some m -> z9 ρ x.1 m.key /\ z9 ρ x.2.1 m.val /\ m.born = x.2.2
def zlS (ρ : Ren) (m : Option Nat) (since : Nat) (seen : List Nat) (last : Nat) (pl : Place) (w : World) : Prop :=
  ∃ m', w.heap[pl.c]? = some (.mapIter m' since seen.toArray last) /\ pl.base = 0 /\ z9 ρ (.map m) (.map m')
def zmJ (ρ : Ren) (l : u5) (pl : Place) (w : World) : Prop :=
  ∃ tm d fn, w.heap[pl.c]? = some (.loop { state := l.state, pending := l.pending, fn := fn, tmps := tm, params := l.params, assign := l.assign, body := l.body, defers := d }) /\ xe ρ l.s tm
def xX (P : Program) (ρ : Ren) (wr : Bool) (o : wB) (pl : Place) (w : World) : Prop :=
  match o with
  | .cells c t => yn P ρ wr c t pl w
  | .map es q => zor ρ es q pl w
  | .iter m since seen last => zlS ρ m since seen last pl w
  | .siter s pos => w.heap[pl.c]? = some (.stringIter s pos) /\ pl.base = 0
  | .tab c => ∃ t, yn P ρ false c t { pl with esz := P.cellsOf t } w
  | .loop l => zmJ ρ l pl w
structure Rel (P : Program) (ρ : Ren) (h : za) (w : World) : Prop where
  next : ρ.next = h.next
  ro : h.ro <= h.next
  dom : ∀ b o, h.get b = some o -> b < h.next
  ok : ∀ b o, h.get b = some o -> ∃ pl, ρ.m b = some pl /\ xX P ρ (decide (h.ro <= b)) o pl w
  inj : ∀ b1 b2 o1 o2 p1 p2, h.get b1 = some o1 -> h.get b2 = some o2 -> ρ.m b1 = some p1 -> ρ.m b2 = some p2 -> p1.c = p2.c -> b1 = b2
  gro : P.globals.size <= h.ro
  Yt : ∀ b pl, b < P.globals.size -> ρ.m b = some pl -> pl.c = b /\ pl.base = 0
def zdP (ρ : Ren) (h : za) (c : Nat) : Prop := ∃ b o pl, h.get b = some o /\ h.ro <= b /\ ρ.m b = some pl /\ pl.c = c
structure Step (P : Program) (ρ : Ren) (h : za) (w : World) (ρ' : Ren) (h' : za) (w' : World) : Prop where
  le : ρ.le ρ'
  rel : Rel P ρ' h' w'
  ro : h'.ro = h.ro
  os : w'.os = w.os
  tape : w'.tape = w.tape
  output : w'.output = w.output
  size : w.heap.size <= w'.heap.size
  frame : ∀ c, c < w.heap.size -> ¬ zdP ρ h c -> w'.heap[c]? = w.heap[c]?
  img : ∀ c, c < w.heap.size -> zdP ρ' h' c -> zdP ρ h c
theorem Step.refl {P : Program} {ρ : Ren} {h : za} {w : World} (hr : Rel P ρ h w) : Step P ρ h w ρ h w :=
  ⟨Ren.le_refl _, hr, rfl, rfl, rfl, rfl, Nat.le_refl _, fun _ _ _ => rfl, fun _ _ h => h⟩
theorem Step.trans {P : Program} {ρ ρ' ρ'' : Ren} {h h' h'' : za} {w w' w'' : World} (a : Step P ρ h w ρ' h' w') (b : Step P ρ' h' w' ρ'' h'' w'') :
    Step P ρ h w ρ'' h'' w'' :=
  ⟨Ren.le_trans a.le b.le, b.rel, b.ro.trans a.ro, b.os.trans a.os, b.tape.trans a.tape, b.output.trans a.output, Nat.le_trans a.size b.size,
    fun c hc hn => (b.frame c (Nat.lt_of_lt_of_le hc a.size) (fun hm => hn (a.img c hc hm))).trans (a.frame c hc hn),
    fun c hc hm => a.img c hc (b.img c (Nat.lt_of_lt_of_le hc a.size) hm)⟩
def wV (tm : Array Value) (d : Option Nat) (v : Value) : Array Value :=
  match d with
  | some d => tm.setIfInBounds d v
  | none => tm
theorem xe.put {ρ : Ren} {s s' : Env} {tm : Array Value} {d : Option Nat} {v v' : Value} (h : xe ρ s tm) (hv : z9 ρ v v') (hp : s.put d v = some s') :
    xe ρ s' (wV tm d v') := by
  cases d with
  | none => simp only [Env.put, Option.some.injEq] at hp; subst hp; exact h
  | some d =>
    simp only [Env.put] at hp
    cases hb : Nat.blt d s.size with
    | false => rw [hb] at hp; cases hp
    | true =>
      rw [hb] at hp
      simp only [cond_true, Option.some.injEq] at hp
      subst hp
      have hd : d < s.size := by simpa [Nat.blt_eq] using hb
      refine ⟨by simp [wV, h.size], fun i => ?_⟩
      rw [Env.zP]
      simp only [wV]
      by_cases e : i = d
      . subst e
        rw [if_pos rfl]
        have : (tm.setIfInBounds i v').getD i undef = v' := by
          simp [Array.getD_eq_getD_getElem?, <- h.size, hd]
        rw [this]; exact hv
      . rw [if_neg e]
        have : (tm.setIfInBounds d v').getD i undef = tm.getD i undef := by
          simp [Array.getD_eq_getD_getElem?, Ne.symm e]
        rw [this]; exact h.get i
end
end Go.Ai
namespace Go.Ai
noncomputable section
variable {P : Program}
theorem Rel.place {ρ : Ren} {h : za} {w : World} (hr : Rel P ρ h w) {b : Nat} {c : List Value} {t : TypeId} {pl : Place} (hg : h.get b = some (.cells c t)) (hm : ρ.m b = some pl) :
    yn P ρ (decide (h.ro <= b)) c t pl w := by
  obtain ⟨pl', hm', hc⟩ := hr.ok b _ hg
  rw [hm] at hm'
  cases hm'
  exact hc
theorem Rel.cells {ρ : Ren} {h : za} {w : World} (hr : Rel P ρ h w) (b : Nat) (c : List Value) (t : TypeId) (hg : h.get b = some (.cells c t)) : ∃ pl, ρ.m b = some pl /\ yn P ρ (decide (h.ro <= b)) c t pl w := hr.ok b _ hg
theorem Rel.zls {ρ : Ren} {h : za} {w : World} (hr : Rel P ρ h w) {b : Nat} {o : wB} {pl : Place} (hg : h.get b = some o) (hm : ρ.m b = some pl) : xX P ρ (decide (h.ro <= b)) o pl w := by
  obtain ⟨pl', hm', hc⟩ := hr.ok b _ hg
  rw [hm] at hm'
  cases hm'
  exact hc
theorem yn.cell {ρ : Ren} {wr : Bool} {c : List Value} {t : TypeId} {pl : Place} {w : World} (hc : yn P ρ wr c t pl w) {i : Nat} {x : Value} (hx : c[i]? = some x) :
    ∃ y, w.cell? ⟨pl.c, pl.base + i, none⟩ = some y /\ z9 ρ x y := by
  obtain ⟨cs, fz, hb, _, _, _, _, hv⟩ := hc
  obtain ⟨y, hy, hxy⟩ := hv i x hx
  exact ⟨y, by simp [World.cell?, hb, hy], hxy⟩
theorem yn.zjf {ρ : Ren} {c : List Value} {t : TypeId} {pl : Place} {w : World} (hc : yn P ρ true c t pl w) {i : Nat} (hi : i < pl.size) :
    w.frozen? ⟨pl.c, i, none⟩ = false := by
  obtain ⟨cs, fz, hb, _, _, _, hf, _⟩ := hc
  have := hf rfl i hi
  obtain ⟨lo, hi'⟩ := fz
  simp [World.frozen?, hb] at this ⊢
  exact this
theorem yn.other {ρ : Ren} {wr : Bool} {c : List Value} {t : TypeId} {pl : Place} {w w' : World} (hc : yn P ρ wr c t pl w) (hb : w'.heap[pl.c]? = w.heap[pl.c]?) : yn P ρ wr c t pl w' := by
  obtain ⟨cs, fz, h1, h2⟩ := hc
  exact ⟨cs, fz, hb.trans h1, h2⟩
theorem yn.mono {ρ ρ' : Ren} (hle : ρ.le ρ') {wr : Bool} {c : List Value} {t : TypeId} {pl : Place} {w : World} (hc : yn P ρ wr c t pl w) : yn P ρ' wr c t pl w := by
  obtain ⟨cs, fz, h1, h2, h3, h4, h5, h6⟩ := hc
  exact ⟨cs, fz, h1, h2, h3, h4, h5, fun i x hx => by obtain ⟨y, hy, hv⟩ := h6 i x hx; exact ⟨y, hy, hv.mono hle⟩⟩
theorem yn.lt {ρ : Ren} {wr : Bool} {c : List Value} {t : TypeId} {pl : Place} {w : World} (hc : yn P ρ wr c t pl w) : pl.c < w.heap.size := by
  obtain ⟨cs, fz, h1, _⟩ := hc
  rcases Nat.lt_or_ge pl.c w.heap.size with h | h
  . exact h
  . rw [Array.getElem?_eq_none h] at h1; cases h1
theorem yn.zlL {ρ : Ren} {c : List Value} {t : TypeId} {pl : Place} {w : World} {wr wr' : Bool} (hw : wr' = true -> wr = true) (hc : yn P ρ wr c t pl w) : yn P ρ wr' c t pl w := by
  obtain ⟨cs, fz, h1, h2, h3, h4, h5, h6⟩ := hc
  exact ⟨cs, fz, h1, h2, h3, h4, fun e => h5 (hw e), h6⟩
theorem xX.other {ρ : Ren} {wr : Bool} {o : wB} {pl : Place} {w w' : World} (hc : xX P ρ wr o pl w) (hb : w'.heap[pl.c]? = w.heap[pl.c]?) : xX P ρ wr o pl w' := by
  cases o with
  | cells c t => exact yn.other hc hb
  | map es q => obtain ⟨ms, h1, h2⟩ := hc; exact ⟨ms, hb.trans h1, h2⟩
  | iter m a b c => obtain ⟨m', h1, h2⟩ := hc; exact ⟨m', hb.trans h1, h2⟩
  | siter s pos => exact ⟨hb.trans hc.1, hc.2⟩
  | tab c => obtain ⟨t, h1⟩ := hc; exact ⟨t, yn.other h1 hb⟩
  | loop l => obtain ⟨tm, d, fn, h1, h2⟩ := hc; exact ⟨tm, d, fn, hb.trans h1, h2⟩
theorem xX.mono {ρ ρ' : Ren} (hle : ρ.le ρ') {wr : Bool} {o : wB} {pl : Place} {w : World} (hc : xX P ρ wr o pl w) : xX P ρ' wr o pl w := by
  cases o with
  | cells c t => exact yn.mono hle hc
  | map es q => obtain ⟨ms, h1, h2, h3⟩ := hc; exact ⟨ms, h1, h2, fun i x m hx hm => ⟨(h3 i x m hx hm).1.mono hle, (h3 i x m hx hm).2.1.mono hle, (h3 i x m hx hm).2.2⟩⟩
  | iter m a b c => obtain ⟨m', h1, h0, h2⟩ := hc; exact ⟨m', h1, h0, h2.mono hle⟩
  | tab c => obtain ⟨t, h1⟩ := hc; exact ⟨t, yn.mono hle h1⟩
  | siter s pos => exact hc
  | loop l => obtain ⟨tm, d, fn, h1, h2⟩ := hc; exact ⟨tm, d, fn, h1, h2.mono hle⟩
theorem u3 {w : World} {r : Nat} {o : Obj} (h : w.heap[r]? = some o) : r < w.heap.size := by
  rcases Nat.lt_or_ge r w.heap.size with hl | hl
  . exact hl
  . rw [Array.getElem?_eq_none hl] at h; cases h
theorem xX.lt {ρ : Ren} {wr : Bool} {o : wB} {pl : Place} {w : World} (hc : xX P ρ wr o pl w) : pl.c < w.heap.size := by
  cases o with
  | cells c t => exact yn.lt hc
  | map es q => obtain ⟨ms, h1, _⟩ := hc; exact u3 h1
  | iter m a b c => obtain ⟨m', h1, _⟩ := hc; exact u3 h1
  | siter s pos => exact u3 hc.1
  | tab c => obtain ⟨t, h1⟩ := hc; exact h1.lt
  | loop l => obtain ⟨tm, d, fn, h1, _⟩ := hc; exact u3 h1
theorem xX.zlL {ρ : Ren} {o : wB} {pl : Place} {w : World} {wr wr' : Bool} (hw : wr' = true -> wr = true) (hc : xX P ρ wr o pl w) : xX P ρ wr' o pl w := by
  cases o with
  | cells c t => exact yn.zlL hw hc
  | map es q => exact hc
  | tab c => exact hc
  | iter m a b c => exact hc
  | siter s pos => exact hc
  | loop l => exact hc
theorem Rel.drop {ρ : Ren} {h : za} {w : World} (hr : Rel P ρ h w) (b : Nat) : Rel P ρ (h.set b none) w := by
  have hsub : ∀ x o, (h.set b none).get x = some o -> h.get x = some o := by
    intro x o hx
    rw [za.zP] at hx
    split at hx
    . cases hx
    . exact hx
  exact ⟨hr.next, hr.ro, fun x o hx => hr.dom x o (hsub x o hx), fun x o hx => hr.ok x o (hsub x _ hx),
    fun b1 b2 o1 o2 p1 p2 h1 h2 => hr.inj b1 b2 o1 o2 p1 p2 (hsub _ _ h1) (hsub _ _ h2), hr.gro, hr.Yt⟩
theorem Step.zjy {ρ : Ren} {h : za} {w w' : World} (hr : Rel P ρ h w) {b : Nat} {ob ob' : wB} {pl : Place} (hg : h.get b = some ob) (hm : ρ.m b = some pl) (hro : h.ro <= b)
    (hok : xX P ρ true ob' pl w') (hos : w'.os = w.os) (htape : w'.tape = w.tape) (hout : w'.output = w.output) (hsz : w'.heap.size = w.heap.size)
    (hfr : ∀ k, k ≠ pl.c -> w'.heap[k]? = w.heap[k]?) : Step P ρ h w ρ (h.set b (some ob')) w' := by
  have hold : ∀ x o, (h.set b (some ob')).get x = some o -> ∃ o', h.get x = some o' := by
    intro x o hx
    rw [za.zP] at hx
    split at hx
    . rename_i e; subst e; exact ⟨_, hg⟩
    . exact ⟨o, hx⟩
  refine ⟨Ren.le_refl _, ⟨hr.next, hr.ro, ?_, ?_, ?_, hr.gro, hr.Yt⟩, rfl, hos, htape, hout, by omega, ?_, ?_⟩
  . intro x o hx
    obtain ⟨o', ho'⟩ := hold x o hx
    exact hr.dom x o' ho'
  . intro x ox hx
    rw [za.zP] at hx
    split at hx
    . rename_i e; subst e; cases hx; exact ⟨pl, hm, hok.zlL (fun _ => rfl)⟩
    . rename_i e
      obtain ⟨p, hp, hc⟩ := hr.ok x ox hx
      refine ⟨p, hp, hc.other (hfr _ ?_)⟩
      intro e2
      exact e (hr.inj x b _ _ p pl hx hg hp hm e2)
  . intro b1 b2 o1 o2 p1 p2 h1 h2
    obtain ⟨o1', h1'⟩ := hold _ _ h1
    obtain ⟨o2', h2'⟩ := hold _ _ h2
    exact hr.inj b1 b2 o1' o2' p1 p2 h1' h2'
  . intro k hk hn
    refine hfr k ?_
    intro e
    exact hn ⟨b, _, pl, hg, hro, hm, e.symm⟩
  . rintro k hk ⟨x, o, p, hx, hrx, hp, hpc⟩
    obtain ⟨o', ho'⟩ := hold x o hx
    exact ⟨x, o', p, ho', hrx, hp, hpc⟩
theorem Step.write {ρ : Ren} {h : za} {w w' : World} (hr : Rel P ρ h w) {b : Nat} {c c' : List Value} {t : TypeId} {pl : Place} (hg : h.get b = some (.cells c t)) (hm : ρ.m b = some pl) (hro : h.ro <= b)
    (hok : yn P ρ true c' t pl w') (hos : w'.os = w.os) (htape : w'.tape = w.tape) (hout : w'.output = w.output) (hsz : w'.heap.size = w.heap.size)
    (hfr : ∀ k, k ≠ pl.c -> w'.heap[k]? = w.heap[k]?) : Step P ρ h w ρ (h.set b (some (.cells c' t))) w' :=
  Step.zjy hr hg hm hro (ob' := .cells c' t) hok hos htape hout hsz hfr
theorem size_setCell (w : World) (a : Addr) (v : Value) : (w.setCell a v).heap.size = w.heap.size := by simp [World.setCell]
theorem jw (w : World) (a : Addr) (v : Value) (k : Nat) (h : k ≠ a.block) : (w.setCell a v).heap[k]? = w.heap[k]? := RowKit.Below.heap_setCell w a v k h
theorem yn.setCell {ρ : Ren} {wr : Bool} {c : List Value} {t : TypeId} {pl : Place} {w : World} (hc : yn P ρ wr c t pl w) {i : Nat} {v v' : Value} (hi : i < c.length) (hv : z9 ρ v v') :
    yn P ρ wr (c.set i v) t pl (w.setCell ⟨pl.c, pl.base + i, none⟩ v') := by
  obtain ⟨cs, fz, h1, h2, h3, h4, h5, h6⟩ := hc
  refine ⟨cs.setIfInBounds (pl.base + i) v', fz, ?_, by simpa using h2, h3, by simpa using h4, h5, ?_⟩
  . simp [World.setCell, Array.getElem?_modify, h1]
  . intro j x hx
    by_cases e : j = i
    . subst e
      rw [List.getElem?_set_self hi] at hx
      cases hx
      exact ⟨v', by rw [Array.getElem?_setIfInBounds, if_pos rfl, if_pos (by omega)], hv⟩
    . rw [List.getElem?_set_ne (fun h => e h.symm)] at hx
      obtain ⟨y, hy, hxy⟩ := h6 j x hx
      exact ⟨y, by rw [Array.getElem?_setIfInBounds, if_neg (by omega)]; exact hy, hxy⟩
theorem UP {ρ : Ren} {h : za} {w : World} (hr : Rel P ρ h w) {b : Nat} {c : List Value} {t : TypeId} {pl : Place} (hg : h.get b = some (.cells c t)) (hm : ρ.m b = some pl) (hro : h.ro <= b)
    {i : Nat} (hi : i < c.length) {v v' : Value} (hv : z9 ρ v v') (hcell : cellOk v = true) :
    (store ⟨pl.c, pl.base + i, none⟩ v').run P w = .ok () (w.setCell ⟨pl.c, pl.base + i, none⟩ v') /\
      Step P ρ h w ρ (h.set b (some (.cells (c.set i v) t))) (w.setCell ⟨pl.c, pl.base + i, none⟩ v') := by
  have hc := hr.place hg hm
  rw [show decide (h.ro <= b) = true by simpa using hro] at hc
  obtain ⟨y, hy, _⟩ := hc.cell (i := i) (List.getElem?_eq_getElem hi)
  have hsz : pl.base + i < pl.size := by obtain ⟨cs, fz, _, h2, _, h4, _⟩ := hc; omega
  have hone : v'.oneCell' = true := by have := Qk hv; rw [hcell] at this; cases v' <;> simp_all [cellOk, Value.oneCell']
  refine ⟨?_, Step.write hr hg hm hro (hc.setCell hi hv) rfl rfl rfl (size_setCell _ _ _) (fun k hk => jw _ _ _ _ hk)⟩
  rw [run_store _ _ _ _ _ hone, hy]
  simp [hc.zjf hsz]
def ze (c : List Value) (i : Nat) : List Value -> List Value
  | [] => c
  | v :: vs => ze (c.set i v) (i + 1) vs
theorem qX (vs : List Value) : ∀ (c : List Value) (i : Nat), (ze c i vs).length = c.length := by
  induction vs with
  | nil => intro c i; rfl
  | cons v vs ih => intro c i; simp [ze, ih]
theorem za.set_set (h : za) (b : Nat) (x y : Option wB) (k : Nat) : ((h.set b x).set b y).get k = (h.set b y).get k := by
  simp only [za.zP]; split <;> rfl
structure zoB (h h' : za) : Prop where
  next : h'.next = h.next
  ro : h'.ro = h.ro
  get : ∀ b, h'.get b = h.get b
theorem Rel.same {ρ : Ren} {h h' : za} {w : World} (hr : Rel P ρ h w) (e : zoB h h') : Rel P ρ h' w :=
  ⟨hr.next.trans e.next.symm, by rw [e.ro, e.next]; exact hr.ro, fun b o hb => by rw [e.next]; exact hr.dom b o ((e.get b) ▸ hb),
    fun b o hb => by rw [e.ro]; exact hr.ok b o ((e.get b) ▸ hb),
    fun b1 b2 o1 o2 p1 p2 h1 h2 => hr.inj b1 b2 o1 o2 p1 p2 ((e.get b1) ▸ h1) ((e.get b2) ▸ h2), by rw [e.ro]; exact hr.gro, hr.Yt⟩
theorem Step.same {ρ ρ' : Ren} {h h' h'' : za} {w w' : World} (s : Step P ρ h w ρ' h' w') (e : zoB h' h'') : Step P ρ h w ρ' h'' w' :=
  ⟨s.le, s.rel.same e, e.ro.trans s.ro, s.os, s.tape, s.output, s.size, s.frame, fun c hc hm => s.img c hc (by
    obtain ⟨b, o, pl, hb, hro, hp⟩ := hm
    exact ⟨b, o, pl, by rw [<- e.get]; exact hb, by rw [<- e.ro]; exact hro, hp⟩)⟩
theorem vh (c o i : Nat) : (Addr.mk c o none).add i = ⟨c, o + i, none⟩ := by
  unfold Addr.add
  split
  . rename_i h; subst h; rfl
  . rfl
theorem ZX {ρ : Ren} {t : TypeId} {pl : Place} {b : Nat} {o : Nat} (hm : ρ.m b = some pl) : ∀ (vs vs' : List Value) (h : za) (w : World) (c : List Value) (j : Nat), Rel P ρ h w -> h.get b = some (.cells c t) -> h.ro <= b ->
    o + j + vs.length <= c.length -> yQ ρ vs vs' -> (∀ x ∈ vs, cellOk x = true) ->
    ∃ w', (storeCells ⟨pl.c, pl.base + o, none⟩ vs' j).run P w = .ok () w' /\ Step P ρ h w ρ (h.set b (some (.cells (ze c (o + j) vs) t))) w' := by
  intro vs
  induction vs with
  | nil =>
    intro vs' h w c j hr hg hro hl hv hcell
    cases hv.xJ
    refine ⟨w, rfl, (Step.refl hr).same ⟨rfl, rfl, fun x => ?_⟩⟩
    rw [za.zP]; split
    . rename_i e; subst e; exact hg.symm
    . rfl
  | cons v vs ih =>
    intro vs' h w c j hr hg hro hl hv hcell
    obtain ⟨v', vs'', rfl, hv1, hv2⟩ := hv.cons_inv
    simp only [List.length_cons] at hl
    obtain ⟨e1, s1⟩ := UP hr hg hm hro (i := o + j) (by omega) hv1 (hcell v (by simp))
    obtain ⟨w', e2, s2⟩ := ih vs'' _ _ (c.set (o + j) v) (j + 1) s1.rel (by rw [za.zP, if_pos rfl]) hro (by simp; omega) hv2 (fun x hx => hcell x (by simp [hx]))
    refine ⟨w', ?_, (s1.trans s2).same ⟨rfl, rfl, fun x => ?_⟩⟩
    . simp only [storeCells, vh, Sem.run_bind, Nat.add_assoc] at e1 ⊢
      rw [e1]; exact e2
    . rw [za.set_set]; rfl
def Ren.ext (ρ : Ren) (pl : Place) : Ren := { next := ρ.next + 1, m := fun b => if b = ρ.next then some pl else ρ.m b }
theorem Ren.Qo (ρ : Ren) (pl : Place) : ρ.le (ρ.ext pl) := ⟨Nat.le_succ _, fun _ hb => if_neg (Nat.ne_of_lt hb)⟩
theorem Ren.wF (ρ : Ren) (pl : Place) : (ρ.ext pl).m ρ.next = some pl := if_pos rfl
theorem Rel.Wk {ρ : Ren} {h : za} {w : World} (hr : Rel P ρ h w) {ob : wB} {pl : Place} (hc : xX P (ρ.ext pl) true ob pl w)
    (hfresh : ∀ b o p, h.get b = some o -> ρ.m b = some p -> p.c ≠ pl.c) : Rel P (ρ.ext pl) (h.push ob) w := by
  have hle := ρ.Qo pl
  have hcase : ∀ x o, (h.push ob).get x = some o -> (x = h.next /\ o = ob) \/ (x < h.next /\ h.get x = some o) := by
    intro x o hx
    rw [za.y6] at hx
    split at hx
    . rename_i e; cases hx; exact .inl ⟨e, rfl⟩
    . exact .inr ⟨hr.dom x o hx, hx⟩
  have hold : ∀ x, x < h.next -> (ρ.ext pl).m x = ρ.m x := fun x hx => hle.2 x (by rw [hr.next]; exact hx)
  have hnew : (ρ.ext pl).m h.next = some pl := by rw [<- hr.next]; exact ρ.wF pl
  refine ⟨by show ρ.next + 1 = h.next + 1; rw [hr.next], Nat.le_trans hr.ro (Nat.le_succ _), ?_, ?_, ?_, hr.gro, fun b p hb hm => hr.Yt b p hb (by rw [<- hold b (Nat.lt_of_lt_of_le hb (Nat.le_trans hr.gro hr.ro))]; exact hm)⟩
  . intro x o hx
    rcases hcase x o hx with ⟨e, _⟩ | ⟨hlt, _⟩
    . subst e; exact Nat.lt_succ_self _
    . exact Nat.lt_succ_of_lt hlt
  . intro x ox hx
    rcases hcase x _ hx with ⟨e, eo⟩ | ⟨hlt, hx'⟩
    . cases eo; subst e
      exact ⟨pl, hnew, hc.zlL (fun _ => rfl)⟩
    . obtain ⟨p, hp, hcx⟩ := hr.ok x ox hx'
      exact ⟨p, (hold x hlt).trans hp, hcx.mono hle⟩
  . intro b1 b2 o1 o2 p1 p2 h1 h2 m1 m2 e
    rcases hcase b1 o1 h1 with ⟨e1, _⟩ | ⟨l1, g1⟩ <;> rcases hcase b2 o2 h2 with ⟨e2, _⟩ | ⟨l2, g2⟩
    . omega
    . subst e1
      rw [hnew] at m1; cases m1
      rw [hold _ l2] at m2
      exact absurd e.symm (hfresh b2 o2 p2 g2 m2)
    . subst e2
      rw [hnew] at m2; cases m2
      rw [hold _ l1] at m1
      exact absurd e (hfresh b1 o1 p1 g1 m1)
    . rw [hold _ l1] at m1; rw [hold _ l2] at m2
      exact hr.inj b1 b2 o1 o2 p1 p2 g1 g2 m1 m2 e
theorem Rel.push {ρ : Ren} {h : za} {w : World} (hr : Rel P ρ h w) {c : List Value} {t : TypeId} {pl : Place} (hc : yn P (ρ.ext pl) true c t pl w)
    (hfresh : ∀ b o p, h.get b = some o -> ρ.m b = some p -> p.c ≠ pl.c) : Rel P (ρ.ext pl) (h.push (.cells c t)) w := hr.Wk (ob := .cells c t) hc hfresh
theorem Rel.grow {ρ : Ren} {h : za} {w w' : World} (hr : Rel P ρ h w) (hold : ∀ k, k < w.heap.size -> w'.heap[k]? = w.heap[k]?) : Rel P ρ h w' :=
  ⟨hr.next, hr.ro, hr.dom, fun b o hb => by obtain ⟨pl, hp, hc⟩ := hr.ok b o hb; exact ⟨pl, hp, hc.other (hold _ hc.lt)⟩, hr.inj, hr.gro, hr.Yt⟩
theorem Step.Wk {ρ : Ren} {h : za} {w w' : World} (hr : Rel P ρ h w) {ob : wB} {pl : Place} {wo : Obj} (hpl : pl.c = w.heap.size)
    (hnew : w'.heap = w.heap.push wo) (hok : xX P (ρ.ext pl) true ob pl w')
    (hos : w'.os = w.os) (htape : w'.tape = w.tape) (hout : w'.output = w.output) :
    Step P ρ h w (ρ.ext pl) (h.push ob) w' := by
  have hold : ∀ k, k < w.heap.size -> w'.heap[k]? = w.heap[k]? := by
    intro k hk; rw [hnew, Array.getElem?_push, if_neg (by omega)]
  have hle := ρ.Qo pl
  have hr' := hr.grow hold
  refine ⟨hle, hr'.Wk hok ?_, rfl, hos, htape, hout, by rw [hnew]; simp, fun k hk _ => hold k hk, ?_⟩
  . intro b o p hg hm e
    obtain ⟨p', hp', hcx⟩ := hr.ok b o hg
    rw [hm] at hp'; cases hp'
    have := hcx.lt
    omega
  . rintro k hk ⟨b, o, p, hg, hro, hm, e⟩
    rw [za.y6] at hg
    split at hg
    . rename_i eb
      subst eb
      rw [<- hr.next, Ren.wF] at hm
      cases hm
      omega
    . have hlt := hr.dom b o hg
      refine ⟨b, o, p, hg, hro, ?_, e⟩
      rw [<- hm]
      exact (hle.2 b (by rw [hr.next]; exact hlt)).symm
theorem Step.push {ρ : Ren} {h : za} {w w' : World} (hr : Rel P ρ h w) {c : List Value} {t : TypeId} {cs : Array Value} {fz : Nat × Nat}
    (hnew : w'.heap = w.heap.push (.cells cs t fz)) (hfz : ∀ i, i < cs.size -> ¬(fz.1 <= i /\ i < fz.2)) (hlen : c.length <= cs.size) (hv : ∀ (i : Nat) x, c[i]? = some x -> ∃ y, cs[i]? = some y /\ z9 ρ x y)
    (hos : w'.os = w.os) (htape : w'.tape = w.tape) (hout : w'.output = w.output) :
    Step P ρ h w (ρ.ext ⟨w.heap.size, 0, cs.size, P.cellsOf t⟩) (h.push (.cells c t)) w' := by
  refine Step.Wk hr (ob := .cells c t) rfl hnew ⟨cs, fz, by rw [hnew]; simp, rfl, ⟨rfl, Nat.zero_mod _⟩, by simpa using hlen, fun _ => hfz, ?_⟩ hos htape hout
  intro i x hx
  obtain ⟨y, hy, hxy⟩ := hv i x hx
  exact ⟨y, by simpa using hy, hxy.mono (ρ.Qo _)⟩
theorem Wc {ρ : Ren} {h : za} {w : World} (hr : Rel P ρ h w) {c : List Value} {t : TypeId} {cs : Array Value} (hlen : c.length <= cs.size) (hv : ∀ (i : Nat) x, c[i]? = some x -> ∃ y, cs[i]? = some y /\ z9 ρ x y) :
    (newRow t cs).run P w = .ok ⟨w.heap.size, 0, none⟩ { w with heap := w.heap.push (.cells cs t) } /\
      Step P ρ h w (ρ.ext ⟨w.heap.size, 0, cs.size, P.cellsOf t⟩) (h.push (.cells c t)) { w with heap := w.heap.push (.cells cs t) } :=
  ⟨rfl, Step.push hr rfl (fun i _ hi => by simp at hi) hlen hv rfl rfl rfl⟩
theorem z9.new {ρ : Ren} {h : za} {w : World} (hr : Rel P ρ h w) (pl : Place) (hb : pl.base = 0) : z9 (ρ.ext pl) (.pointer (some ⟨h.next, 0, none⟩)) (.pointer (some ⟨pl.c, 0, none⟩)) := by
  have := z9.ptr (ρ := ρ.ext pl) (b := h.next) (off := 0) (pl := pl) (by show h.next < ρ.next + 1; rw [hr.next]; exact Nat.lt_succ_self _) (by rw [<- hr.next]; exact ρ.wF pl)
  rw [hb] at this
  exact this
theorem wt {ρ : Ren} {wr : Bool} {c : List Value} {t : TypeId} {pl : Place} {w : World} (hc : yn P ρ wr c t pl w) (o n : Nat) (h : o + n <= c.length) :
    ∃ ys : List Value, (loadCells ⟨pl.c, pl.base + o, none⟩ n).run P w = .ok ys.toArray w /\ yQ ρ ((c.drop o).take n) ys := by
  obtain ⟨cs, fz, h1, h2, h3, h4, h5, h6⟩ := hc
  refine ⟨((cs.toList.drop (pl.base + o)).take n), ?_, ?_, ?_⟩
  . have hlen : ((cs.toList.drop (pl.base + o)).take n).length = n := by simp; omega
    have := run_loadCells_list (P := P) w ⟨pl.c, pl.base + o, none⟩ ((cs.toList.drop (pl.base + o)).take n) (fun j v hj => by
      have hjn : j < n := by
        rcases Nat.lt_or_ge j n with h | h
        . exact h
        . rw [List.getElem?_eq_none (by omega)] at hj; cases hj
      rw [List.getElem?_take_of_lt hjn, List.getElem?_drop] at hj
      rw [vh]
      simp [World.cell?, h1]
      simpa using hj)
    rw [hlen] at this
    exact this
  . simp; omega
  . intro i x y hx hy
    have hi : i < n := by
      rcases Nat.lt_or_ge i n with h | h
      . exact h
      . rw [List.getElem?_eq_none (by simp; omega)] at hx; cases hx
    rw [List.getElem?_take_of_lt hi, List.getElem?_drop] at hx hy
    obtain ⟨y', hy', hxy⟩ := h6 _ _ hx
    have : y = y' := by
      have e : pl.base + (o + i) = pl.base + o + i := by omega
      rw [e] at hy'
      have hy2 : cs[pl.base + o + i]? = some y := by simpa using hy
      rw [hy2] at hy'; cases hy'; rfl
    rw [this]; exact hxy
end
end Go.Ai
namespace Go.Ai
noncomputable section
def yM {α : Type} (P : Program) : Sem α -> Option α
  | .pure a => some a
  | .program k => yM P (k P)
  | _ => none
theorem zh {α : Type} {P : Program} {s : Sem α} {a : α} (h : yM P s = some a) (w : World) : s.run P w = .ok a w := by
  induction s with
  | pure b => simp only [yM, Option.some.injEq] at h; subst h; rfl
  | program k ih => simp only [yM] at h; exact ih P h
  | _ => cases h
def flat : Value -> Bool
  | .agg a => a.toList.all plain
  | v => plain v
theorem zdr {ρ : Ren} {v v' : Value} (h : z9 ρ v v') (hp : plain v = true) : v' = v := by
  cases h with
  | odd h => cases hp
  | bool | int | float | string | ptrNil | nilFunc | nilIface | mapNil => rfl
  | ptr | Yt | slice | sliceOut | iface | agg | map | yield => simp [plain] at hp
  | sliceNil c => simp only [plain, Bool.and_eq_true] at hp; obtain rfl := Nat.eq_of_beq_eq_true hp.2; rfl
  | func ha hc _ _ =>
    simp only [plain, Bool.and_eq_true] at hp
    obtain rfl := jR hp.1
    obtain rfl := jR hp.2
    rw [Array.eq_empty_of_size_eq_zero ha.symm, Array.eq_empty_of_size_eq_zero hc.symm]
  | tuple ha _ =>
    obtain rfl := jR hp
    rw [Array.eq_empty_of_size_eq_zero ha.symm]
theorem QN {xs ys : List Value} (hl : xs.length = ys.length) (h : ∀ (i : Nat) x y, xs[i]? = some x -> ys[i]? = some y -> y = x) : ys = xs := by
  apply List.ext_getElem?
  intro i
  rcases Nat.lt_or_ge i xs.length with hi | hi
  . rw [List.getElem?_eq_getElem hi, List.getElem?_eq_getElem (hl ▸ hi)]
    congr 1
    exact h i _ _ (List.getElem?_eq_getElem hi) (List.getElem?_eq_getElem (hl ▸ hi))
  . rw [List.getElem?_eq_none hi, List.getElem?_eq_none (by omega)]
theorem vE {ρ : Ren} {v v' : Value} (h : z9 ρ v v') (hp : flat v = true) : v' = v := by
  cases h with
  | agg ha hv =>
    rename_i a a'
    simp only [flat, List.all_eq_true] at hp
    congr 1
    apply Array.ext'
    refine QN (by simpa using ha) (fun i x y hx hy => ?_)
    exact zdr (hv i x y (by simpa using hx) (by simpa using hy)) (hp x (List.mem_of_getElem? hx))
  | _ => first | rfl | exact zdr (ρ := ρ) (by constructor <;> assumption) hp
theorem z9.of_flat (ρ : Ren) {v : Value} (h : flat v = true) : z9 ρ v v := by
  cases v with
  | agg a =>
    simp only [flat, List.all_eq_true] at h
    exact .agg rfl (fun i x y hx hy => by
      rw [hx] at hy; cases hy
      exact .vI ρ (h x (List.mem_of_getElem? (by simpa using hx))))
  | _ => exact .vI ρ h
def aev (s : Env) : Operand -> Option Value
  | .tmp t => some (s.get t)
  | .const v => cond (flat v) (some v) none
  | .global g => some (.pointer (some ⟨g, 0, some 0⟩))
  | .func f => some (.func (.func f) #[] #[])
theorem zB {ρ : Ren} {s : Env} {a : Act} (hs : xe ρ s a.tmps) {x : Operand} {v : Value} (h : aev s x = some v) : z9 ρ v (a.eval x) := by
  cases x with
  | tmp t => simp only [aev, Option.some.injEq] at h; subst h; exact hs.get t
  | const c =>
    simp only [aev] at h
    cases hf : flat c with
    | false => rw [hf] at h; cases h
    | true => rw [hf] at h; simp only [cond_true, Option.some.injEq] at h; subst h; exact .of_flat ρ hf
  | global g => simp only [aev, Option.some.injEq] at h; subst h; exact .Yt
  | func f => simp only [aev, Option.some.injEq] at h; subst h; exact .vI ρ rfl
def QD (s : Env) : List Operand -> Option (List Value)
  | [] => some []
  | x :: xs => match aev s x with
    | none => none
    | some v => match QD s xs with
      | none => none
      | some vs => some (v :: vs)
theorem wW {ρ : Ren} {s : Env} {a : Act} (hs : xe ρ s a.tmps) : ∀ {xs : List Operand} {vs : List Value}, QD s xs = some vs -> yQ ρ vs (xs.map a.eval)
  | [], vs, h => by simp only [QD, Option.some.injEq] at h; subst h; exact .nil ρ
  | x :: xs, vs, h => by
    simp only [QD] at h
    split at h
    . cases h
    . rename_i v hv
      split at h
      . cases h
      . rename_i vs' hvs
        simp only [Option.some.injEq] at h
        subst h
        exact .cons (zB hs hv) (wW hs hvs)
theorem z9.cells {ρ : Ren} {v v' : Value} (h : z9 ρ v v') : yQ ρ v.cells.toList v'.cells.toList := by
  cases h with
  | agg ha hv => exact ⟨by simpa [Value.cells] using ha, fun i x y hx hy => hv i x y (by simpa [Value.cells] using hx) (by simpa [Value.cells] using hy)⟩
  | odd h => cases v' <;> first | exact .cons (.odd h) (.nil ρ) | cases h
  | _ => exact .cons (by constructor <;> assumption) (.nil ρ)
def apart (P : Program) (t : TypeId) (cs : List Value) (off : Nat) : Option Value :=
  match yM P (isAgg t) with
  | none => none
  | some true => (match yM P (sizeOf t) with
    | none => none
    | some n => some (.agg ((cs.drop off).take n).toArray))
  | some false => cs[off]?
theorem zbO {P : Program} {ρ : Ren} {t : TypeId} {cs : List Value} {cs' : Array Value} {off : Nat} {v : Value} (h : apart P t cs off = some v) (hc : yQ ρ cs cs'.toList) (w : World) :
    ∃ v', (part t cs' off).run P w = .ok v' w /\ z9 ρ v v' := by
  simp only [apart] at h
  split at h
  . cases h
  . rename_i hagg
    split at h
    . cases h
    . rename_i n hn
      simp only [Option.some.injEq] at h
      subst h
      refine ⟨_, by simp only [part, Sem.run_bind, zh hagg, Result.andThen_ok, if_true, zh hn, Sem.run_pure]; rfl, ?_⟩
      refine .agg ?_ ?_
      . simp only [List.size_toArray, List.length_take, List.length_drop, Array.size_extract, hc.1, Array.length_toList]; omega
      . intro i x y hx hy
        rw [List.getElem?_toArray] at hx
        rw [Array.getElem?_extract] at hy
        split at hy
        . rename_i hi
          rw [List.getElem?_take_of_lt (by omega), List.getElem?_drop] at hx
          exact hc.2 _ _ _ hx (by simpa using hy)
        . cases hy
  . rename_i hagg
    obtain ⟨y, hy, hxy⟩ := hc.get h
    refine ⟨y, ?_, hxy⟩
    have hy' : cs'[off]? = some y := by simpa using hy
    simp only [part, Sem.run_bind, zh hagg, Result.andThen_ok, Bool.false_eq_true, if_false, hy', Sem.run_pure]
def zd (P : Program) (t : TypeId) (a : Value) (h : za) : Option Value :=
  match a with
  | .pointer (some ⟨b, off, none⟩) => (match h.get b with
    | none => none
    | some (.cells c _) => (match yM P (isAgg t) with
      | none => none
      | some true => (match yM P (sizeOf t) with
        | none => none
        | some n => cond (Nat.ble (off + n) c.length) (some (.agg ((c.drop off).take n).toArray)) none)
      | some false => c[off]?)
    | some _ => none)
  | .pointer (some ⟨b, off, some 0⟩) => cond (Nat.blt b P.globals.size) (match h.get b with
    | none => none
    | some (.tab c) => (match yM P (isAgg t) with
      | none => none
      | some true => (match yM P (sizeOf t) with
        | none => none
        | some n => cond (Nat.ble (off + n) c.length) (some (.agg ((c.drop off).take n).toArray)) none)
      | some false => c[off]?)
    | some _ => none) none
  | _ => none
theorem Uz {P : Program} {ρ : Ren} {t : TypeId} {a a' : Value} {h : za} {v : Value} {w : World} (he : zd P t a h = some v) (hr : Rel P ρ h w) (ha : z9 ρ a a') :
    ∃ v', (Instr.loadAt t a').run P w = .ok v' w /\ z9 ρ v v' := by
  unfold zd at he
  split at he
  . rename_i b off
    cases ha with
    | ptr hb hm =>
      rename_i pl
      split at he
      . cases he
      . rename_i c t' hg
        have hc := hr.place hg hm
        split at he
        . cases he
        . rename_i hagg
          split at he
          . cases he
          . rename_i n hn
            cases hle : Nat.ble (off + n) c.length with
            | false => rw [hle] at he; cases he
            | true =>
              rw [hle] at he
              simp only [cond_true, Option.some.injEq] at he
              subst he
              obtain ⟨ys, hys, hv⟩ := wt hc off n (Nat.le_of_ble_eq_true hle)
              refine ⟨.agg ys.toArray, ?_, .agg (by simpa using hv.1) (fun i x y hx hy => hv.2 i x y (by simpa using hx) (by simpa using hy))⟩
              simp only [Instr.loadAt, Instr.sureAddr, loadVar, Sem.run_bind, Sem.run_pure, Result.andThen_ok, zh hagg, if_true, zh hn, hys]
        . rename_i hagg
          obtain ⟨y, hy, hxy⟩ := hc.cell he
          refine ⟨y, ?_, hxy⟩
          simp only [Instr.loadAt, Instr.sureAddr, loadVar, Sem.run_bind, Sem.run_pure, Result.andThen_ok, zh hagg, Bool.false_eq_true, if_false, run_load, hy]
      . cases he
  . rename_i b off
    cases ha with
    | Yt =>
      cases hbl : Nat.blt b P.globals.size with
      | false => rw [hbl] at he; cases he
      | true =>
        rw [hbl] at he
        simp only [cond_true] at he
        have hbl : b < P.globals.size := by simpa [Nat.blt_eq] using hbl
        split at he
        . cases he
        . rename_i c hg
          obtain ⟨pl, hm, t', hc⟩ := hr.ok b _ hg
          obtain ⟨q1, q2⟩ := hr.Yt b pl hbl hm
          split at he
          . cases he
          . rename_i hagg
            split at he
            . cases he
            . rename_i n hn
              cases hle : Nat.ble (off + n) c.length with
              | false => rw [hle] at he; cases he
              | true =>
                rw [hle] at he
                simp only [cond_true, Option.some.injEq] at he
                subst he
                obtain ⟨ys, hys, hv⟩ := wt hc off n (Nat.le_of_ble_eq_true hle)
                simp only [q1, q2, Nat.zero_add] at hys
                refine ⟨.agg ys.toArray, ?_, .agg (by simpa using hv.1) (fun i x y hx hy => hv.2 i x y (by simpa using hx) (by simpa using hy))⟩
                simp only [Instr.loadAt, Instr.sureAddr, loadVar, Sem.run_bind, Sem.run_pure, Result.andThen_ok, zh hagg, if_true, zh hn, hys]
          . rename_i hagg
            obtain ⟨y, hy, hxy⟩ := hc.cell he
            simp only [q1, q2, Nat.zero_add] at hy
            refine ⟨y, ?_, hxy⟩
            simp only [Instr.loadAt, Instr.sureAddr, loadVar, Sem.run_bind, Sem.run_pure, Result.andThen_ok, zh hagg, Bool.false_eq_true, if_false, run_load, hy]
        . cases he
  . cases he
def zj (P : Program) (t : TypeId) (a v : Value) (h : za) : Option za :=
  match a with
  | .pointer (some ⟨b, off, none⟩) => (match h.get b with
    | none => none
    | some (.cells c t') => (match yM P (sizeOf t) with
      | none => none
      | some n => cond (Nat.beq v.cells.size n && Nat.ble (off + n) c.length && Nat.ble h.ro b && v.cells.toList.all cellOk) (some (h.set b (some (.cells (ze c off v.cells.toList) t')))) none)
    | some _ => none)
  | _ => none
theorem zaK {P : Program} {ρ : Ren} {t : TypeId} {a a' v v' : Value} {h h' : za} {w : World} (he : zj P t a v h = some h') (hr : Rel P ρ h w) (ha : z9 ρ a a') (hv : z9 ρ v v') :
    ∃ w', (Instr.storeAt t a' v').run P w = .ok () w' /\ Step P ρ h w ρ h' w' := by
  unfold zj at he
  split at he
  . rename_i b off
    cases ha with
    | ptr hb hm =>
      rename_i pl
      split at he
      . cases he
      . rename_i c t' hg
        split at he
        . cases he
        . rename_i n hn
          cases hc : (Nat.beq v.cells.size n && Nat.ble (off + n) c.length && Nat.ble h.ro b && v.cells.toList.all cellOk) with
          | false => rw [hc] at he; cases he
          | true =>
            rw [hc] at he
            simp only [cond_true, Option.some.injEq] at he
            subst he
            simp only [Bool.and_eq_true, List.all_eq_true] at hc
            obtain ⟨⟨⟨h1, h2⟩, h3⟩, h4⟩ := hc
            have h1 := Nat.eq_of_beq_eq_true h1
            have h2 := Nat.le_of_ble_eq_true h2
            have h3 := Nat.le_of_ble_eq_true h3
            have hcells := hv.cells
            have hsz : v'.cells.size = n := by have := hcells.1; simp only [Array.length_toList] at this; omega
            obtain ⟨w', e, st⟩ := ZX (o := off) hm v.cells.toList v'.cells.toList h w c 0 hr hg h3 (by simp only [Array.length_toList]; omega) hcells h4
            refine ⟨w', ?_, st⟩
            simp only [Instr.storeAt, Instr.sureAddr, storeVar, Sem.run_bind, Sem.run_pure, Result.andThen_ok, zh hn, Sem.run_ite, hsz]
            simp only [ne_eq, not_true, if_false]
            exact e
      . cases he
  . cases he
def zb (P : Program) (s : TypeId) (a : Value) (i : Nat) : Option Value :=
  match a with
  | .pointer (some ⟨b, off, none⟩) => (match yM P (underlying s) with
    | some (.struct fields) => (match fields[i]? with
      | none => none
      | some f => (match yM P (sizeOf f.type) with
        | none => none
        | some n => cond (Nat.beq n 0) none (some (.pointer (some ⟨b, off + f.offset, none⟩)))))
    | _ => none)
  | .pointer (some ⟨b, off, some 0⟩) => (match yM P (underlying s) with
    | some (.struct fields) => (match fields[i]? with
      | none => none
      | some f => (match yM P (sizeOf f.type) with
        | none => none
        | some n => cond (Nat.beq n 0) none (some (.pointer (some ⟨b, off + f.offset, some 0⟩)))))
    | _ => none)
  | _ => none
theorem Jg {P : Program} {ρ : Ren} {s : TypeId} {a a' v : Value} {i : Nat} (he : zb P s a i = some v) (ha : z9 ρ a a') (w : World) :
    ∃ v', (Instr.fieldAt s a' i).run P w = .ok v' w /\ z9 ρ v v' := by
  unfold zb at he
  split at he
  . rename_i b off
    cases ha with
    | ptr hb hm =>
      rename_i pl
      split at he
      . rename_i fields hu
        split at he
        . cases he
        . rename_i f hf
          split at he
          . cases he
          . rename_i n hn
            cases hz : Nat.beq n 0 with
            | true => rw [hz] at he; cases he
            | false =>
              rw [hz] at he
              simp only [cond_false, Option.some.injEq] at he
              subst he
              have hne : n ≠ 0 := by intro e; subst e; simp at hz
              refine ⟨.pointer (some ⟨pl.c, pl.base + (off + f.offset), none⟩), ?_, .ptr hb hm⟩
              simp only [Instr.fieldAt, Instr.sureAddr, fieldPlace, Sem.run_bind, Sem.run_pure, Result.andThen_ok, zh hu, hf, zh hn, Sem.run_ite, if_neg hne, vh, Nat.add_assoc]
      . cases he
  . rename_i b off
    cases ha with
    | Yt =>
      split at he
      . rename_i fields hu
        split at he
        . cases he
        . rename_i f hf
          split at he
          . cases he
          . rename_i n hn
            cases hz : Nat.beq n 0 with
            | true => rw [hz] at he; cases he
            | false =>
              rw [hz] at he
              simp only [cond_false, Option.some.injEq] at he
              subst he
              have hne : n ≠ 0 := by intro e; subst e; simp at hz
              refine ⟨.pointer (some ⟨b, off + f.offset, none⟩), ?_, .Yt⟩
              simp only [Instr.fieldAt, Instr.sureAddr, fieldPlace, Sem.run_bind, Sem.run_pure, Result.andThen_ok, zh hu, hf, zh hn, Sem.run_ite, if_neg hne, vh]
      . cases he
  . cases he
def zG (P : Program) (t : TypeId) (x ix : Value) : Option Value :=
  match ix with
  | .int _ i => (match yM P (underlying t), x with
    | some (.array len elem), .pointer (some ⟨b, off, none⟩) => (match yM P (sizeOf elem) with
      | none => none
      | some n => cond (decide (0 <= i) && decide (i < len)) (some (.pointer (some ⟨b, off + i.toNat * n, none⟩))) none)
    | some (.array len elem), .pointer (some ⟨b, off, some 0⟩) => (match yM P (sizeOf elem) with
      | none => none
      | some n => cond (decide (0 <= i) && decide (i < len)) (some (.pointer (some ⟨b, off + i.toNat * n, some 0⟩))) none)
    | some (.slice elem), .slice (some ⟨b, off, none⟩) len _ => (match yM P (sizeOf elem) with
      | none => none
      | some n => cond (decide (0 <= i) && decide (i < len)) (some (.pointer (some ⟨b, off + i.toNat * n, none⟩))) none)
    | _, _ => none)
  | _ => none
theorem zal {P : Program} {ρ : Ren} {t : TypeId} {x x' ix ix' v : Value} (he : zG P t x ix = some v) (hx : z9 ρ x x') (hi : z9 ρ ix ix') (w : World) :
    ∃ v', (Instr.indexAt t x' ix').run P w = .ok v' w /\ z9 ρ v v' := by
  unfold zG at he
  split at he
  . rename_i k i
    cases hi
    split at he
    . rename_i hu
      cases hx with
      | ptr hb hm =>
        split at he
        . cases he
        . rename_i n hn
          cases hc : (decide (0 <= i) && decide (i < _)) with
          | false => rw [hc] at he; cases he
          | true =>
            rw [hc] at he
            simp only [cond_true, Option.some.injEq] at he
            subst he
            simp only [Bool.and_eq_true, decide_eq_true_eq] at hc
            refine ⟨_, ?_, .ptr hb hm⟩
            simp only [Instr.indexAt, Instr.sureAddr, asIntOf, Sem.run_bind, Sem.run_pure, Result.andThen_ok, zh hu, zh hn, Sem.run_ite, if_pos hc, vh, Nat.add_assoc]
    . rename_i hu
      cases hx with
      | Yt =>
        split at he
        . cases he
        . rename_i n hn
          cases hc : (decide (0 <= i) && decide (i < _)) with
          | false => rw [hc] at he; cases he
          | true =>
            rw [hc] at he
            simp only [cond_true, Option.some.injEq] at he
            subst he
            simp only [Bool.and_eq_true, decide_eq_true_eq] at hc
            refine ⟨_, ?_, .Yt⟩
            simp only [Instr.indexAt, Instr.sureAddr, asIntOf, Sem.run_bind, Sem.run_pure, Result.andThen_ok, zh hu, zh hn, Sem.run_ite, if_pos hc, vh]
    . rename_i hu
      cases hx with
      | slice hb hm hl hcap =>
        split at he
        . cases he
        . rename_i n hn
          cases hc : (decide (0 <= i) && decide (i < _)) with
          | false => rw [hc] at he; cases he
          | true =>
            rw [hc] at he
            simp only [cond_true, Option.some.injEq] at he
            subst he
            simp only [Bool.and_eq_true, decide_eq_true_eq] at hc
            refine ⟨_, ?_, .ptr hb hm⟩
            simp only [Instr.indexAt, asIntOf, Sem.run_bind, Sem.run_pure, Result.andThen_ok, zh hu, zh hn, Sem.run_ite, if_pos hc, vh, Nat.add_assoc]
      | sliceOut hb hc =>
        split at he
        . cases he
        . rename_i n hn
          rw [show (decide (0 <= i) && decide (i < ((0 : Nat) : Int))) = false by simp] at he
          cases he
    . cases he
  . cases he
end
end Go.Ai
namespace Go.Ai
noncomputable section
variable {P : Program}
def fl (x : Option Value) : Option Value :=
  match x with
  | none => none
  | some v => cond (flat v) (some v) none
theorem Zg {x : Option Value} {v : Value} (h : fl x = some v) : x = some v /\ flat v = true := by
  unfold fl at h
  split at h
  . cases h
  . rename_i u
    cases hf : flat u with
    | false => rw [hf] at h; cases h
    | true => rw [hf] at h; simp only [cond_true, Option.some.injEq] at h; subst h; exact ⟨rfl, hf⟩
def isNil (P : Program) (t : TypeId) (a b : Value) : Option Bool :=
  match yM P (underlying t), a, b with
  | some (.pointer _), .pointer (some _), .pointer none | some (.pointer _), .pointer none, .pointer (some _) => some false
  | some (.slice _), .slice (some _) _ _, .slice none _ _ | some (.slice _), .slice none _ _, .slice (some _) _ _ => some false
  | some (.func _ _ _), .func _ _ _, .nilFunc | some (.func _ _ _), .nilFunc, .func _ _ _ => some false
  | some (.interface _), .iface _ _, .nilIface | some (.interface _), .nilIface, .iface _ _ => some false
  | _, _, _ => none
def znW (P : Program) (op : BinOp) (t : TypeId) (a b : Value) : Option Value :=
  match op with
  | .eql => (isNil P t a b).map .bool
  | .neq => (isNil P t a b).map fun x => .bool (!x)
  | _ => none
theorem jc {ρ : Ren} {t : TypeId} {a b a' b' : Value} {r : Bool} (h : isNil P t a b = some r) (ha : z9 ρ a a') (hb : z9 ρ b b') (w : World) :
    (∀ d, (Op.equalIn (d + 1) t a' b').run P w = .ok r w) /\ (∀ op x y, (eqGuard op t x y a' b').run P w = .ok () w) /\ (∀ op, op = .eql \/ op = .neq -> binOp op t a' b' = if op = .eql then (do pure (.bool (<- Op.equal t a' b'))) else (do pure (.bool (!(<- Op.equal t a' b'))))) := by
  unfold isNil at h
  split at h <;> first
    | cases h; done
    | (simp only [Option.some.injEq] at h
       subst h
       rename_i hu
       cases ha <;> cases hb <;>
       (refine ⟨fun d => ?_, fun op x y => ?_, fun op hop => ?_⟩
        . simp [Op.equalIn, zh hu]
        . cases op <;> simp [eqGuard]
        . rcases hop with rfl | rfl <;> rfl))
theorem zge {ρ : Ren} {t : TypeId} {a b a' b' : Value} {r : Bool} (h : isNil P t a b = some r) (ha : z9 ρ a a') (hb : z9 ρ b b') (w : World) :
    (binOp .eql t a' b').run P w = .ok (.bool r) w := by
  obtain ⟨h1, _, h3⟩ := jc h ha hb w
  rw [h3 .eql (.inl rfl), if_pos rfl]
  have h1 : (Op.equal t a' b').run P w = .ok r w := h1 9999
  simp only [Sem.run_bind, h1, Result.andThen_ok, Sem.run_pure]
theorem zgN {ρ : Ren} {t : TypeId} {a b a' b' : Value} {r : Bool} (h : isNil P t a b = some r) (ha : z9 ρ a a') (hb : z9 ρ b b') (w : World) :
    (binOp .neq t a' b').run P w = .ok (.bool (!r)) w := by
  obtain ⟨h1, _, h3⟩ := jc h ha hb w
  rw [h3 .neq (.inr rfl), if_neg (by simp)]
  have h1 : (Op.equal t a' b').run P w = .ok r w := h1 9999
  simp only [Sem.run_bind, h1, Result.andThen_ok, Sem.run_pure]
def zlP (P : Program) (op : BinOp) (t : TypeId) (x y : Operand) (a b : Value) : Option Value :=
  cond (flat a && flat b) (fl (yM P (do eqGuard op t x y a b; binOp op t a b))) (znW P op t a b)
theorem zeI {ρ : Ren} {op : BinOp} {t : TypeId} {x y : Operand} {a b a' b' v : Value} (h : zlP P op t x y a b = some v) (ha : z9 ρ a a') (hb : z9 ρ b b') (w : World) :
    ∃ v', (do eqGuard op t x y a' b'; binOp op t a' b' : Sem Value).run P w = .ok v' w /\ z9 ρ v v' := by
  unfold zlP at h
  cases hf : (flat a && flat b) with
  | true =>
    rw [hf] at h
    simp only [Bool.and_eq_true] at hf
    obtain rfl := vE ha hf.1
    obtain rfl := vE hb hf.2
    obtain ⟨h1, h2⟩ := Zg h
    exact ⟨v, zh h1 w, .of_flat ρ h2⟩
  | false =>
    rw [hf] at h
    simp only [cond_false] at h
    unfold znW at h
    split at h
    . simp only [Option.map_eq_some_iff] at h
      obtain ⟨r, hr, rfl⟩ := h
      obtain ⟨_, h2, _⟩ := jc hr ha hb w
      have h3 := zge hr ha hb w
      exact ⟨.bool r, by simp only [Sem.run_bind, h2, Result.andThen_ok, h3], .bool r⟩
    . simp only [Option.map_eq_some_iff] at h
      obtain ⟨r, hr, rfl⟩ := h
      obtain ⟨_, h2, _⟩ := jc hr ha hb w
      have h4 := zgN hr ha hb w
      exact ⟨.bool (!r), by simp only [Sem.run_bind, h2, Result.andThen_ok, h4], .bool (!r)⟩
    . cases h
def Q4 (ρ : Ren) (ps ps' : List (Nat × Value)) : Prop := yQ ρ (ps.map (·.2)) (ps'.map (·.2)) /\ ps.map (·.1) = ps'.map (·.1)
theorem zg7 {ρ : Ren} {xs ys : List Value} (h : yQ ρ xs ys) (i : Nat) {x y : Value} (hv : z9 ρ x y) : yQ ρ (xs.set i x) (ys.set i y) := by
  refine ⟨by simp [h.1], fun j a b ha hb => ?_⟩
  by_cases e : i = j
  . subst e
    rcases Nat.lt_or_ge i xs.length with hi | hi
    . rw [List.getElem?_set_self hi] at ha
      rw [List.getElem?_set_self (h.1 ▸ hi)] at hb
      cases ha; cases hb; exact hv
    . rw [List.getElem?_eq_none (by simpa using hi)] at ha; cases ha
  . rw [List.getElem?_set_ne e] at ha hb
    exact h.2 j a b ha hb
theorem Qd {ρ : Ren} (off : Nat) : ∀ (l l' : List (Value × Nat)) (c c' : Array Value), yQ ρ (l.map (·.1)) (l'.map (·.1)) -> l.map (·.2) = l'.map (·.2) -> yQ ρ c.toList c'.toList ->
    yQ ρ (l.foldl (fun cs x => cs.setIfInBounds (off + x.2) x.1) c).toList (l'.foldl (fun cs x => cs.setIfInBounds (off + x.2) x.1) c').toList
  | [], l', c, c', hl, hn, hc => by
    cases l' with
    | nil => exact hc
    | cons x l' => simp at hn
  | x :: l, l', c, c', hl, hn, hc => by
    cases l' with
    | nil => simp at hn
    | cons y l' =>
      simp only [List.map_cons, List.cons.injEq] at hl hn
      obtain ⟨y', ys', e, hv, hr⟩ := hl.cons_inv
      simp only [List.cons.injEq] at e
      obtain ⟨e1, e2⟩ := e
      subst e1 e2
      simp only [List.foldl_cons]
      refine Qd off l l' _ _ hr hn.2 ?_
      rw [Array.toList_setIfInBounds, Array.toList_setIfInBounds, hn.1]
      exact zg7 hc _ hv
theorem WT {ρ : Ren} {place : Nat -> Option (Nat × Nat)} : ∀ (ps ps' : List (Nat × Value)) (c c' : Array Value) (r : Array Value), Q4 ρ ps ps' -> yQ ρ c.toList c'.toList -> Instr.fill place c ps = some r ->
    ∃ r', Instr.fill place c' ps' = some r' /\ yQ ρ r.toList r'.toList
  | [], ps', c, c', r, hp, hc, he => by
    have : ps' = [] := by have := hp.2; simp at this; cases ps' <;> simp_all
    subst this
    simp only [Instr.fill, Option.some.injEq] at he
    subst he
    exact ⟨c', rfl, hc⟩
  | (i, v) :: ps, ps', c, c', r, hp, hc, he => by
    cases ps' with
    | nil => have := hp.2; simp at this
    | cons p ps' =>
      obtain ⟨i', v'⟩ := p
      obtain ⟨h1, h2⟩ := hp
      simp only [List.map_cons, List.cons.injEq] at h1 h2
      obtain ⟨rfl, h2⟩ := h2
      obtain ⟨y, ys, e, hv, hr⟩ := h1.cons_inv
      simp only [List.cons.injEq] at e
      obtain ⟨e1, e2⟩ := e
      subst e1 e2
      simp only [Instr.fill] at he ⊢
      cases hpl : place i with
      | none => rw [hpl] at he; cases he
      | some x =>
        obtain ⟨off, size⟩ := x
        rw [hpl] at he
        simp only at he ⊢
        have hcells := hv.cells
        have e1 : v'.cells.size = v.cells.size := by simpa using hcells.1.symm
        have e2 : c'.size = c.size := by simpa using hc.1.symm
        split at he
        . cases he
        . rename_i hcond
          rw [if_neg (by rw [e1, e2]; exact hcond)]
          refine WT ps ps' _ _ r ⟨hr, h2⟩ ?_ he
          rw [<- Array.foldl_toList, <- Array.foldl_toList]
          refine Qd off _ _ c c' ?_ ?_ hc
          . simp only [Array.toList_zipIdx]
            have q : ∀ (l : List Value) k, (l.zipIdx k).map (·.1) = l := fun l k => by simp
            rw [q, q]; exact hcells
          . simp only [Array.toList_zipIdx]
            have q : ∀ (l : List Value) k, (l.zipIdx k).map (·.2) = List.range' k l.length := fun l k => by simp
            rw [q, q, hcells.1]
def Zf (s : Env) : List (Nat × Operand) -> Option (List (Nat × Value))
  | [] => some []
  | (i, x) :: ps => match aev s x with
    | none => none
    | some v => match Zf s ps with
      | none => none
      | some vs => some ((i, v) :: vs)
theorem jC {ρ : Ren} {s : Env} {a : Act} (hs : xe ρ s a.tmps) : ∀ {ps : List (Nat × Operand)} {vs : List (Nat × Value)}, Zf s ps = some vs -> Q4 ρ vs (ps.map fun x => (x.1, a.eval x.2))
  | [], vs, h => by simp only [Zf, Option.some.injEq] at h; subst h; exact ⟨.nil ρ, rfl⟩
  | (i, x) :: ps, vs, h => by
    simp only [Zf] at h
    split at h
    . cases h
    . rename_i v hv
      split at h
      . cases h
      . rename_i vs' hvs
        simp only [Option.some.injEq] at h
        subst h
        have := jC hs hvs
        exact ⟨.cons (zB hs hv) this.1, by simp [this.2]⟩
def xo (P : Program) (t : TypeId) : Option Value := fl (yM P (zeroValue t))
theorem ua {ρ : Ren} {t : TypeId} {z : Value} (h : xo P t = some z) (w : World) : (zeroValue t).run P w = .ok z w /\ z9 ρ z z := by
  obtain ⟨h1, h2⟩ := Zg h
  exact ⟨zh h1 w, .of_flat ρ h2⟩
def zlh (P : Program) (fields : Array Field) : Option (Array (Nat × Nat)) := yM P (fields.mapM fun f => do pure (f.offset, <- sizeOf f.type))
def yj (P : Program) (t : TypeId) (parts : List (Nat × Value)) : Option Value :=
  match xo P t with
  | none => none
  | some z => match yM P (underlying t) with
    | some (.struct fields) => (match zlh P fields with
      | none => none
      | some places => (Instr.fill (places[·]?) z.cells parts).map .agg)
    | some (.array _ elem) => (match yM P (sizeOf elem) with
      | none => none
      | some n => (Instr.fill (fun i => some (i * n, n)) z.cells parts).map .agg)
    | _ => none
theorem zaw {ρ : Ren} {t : TypeId} {parts parts' : List (Nat × Value)} {v : Value} (h : yj P t parts = some v) (hp : Q4 ρ parts parts') (w : World) :
    ∃ v', (Instr.build t parts'.toArray).run P w = .ok v' w /\ z9 ρ v v' := by
  unfold yj at h
  split at h
  . cases h
  . rename_i z hz
    obtain ⟨e0, hz⟩ := ua (ρ := ρ) hz w
    split at h
    . rename_i fields hu
      split at h
      . cases h
      . rename_i places hpl
        simp only [Option.map_eq_some_iff] at h
        obtain ⟨r, hr, rfl⟩ := h
        obtain ⟨r', hr', hv⟩ := WT _ _ _ _ _ hp hz.cells hr
        refine ⟨.agg r', ?_, .agg (by simpa using hv.1) (fun i x y hx hy => hv.2 i x y (by simpa using hx) (by simpa using hy))⟩
        simp only [Instr.build, Sem.run_bind, e0, Result.andThen_ok, zh hu, zh hpl, hr', Sem.run_pure]
    . rename_i n elem hu
      split at h
      . cases h
      . rename_i n hn
        simp only [Option.map_eq_some_iff] at h
        obtain ⟨r, hr, rfl⟩ := h
        obtain ⟨r', hr', hv⟩ := WT _ _ _ _ _ hp hz.cells hr
        refine ⟨.agg r', ?_, .agg (by simpa using hv.1) (fun i x y hx hy => hv.2 i x y (by simpa using hx) (by simpa using hy))⟩
        simp only [Instr.build, Sem.run_bind, e0, Result.andThen_ok, zh hu, zh hn, hr', Sem.run_pure]
    . cases h
def zhZ (h : za) (c : List Value) (t : TypeId) : Value × za := (.pointer (some ⟨h.next, 0, none⟩), h.push (.cells c t))
theorem WG {ρ : Ren} {h : za} {w : World} (hr : Rel P ρ h w) {v v' : Value} (hv : z9 ρ v v') (t : TypeId) :
    ∃ a' w' ρ', (newVar t v').run P w = .ok a' w' /\ Step P ρ h w ρ' (zhZ h v.cells.toList t).2 w' /\ z9 ρ' (zhZ h v.cells.toList t).1 (.pointer (some a')) := by
  have hc := hv.cells
  obtain ⟨e, st⟩ := Wc (t := t) hr (c := v.cells.toList) (cs := v'.cells) (by rw [hc.1, Array.length_toList]; exact Nat.le_refl _) (fun i x hx => by
    obtain ⟨y, hy, hxy⟩ := hc.get hx
    exact ⟨y, by simpa using hy, hxy⟩)
  exact ⟨_, _, _, e, st, .new hr _ rfl⟩
def vN (z : List Value) (n : Nat) : List Value := (List.range n).map fun i => (z[i % z.length]?).getD default
theorem zan (z : Array Value) (n : Nat) : ((Array.range n).map fun i => z[i % z.size]!) = (vN z.toList n).toArray := by
  apply Array.ext'
  simp only [Array.toList_map, Array.toList_range, vN]
  apply List.map_congr_left
  intro i _
  simp [getElem!_def]
  cases z[i % z.size]? <;> rfl
theorem Qc {ρ : Ren} {z : Value} (h : z9 ρ z z) (hd : z.cells.size ≠ 0) (n : Nat) : yQ ρ (vN z.cells.toList n) (vN z.cells.toList n) := by
  refine ⟨rfl, fun i x y hx hy => ?_⟩
  rw [hx] at hy
  cases hy
  simp only [vN, List.getElem?_map, Option.map_eq_some_iff] at hx
  obtain ⟨k, _, hk⟩ := hx
  have hlt : k % z.cells.toList.length < z.cells.toList.length := Nat.mod_lt _ (by simp; omega)
  rw [List.getElem?_eq_getElem hlt] at hk
  simp only [Option.getD_some] at hk
  have := h.cells.2 _ _ _ (List.getElem?_eq_getElem hlt) (List.getElem?_eq_getElem hlt)
  rw [hk] at this
  exact this
def ZQ (P : Program) (t : TypeId) (len cap : Value) (h : za) : Option (Value × za) :=
  match len, cap, yM P (underlying t) with
  | .int _ l, .int _ c, some (.slice elem) => (match yM P (typeInfo elem) with
    | none => none
    | some i => (match xo P elem with
      | none => none
      | some z => cond (decide (IntKind.i64.wrap l = l) && decide (IntKind.i64.wrap c = c) && decide (0 <= l) && decide (l <= c) && decide (i.bytes * c <= 2 ^ 48) && Nat.beq z.cells.size i.size && Nat.blt 0 i.size)
          (some (.slice (some ⟨h.next, 0, none⟩) l.toNat (c.toNat + 2), h.push (.cells (vN z.cells.toList (c.toNat * i.size)) elem))) none))
  | _, _, _ => none
theorem wA {t : TypeId} {i : TypeInfo} (h : yM P (typeInfo t) = some i) : P.cellsOf t = i.size /\ ∀ w, (sizeOf t).run P w = .ok i.size w := by
  have h0 := h
  constructor
  . simp only [typeInfo, program, Sem.bind, bind, yM] at h
    cases hp : P.info? t with
    | none => rw [hp] at h; cases h
    | some j => rw [hp] at h; simp only [pure, yM, Option.some.injEq] at h; subst h; simp [Program.cellsOf, hp]
  . intro w
    simp only [sizeOf, Sem.run_bind, zh h0, Result.andThen_ok, Sem.run_pure]
theorem zb8 {ρ : Ren} {t : TypeId} {l l' c c' v : Value} {h h' : za} {w : World} (he : ZQ P t l c h = some (v, h')) (hr : Rel P ρ h w) (hl : z9 ρ l l') (hc : z9 ρ c c') :
    ∃ v' w' ρ', (Instr.makeSlice t l' c').run P w = .ok v' w' /\ Step P ρ h w ρ' h' w' /\ z9 ρ' v v' := by
  unfold ZQ at he
  split at he
  . rename_i kl l kc c elem hu
    cases hl; cases hc
    split at he
    . cases he
    . rename_i i hi
      split at he
      . cases he
      . rename_i z hz
        cases hcond : (decide (IntKind.i64.wrap l = l) && decide (IntKind.i64.wrap c = c) && decide (0 <= l) && decide (l <= c) && decide (i.bytes * c <= 2 ^ 48) && Nat.beq z.cells.size i.size && Nat.blt 0 i.size) with
        | false => rw [hcond] at he; cases he
        | true =>
          rw [hcond] at he
          simp only [cond_true, Option.some.injEq, Prod.mk.injEq] at he
          obtain ⟨rfl, rfl⟩ := he
          simp only [Bool.and_eq_true, decide_eq_true_eq] at hcond
          obtain ⟨⟨⟨⟨⟨⟨w1, w2⟩, p1⟩, p2⟩, p3⟩, zs⟩, sp⟩ := hcond
          have zs := Nat.eq_of_beq_eq_true zs
          have sp : 0 < i.size := by simpa [Nat.blt_eq] using sp
          obtain ⟨e0, hz'⟩ := ua (ρ := ρ) hz w
          obtain ⟨sz1, sz2⟩ := wA hi
          obtain ⟨e, st⟩ := Wc (t := elem) hr (c := vN z.cells.toList (c.toNat * i.size)) (cs := (Array.range (c.toNat * i.size)).map fun k => z.cells[k % z.cells.size]!)
            (by simp [vN]) (fun k x hx => by
              rw [zan]
              obtain ⟨y, hy, hxy⟩ := (Qc hz' (by omega) (c.toNat * i.size)).get hx
              exact ⟨y, by simpa using hy, hxy⟩)
          refine ⟨.slice (some ⟨w.heap.size, 0, none⟩) l.toNat c.toNat, _, _, ?_, st, ?_⟩
          . have b1 : ¬ ((i.bytes : Int) * c > 2 ^ 48) := by omega
            have b2 : ¬ (c < 0) := by omega
            have b3 : ¬ (l < 0) := by omega
            have b4 : ¬ (l > c) := by omega
            simp only [Instr.makeSlice, asInt, asIntOf, Sem.run_bind, Sem.run_pure, Result.andThen_ok, zh hu, zh hi, w1, w2]
            rw [if_neg (by simp [b2, b3, b4]; omega)]
            simp only [Sem.run_bind, run_askRoom, Result.andThen_ok, sz2]
            by_cases hn : c.toNat * i.size = 0
            . rw [if_pos hn]
              have e1 : ((Array.range (c.toNat * i.size)).map fun k => (#[] : Array Value)[k % (#[] : Array Value).size]!) = ((Array.range (c.toNat * i.size)).map fun k => z.cells[k % z.cells.size]!) := by rw [hn]; simp
              simp only [Sem.run_bind, Sem.run_pure, Result.andThen_ok]
              rw [e1, e]
              simp only [Result.andThen_ok]
            . rw [if_neg hn]
              simp only [Sem.run_bind, e0, Sem.run_pure, Result.andThen_ok, e]
          . refine z9.slice (ρ := ρ.ext _) (b := h.next) (off := 0) (pl := ⟨w.heap.size, 0, _, _⟩) (by show h.next < ρ.next + 1; rw [hr.next]; exact Nat.lt_succ_self _) (by rw [<- hr.next]; exact ρ.wF _) (by omega) ?_
            intro _
            refine ⟨by simp [sz1], fun k hk => by omega⟩
  . cases he
end
end Go.Ai
namespace Go.Ai
noncomputable section
variable {P : Program}
def Us : Nat -> Nat -> Nat
  | 0, _ => 0
  | 1, _ => 1
  | k + 2, l => (k - l) + 2
def wG (x : Option Value) (d : Nat) (most : Nat) : Option Nat :=
  match x with
  | none => some d
  | some (.int _ i) => cond (decide (0 <= i) && decide (i <= most)) (some i.toNat) none
  | some _ => none
def wide (P : Program) (h : za) (b n : Nat) : Bool :=
  match h.get b with
  | some (.cells _ t) => Nat.beq (P.cellsOf t) n
  | _ => false
def QB (P : Program) (t : TypeId) (x : Value) (lo hi : Option Value) (h : za) : Option Value :=
  match yM P (underlying t), x with
  | some (.slice elem), .slice base len c => (match yM P (sizeOf elem) with
    | none => none
    | some n => (match wG hi len len with
      | none => none
      | some hh => (match wG lo 0 hh with
        | none => none
        | some l => (match base with
          | none => cond (Nat.beq len 0) (some (.slice none 0 0)) none
          | some ⟨b, off, none⟩ => some (.slice (some ⟨b, off + l * n, none⟩) (hh - l) (cond (wide P h b n) (Us c l) 0))
          | some _ => none))))
  | some (.array k elem), .pointer (some ⟨b, off, none⟩) => (match yM P (sizeOf elem) with
    | none => none
    | some n => (match wG hi k k with
      | none => none
      | some hh => (match wG lo 0 hh with
        | none => none
        | some l => some (.slice (some ⟨b, off + (if k = l then 0 else l * n), none⟩) (hh - l) 0))))
  | _, _ => none
theorem YQ {x : Option Value} {d most r : Nat} (h : wG x d most = some r) (hd : d <= most) : r <= most := by
  unfold wG at h
  split at h
  . simp only [Option.some.injEq] at h; omega
  . rename_i k i
    cases hc : (decide (0 <= i) && decide (i <= (most : Int))) with
    | false => rw [hc] at h; cases h
    | true =>
      rw [hc] at h
      simp only [cond_true, Option.some.injEq] at h
      simp only [Bool.and_eq_true, decide_eq_true_eq] at hc
      omega
  . cases h
theorem Qr {ρ : Ren} {x x' : Option Value} {d most r : Nat} (h : wG x d most = some r) (hx : ∀ v, x = some v -> ∃ v', x' = some v' /\ z9 ρ v v') (hn : x = none -> x' = none) {y : Nat} (hy : most <= y) (code : BoundsCode) (w : World) :
    (match x' with | some v => Instr.sliceBound v y code | none => (pure d : Sem Nat)).run P w = .ok r w := by
  unfold wG at h
  split at h
  . rw [hn rfl]
    simp only [Option.some.injEq] at h
    subst h; rfl
  . rename_i k i
    obtain ⟨v', rfl, hv⟩ := hx _ rfl
    cases hv
    cases hc : (decide (0 <= i) && decide (i <= (most : Int))) with
    | false => rw [hc] at h; cases h
    | true =>
      rw [hc] at h
      simp only [cond_true, Option.some.injEq] at h
      simp only [Bool.and_eq_true, decide_eq_true_eq] at hc
      subst h
      simp only [Instr.sliceBound, asIntOf, Sem.run_bind, Sem.run_pure, Result.andThen_ok, Sem.run_ite]
      rw [if_pos (by omega)]
  . cases h
def zlK (ρ : Ren) (x x' : Option Value) : Prop := (∀ v, x = some v -> ∃ v', x' = some v' /\ z9 ρ v v') /\ (x = none -> x' = none)
theorem ZK {ρ : Ren} {lo lo' hi hi' : Option Value} {len cap hh l : Nat} (hhi : wG hi len len = some hh) (hlo : wG lo 0 hh = some l) (rl : zlK ρ lo lo') (rh : zlK ρ hi hi') (hl : len <= cap) (b : Bool) (w : World) :
    (Instr.sliceBounds b len cap lo' hi' none).run P w = .ok (l, hh, cap) w := by
  have h1 := Qr (P := P) hhi rh.1 rh.2 hl (if b then .sliceAcap else .sliceAlen) w
  have h2 := Qr (P := P) hlo rl.1 rl.2 (Nat.le_refl hh) (.sliceB) w
  unfold Instr.sliceBounds
  cases hi' with
  | none =>
    have e1 : len = hh := by simpa using h1
    subst e1
    cases lo' with
    | none => have e2 : 0 = l := by simpa using h2
              subst e2; rfl
    | some v =>
      simp only at h2
      simp only [Sem.run_bind, Sem.run_pure, Result.andThen_ok, Option.isSome_none, Bool.false_eq_true, if_false, h2]
  | some u =>
    simp only at h1
    cases lo' with
    | none => have e2 : 0 = l := by simpa using h2
              subst e2
              simp only [Sem.run_bind, Sem.run_pure, Result.andThen_ok, h1]
    | some v =>
      simp only at h2
      simp only [Sem.run_bind, Sem.run_pure, Result.andThen_ok, Option.isSome_none, Bool.false_eq_true, if_false, h1, h2]
theorem zaT {ρ : Ren} {t : TypeId} {x x' v : Value} {lo lo' hi hi' : Option Value} {h : za} {w : World} (he : QB P t x lo hi h = some v) (hr : Rel P ρ h w) (hx : z9 ρ x x') (rl : zlK ρ lo lo') (rh : zlK ρ hi hi') :
    ∃ v', (Instr.sliceAt t x' lo' hi' none).run P w = .ok v' w /\ z9 ρ v v' := by
  unfold QB at he
  split at he
  . rename_i elem base len c hu
    split at he
    . cases he
    . rename_i n hn
      split at he
      . cases he
      . rename_i hh hhi
        split at he
        . cases he
        . rename_i l hlo
          have h1 := YQ hhi (Nat.le_refl _)
          have h2 := YQ hlo (Nat.zero_le _)
          cases hx with
          | sliceNil =>
            simp only [Nat.beq_refl, cond_true, Option.some.injEq] at he
            subst he
            have : hh = 0 := by omega
            subst this
            have : l = 0 := by omega
            subst this
            refine ⟨.slice none 0 0, ?_, .sliceNil 0⟩
            have hb := ZK (P := P) hhi hlo rl rh (Nat.le_refl 0) true w
            simp only [Instr.sliceAt, Instr.slice, Sem.run_bind, zh hu, Result.andThen_ok, hb, zh hn, Sem.run_pure, if_true, Nat.sub_self]
          | slice hb hm hl hc =>
            rename_i b off cap pl
            simp only [Option.some.injEq] at he
            subst he
            have hbd := ZK (P := P) hhi hlo rl rh hl true w
            have hrun : (Instr.sliceAt t (.slice (some ⟨pl.c, pl.base + off, none⟩) len cap) lo' hi' none).run P w = .ok (.slice (if cap = l then some ⟨pl.c, pl.base + off, none⟩ else some ⟨pl.c, pl.base + off + l * n, none⟩) (hh - l) (cap - l)) w := by
              simp only [Instr.sliceAt, Instr.slice, Sem.run_bind, zh hu, Result.andThen_ok, hbd, zh hn, Sem.run_pure, Option.map_some, vh]
            by_cases hcl : cap = l
            . refine ⟨_, hrun, ?_⟩
              rw [if_pos hcl]
              have e1 : hh - l = 0 := by omega
              have e2 : cap - l = 0 := by omega
              rw [e1, e2]
              refine .sliceOut hb ?_
              cases hw : wide P h b n with
              | false => exact Nat.zero_le _
              | true =>
                simp only [cond_true]
                unfold Us
                split
                . omega
                . omega
                . rename_i k
                  have := (hc (by omega)).2 k rfl
                  omega
            . refine ⟨_, hrun, ?_⟩
              rw [if_neg hcl, Nat.add_assoc]
              refine .slice hb hm (by omega) ?_
              cases hw : wide P h b n with
              | false => intro hne; exact absurd rfl hne
              | true =>
                simp only [cond_true]
                intro hne
                have hc0 : c ≠ 0 := by intro e; subst e; exact hne rfl
                obtain ⟨c1, c2⟩ := hc hc0
                unfold wide at hw
                split at hw
                . rename_i cs tb hg
                  have hw := Nat.eq_of_beq_eq_true hw
                  obtain ⟨cs', fz, _, _, hesz, _⟩ := hr.place hg hm
                  rw [hesz.1, hw] at c1 ⊢
                  refine ⟨?_, ?_⟩
                  . have : l * n + (cap - l) * n = cap * n := by rw [<- Nat.add_mul]; congr 1; omega
                    omega
                  . intro k hk
                    unfold Us at hk
                    split at hk
                    . omega
                    . omega
                    . have := c2 _ rfl
                      omega
                . cases hw
          | sliceOut hb hc =>
            rename_i b off a
            simp only [Option.some.injEq] at he
            subst he
            have : hh = 0 := by omega
            subst this
            have : l = 0 := by omega
            subst this
            refine ⟨.slice (some a) 0 0, ?_, .sliceOut hb ?_⟩
            . have hbd := ZK (P := P) hhi hlo rl rh (Nat.le_refl 0) true w
              simp only [Instr.sliceAt, Instr.slice, Sem.run_bind, zh hu, Result.andThen_ok, hbd, zh hn, Sem.run_pure, if_true, Nat.sub_self]
            . cases wide P h b n with
              | false => exact Nat.zero_le _
              | true => simp only [cond_true]; unfold Us; split <;> omega
  . rename_i k elem b off hu
    cases hx with
    | ptr hb hm =>
      rename_i pl
      split at he
      . cases he
      . rename_i n hn
        split at he
        . cases he
        . rename_i hh hhi
          split at he
          . cases he
          . rename_i l hlo
            simp only [Option.some.injEq] at he
            subst he
            have h1 := YQ hhi (Nat.le_refl _)
            have h2 := YQ hlo (Nat.zero_le _)
            have hbd := ZK (P := P) hhi hlo rl rh (Nat.le_refl k) false w
            refine ⟨_, by simp only [Instr.sliceAt, Instr.sureAddr, Sem.run_bind, zh hu, Sem.run_pure, Result.andThen_ok, hbd, zh hn]; rfl, ?_⟩
            have : (if k = l then (Addr.mk pl.c (pl.base + off) none) else (Addr.mk pl.c (pl.base + off) none).add (l * n)) = ⟨pl.c, pl.base + (off + (if k = l then 0 else l * n)), none⟩ := by
              split
              . rfl
              . rw [vh, Nat.add_assoc]
            rw [this]
            exact .slice hb hm (by omega) (fun hne => absurd rfl hne)
  . cases he
def znt (P : Program) (t : TypeId) (x : Value) : Option Value :=
  match yM P (underlying t), x with
  | some (.slice _), .slice _ n _ => some (goInt n)
  | some .string, .string s => some (goInt s.size)
  | some (.array n _), _ => some (goInt n)
  | _, _ => none
theorem zd7 {ρ : Ren} {t : TypeId} {x x' v : Value} (he : znt P t x = some v) (hx : z9 ρ x x') (r : TypeId) (w : World) : (Builtin.len_ #[t] r #[x']).run P w = .ok v w /\ z9 ρ v v := by
  unfold znt at he
  split at he
  . rename_i hu
    simp only [Option.some.injEq] at he
    subst he
    refine ⟨?_, .int _ _⟩
    cases hx <;> simp [Builtin.len_, zh hu]
  . rename_i hu
    simp only [Option.some.injEq] at he
    subst he
    refine ⟨?_, .int _ _⟩
    cases hx; simp [Builtin.len_, zh hu]
  . rename_i hu
    simp only [Option.some.injEq] at he
    subst he
    refine ⟨?_, .int _ _⟩
    simp [Builtin.len_, zh hu]
  . cases he
end
end Go.Ai
namespace Go.Ai
noncomputable section
variable {P : Program}
def xh (h : za) (n size : Nat) : Value -> Option (List Value)
  | .slice (some ⟨b, off, none⟩) _ _ => cond (Nat.beq (n * size) 0) (some []) (match h.get b with
    | some (.cells c _) => cond (Nat.ble (off + n * size) c.length) (some ((c.drop off).take (n * size))) none
    | _ => none)
  | .slice none _ _ => some []
  | .string s => some ((s.extract 0 n).data.toList.map fun b => .int .u8 b.toNat)
  | _ => none
def ZP : Value -> Option Nat
  | .slice _ n _ => some n
  | .string s => some s.size
  | _ => none
theorem Vz {ρ : Ren} {x x' : Value} {n : Nat} (h : ZP x = some n) (hx : z9 ρ x x') (w : World) : (Builtin.lenOf x').run P w = .ok n w := by
  cases hx with
  | odd _ => cases h
  | _ => simp only [ZP, Option.some.injEq, reduceCtorEq] at h <;> subst h <;> rfl
theorem Zh {ρ : Ren} {h : za} {w : World} {n size : Nat} {x x' : Value} {c : List Value} (he : xh h n size x = some c) (hr : Rel P ρ h w) (hx : z9 ρ x x') (hn : ∀ b l cap, x = .slice b l cap -> n <= l) :
    ∃ c' : List Value, (Builtin.firstCells size n x').run P w = .ok c'.toArray w /\ yQ ρ c c' := by
  have hzero : n * size = 0 -> ∀ a : Addr, (loadCells a (n * size)).run P w = .ok ([] : List Value).toArray w := by
    intro e a; rw [e]; rfl
  cases hx with
  | sliceNil c0 =>
    simp only [xh, Option.some.injEq] at he
    subst he
    exact ⟨[], rfl, .nil ρ⟩
  | slice hb hm hl hc =>
    rename_i b off len c0 cap pl
    simp only [xh] at he
    cases hz : Nat.beq (n * size) 0 with
    | true =>
      rw [hz] at he
      simp only [cond_true, Option.some.injEq] at he
      subst he
      exact ⟨[], by simp only [Builtin.firstCells]; exact hzero (Nat.eq_of_beq_eq_true hz) _, .nil ρ⟩
    | false =>
      rw [hz] at he
      simp only [cond_false] at he
      split at he
      . rename_i cs t hg
        cases hle : Nat.ble (off + n * size) cs.length with
        | false => rw [hle] at he; cases he
        | true =>
          rw [hle] at he
          simp only [cond_true, Option.some.injEq] at he
          subst he
          obtain ⟨ys, hys, hv⟩ := wt (hr.place hg hm) off (n * size) (Nat.le_of_ble_eq_true hle)
          exact ⟨ys, by simpa only [Builtin.firstCells] using hys, hv⟩
      . cases he
  | sliceOut hb hc =>
    rename_i b off c0 a
    have := hn _ _ _ rfl
    have hz : n * size = 0 := by have : n = 0 := by omega
                                 subst this; simp
    simp only [xh, hz, Nat.beq_refl, cond_true, Option.some.injEq] at he
    subst he
    exact ⟨[], by simp only [Builtin.firstCells]; exact hzero hz _, .nil ρ⟩
  | string s =>
    simp only [xh, Option.some.injEq] at he
    subst he
    refine ⟨_, ?_, ⟨rfl, fun i x y hx hy => ?_⟩⟩
    . simp only [Builtin.firstCells, Sem.run_pure]
      congr 1
      apply Array.ext'
      simp
    . rw [hx] at hy; cases hy
      simp only [List.getElem?_map, Option.map_eq_some_iff] at hx
      obtain ⟨b, _, rfl⟩ := hx
      exact .int _ _
  | _ => cases he
def QM : TypeDesc -> Bool
  | .int _ => true
  | _ => false
theorem K5 (need : Nat) (hn : 255 <= need) : ∀ (r c : Nat), c <= 2 * need -> Builtin.growBy need r c <= 2 * need
  | 0, c, h => h
  | r + 1, c, h => by
    unfold Builtin.growBy
    split
    . exact h
    . exact K5 need hn r _ (by omega)
theorem zeV (need cap : Nat) (h : cap < need) : Builtin.nextslicecap need cap <= 2 * need := by
  unfold Builtin.nextslicecap
  split
  . omega
  . split
    . omega
    . exact K5 need (by omega) 4 cap (by omega)
theorem Wz (need : Nat) (h : 0 < need) : Builtin.nextslicecap need 0 = need := by
  unfold Builtin.nextslicecap; rw [if_pos (by omega)]
theorem run_append_grow {ρ : Ren} {h : za} {w : World} (hr : Rel P ρ h w) {sT xT elem : TypeId} {r : TypeId} {xd : TypeDesc} {i : TypeInfo} {z : Value} {base : Option Addr} {len cap n : Nat} {x' : Value} {old old' new new' : List Value}
    (h1 : yM P (underlying sT) = some (.slice elem)) (h2 : yM P (underlying xT) = some xd) (h3 : QM xd = false) (hi : yM P (typeInfo elem) = some i) (hz : xo P elem = some z)
    (hb : 0 < i.bytes) (hzs : z.cells.size = i.size)
    (hlen : ∀ w, (Builtin.lenOf x').run P w = .ok n w) (hgrow : cap < len + n) (hlim : Builtin.nextslicecap (len + n) cap * i.bytes <= 2 ^ 48)
    (hold : (Builtin.firstCells i.size len (.slice base len cap)).run P { w with drawn := w.drawn + 1 } = .ok old'.toArray { w with drawn := w.drawn + 1 }) (hnew : (Builtin.firstCells i.size n x').run P { w with drawn := w.drawn + 1 } = .ok new'.toArray { w with drawn := w.drawn + 1 })
    (vold : yQ ρ old old') (vnew : yQ ρ new new') (hol : old.length = len * i.size) (hnl : new.length = n * i.size) :
    ∃ cap' w' pl, (Builtin.append_ #[sT, xT] r #[.slice base len cap, x']).run P w = .ok (.slice (some ⟨w.heap.size, 0, none⟩) (len + n) cap') w' /\ len + n <= cap' /\ pl.c = w.heap.size /\ pl.base = 0 /\ pl.esz = i.size /\ cap' * i.size <= pl.size /\
      Step P ρ h w (ρ.ext pl) (h.push (.cells (old ++ new) elem)) w' := by
  obtain ⟨sz1, sz2⟩ := wA hi
  obtain ⟨z1, _⟩ := ua (ρ := ρ) hz w
  have z1 : ∀ w, (zeroValue elem).run P w = .ok z w := fun w => (ua (ρ := ρ) hz w).1
  let q : Question := .appendCap (len + n) cap elem
  let newCap := q.cut (w.tape w.drawn q)
  let w1 : World := { w with drawn := w.drawn + 1 }
  have hge : len + n <= newCap := by show len + n <= (len + n) + _ % _; omega
  let cs : Array Value := old'.toArray ++ new'.toArray ++ Builtin.zeroCells z.cells (newCap - (len + n))
  have hr1 : Rel P ρ h w1 := hr.grow (fun k _ => rfl)
  have hcs : cs.size = newCap * i.size := by
    simp only [cs, Builtin.zeroCells, Array.size_append, List.size_toArray, Array.size_map, Array.size_range, <- vold.1, <- vnew.1, hol, hnl, hzs]
    rw [<- Nat.add_mul, <- Nat.add_mul]; congr 1; omega
  have st := Step.push (t := elem) hr1 (c := old ++ new) (cs := cs) (fz := (0, 0)) (w' := { w1 with heap := w1.heap.push (.cells cs elem) }) rfl (fun i _ hi => by simp at hi)
    (by simp only [cs, Array.size_append, List.length_append, List.size_toArray, vold.1, vnew.1]; omega)
    (fun k x hx => by
      obtain ⟨y, hy, hxy⟩ := (vold.append vnew).get hx
      refine ⟨y, ?_, hxy⟩
      have hlt : k < (old' ++ new').length := by
        rcases Nat.lt_or_ge k (old' ++ new').length with h | h
        . exact h
        . rw [List.getElem?_eq_none h] at hy; cases hy
      have : cs = (old' ++ new').toArray ++ Builtin.zeroCells z.cells (newCap - (len + n)) := by
        have e : old'.toArray ++ new'.toArray = (old' ++ new').toArray := by simp
        simp only [cs]; rw [e]
      rw [this, Array.getElem?_append_left (by simpa using hlt)]
      simpa using hy) rfl rfl rfl
  refine ⟨newCap, _, ⟨w.heap.size, 0, cs.size, P.cellsOf elem⟩, ?_, hge, rfl, rfl, sz1, by rw [hcs]; exact Nat.le_refl _, ⟨st.le, st.rel, st.ro, st.os, st.tape, st.output, st.size, st.frame, st.img⟩⟩
  have e1 : ¬ (len + n <= cap) := by omega
  simp only [Builtin.append_]
  simp only [List.getElem?_toArray, List.getElem?_cons_zero, List.getElem?_cons_succ, Sem.run_bind, zh h1, Result.andThen_ok, sz2, zh h2, Sem.run_pure]
  rw [if_neg (by cases xd <;> first | exact Bool.false_ne_true | cases h3)]
  simp only [Sem.run_bind, hlen, Result.andThen_ok]
  rw [if_neg e1]
  simp only [Sem.run_bind, zh hi, Result.andThen_ok]
  rw [if_neg (by
    rintro ⟨_, h | h⟩
    . revert h; cases xd <;> first | exact Bool.false_ne_true | cases h3
    . omega)]
  simp only [Sem.run_bind, zh hi, Result.andThen_ok]
  rw [if_neg (by omega)]
  have hq : (choose (.appendCap (len + n) cap elem)).run P w = .ok newCap w1 := by rw [run_choose]; rfl
  simp only [Sem.run_bind, hq, Result.andThen_ok, zh hi, run_askRoom]
  rw [show w1 = { w with drawn := w.drawn + 1 } from rfl, hold]
  simp only [Result.andThen_ok]
  rw [if_pos (by cases xd <;> first | rfl | cases h3)]
  rw [hnew]
  simp only [Result.andThen_ok, z1, Sem.run_pure]
  rfl
theorem Kt {ρ : Ren} {h : za} {w : World} (hr : Rel P ρ h w) {sT xT elem : TypeId} {r : TypeId} {xd : TypeDesc} {i : TypeInfo} {b off len cap n : Nat} {cs : List Value} {pl : Place} {x' : Value} {new new' : List Value}
    (h1 : yM P (underlying sT) = some (.slice elem)) (h2 : yM P (underlying xT) = some xd) (h3 : QM xd = false) (hi : yM P (typeInfo elem) = some i)
    (hlen : ∀ w, (Builtin.lenOf x').run P w = .ok n w) (hfits : len + n <= cap) (hg : h.get b = some (.cells cs elem)) (hm : ρ.m b = some pl) (hro : h.ro <= b)
    (hnew : (Builtin.firstCells i.size n x').run P w = .ok new'.toArray w) (vnew : yQ ρ new new') (hnl : new.length = n * i.size) (hcell : ∀ x ∈ new, cellOk x = true)
    (hroom : pl.base + off + cap * i.size <= pl.size) (hhave : off + len * i.size <= cs.length) (hoff : off % i.size = 0) :
    ∃ w', (Builtin.append_ #[sT, xT] r #[.slice (some ⟨pl.c, pl.base + off, none⟩) len cap, x']).run P w = .ok (.slice (some ⟨pl.c, pl.base + off, none⟩) (len + n) cap) w' /\
      Step P ρ h w (ρ.ext ⟨pl.c, pl.base + off, pl.size, pl.esz⟩) ((h.set b none).push (.cells (((cs.drop off).take (len * i.size)) ++ new) elem)) w' := by
  obtain ⟨sz1, sz2⟩ := wA hi
  obtain ⟨cs', fz, g1, g2, g3, g4, g5, g6⟩ := hr.place hg hm
  have key : ∀ (vs vs' : List Value) (w0 : World) (cc : Array Value) (j : Nat), w0.heap[pl.c]? = some (.cells cc elem fz) -> cc.size = pl.size -> pl.base + off + len * i.size + j + vs.length <= pl.size -> yQ ρ vs vs' -> (∀ x ∈ vs, cellOk x = true) ->
      ∃ w', (storeCells ⟨pl.c, pl.base + off + len * i.size, none⟩ vs' j).run P w0 = .ok () w' /\ (∃ dd : Array Value, w'.heap[pl.c]? = some (.cells dd elem fz) /\ dd.size = cc.size /\
        (∀ k, (k < pl.base + off + len * i.size + j) -> dd[k]? = cc[k]?) /\ (∀ k y, vs'[k]? = some y -> dd[pl.base + off + len * i.size + j + k]? = some y)) /\
        (∀ k, k ≠ pl.c -> w'.heap[k]? = w0.heap[k]?) /\ w'.os = w0.os /\ w'.tape = w0.tape /\ w'.output = w0.output /\ w'.heap.size = w0.heap.size := by
    intro vs
    induction vs with
    | nil =>
      intro vs' w0 cc j hb hsz _ hv _
      cases hv.xJ
      exact ⟨w0, rfl, ⟨cc, hb, rfl, fun _ _ => rfl, fun k y hy => by simp at hy⟩, fun _ _ => rfl, rfl, rfl, rfl, rfl⟩
    | cons v vs ih =>
      intro vs' w0 cc j hb hsz hle hv hco
      obtain ⟨v', vs'', rfl, hv1, hv2⟩ := hv.cons_inv
      simp only [List.length_cons] at hle
      let p := pl.base + off + len * i.size + j
      have hp : p < pl.size := by show pl.base + off + len * i.size + j < pl.size; omega
      have hone : v'.oneCell' = true := by have := Qk hv1; rw [hco v (by simp)] at this; cases v' <;> simp_all [cellOk, Value.oneCell']
      have hcell0 : w0.cell? ⟨pl.c, p, none⟩ = some cc[p]! := by
        simp only [World.cell?, hb]
        simp [getElem!_def, Array.getElem?_eq_getElem (show p < cc.size by omega)]
      have hfr : w0.frozen? ⟨pl.c, p, none⟩ = false := by
        have := g5 (by simpa using hro) p hp
        obtain ⟨lo, hi'⟩ := fz
        simp [World.frozen?, hb] at this ⊢
        exact this
      have e1 : (store ⟨pl.c, p, none⟩ v').run P w0 = .ok () (w0.setCell ⟨pl.c, p, none⟩ v') := by
        rw [run_store _ _ _ _ _ hone, hcell0]; simp [hfr]
      have hb1 : (w0.setCell ⟨pl.c, p, none⟩ v').heap[pl.c]? = some (.cells (cc.setIfInBounds p v') elem fz) := by simp [World.setCell, Array.getElem?_modify, hb]
      obtain ⟨w', e2, ⟨dd, d1, d2, d3, d4⟩, d5, d6, d7, d8, d9⟩ := ih vs'' _ (cc.setIfInBounds p v') (j + 1) hb1 (by simpa using hsz) (by omega) hv2 (fun x hx => hco x (by simp [hx]))
      refine ⟨w', ?_, ⟨dd, d1, by simpa using d2, fun k hk => ?_, fun k y hy => ?_⟩, fun k hk => (d5 k hk).trans (jw _ _ _ _ hk), d6, d7, d8, d9.trans (size_setCell _ _ _)⟩
      . simp only [storeCells, vh, Sem.run_bind]
        rw [show (⟨pl.c, pl.base + off + len * i.size + j, none⟩ : Addr) = ⟨pl.c, p, none⟩ from rfl, e1]
        exact e2
      . rw [d3 k (by omega), Array.getElem?_setIfInBounds, if_neg (by show p ≠ k; omega)]
      . cases k with
        | zero =>
          simp only [List.getElem?_cons_zero, Option.some.injEq] at hy
          subst hy
          rw [Nat.add_zero, d3 _ (by omega), Array.getElem?_setIfInBounds, if_pos rfl, if_pos (by omega)]
        | succ k =>
          have := d4 k y (by simpa using hy)
          rw [show pl.base + off + len * i.size + j + (k + 1) = pl.base + off + len * i.size + (j + 1) + k by omega]
          exact this
  have hfit : pl.base + off + len * i.size + 0 + new.length <= pl.size := by
    have : len * i.size + n * i.size <= cap * i.size := by rw [<- Nat.add_mul]; exact Nat.mul_le_mul_right _ hfits
    omega
  obtain ⟨w', e, ⟨dd, d1, d2, d3, d4⟩, d5, d6, d7, d8, d9⟩ := key new new' w cs' 0 g1 g2 hfit vnew hcell
  refine ⟨w', ?_, ?_⟩
  . simp only [Builtin.append_]
    simp only [List.getElem?_toArray, List.getElem?_cons_zero, List.getElem?_cons_succ, Sem.run_bind, zh h1, Result.andThen_ok, sz2, zh h2, Sem.run_pure]
    rw [if_neg (by cases xd <;> first | exact Bool.false_ne_true | cases h3)]
    simp only [Sem.run_bind, hlen, Result.andThen_ok]
    rw [if_pos hfits]
    rw [if_pos (by cases xd <;> first | rfl | cases h3)]
    simp only [Sem.run_bind, hnew, Result.andThen_ok, vh, e, Sem.run_pure]
  . have hr0 := hr.drop b
    have hle := ρ.Qo ⟨pl.c, pl.base + off, pl.size, pl.esz⟩
    have hr1 : Rel P ρ (h.set b none) w' := ⟨hr0.next, hr0.ro, hr0.dom, fun x ox hx => by
        obtain ⟨p, hp, hc⟩ := hr0.ok x ox hx
        refine ⟨p, hp, hc.other (d5 _ ?_)⟩
        intro ec
        rw [za.zP] at hx
        split at hx
        . cases hx
        . rename_i ne
          exact ne (hr.inj x b _ _ p pl hx hg hp hm ec), hr0.inj, hr0.gro, hr0.Yt⟩
    refine ⟨hle, hr1.push ⟨dd, fz, d1, d2.trans g2, ⟨g3.1, by
      show (pl.base + off) % pl.esz = 0
      rw [Nat.add_mod, g3.2, g3.1, sz1, hoff]; simp⟩, ?_, fun _ => g5 (by simpa using hro), ?_⟩ ?_, rfl, d6, d7, d8, by omega, fun k hk hn => d5 k (fun ec => hn ⟨b, _, pl, hg, hro, hm, ec.symm⟩), ?_⟩
    . simp only [List.length_append, List.length_take, List.length_drop, hnl] at hfit ⊢
      have : len * i.size + n * i.size <= cap * i.size := by rw [<- Nat.add_mul]; exact Nat.mul_le_mul_right _ hfits
      show pl.base + off + (min (len * i.size) (cs.length - off) + n * i.size) <= dd.size
      omega
    . intro k x hx
      rcases Nat.lt_or_ge k (len * i.size) with hk | hk
      . have hk' : k < ((cs.drop off).take (len * i.size)).length := by simp only [List.length_take, List.length_drop]; omega
        rw [List.getElem?_append_left hk', List.getElem?_take_of_lt hk, List.getElem?_drop] at hx
        obtain ⟨y, hy, hxy⟩ := g6 _ _ hx
        exact ⟨y, by rw [show (pl.base + off : Nat) + k = pl.base + (off + k) by omega, d3 _ (by omega)]; exact hy, hxy.mono hle⟩
      . have hl0 : ((cs.drop off).take (len * i.size)).length = len * i.size := by simp only [List.length_take, List.length_drop]; omega
        rw [List.getElem?_append_right (by omega), hl0] at hx
        obtain ⟨y, hy, hxy⟩ := vnew.get hx
        refine ⟨y, ?_, hxy.mono hle⟩
        have := d4 _ _ hy
        rw [show (pl.base + off : Nat) + k = pl.base + off + len * i.size + 0 + (k - len * i.size) by omega]
        exact this
    . intro x o p hx hp ec
      rw [za.zP] at hx
      split at hx
      . cases hx
      . rename_i ne
        exact ne (hr.inj x b _ _ p pl hx hg hp hm ec)
    . rintro k hk ⟨x, o, p, hx, hrx, hp, hpc⟩
      rw [za.y6] at hx
      split at hx
      . rename_i ex
        subst ex
        rw [show (h.set b none).next = ρ.next from hr.next.symm, Ren.wF] at hp
        cases hp
        exact ⟨b, _, pl, hg, hro, hm, hpc⟩
      . have hlt := hr0.dom x o hx
        have hp' : ρ.m x = some p := by rw [<- hp]; exact (hle.2 x (by rw [hr0.next]; exact hlt)).symm
        rw [za.zP] at hx
        split at hx
        . cases hx
        . exact ⟨x, o, p, hx, hrx, hp', hpc⟩
end
end Go.Ai
