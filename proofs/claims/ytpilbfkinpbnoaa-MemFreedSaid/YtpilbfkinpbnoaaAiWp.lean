/-
  WHAT IS ASKED OF A PIECE OF CODE, 1: one operation. Frames in which some slots are forgotten; the operations as questions, one behind the other.
-/
import Derived.Test.YtpilbfkinpbnoaaAiSpec
set_option linter.unusedVariables false
namespace Go.Ai
noncomputable section
variable {P : Program}

/-! ### Forgotten slots -/
def isBot : Value → Bool
  | .complex _ _ _ => true
  | _ => false
/-- The first frame is the second, some slots forgotten. -/
structure Le (r s : Env) : Prop where
  size : r.size = s.size
  get : ∀ i, isBot (r.get i) = true ∨ r.get i = s.get i
theorem Le.refl (s : Env) : Le s s := ⟨rfl, fun _ => .inr rfl⟩
theorem Le.trans {a b c : Env} (h : Le a b) (k : Le b c) : Le a c := ⟨h.size.trans k.size, fun i => by
  rcases h.get i with e | e
  · exact .inl e
  · rcases k.get i with f | f
    · exact .inl (by rw [e]; exact f)
    · exact .inr (e.trans f)⟩
theorem Le.put {r s r1 : Env} {d : Option Nat} {v u : Value} (h : Le r s) (hp : r.put d v = some r1) (hv : isBot v = true ∨ v = u) : ∃ s1, s.put d u = some s1 ∧ Le r1 s1 := by
  cases d with
  | none => simp only [Env.put, Option.some.injEq] at hp; subst hp; exact ⟨s, rfl, h⟩
  | some d =>
    simp only [Env.put] at hp ⊢
    obtain ⟨hc, hp⟩ := cond_some hp
    rw [h.size] at hc
    rw [hc]
    simp only [Option.some.injEq] at hp
    subst hp
    refine ⟨_, rfl, ⟨h.size, fun i => ?_⟩⟩
    rw [Env.get_set, Env.get_set]
    by_cases e : i = d
    · rw [if_pos e, if_pos e]; exact hv
    · rw [if_neg e, if_neg e]; exact h.get i

/-! ### Operands -/
def ev (s : Env) : Operand → Value
  | .tmp t => s.get t
  | .const v => cond (flat v) v bot
  | .global g => .pointer (some ⟨g, 0, some 0⟩)
  | .func f => .func (.func f) #[] #[]
theorem lev {r s : Env} (h : Le r s) (x : Operand) : isBot (ev r x) = true ∨ aev s x = some (ev r x) := by
  cases x with
  | tmp t => rcases h.get t with e | e
             · exact .inl e
             · exact .inr (by simp only [aev, ev, e])
  | const v => cases hf : flat v with
    | true => exact .inr (by simp only [aev, ev, hf, cond_true])
    | false => exact .inl (by simp only [ev, hf, cond_false]; rfl)
  | global g => exact .inr rfl
  | func f => exact .inr rfl
theorem lev' {r s : Env} (h : Le r s) {x : Operand} (hb : isBot (ev r x) = false) : aev s x = some (ev r x) := by
  rcases lev h x with e | e
  · rw [e] at hb; cases hb
  · exact e
def evs (s : Env) : List Operand → List Value
  | [] => []
  | x :: l => ev s x :: evs s l
def nobot : List Value → Bool
  | [] => true
  | v :: l => cond (isBot v) false (nobot l)
theorem levs {r s : Env} (h : Le r s) : ∀ {xs : List Operand}, nobot (evs r xs) = true → aevs s xs = some (evs r xs)
  | [], _ => rfl
  | x :: xs, hb => by
    simp only [evs, nobot] at hb
    cases hx : isBot (ev r x) with
    | true => rw [hx] at hb; cases hb
    | false =>
      rw [hx] at hb
      simp only [aevs, evs, lev' h hx, levs h hb]
def evp (s : Env) : List (Nat × Operand) → List (Nat × Value)
  | [] => []
  | (i, x) :: l => (i, ev s x) :: evp s l
def snds : List (Nat × Value) → List Value
  | [] => []
  | (_, v) :: l => v :: snds l
theorem levp {r s : Env} (h : Le r s) : ∀ {ps : List (Nat × Operand)}, nobot (snds (evp r ps)) = true → aparts s ps = some (evp r ps)
  | [], _ => rfl
  | (i, x) :: ps, hb => by
    simp only [evp, snds, nobot] at hb
    cases hx : isBot (ev r x) with
    | true => rw [hx] at hb; cases hb
    | false =>
      rw [hx] at hb
      simp only [aparts, evp, lev' h hx, levp h hb]
def evo (s : Env) : Option Operand → Option Value
  | none => none
  | some x => some (ev s x)
def onb : Option Value → Bool
  | none => true
  | some v => !isBot v
theorem levo {r s : Env} (h : Le r s) {x : Option Operand} (hb : onb (evo r x) = true) : aopt s x = some (evo r x) := by
  cases x with
  | none => rfl
  | some y =>
    simp only [evo, onb, Bool.not_eq_true'] at hb
    simp only [aopt, evo, lev' h hb]; rfl

/-! ### Questions -/
def opt {α : Type} (x : Option α) (K : α → Prop) : Prop := match x with
  | some a => K a
  | none => False
@[congr] theorem opt_congr {α : Type} {x y : Option α} {K : α → Prop} (h : x = y) : opt x K = opt y K := by rw [h]
theorem opt_some {α : Type} (a : α) (K : α → Prop) : opt (some a) K = K a := rfl
theorem of_opt {α : Type} {x : Option α} {K : α → Prop} (h : opt x K) : ∃ a, x = some a ∧ K a := by
  cases x with
  | none => exact h.elim
  | some a => exact ⟨a, rfl, h⟩
def optH (x : Option (Value × AHeap)) (K : Value → AHeap → Prop) : Prop := match x with
  | some (v, h) => K v h
  | none => False
@[congr] theorem optH_congr {x y : Option (Value × AHeap)} {K : Value → AHeap → Prop} (h : x = y) : optH x K = optH y K := by rw [h]
theorem optH_some (v : Value) (h : AHeap) (K : Value → AHeap → Prop) : optH (some (v, h)) K = K v h := rfl
theorem of_optH {x : Option (Value × AHeap)} {K : Value → AHeap → Prop} (h : optH x K) : ∃ v g, x = some (v, g) ∧ K v g := by
  cases x with
  | none => exact h.elim
  | some a => exact ⟨a.1, a.2, rfl, h⟩
/-- A new block. -/
def nw (h : AHeap) (c : List Value) (t : TypeId) (K : Value → AHeap → Prop) : Prop := K (.pointer (some ⟨h.next, 0, none⟩)) (h.push (.cells c t))
/-- Where no part is forgotten. -/
def nb {α : Type} (l : List Value) (x : Option α) : Option α := cond (nobot l) x none
theorem nb_some {α : Type} {l : List Value} {x : Option α} {a : α} (h : nb l x = some a) : nobot l = true ∧ x = some a := cond_some h
def pk (c a b : Value) : Option Value := match c with
  | .bool true => nb [a] (some a)
  | .bool false => nb [b] (some b)
  | _ => none
def nck : Value → Option Value
  | .pointer (some a) => some (.pointer (some a))
  | .func (.func f) a c => some (.func (.func f) a c)
  | _ => none
def aun (P : Program) (op : UnOp) (a : Value) : Option Value := cond (flat a) (fl (srun P (Op.unary op a))) none
def amkI (P : Program) (t : TypeId) (a : Value) : Option Value := match srun P (Instr.makeInterface t (.bool true)) with
  | some _ => some (.iface t a)
  | none => none
def asl (P : Program) (t : TypeId) (x : Value) (lo hi : Option Value) (h : AHeap) : Option Value := match x with
  | .string str => cond (oflat lo && oflat hi) (fl (srun P (Instr.sliceAt t (.string str) lo hi none))) none
  | v => aslice P t v lo hi h
def afv (P : Program) (t : TypeId) (x : Value) (f : Nat) : Option Value := match x with
  | .agg cs => (match srun P (underlying t) with
    | some (.struct fields) => (match fields[f]? with
      | some fd => apart P fd.type cs.toList fd.offset
      | none => none)
    | _ => none)
  | _ => none
def aixv (P : Program) (t : TypeId) (a b : Value) : Option Value := cond (flat a && flat b) (fl (srun P (Instr.index t a b))) none
def axt (x : Value) (i : Nat) : Option Value := match x with
  | .tuple vs => nb (vs.toList) vs[i]?
  | _ => none

/-- What is so of every heap that describes a world. -/
def WF' (h : AHeap) : Prop := (∀ b o, h.get b = some o → b < h.next) ∧ h.ro ≤ h.next
/-- What a call comes to. -/
def DC (P : Program) (f : FuncId) (args : List Value) (h : AHeap) (R : Value → AHeap → Prop) : Prop :=
  WF' h → ∃ v h1, R v h1 ∧ AF h h1 ∧ TC P f args h (fun v' h' => v' = v ∧ h' = h1)
/-- A call of a function whose number is known. -/
def callN (P : Program) (g : FuncId) (args : List Value) (h : AHeap) (K : Value → AHeap → Prop) : Prop :=
  nobot args = true ∧ ((callable P g = true ∧ DC P g args h K) ∨ optH (aext P g args h) K)
def yldN (P : Program) (L : Nat) (args : List Value) (h : AHeap) (K : Value → AHeap → Prop) : Prop :=
  nobot args = true ∧ (WF' h → ∃ v h1, K v h1 ∧ AF h h1 ∧ TY P L args h (fun v' h' => v' = v ∧ h' = h1))
def callV (P : Program) (f : Value) (args : List Value) (h : AHeap) (K : Value → AHeap → Prop) : Prop := match f with
  | .func (.func g) a c => nobot args = true ∧ callN P g (a.toList ++ args ++ c.toList) h K
  | .func (.yield L) a c => a = #[] ∧ c = #[] ∧ yldN P L args h K
  | _ => False

def mv (s : Env) (x : Operand) (h : AHeap) (K : Value → AHeap → Prop) : Prop := match x with
  | .tmp t => K (s.get t) h
  | .const v => cond (flat v) (K v h) False
  | .global g => K (.pointer (some ⟨g, 0, some 0⟩)) h
  | .func f => K (.func (.func f) #[] #[]) h
/-- An operation that is no call of a function. -/
def opA (P : Program) (s : Env) (o : Oper) (h : AHeap) (K : Value → AHeap → Prop) : Prop := match o.op with
  | .move x | .assign x => mv s x h K
  | .pick c a b => opt (pk (ev s c) (ev s a) (ev s b)) fun v => K v h
  | .box t x => opt (nb [ev s x] (some (ev s x).cells.toList)) fun c => nw h c t K
  | .alloc t => opt (azero P t) fun z => nw h z.cells.toList t K
  | .build t parts => opt (nb (snds (evp s parts.toList)) (abuild P t (evp s parts.toList))) fun v => K v h
  | .buildSlice t len parts => optH (nb (snds (evp s parts.toList)) (abuildSlice P t len (evp s parts.toList) h)) K
  | .load t a => opt (aload P t (ev s a) h) fun v => K v h
  | .store t a x => opt (nb [ev s x] (astore P t (ev s a) (ev s x) h)) fun h' => K undef h'
  | .nilCheck x => opt (nck (ev s x)) fun v => K v h
  | .binOp op t x y _ => opt (nb [ev s x, ev s y] (abin2 P op t x y (ev s x) (ev s y))) fun v => K v h
  | .unOp op _ x => opt (aun P op (ev s x)) fun v => K v h
  | .convert src dst x => optH (nb [ev s x] (aconv P src dst (ev s x) h)) K
  | .makeInterface t x => opt (nb [ev s x] (amkI P t (ev s x))) fun v => K v h
  | .makeFunc (.func f) first captured => opt (nb (evs s first.toList ++ evs s captured.toList) (some (Value.func (.func f) (evs s first.toList).toArray (evs s captured.toList).toArray))) fun v => K v h
  | .makeSlice t l c => optH (amake P t (ev s l) (ev s c) h) K
  | .slice t x lo hi none => opt (nb [ev s x] (cond (onb (evo s lo) && onb (evo s hi)) (asl P t (ev s x) (evo s lo) (evo s hi) h) none)) fun v => K v h
  | .fieldAddr t x f => opt (afield P t (ev s x) f) fun v => K v h
  | .field t x f => opt (afv P t (ev s x) f) fun v => K v h
  | .indexAddr t x i => opt (aindex P t (ev s x) (ev s i)) fun v => K v h
  | .index t x i => opt (aixv P t (ev s x) (ev s i)) fun v => K v h
  | .extract x i => opt (axt (ev s x) i) fun v => K v h
  | .call { callee := .builtin b, args, argTypes } => optH (nb (evs s args.toList) (abuiltin P b argTypes.toList o.type (evs s args.toList) h)) K
  | .makeMap _ none => K (amakeMap h).1 (amakeMap h).2
  | .lookup t x k ok => opt (nb [ev s x, ev s k] (alookup P t (ev s x) (ev s k) ok h)) fun v => K v h
  | .mapUpdate t m k x => opt (nb [ev s m, ev s k, ev s x] (amapUpdate P t (ev s m) (ev s k) (ev s x) h)) fun h' => K undef h'
  | .range t x => optH (nb [ev s x] (arange P t (ev s x) h)) K
  | .next x str => optH (nb [ev s x] (anext P (ev s x) str h)) K
  | .entry x => opt (nb [ev s x] (aentry (ev s x) h)) fun v => K v h
  | _ => False

theorem nobot1 {v : Value} (h : nobot [v] = true) : isBot v = false := by
  simp only [nobot] at h; cases hb : isBot v with | true => rw [hb] at h; cases h | false => rfl
theorem nobot2 {v w : Value} (h : nobot [v, w] = true) : isBot v = false ∧ isBot w = false := by
  simp only [nobot] at h; cases hb : isBot v with | true => rw [hb] at h; cases h | false => rw [hb] at h; exact ⟨rfl, nobot1 h⟩
theorem nobot3 {u v w : Value} (h : nobot [u, v, w] = true) : isBot u = false ∧ isBot v = false ∧ isBot w = false := by
  simp only [nobot] at h; cases hb : isBot u with | true => rw [hb] at h; cases h | false => rw [hb] at h; exact ⟨rfl, nobot2 h⟩
theorem nobot_app {l m : List Value} (h : nobot (l ++ m) = true) : nobot l = true ∧ nobot m = true := by
  induction l with
  | nil => exact ⟨rfl, h⟩
  | cons v l ih =>
    simp only [List.cons_append, nobot] at h ⊢
    cases hb : isBot v with
    | true => rw [hb] at h; cases h
    | false => rw [hb] at h; exact ih h
theorem one_of {h : AHeap} {x : Option Value} {v : Value} (e : x = some v) : one h x = some (v, h) := by rw [e]; rfl
theorem isBot_eq {v : Value} (h : isBot v = true) : ∃ k a b, v = .complex k a b := by cases v <;> first | exact ⟨_, _, _, rfl⟩ | cases h

theorem mv_sound {r s : Env} (hl : Le r s) {x : Operand} {h : AHeap} {K : Value → AHeap → Prop} (hk : mv r x h K) : ∃ v u, aev s x = some u ∧ (isBot v = true ∨ v = u) ∧ K v h := by
  cases x with
  | tmp t => exact ⟨_, _, rfl, hl.get t, hk⟩
  | const v =>
    simp only [mv] at hk
    cases hf : flat v with
    | true => rw [hf] at hk; exact ⟨v, v, by simp only [aev, hf, cond_true], .inr rfl, hk⟩
    | false => rw [hf] at hk; exact hk.elim
  | global g => exact ⟨_, _, rfl, .inr rfl, hk⟩
  | func f => exact ⟨_, _, rfl, .inr rfl, hk⟩
theorem evs_eq {s : Env} : ∀ xs : List Operand, evs s xs = xs.map (ev s)
  | [] => rfl
  | x :: l => by simp only [evs, List.map_cons, evs_eq l]

/-- What is answered is what the operation does. -/
theorem opA_sound {r s : Env} (hl : Le r s) {o : Oper} {h : AHeap} {K : Value → AHeap → Prop} (hk : opA P r o h K) :
    ∃ v u h', aop P s o h = some (u, h') ∧ (isBot v = true ∨ v = u) ∧ K v h' := by
  have strict : ∀ (x : Operand) {α : Type} (F : Value → Option α) {a : α}, (∀ k p q, F (.complex k p q) = none) → F (ev r x) = some a → aev s x = some (ev r x) := by
    intro x α F a hF e
    refine lev' hl ?_
    cases hb : isBot (ev r x) with
    | false => rfl
    | true => obtain ⟨k, p, q, e2⟩ := isBot_eq hb; rw [e2, hF] at e; cases e
  unfold opA at hk
  unfold aop
  split at hk <;> rename_i hop <;> simp only [hop]
  · obtain ⟨v, u, e, hv, hk⟩ := mv_sound hl hk
    exact ⟨v, u, h, by rw [e]; rfl, hv, hk⟩
  · obtain ⟨v, u, e, hv, hk⟩ := mv_sound hl hk
    exact ⟨v, u, h, by rw [e]; rfl, hv, hk⟩
  · rename_i c a b
    obtain ⟨v, e, hk⟩ := of_opt hk
    have ec := strict c (fun x => pk x (ev r a) (ev r b)) (fun _ _ _ => rfl) e
    rw [ec]
    unfold pk at e
    split at e
    · rename_i hc
      obtain ⟨n, e⟩ := nb_some e
      cases e
      rw [hc]; simp only [lev' hl (nobot1 n)]
      exact ⟨_, _, h, rfl, .inr rfl, hk⟩
    · rename_i hc
      obtain ⟨n, e⟩ := nb_some e
      cases e
      rw [hc]; simp only [lev' hl (nobot1 n)]
      exact ⟨_, _, h, rfl, .inr rfl, hk⟩
    · cases e
  · obtain ⟨c, e, hk⟩ := of_opt hk
    obtain ⟨n, e⟩ := nb_some e
    cases e
    simp only [lev' hl (nobot1 n)]
    exact ⟨_, _, _, rfl, .inr rfl, hk⟩
  · obtain ⟨z, e, hk⟩ := of_opt hk
    rw [e]
    exact ⟨_, _, _, rfl, .inr rfl, hk⟩
  · obtain ⟨v, e, hk⟩ := of_opt hk
    obtain ⟨n, e⟩ := nb_some e
    simp only [levp hl n]
    exact ⟨_, _, _, one_of e, .inr rfl, hk⟩
  · obtain ⟨v, g, e, hk⟩ := of_optH hk
    obtain ⟨n, e⟩ := nb_some e
    simp only [levp hl n]
    exact ⟨_, _, _, e, .inr rfl, hk⟩
  · obtain ⟨v, e, hk⟩ := of_opt hk
    rw [strict _ (fun x => aload P _ x h) (fun _ _ _ => rfl) e]
    exact ⟨_, _, _, one_of e, .inr rfl, hk⟩
  · obtain ⟨v, e, hk⟩ := of_opt hk
    obtain ⟨n, e⟩ := nb_some e
    rw [strict _ (fun x => astore P _ x _ h) (fun _ _ _ => rfl) e]
    simp only [lev' hl (nobot1 n), e]
    exact ⟨_, _, _, rfl, .inr rfl, hk⟩
  · obtain ⟨v, e, hk⟩ := of_opt hk
    rw [strict _ nck (fun _ _ _ => rfl) e]
    unfold nck at e
    split at e
    · rename_i hc; cases e; rw [hc]; exact ⟨_, _, _, rfl, .inr rfl, hk⟩
    · rename_i hc; cases e; rw [hc]; exact ⟨_, _, _, rfl, .inr rfl, hk⟩
    · cases e
  · obtain ⟨v, e, hk⟩ := of_opt hk
    obtain ⟨n, e⟩ := nb_some e
    simp only [lev' hl (nobot2 n).1, lev' hl (nobot2 n).2]
    exact ⟨_, _, _, one_of e, .inr rfl, hk⟩
  · obtain ⟨v, e, hk⟩ := of_opt hk
    rw [strict _ (aun P _) (fun _ _ _ => rfl) e]
    obtain ⟨hf, e⟩ := cond_some e
    simp only [hf, cond_true]
    exact ⟨_, _, _, one_of e, .inr rfl, hk⟩
  · obtain ⟨v, g, e, hk⟩ := of_optH hk
    obtain ⟨n, e⟩ := nb_some e
    simp only [lev' hl (nobot1 n)]
    exact ⟨_, _, _, e, .inr rfl, hk⟩
  · obtain ⟨v, e, hk⟩ := of_opt hk
    obtain ⟨n, e⟩ := nb_some e
    simp only [lev' hl (nobot1 n)]
    unfold amkI at e
    split at e
    · rename_i hm; cases e; rw [hm]; exact ⟨_, _, _, rfl, .inr rfl, hk⟩
    · cases e
  · obtain ⟨v, e, hk⟩ := of_opt hk
    obtain ⟨n, e⟩ := nb_some e
    cases e
    obtain ⟨n1, n2⟩ := nobot_app n
    simp only [levs hl n1, levs hl n2]
    exact ⟨_, _, _, rfl, .inr rfl, hk⟩
  · rename_i t l c
    obtain ⟨v, g, e, hk⟩ := of_optH hk
    have e1 := strict l (fun x => amake P t x (ev r c) h) (fun _ _ _ => rfl) e
    have e2 := strict c (fun x => amake P t (ev r l) x h) (fun k p q => by unfold amake; split <;> first | rfl | (rename_i hh _; cases hh)) e
    simp only [e1, e2]
    exact ⟨_, _, _, e, .inr rfl, hk⟩
  · rename_i t x lo hi
    obtain ⟨v, e, hk⟩ := of_opt hk
    obtain ⟨n, e⟩ := nb_some e
    obtain ⟨hb, e⟩ := cond_some e
    simp only [Bool.and_eq_true] at hb
    simp only [lev' hl (nobot1 n), levo hl hb.1, levo hl hb.2]
    unfold asl at e
    split at e
    · rename_i str hs
      rw [hs]
      simp only [aop.flatSlice, e]
      exact ⟨_, _, _, rfl, .inr rfl, hk⟩
    · rename_i hs
      split
      · rename_i a b c str h1 h2 h3
        exact absurd (Option.some.inj h1) (fun q => hs _ q)
      · rename_i h1 h2 h3
        cases h1; cases h2; cases h3
        exact ⟨_, _, _, one_of e, .inr rfl, hk⟩
      · rename_i h1 h2
        exact absurd rfl (h2 _ _ _ rfl rfl)
  · rename_i t x f
    obtain ⟨v, e, hk⟩ := of_opt hk
    rw [strict x (fun x => afield P t x f) (fun _ _ _ => rfl) e]
    exact ⟨_, _, _, one_of e, .inr rfl, hk⟩
  · rename_i t x f
    obtain ⟨v, e, hk⟩ := of_opt hk
    rw [strict x (fun x => afv P t x f) (fun _ _ _ => rfl) e]
    unfold afv at e
    split at e
    · rename_i cs hc
      rw [hc]
      split at e
      · rename_i fields hu
        simp only [hu]
        split at e
        · rename_i fd hfd; simp only [hfd]; exact ⟨_, _, _, one_of e, .inr rfl, hk⟩
        · cases e
      · cases e
    · cases e
  · rename_i t x i
    obtain ⟨v, e, hk⟩ := of_opt hk
    have e1 := strict x (fun x => aindex P t x (ev r i)) (fun k p q => by unfold aindex; split <;> (try rfl); split <;> first | rfl | (rename_i hh; cases hh)) e
    have e2 := strict i (fun y => aindex P t (ev r x) y) (fun k p q => rfl) e
    simp only [e1, e2]
    exact ⟨_, _, _, one_of e, .inr rfl, hk⟩
  · rename_i t x i
    obtain ⟨v, e, hk⟩ := of_opt hk
    have e1 := strict x (fun x => aixv P t x (ev r i)) (fun k p q => rfl) e
    have e2 := strict i (fun y => aixv P t (ev r x) y) (fun k p q => by unfold aixv; cases flat (ev r x) <;> rfl) e
    obtain ⟨hf, e⟩ := cond_some e
    simp only [e1, e2, hf, cond_true]
    exact ⟨_, _, _, one_of e, .inr rfl, hk⟩
  · rename_i x i
    obtain ⟨v, e, hk⟩ := of_opt hk
    rw [strict x (fun x => axt x i) (fun _ _ _ => rfl) e]
    unfold axt at e
    split at e
    · rename_i vs hc
      rw [hc]
      obtain ⟨n, e⟩ := nb_some e
      exact ⟨_, _, _, one_of e, .inr rfl, hk⟩
    · cases e
  · obtain ⟨v, g, e, hk⟩ := of_optH hk
    obtain ⟨n, e⟩ := nb_some e
    simp only [levs hl n]
    exact ⟨_, _, _, e, .inr rfl, hk⟩
  · exact ⟨_, _, _, rfl, .inr rfl, hk⟩
  · obtain ⟨v, e, hk⟩ := of_opt hk
    obtain ⟨n, e⟩ := nb_some e
    simp only [lev' hl (nobot2 n).1, lev' hl (nobot2 n).2]
    exact ⟨_, _, _, one_of e, .inr rfl, hk⟩
  · obtain ⟨v, e, hk⟩ := of_opt hk
    obtain ⟨n, e⟩ := nb_some e
    simp only [lev' hl (nobot3 n).1, lev' hl (nobot3 n).2.1, lev' hl (nobot3 n).2.2, e]
    exact ⟨_, _, _, rfl, .inr rfl, hk⟩
  · obtain ⟨v, g, e, hk⟩ := of_optH hk
    obtain ⟨n, e⟩ := nb_some e
    simp only [lev' hl (nobot1 n)]
    exact ⟨_, _, _, e, .inr rfl, hk⟩
  · obtain ⟨v, g, e, hk⟩ := of_optH hk
    obtain ⟨n, e⟩ := nb_some e
    simp only [lev' hl (nobot1 n)]
    exact ⟨_, _, _, e, .inr rfl, hk⟩
  · obtain ⟨v, e, hk⟩ := of_opt hk
    obtain ⟨n, e⟩ := nb_some e
    simp only [lev' hl (nobot1 n)]
    exact ⟨_, _, _, one_of e, .inr rfl, hk⟩
  · exact hk.elim
end
end Go.Ai
