/-
  WHAT IS ASKED OF A PIECE OF CODE, 2: regions in the order of the text; ways that meet again; loops; functions.
-/
import Derived.Test.YtpilbfkinpbnoaaAiWp
set_option linter.unusedVariables false
namespace Go.Ai
noncomputable section
variable {P : Program}

/-! ### Which slots are written; which are looked at before they are written -/
def bit1 (d : Option Nat) : Nat := match d with
  | some d => 1 <<< d
  | none => 0
def modsO : List Oper → Nat
  | [] => 0
  | o :: os => bit1 o.dst ||| modsO os
def mods : Code → Nat
  | .region _ ops _ => modsO ops.toList
  | .seq a b => mods a ||| mods b
  | .cond _ a b => mods a ||| mods b
  | .block _ a => mods a
  | .scope a => mods a
  | .loop a => mods a
  | _ => 0
def seeX (x : Operand) : Nat := match x with
  | .tmp t => 1 <<< t
  | _ => 0
def seeL : List Operand → Nat
  | [] => 0
  | x :: l => seeX x ||| seeL l
def seeO (d : Nat) : List Oper → Nat
  | [] => 0
  | o :: os => (Nat.xor (seeL o.op.operands.toList ||| d) d) ||| seeO (d ||| bit1 o.dst) os
def dfn : Code → Nat
  | .region _ ops _ => modsO ops.toList
  | .seq a b => dfn a ||| dfn b
  | .cond _ a b => Nat.land (dfn a) (dfn b)
  | .scope a => dfn a
  | _ => 0
/-- What is looked at: for the choice of what is kept alone; nothing hangs on it. -/
def see : Code → Nat
  | .region _ ops _ => seeO 0 ops.toList
  | .seq a b => see a ||| Nat.xor (see b ||| dfn a) (dfn a)
  | .cond x a b => seeX x ||| see a ||| see b
  | .block _ a => see a
  | .scope a => see a
  | .loop a => see a
  | .rangeFunc f _ a b => seeX f ||| see a ||| see b
  | _ => 0
def bits (m n : Nat) : List Nat := (List.range n).filter fun t => m.testBit t
theorem mem_bits {m n t : Nat} : t ∈ bits m n ↔ t < n ∧ m.testBit t = true := by simp [bits]

/-! ### Frames that agree but for some slots -/
structure Fr (m : Nat) (s s1 : Env) : Prop where
  size : s1.size = s.size
  get : ∀ t, m.testBit t = false → s1.get t = s.get t
  out : ∀ t, s.size ≤ t → s1.get t = s.get t
theorem Fr.refl (m : Nat) (s : Env) : Fr m s s := ⟨rfl, fun _ _ => rfl, fun _ _ => rfl⟩
theorem Fr.trans {m : Nat} {a b c : Env} (h : Fr m a b) (k : Fr m b c) : Fr m a c :=
  ⟨k.size.trans h.size, fun t ht => (k.get t ht).trans (h.get t ht), fun t ht => (k.out t (by rw [h.size]; exact ht)).trans (h.out t ht)⟩
theorem Fr.left {m n : Nat} {a b : Env} (h : Fr m a b) : Fr (m ||| n) a b := ⟨h.size, fun t ht => h.get t (by rw [Nat.testBit_or] at ht; simp only [Bool.or_eq_false_iff] at ht; exact ht.1), h.out⟩
theorem Fr.right {m n : Nat} {a b : Env} (h : Fr n a b) : Fr (m ||| n) a b := ⟨h.size, fun t ht => h.get t (by rw [Nat.testBit_or] at ht; simp only [Bool.or_eq_false_iff] at ht; exact ht.2), h.out⟩
theorem Fr.put {s s1 : Env} {d : Option Nat} {v : Value} (h : s.put d v = some s1) : Fr (bit1 d) s s1 := by
  cases d with
  | none => simp only [Env.put, Option.some.injEq] at h; subst h; exact .refl _ _
  | some d =>
    simp only [Env.put] at h
    obtain ⟨hd, h⟩ := cond_some h
    simp only [Option.some.injEq] at h
    subst h
    have hd : d < s.size := by simpa [Nat.blt_eq] using hd
    refine ⟨rfl, fun t ht => ?_, fun t ht => ?_⟩
    · rw [Env.get_set]
      simp only [bit1, Nat.testBit_shiftLeft] at ht
      rw [if_neg (by intro e; subst e; simp at ht)]
    · rw [Env.get_set, if_neg (by omega)]

/-! ### Values handed on -/
def nth : List Value → Nat → Value
  | [], _ => bot
  | a :: _, 0 => a
  | _ :: l, n + 1 => nth l n
def pickJ (lv : Nat) (s : Env) : List Nat → List Value
  | [] => []
  | t :: ts => cond (lv.testBit t) (s.get t :: pickJ lv s ts) (pickJ lv s ts)
def rejoin (lv : Nat) (vs : List Value) : List Nat → Nat → Env → Env
  | [], _, s => s
  | t :: ts, i, s => cond (lv.testBit t) (rejoin lv vs ts (i + 1) (s.set t (nth vs i))) (rejoin lv vs ts i (s.set t bot))
theorem rejoin_le {lv : Nat} {vs : List Value} {r1 s1 : Env} (h1 : Le r1 s1) : ∀ (ts : List Nat) (i : Nat) (r : Env), r.size = s1.size → (∀ k, nth vs (i + k) = nth (pickJ lv r1 ts) k) → (∀ t, t ∈ ts ∨ isBot (r.get t) = true ∨ r.get t = s1.get t) → Le (rejoin lv vs ts i r) s1
  | [], i, r, hz, _, h => ⟨hz, fun t => by rcases h t with h | h; · cases h
                                           · exact h⟩
  | t :: ts, i, r, hz, hv, h => by
    simp only [rejoin]
    cases hb : lv.testBit t with
    | true =>
      simp only [cond_true]
      have e0 : nth vs i = r1.get t := by have := hv 0; simp only [pickJ, hb, cond_true] at this; exact this
      refine rejoin_le h1 ts (i + 1) _ hz (fun k => ?_) (fun t' => ?_)
      · have := hv (k + 1); simp only [pickJ, hb, cond_true] at this
        rw [show i + 1 + k = i + (k + 1) by omega]; exact this
      · rw [Env.get_set, e0]
        by_cases e : t' = t
        · subst e; rw [if_pos rfl]; exact .inr (h1.get t')
        · rw [if_neg e]
          rcases h t' with h2 | h2
          · rcases List.mem_cons.1 h2 with h3 | h3
            · exact absurd h3 e
            · exact .inl h3
          · exact .inr h2
    | false =>
      simp only [cond_false]
      refine rejoin_le h1 ts i _ hz (fun k => ?_) (fun t' => ?_)
      · have := hv k; simp only [pickJ, hb, cond_false] at this; exact this
      · rw [Env.get_set]
        by_cases e : t' = t
        · rw [if_pos e]; exact .inr (.inl rfl)
        · rw [if_neg e]
          rcases h t' with h2 | h2
          · rcases List.mem_cons.1 h2 with h3 | h3
            · exact absurd h3 e
            · exact .inl h3
          · exact .inr h2
theorem join_le {lv m : Nat} {r s r1 s1 : Env} (h : Le r s) (h1 : Le r1 s1) (f : Fr m s s1) : Le (rejoin lv (pickJ lv r1 (bits m r.size)) (bits m r.size) 0 r) s1 := by
  refine rejoin_le h1 _ _ _ (h.size.trans f.size.symm) (fun k => by rw [Nat.zero_add]) (fun t => ?_)
  by_cases hm : m.testBit t = true
  · by_cases hz : t < r.size
    · exact .inl (mem_bits.2 ⟨hz, hm⟩)
    · -- beyond the frame
      rcases h.get t with e | e
      · exact .inr (.inl e)
      · exact .inr (.inr (e.trans (f.out t (by rw [← h.size]; omega)).symm))
  · simp only [Bool.not_eq_true] at hm
    rcases h.get t with e | e
    · exact .inr (.inl e)
    · exact .inr (.inr (e.trans (f.get t hm).symm))

/-! ### Regions in the order of the text -/
def opW (P : Program) (s : Env) (o : Oper) (h : AHeap) (K : Value → AHeap → Prop) : Prop := match o.op with
  | .call { callee := .value f, args, argTypes } => callV P (ev s f) (evs s args.toList) h K
  | _ => opA P s o h K
/-- An operation under a guard. -/
def GD (g : Value) (want : Bool) (A : (Value → AHeap → Prop) → Prop) (K : Value → AHeap → Prop) (h : AHeap) : Prop := match g with
  | .bool b => (b = want → A K) ∧ (b ≠ want → K undef h)
  | .complex _ _ _ => False
  | _ => K undef h
@[congr] theorem GD_congr {g g' : Value} {want : Bool} {A : (Value → AHeap → Prop) → Prop} {K : Value → AHeap → Prop} {h : AHeap} (e : g = g') : GD g want A K h = GD g' want A K h := by rw [e]
def wpO (P : Program) (ops : Array Oper) : List Oper → Env → AHeap → (Env → AHeap → Prop) → Prop
  | [], s, h, K => K s h
  | o :: os, s, h, K => (match o.guard with
    | none => opW P s o h fun v h1 => (match s.put o.dst v with
      | some s1 => wpO P ops os s1 h1 K
      | none => False)
    | some (j, want) => (match (ops[j]?).bind (·.dst) with
      | none => False
      | some d => GD (s.get d) want (opW P s o h) (fun v h1 => (match s.put o.dst v with
        | some s1 => wpO P ops os s1 h1 K
        | none => False)) h))

theorem WF'.af {h h' : AHeap} (w : WF' h) (a : AF h h') : WF' h' :=
  ⟨fun b o hb => by
    rcases a.alive b o hb with e | e
    · cases hh : h.get b with
      | none => exact absurd hh e
      | some o' => exact Nat.lt_of_lt_of_le (w.1 b o' hh) a.next
    · exact e.2, by rw [a.ro]; exact Nat.le_trans w.2 a.next⟩
theorem callV_op {ops : Array Oper} {r s : Env} {h : AHeap} {o : Oper} {f : Operand} {args : Array Operand} {ts : Array TypeId} {K : Value → AHeap → Prop}
    (hw : awanted ops s o = true) (hl : Le r s) (wf : WF' h) (hop : o.op = .call { callee := .value f, args := args, argTypes := ts }) (hk : callV P (ev r f) (evs r args.toList) h K) :
    ∃ v h1, K v h1 ∧ AF h h1 ∧ ∀ (i : Nat) (rest : List Nat) (s1 : Env) (Q : Env → AHeap → Prop), ops[i]? = some o → s.put o.dst v = some s1 → TO P ops rest s1 h1 Q → TO P ops (i :: rest) s h Q := by
  unfold callV at hk
  split at hk
  · rename_i g a c hf
    have ef : aev s f = some (.func (.func g) a c) := by rw [lev' hl (x := f) (by rw [hf]; rfl), hf]
    obtain ⟨hn0, hn, hk⟩ := hk
    have ea := levs hl hn0
    rcases hk with ⟨hc, hd⟩ | hk
    · obtain ⟨v, h1, hK, af, hT⟩ := hd wf
      exact ⟨v, h1, hK, af, fun i rest s1 Q ho hp ht => TO_call ho hw hop ef ea hc hT (by rintro v2 h2 ⟨rfl, rfl⟩; exact ⟨s1, hp, ht⟩)⟩
    · obtain ⟨v, g', e, hk⟩ := of_optH hk
      exact ⟨v, g', hk, (aext_still e).af, fun i rest s1 Q ho hp ht => TO_ok ho hw (by rw [hop]; rfl) (fun ρ w a hr hs => aext_ok hop ef ea e hr hs) hp ht⟩
  · rename_i L a c hf
    obtain ⟨ha, hc, hn, hk⟩ := hk
    obtain ⟨v, h1, hK, af, hT⟩ := hk wf
    subst ha hc
    have ef : aev s f = some (.func (.yield L) #[] #[]) := by rw [lev' hl (x := f) (by rw [hf]; rfl), hf]
    exact ⟨v, h1, hK, af, fun i rest s1 Q ho hp ht => TO_yield ho hw hop ef (levs hl hn) hT (by rintro v2 h2 ⟨rfl, rfl⟩; exact ⟨s1, hp, ht⟩)⟩
  · exact hk.elim
theorem opW_op {ops : Array Oper} {r s : Env} {h : AHeap} {o : Oper} {K : Value → AHeap → Prop} (hw : awanted ops s o = true) (hl : Le r s) (wf : WF' h) (hk : opW P r o h K) :
    ∃ v u h1, K v h1 ∧ (isBot v = true ∨ v = u) ∧ AF h h1 ∧ ∀ (i : Nat) (rest : List Nat) (s1 : Env) (Q : Env → AHeap → Prop), ops[i]? = some o → s.put o.dst u = some s1 → TO P ops rest s1 h1 Q → TO P ops (i :: rest) s h Q := by
  unfold opW at hk
  split at hk
  · rename_i f args ts hop
    obtain ⟨v, h1, hK, af, go⟩ := callV_op (ops := ops) hw hl wf hop hk
    exact ⟨v, v, h1, hK, .inr rfl, af, go⟩
  · obtain ⟨v, u, h', e, hv, hk⟩ := opA_sound hl hk
    exact ⟨v, u, h', hk, hv, (aop_parts e).1, fun i rest s1 Q ho hp ht => TO_op ho hw e hp ht⟩

theorem wpO_sound {ops : Array Oper} : ∀ (l : List Oper) (i : Nat) {r s : Env} {h : AHeap} {K : Env → AHeap → Prop}, ops.toList.drop i = l → Le r s → WF' h → wpO P ops l r h K →
    ∃ r' s' h', Le r' s' ∧ K r' h' ∧ Fr (modsO l) s s' ∧ AF h h' ∧ TO P ops (List.range' i l.length) s h (fun s1 h1 => s1 = s' ∧ h1 = h')
  | [], i, r, s, h, K, _, hl, wf, hk => ⟨r, s, h, hl, hk, .refl _ _, .refl _, TO_nil ⟨rfl, rfl⟩⟩
  | o :: os, i, r, s, h, K, hd, hl, wf, hk => by
    have ho : ops[i]? = some o := by
      have := congrArg (fun l => l[0]?) hd
      simp only [List.getElem?_drop, List.getElem?_cons_zero] at this
      simpa using this
    have hd' : ops.toList.drop (i + 1) = os := by rw [← List.tail_drop, hd]; rfl
    rw [List.length_cons, List.range'_succ]
    have next : ∀ v u h1, AF h h1 → (match r.put o.dst v with | some s1 => wpO P ops os s1 h1 K | none => False) → (isBot v = true ∨ v = u) → ∃ s1 r' s' h', s.put o.dst u = some s1 ∧ Le r' s' ∧ K r' h' ∧ Fr (modsO (o :: os)) s s' ∧ AF h h' ∧
        TO P ops (List.range' (i + 1) os.length) s1 h1 (fun s1 h1 => s1 = s' ∧ h1 = h') := by
      intro v u h1 af hk hv
      split at hk
      · rename_i r1 hp
        obtain ⟨s1, hp1, hl1⟩ := hl.put hp hv
        obtain ⟨r', s', h', l', k', f', a', t'⟩ := wpO_sound os (i + 1) hd' hl1 (wf.af af) hk
        exact ⟨s1, r', s', h', hp1, l', k', (Fr.put hp1).left.trans f'.right, af.trans a', t'⟩
      · exact hk.elim
    have run : awanted ops s o = true → opW P r o h (fun v h1 => match r.put o.dst v with | some s1 => wpO P ops os s1 h1 K | none => False) →
        ∃ r' s' h', Le r' s' ∧ K r' h' ∧ Fr (modsO (o :: os)) s s' ∧ AF h h' ∧ TO P ops (i :: List.range' (i + 1) os.length) s h (fun s1 h1 => s1 = s' ∧ h1 = h') := by
      intro hw hk
      obtain ⟨v, u, h1, hK, hv, af, go⟩ := opW_op (ops := ops) hw hl wf hk
      obtain ⟨s1, r', s', h', hp, l', k', f', a', t'⟩ := next v u h1 af hK hv
      exact ⟨r', s', h', l', k', f', a', go i _ s1 _ ho hp t'⟩
    have skip : awanted ops s o = false → (match r.put o.dst undef with | some s1 => wpO P ops os s1 h K | none => False) →
        ∃ r' s' h', Le r' s' ∧ K r' h' ∧ Fr (modsO (o :: os)) s s' ∧ AF h h' ∧ TO P ops (i :: List.range' (i + 1) os.length) s h (fun s1 h1 => s1 = s' ∧ h1 = h') := by
      intro hw hk
      obtain ⟨s1, r', s', h', hp, l', k', f', a', t'⟩ := next undef undef h (.refl _) hk (.inr rfl)
      exact ⟨r', s', h', l', k', f', a', TO_skip ho hw hp t'⟩
    simp only [wpO] at hk
    split at hk
    · rename_i hg
      exact run (by simp only [awanted, hg]) hk
    · rename_i j want hg
      split at hk
      · exact hk.elim
      · rename_i d hdst
        unfold GD at hk
        split at hk
        · rename_i b hb
          have hs : s.get d = .bool b := by
            rcases hl.get d with e | e
            · rw [hb] at e; cases e
            · rw [← e, hb]
          have haw : awanted ops s o = (b == want) := by simp only [awanted, hg, hdst, hs]
          by_cases hbw : b = want
          · exact run (by rw [haw, hbw]; simp) (hk.1 hbw)
          · exact skip (by rw [haw]; simpa using hbw) (hk.2 hbw)
        · exact hk.elim
        · rename_i n1 n2
          have hs : s.get d = r.get d := by
            rcases hl.get d with e | e
            · obtain ⟨k, p, q, e2⟩ := isBot_eq e; exact absurd e2 (n2 k p q)
            · exact e.symm
          have haw : awanted ops s o = false := by
            simp only [awanted, hg, hdst, hs]
          exact skip haw hk

/-! ### Code -/
structure Ks where
  nrm : Env → AHeap → Prop
  ret : Env → AHeap → Prop
  ext : Nat → Env → AHeap → Prop
def Ks.on (K : Ks) : Ex → Env → AHeap → Prop
  | .normal => K.nrm
  | .ret => K.ret
  | .exit id => K.ext id
def Ks.with (K : Ks) (n : Env → AHeap → Prop) : Ks := ⟨n, K.ret, K.ext⟩
/-- Two ways that meet again. -/
def CD (g : Value) (A B : (List Value → AHeap → Prop) → Prop) (J : List Value → AHeap → Prop) : Prop := match g with
  | .bool true => A J
  | .bool false => B J
  | _ => False
@[congr] theorem CD_congr {g g' : Value} {A B : (List Value → AHeap → Prop) → Prop} {J : List Value → AHeap → Prop} (e : g = g') : CD g A B J = CD g' A B J := by rw [e]
def BK (A : (List Value → AHeap → Prop) → Prop) (J : List Value → AHeap → Prop) : Prop := A J
/-- A loop, by what holds at each round's beginning; the number goes down. -/
def LP (step : List Value → AHeap → (List Value → AHeap → Prop) → Prop) (vs : List Value) (h : AHeap) : Prop :=
  ∃ (I : Nat → List Value → AHeap → Prop) (n : Nat), I n vs h ∧ ∀ n vs h, I n vs h → step vs h (fun vs' h' => ∃ m, m < n ∧ I m vs' h')
abbrev Wps := Nat → Code → Env → AHeap → Ks → Prop
def wpB (P : Program) (D : Array Oper → Env → AHeap → (Env → AHeap → Prop) → Prop) (rec : Wps) : Wps := fun lv c s h K => match c with
  | .skip => K.nrm s h
  | .label _ => K.nrm s h
  | .exit id => K.ext id s h
  | .ret => K.ret s h
  | .seq a b => rec (lv ||| see b) a s h (K.with fun s1 h1 => rec lv b s1 h1 K)
  | .cond x a b => CD (ev s x) (fun j => rec lv a s h (K.with fun s1 h1 => j (pickJ lv s1 (bits (mods a ||| mods b) s.size)) h1)) (fun j => rec lv b s h (K.with fun s1 h1 => j (pickJ lv s1 (bits (mods a ||| mods b) s.size)) h1))
      (fun vs h1 => K.nrm (rejoin lv vs (bits (mods a ||| mods b) s.size) 0 s) h1)
  | .block id a => BK (fun j => rec lv a s h ⟨fun s1 h1 => j (pickJ lv s1 (bits (mods a) s.size)) h1, K.ret, fun i s1 h1 => cond (Nat.beq i id) (j (pickJ lv s1 (bits (mods a) s.size)) h1) (K.ext i s1 h1)⟩)
      (fun vs h1 => K.nrm (rejoin lv vs (bits (mods a) s.size) 0 s) h1)
  | .scope a => rec lv a s h K
  | .loop a => LP (fun vs h1 j => rec (lv ||| see a) a (rejoin (lv ||| see a) vs (bits (mods a) s.size) 0 s) h1 (K.with fun s1 h2 => j (pickJ (lv ||| see a) s1 (bits (mods a) s.size)) h2))
      (pickJ (lv ||| see a) s (bits (mods a) s.size)) h
  | .region _ ops draw => cond draw (D ops s h K.nrm) (wpO P ops ops.toList s h K.nrm)
  | _ => False
def wp (P : Program) (D : Array Oper → Env → AHeap → (Env → AHeap → Prop) → Prop) (n : Nat) : Wps := Nat.rec (fun _ _ _ _ _ => False) (fun _ rec => wpB P D rec) n

/-- What is asked of a region that draws. -/
def DrawOk (P : Program) (D : Array Oper → Env → AHeap → (Env → AHeap → Prop) → Prop) : Prop :=
  ∀ ops r s h K rd id, Le r s → WF' h → D ops r h K → ∃ r' s' h', Le r' s' ∧ K r' h' ∧ Fr (modsO ops.toList) s s' ∧ AF h h' ∧ T P rd (.region id ops true) s h (fun e s1 h1 => e = .normal ∧ s1 = s' ∧ h1 = h')
def Good (P : Program) (rec : Wps) : Prop := ∀ lv c r s h K rd, Le r s → WF' h → rec lv c r h K → ∃ e r' s' h', Le r' s' ∧ K.on e r' h' ∧ Fr (mods c) s s' ∧ AF h h' ∧ T P rd c s h (fun e1 s1 h1 => e1 = e ∧ s1 = s' ∧ h1 = h')
theorem Le.sizes {r s r1 s1 : Env} {m : Nat} (h : Le r s) (h1 : Le r1 s1) (f : Fr m s s1) : r1.size = r.size := by rw [h1.size, f.size, h.size]
theorem wpB_good {D : Array Oper → Env → AHeap → (Env → AHeap → Prop) → Prop} (hD : DrawOk P D) {rec : Wps} (G : Good P rec) : Good P (wpB P D rec) := by
  intro lv c r s h K rd hl wf hk
  cases c with
  | skip => exact ⟨.normal, r, s, h, hl, hk, .refl _ _, .refl _, T_skip ⟨rfl, rfl, rfl⟩⟩
  | label l => exact ⟨.normal, r, s, h, hl, hk, .refl _ _, .refl _, T_label ⟨rfl, rfl, rfl⟩⟩
  | exit id => exact ⟨.exit id, r, s, h, hl, hk, .refl _ _, .refl _, T_exit ⟨rfl, rfl, rfl⟩⟩
  | ret => exact ⟨.ret, r, s, h, hl, hk, .refl _ _, .refl _, T_ret ⟨rfl, rfl, rfl⟩⟩
  | seq a b =>
    obtain ⟨e, r1, s1, h1, l1, k1, f1, a1, t1⟩ := G _ _ _ _ _ _ rd hl wf hk
    cases e with
    | normal =>
      obtain ⟨e2, r2, s2, h2, l2, k2, f2, a2, t2⟩ := G _ _ _ _ _ _ rd l1 (wf.af a1) k1
      refine ⟨e2, r2, s2, h2, l2, k2, f1.left.trans f2.right, a1.trans a2, T_seq (t1.mono ?_)⟩
      rintro e s3 h3 ⟨rfl, rfl, rfl⟩
      exact t2
    | ret =>
      refine ⟨.ret, r1, s1, h1, l1, k1, f1.left, a1, T_seq (t1.mono ?_)⟩
      rintro e s3 h3 ⟨rfl, rfl, rfl⟩
      exact ⟨rfl, rfl, rfl⟩
    | exit id =>
      refine ⟨.exit id, r1, s1, h1, l1, k1, f1.left, a1, T_seq (t1.mono ?_)⟩
      rintro e s3 h3 ⟨rfl, rfl, rfl⟩
      exact ⟨rfl, rfl, rfl⟩
  | cond x a b =>
    have fin : ∀ (c : Code), (∀ s s1, Fr (mods c) s s1 → Fr (mods a ||| mods b) s s1) → rec lv c r h (K.with fun s1 h1 => (fun vs h1 => K.nrm (rejoin lv vs (bits (mods a ||| mods b) r.size) 0 r) h1) (pickJ lv s1 (bits (mods a ||| mods b) r.size)) h1) →
        ∃ e r' s' h', Le r' s' ∧ K.on e r' h' ∧ Fr (mods a ||| mods b) s s' ∧ AF h h' ∧ T P rd c s h (fun e1 s1 h1 => e1 = e ∧ s1 = s' ∧ h1 = h') := by
      intro c hf hk
      obtain ⟨e, r1, s1, h1, l1, k1, f1, a1, t1⟩ := G _ _ _ _ _ _ rd hl wf hk
      have f2 := hf _ _ f1
      cases e with
      | normal => exact ⟨.normal, _, s1, h1, join_le hl l1 f2, k1, f2, a1, t1⟩
      | ret => exact ⟨.ret, r1, s1, h1, l1, k1, f2, a1, t1⟩
      | exit id => exact ⟨.exit id, r1, s1, h1, l1, k1, f2, a1, t1⟩
    unfold wpB at hk
    dsimp only at hk
    unfold CD at hk
    split at hk
    · rename_i hx
      obtain ⟨e, r', s', h', q1, q2, q3, q4, t⟩ := fin a (fun _ _ f => f.left) hk
      exact ⟨e, r', s', h', q1, q2, q3, q4, T_cond (t := true) (by rw [lev' hl (x := x) (by rw [hx]; rfl), hx]) t⟩
    · rename_i hx
      obtain ⟨e, r', s', h', q1, q2, q3, q4, t⟩ := fin b (fun _ _ f => f.right) hk
      exact ⟨e, r', s', h', q1, q2, q3, q4, T_cond (t := false) (by rw [lev' hl (x := x) (by rw [hx]; rfl), hx]) t⟩
    · exact hk.elim
  | block id a =>
    have hk : rec lv a r h _ := hk
    obtain ⟨e, r1, s1, h1, l1, k1, f1, a1, t1⟩ := G _ _ _ _ _ _ rd hl wf hk
    cases e with
    | normal =>
      refine ⟨.normal, _, s1, h1, join_le hl l1 f1, k1, f1, a1, T_block (t1.mono ?_)⟩
      rintro e s3 h3 ⟨rfl, rfl, rfl⟩
      rw [if_neg (by simp)]; exact ⟨rfl, rfl, rfl⟩
    | ret =>
      refine ⟨.ret, r1, s1, h1, l1, k1, f1, a1, T_block (t1.mono ?_)⟩
      rintro e s3 h3 ⟨rfl, rfl, rfl⟩
      rw [if_neg (by simp)]; exact ⟨rfl, rfl, rfl⟩
    | exit i =>
      simp only [Ks.on] at k1
      by_cases hi : i = id
      · subst hi
        rw [show Nat.beq i i = true from Nat.beq_refl i] at k1
        refine ⟨.normal, _, s1, h1, join_le hl l1 f1, k1, f1, a1, T_block (t1.mono ?_)⟩
        rintro e s3 h3 ⟨rfl, rfl, rfl⟩
        rw [if_pos rfl]; exact ⟨rfl, rfl, rfl⟩
      · rw [Tr.beq_false hi] at k1
        refine ⟨.exit i, r1, s1, h1, l1, k1, f1, a1, T_block (t1.mono ?_)⟩
        rintro e s3 h3 ⟨rfl, rfl, rfl⟩
        rw [if_neg (by simpa using hi)]; exact ⟨rfl, rfl, rfl⟩
  | scope a =>
    obtain ⟨e, r1, s1, h1, l1, k1, f1, a1, t1⟩ := G _ _ _ _ _ _ rd hl wf hk
    exact ⟨e, r1, s1, h1, l1, k1, f1, a1, T_scope t1⟩
  | loop a =>
    unfold wpB at hk
    dsimp only at hk
    obtain ⟨I, n, h0, hI⟩ := hk
    have key : ∀ n r1 s1 h1, Le r1 s1 → WF' h1 → Fr (mods a) s s1 → I n (pickJ (lv ||| see a) r1 (bits (mods a) r.size)) h1 →
        ∃ e r' s' h', Le r' s' ∧ K.on e r' h' ∧ Fr (mods a) s s' ∧ AF h1 h' ∧ T P rd (.loop a) s1 h1 (fun e1 s2 h2 => e1 = e ∧ s2 = s' ∧ h2 = h') := by
      intro n
      induction n using Nat.strongRecOn with
      | _ n ih =>
        intro r1 s1 h1 l1 wf1 f1 hn
        have hstep := hI n _ h1 hn
        obtain ⟨e, r2, s2, h2, l2, k2, f2, a2, t2⟩ := G _ _ _ _ _ _ rd (join_le hl l1 f1) wf1 hstep
        cases e with
        | normal =>
          obtain ⟨m, hm, k2⟩ := k2
          obtain ⟨e3, r3, s3, h3, l3, k3, f3, a3, t3⟩ := ih m hm r2 s2 h2 l2 (wf1.af a2) (f1.trans f2) k2
          refine ⟨e3, r3, s3, h3, l3, k3, f3, a2.trans a3, T_loop_step (t2.mono ?_)⟩
          rintro e s4 h4 ⟨rfl, rfl, rfl⟩
          exact t3
        | ret =>
          refine ⟨.ret, r2, s2, h2, l2, k2, f1.trans f2, a2, T_loop_step (t2.mono ?_)⟩
          rintro e s4 h4 ⟨rfl, rfl, rfl⟩
          exact ⟨rfl, rfl, rfl⟩
        | exit i =>
          refine ⟨.exit i, r2, s2, h2, l2, k2, f1.trans f2, a2, T_loop_step (t2.mono ?_)⟩
          rintro e s4 h4 ⟨rfl, rfl, rfl⟩
          exact ⟨rfl, rfl, rfl⟩
    exact key n r s h hl wf (.refl _ _) h0
  | region id ops draw =>
    cases draw with
    | true =>
      obtain ⟨r', s', h', q1, q2, q3, q4, t⟩ := hD ops r s h K.nrm rd id hl wf hk
      exact ⟨.normal, r', s', h', q1, q2, q3, q4, t⟩
    | false =>
      have hk : wpO P ops ops.toList r h K.nrm := hk
      obtain ⟨r', s', h', q1, q2, q3, q4, t⟩ := wpO_sound ops.toList 0 (List.drop_zero) hl wf hk
      refine ⟨.normal, r', s', h', q1, q2, q3, q4, T_region ?_⟩
      rw [List.range_eq_range']
      rw [Array.length_toList] at t
      exact (fun ρ w tm ds hr hs b k cs => by
        obtain ⟨s1, h1, ρ1, w1, tm1, ⟨e1, e2⟩, rest⟩ := t ρ w tm ds hr hs b k cs
        exact ⟨s1, h1, ρ1, w1, tm1, ⟨rfl, e1, e2⟩, rest⟩)
  | _ => exact hk.elim
theorem wp_good {D : Array Oper → Env → AHeap → (Env → AHeap → Prop) → Prop} (hD : DrawOk P D) : ∀ n, Good P (wp P D n)
  | 0 => fun _ _ _ _ _ _ _ _ _ hk => hk.elim
  | n + 1 => wpB_good hD (wp_good hD n)

/-! ### Functions -/
def rv (vs : List Value) (h : AHeap) (R : Value → AHeap → Prop) : Prop := nobot vs = true ∧ R (aresult vs) h
def resW (P : Program) : List ResultVar → Env → AHeap → (List Value → Prop) → Prop
  | [], s, h, K => K []
  | .tmp t :: rs, s, h, K => resW P rs s h fun vs => K (s.get t :: vs)
  | .cell a t :: rs, s, h, K => opt (aload P t (s.get a) h) fun v => resW P rs s h fun vs => K (v :: vs)
def seeR : List ResultVar → Nat
  | [] => 0
  | .tmp t :: rs => (1 <<< t) ||| seeR rs
  | .cell a _ :: rs => (1 <<< a) ||| seeR rs
def wpF (P : Program) (D : Array Oper → Env → AHeap → (Env → AHeap → Prop) → Prop) (n : Nat) (f : FuncId) (args : List Value) (h : AHeap) (R : Value → AHeap → Prop) : Prop :=
  match P.funcs[f]? with
  | some fn => (match fn.body with
    | some c => wp P D n (seeR fn.results.toList) c (Env.enter args fn.ntmps) h ⟨fun s h => resW P fn.results.toList s h fun vs => rv vs h R, fun s h => resW P fn.results.toList s h fun vs => rv vs h R, fun _ _ _ => False⟩
    | none => False)
  | none => False
theorem resW_sound {r s : Env} {h : AHeap} (hl : Le r s) : ∀ {rs : List ResultVar} {K : List Value → Prop}, resW P rs r h K → (∀ vs, K vs → nobot vs = true) → ∃ vs, aresults P s h rs = some vs ∧ K vs
  | [], K, hk, _ => ⟨[], rfl, hk⟩
  | .tmp t :: rs, K, hk, hn => by
    obtain ⟨vs, e, q⟩ := resW_sound hl (rs := rs) hk (fun vs q => by
      have := hn _ q
      simp only [nobot] at this
      cases hb : isBot (r.get t) with
      | true => rw [hb] at this; cases this
      | false => rw [hb] at this; exact this)
    have hb : isBot (r.get t) = false := by
      have := hn _ q
      simp only [nobot] at this
      cases hb : isBot (r.get t) with
      | true => rw [hb] at this; cases this
      | false => rfl
    have et : r.get t = s.get t := by
      rcases hl.get t with e | e
      · rw [e] at hb; cases hb
      · exact e
    exact ⟨_, by simp only [aresults, e, ← et], q⟩
  | .cell a t :: rs, K, hk, hn => by
    obtain ⟨v, ev, hk⟩ := of_opt hk
    have et : r.get a = s.get a := by
      rcases hl.get a with e | e
      · obtain ⟨k, p, q, e2⟩ := isBot_eq e; rw [e2] at ev; cases ev
      · exact e
    obtain ⟨vs, e, q⟩ := resW_sound hl (rs := rs) hk (fun vs q => by
      have := hn _ q
      simp only [nobot] at this
      cases hb : isBot v with
      | true => rw [hb] at this; cases this
      | false => rw [hb] at this; exact this)
    exact ⟨_, by simp only [aresults, ← et, ev, e], q⟩
/-- A function does what is asked of it. -/
theorem DC_of_wpF {D : Array Oper → Env → AHeap → (Env → AHeap → Prop) → Prop} (hD : DrawOk P D) {n : Nat} {f : FuncId} {args : List Value} {h : AHeap} {R : Value → AHeap → Prop} (hk : wpF P D n f args h R) : DC P f args h R := by
  intro wf
  unfold wpF at hk
  split at hk
  case h_2 => exact hk.elim
  rename_i fn hf
  split at hk
  case h_2 => exact hk.elim
  rename_i c hb
  obtain ⟨e, r1, s1, h1, l1, k1, _, a1, t1⟩ := wp_good hD n _ _ _ _ _ _ none (.refl _) wf hk
  have fin : ∀ {e : Ex}, (e = .normal ∨ e = .ret) → (∃ vs, aresults P s1 h1 fn.results.toList = some vs ∧ nobot vs = true ∧ R (aresult vs) h1) → T P none c (Env.enter args fn.ntmps) h (fun e1 s2 h2 => e1 = e ∧ s2 = s1 ∧ h2 = h1) →
      ∃ v h1, R v h1 ∧ AF h h1 ∧ TC P f args h (fun v' h' => v' = v ∧ h' = h1) := by
    rintro e he ⟨vs, e1, _, q⟩ t
    refine ⟨_, h1, q, a1, TC_of_T hf hb (t.mono ?_)⟩
    rintro e s2 h2 ⟨rfl, rfl, rfl⟩
    exact ⟨he, vs, e1, rfl, rfl⟩
  cases e with
  | normal =>
    obtain ⟨vs, e, q⟩ := resW_sound l1 k1 (fun vs q => q.1)
    exact fin (.inl rfl) ⟨vs, e, q⟩ t1
  | ret =>
    obtain ⟨vs, e, q⟩ := resW_sound l1 k1 (fun vs q => q.1)
    exact fin (.inr rfl) ⟨vs, e, q⟩ t1
  | exit id => exact k1.elim
end
end Go.Ai
