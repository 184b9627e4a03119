/-
  WHAT IS ASKED OF A PIECE OF CODE, 4: the questions of a region that draws its order are sound.
-/
import Derived.Test.YtpilbfkinpbnoaaAiWp3
set_option linter.unusedVariables false
namespace Go.Ai
noncomputable section
variable {P : Program}

theorem aop_noCall {s : Env} {o : Oper} {h h' : AHeap} {u : Value} (he : aop P s o h = some (u, h')) : isCallF o.op = false := by
  cases hc : isCallF o.op with
  | false => rfl
  | true =>
    unfold isCallF at hc
    split at hc
    · rename_i hop; unfold aop at he; simp only [hop] at he; cases he
    · cases hc
/-- What a record of a kind looks at and touches. -/
structure RP (q : FuncId → Nat) (x : DRec) : Prop where
  rd : ∀ b, x.rd b = true → b < x.g.next
  k0 : kindO q x.o = 0 → ∀ b, x.rd b = false
  k1 : kindO q x.o ≤ 1 → ∀ b, x.tc b = false
  k2 : kindO q x.o = 2 → ∀ b, x.tc b = true → x.g.next ≤ b
/-- What stands behind an operation. -/
structure Next (P : Program) (q : FuncId → Nat) (ops : Array Oper) (s0 : Env) (h0 : AHeap) (A : List DRec) (i : Nat) (o : Oper) (s : Env) (h : AHeap) (u : Value) (h1 : AHeap) (bound : Nat) (y : DRec) : Prop where
  hj : y.j = i
  hop : y.o = o
  hsl : y.s = s
  hval : y.v = u
  gn : y.g.next = h.next
  told : Told P ops s0 h0 A y
  rp : RP q y
  rb : kindO q o = 1 → ∀ b, y.rd b = true → b < bound
  heap : ∀ b, h1.get b = if y.tc b = true then y.g'.get b else h.get b
  ro : h1.ro = h.ro
  next : h.next ≤ h1.next
  gnext : y.g'.next ≤ h1.next
  wf : WF h1
section
variable {q : FuncId → Nat} {ops : Array Oper} {s0 : Env} {h0 : AHeap} {A : List DRec} {i : Nat} {o : Oper} {s : Env} {h : AHeap}
/-- It looked at nothing and touched nothing. -/
theorem next_pure (F : Sofar P ops s0 h0 A i s h) (ho : ops[i]? = some o) (hput : ∀ d, o.dst = some d → d < s.size) {u : Value} (hs : OpSem P ops s o (h.pick []) u (h.pick [])) (bound : Nat) : ∃ y, Next P q ops s0 h0 A i o s h u h bound y := by
  refine ⟨⟨i, o, u, s, h.pick [], h.pick [], fun _ => false, fun _ => false⟩, rfl, rfl, rfl, rfl, rfl,
    ⟨ho, F.env, F.size, fun b => by rw [get_pick]; simp, F.ro, F.next, F.nA, Nat.le_refl _, hs, fun d hd => by rw [← F.size]; exact hput d hd, fun b hb => (by cases hb), fun b _ => rfl, fun b o' hb => (by cases hb)⟩,
    ⟨fun b hb => (by cases hb), fun _ _ => rfl, fun _ _ => rfl, fun _ b hb => (by cases hb)⟩, fun _ b hb => (by cases hb), fun b => by simp, rfl, Nat.le_refl _, Nat.le_refl _, F.wf⟩
/-- It looked. -/
theorem next_read (F : Sofar P ops s0 h0 A i s h) (ho : ops[i]? = some o) (hput : ∀ d, o.dst = some d → d < s.size) (hk : kindO q o = 1) {hv : AHeap} {bound : Nat} (hb : bound ≤ h.next) (hn : hv.next = h.next) (hro : hv.ro = h.ro)
    (hg : ∀ b, hv.get b = if b < bound then h.get b else none) {u : Value} (hs : OpSem P ops s o hv u hv) : ∃ y, Next P q ops s0 h0 A i o s h u h bound y := by
  refine ⟨⟨i, o, u, s, hv, hv, fun b => Nat.blt b bound, fun _ => false⟩, rfl, rfl, rfl, rfl, hn,
    ⟨ho, F.env, F.size, fun b => ?_, hro.trans F.ro, by rw [hn]; exact F.next, fun x hx => by rw [hn]; exact F.nA x hx, Nat.le_refl _, hs, fun d hd => by rw [← F.size]; exact hput d hd, fun b hb => (by cases hb), fun b _ => rfl, fun b o' hb => (by cases hb)⟩,
    ⟨fun b hb2 => by have : b < bound := by simpa [Nat.blt_eq] using hb2
                     show b < hv.next; omega, fun h => by simp only at h; omega, fun _ _ => rfl, fun h => by simp only at h; omega⟩, fun _ b hb2 => by simpa [Nat.blt_eq] using hb2, fun b => by simp, rfl, Nat.le_refl _, by rw [hn]; exact Nat.le_refl _, F.wf⟩
  show hv.get b = if Nat.blt b bound = true then hpV A h0 b else none
  have hbl : (Nat.blt b bound = true) ↔ b < bound := by rw [Nat.blt_eq]
  rw [hg]
  by_cases hbb : b < bound
  · rw [if_pos hbb, if_pos (hbl.2 hbb), F.heap]
  · rw [if_neg hbb, if_neg (fun e => hbb (hbl.1 e))]
theorem wf_beyond {h : AHeap} (w : WF h) {b : Nat} (hb : ¬ b < h.next) : h.get b = none := by
  cases hh : h.get b with | none => rfl | some o' => exact absurd (w b o' hh) hb
/-- It laid blocks alone. -/
theorem next_alloc (F : Sofar P ops s0 h0 A i s h) (ho : ops[i]? = some o) (hput : ∀ d, o.dst = some d → d < s.size) (hk : kindO q o = 2) {h1 : AHeap} (hn : h.next ≤ h1.next) (hro : h1.ro = h.ro) (hold : ∀ b, ¬ (h.next ≤ b ∧ b < h1.next) → h1.get b = h.get b)
    {u : Value} (hs : OpSem P ops s o h u h1) (bound : Nat) : ∃ y, Next P q ops s0 h0 A i o s h u h1 bound y := by
  have hrd : ∀ b, (Nat.blt b h.next = true) ↔ b < h.next := fun b => by rw [Nat.blt_eq]
  have htc : ∀ b, (decide (h.next ≤ b ∧ b < h1.next) = true) ↔ (h.next ≤ b ∧ b < h1.next) := fun b => by simp
  refine ⟨⟨i, o, u, s, h, h1, fun b => Nat.blt b h.next, fun b => decide (h.next ≤ b ∧ b < h1.next)⟩, rfl, rfl, rfl, rfl, rfl,
    ⟨ho, F.env, F.size, fun b => ?_, F.ro, F.next, F.nA, hn, hs, fun d hd => by rw [← F.size]; exact hput d hd, fun b hb => .inr ((htc b).1 hb), fun b hb => ?_, fun b o' hb hlt => ?_⟩,
    ⟨fun b hb => (hrd b).1 hb, fun h => by simp only at h; omega, fun h => by simp only at h; omega, fun _ b hb => ((htc b).1 hb).1⟩, fun h => by omega, fun b => ?_, hro, hn, Nat.le_refl _, fun b o' hb => ?_⟩
  · show h.get b = if Nat.blt b h.next = true then hpV A h0 b else none
    by_cases hb : b < h.next
    · rw [if_pos ((hrd b).2 hb), F.heap]
    · rw [if_neg (fun e => hb ((hrd b).1 e)), wf_beyond F.wf hb]
  · refine hold b (fun e => ?_)
    have := (htc b).2 e
    rw [show decide (h.next ≤ b ∧ b < h1.next) = false from hb] at this
    cases this
  · have := ((htc b).1 hb).1
    have hlt : b < h.next := hlt
    omega
  · show h1.get b = if decide (h.next ≤ b ∧ b < h1.next) = true then h1.get b else h.get b
    by_cases hb : h.next ≤ b ∧ b < h1.next
    · rw [if_pos ((htc b).2 hb)]
    · rw [if_neg (fun e => hb ((htc b).1 e)), hold b hb]
  · by_cases hc : h.next ≤ b ∧ b < h1.next
    · exact hc.2
    · rw [hold b hc] at hb
      exact Nat.lt_of_lt_of_le (F.wf b o' hb) hn
/-- It may have written. -/
theorem next_write (F : Sofar P ops s0 h0 A i s h) (ho : ops[i]? = some o) (hput : ∀ d, o.dst = some d → d < s.size) (hk : kindO q o = 3) {h1 : AHeap} (af : AF h h1)
    {u : Value} (hs : OpSem P ops s o h u h1) (bound : Nat) : ∃ y, Next P q ops s0 h0 A i o s h u h1 bound y := by
  have hrd : ∀ n b, (Nat.blt b n = true) ↔ b < n := fun n b => by rw [Nat.blt_eq]
  have hn : h.next ≤ h1.next := af.next
  have hwf : WF h1 := F.wf.af af
  refine ⟨⟨i, o, u, s, h, h1, fun b => Nat.blt b h.next, fun b => Nat.blt b h1.next⟩, rfl, rfl, rfl, rfl, rfl,
    ⟨ho, F.env, F.size, fun b => ?_, F.ro, F.next, F.nA, hn, hs, fun d hd => by rw [← F.size]; exact hput d hd, fun b hb => ?_, fun b hb => ?_, fun b o' hb hlt hg => ?_⟩,
    ⟨fun b hb => (hrd _ b).1 hb, fun h => by simp only at h; omega, fun h => by simp only at h; omega, fun h => by simp only at h; omega⟩, fun h => by omega, fun b => ?_, af.ro, hn, Nat.le_refl _, hwf⟩
  · show h.get b = if Nat.blt b h.next = true then hpV A h0 b else none
    by_cases hb : b < h.next
    · rw [if_pos ((hrd _ b).2 hb), F.heap]
    · rw [if_neg (fun e => hb ((hrd _ b).1 e)), wf_beyond F.wf hb]
  · have hb := (hrd _ b).1 hb
    by_cases hlt : b < h.next
    · exact .inl ((hrd _ b).2 hlt)
    · exact .inr ⟨Nat.le_of_not_lt hlt, hb⟩
  · have hb' : ¬ b < h1.next := fun e => by
      have := (hrd h1.next b).2 e
      rw [show Nat.blt b h1.next = false from hb] at this
      cases this
    show h1.get b = h.get b
    rw [wf_beyond hwf hb', wf_beyond F.wf (by omega)]
  · rcases af.alive b o' hg with h2 | ⟨h2, _⟩
    · exact h2
    · have hlt : b < h.next := hlt
      omega
  · show h1.get b = if Nat.blt b h1.next = true then h1.get b else h.get b
    by_cases hb : b < h1.next
    · rw [if_pos ((hrd _ b).2 hb)]
    · rw [if_neg (fun e => hb ((hrd _ b).1 e)), wf_beyond hwf hb, wf_beyond F.wf (by omega)]

theorem still_facts {h h1 : AHeap} (st : Still h h1) : h.next ≤ h1.next ∧ h1.ro = h.ro ∧ ∀ b, ¬ (h.next ≤ b ∧ b < h1.next) → h1.get b = h.get b := by
  rcases st with rfl | ⟨ob, rfl⟩
  · exact ⟨Nat.le_refl _, rfl, fun _ _ => rfl⟩
  · refine ⟨Nat.le_succ _, rfl, fun b hb => ?_⟩
    rw [AHeap.get_push, if_neg (fun e => hb ⟨by omega, by rw [AHeap.next_push]; omega⟩)]
theorem view_facts {m : Nat} {al : List (Nat × Nat)} {h : AHeap} (w : WF h) (hal : ∀ x, x ∈ al → x.2 ≤ h.next) : ∃ bound, bound ≤ h.next ∧ (view m al h).next = h.next ∧ (view m al h).ro = h.ro ∧ (∀ b, (view m al h).get b = if b < bound then h.get b else none) ∧ ∀ n, firstFree m al = some n → bound = n := by
  have mem : ∀ (al : List (Nat × Nat)) n, firstFree m al = some n → ∃ p, (p, n) ∈ al := by
    intro al
    induction al with
    | nil => intro n e; cases e
    | cons x l ih =>
      intro n e
      obtain ⟨p, n'⟩ := x
      simp only [firstFree] at e
      cases hb : m.testBit p with
      | true => rw [hb] at e; obtain ⟨p', hp⟩ := ih n e; exact ⟨p', by simp [hp]⟩
      | false => rw [hb] at e; cases e; exact ⟨p, by simp⟩
  unfold view
  cases hf : firstFree m al with
  | none => exact ⟨h.next, Nat.le_refl _, rfl, rfl, fun b => by
      by_cases hb : b < h.next
      · rw [if_pos hb]
      · rw [if_neg hb, wf_beyond w hb], fun n e => by cases e⟩
  | some n =>
    obtain ⟨p, hp⟩ := mem al n hf
    have hn : n ≤ h.next := hal _ hp
    refine ⟨n, hn, rfl, rfl, fun b => ?_, fun n' e => by cases e; rfl⟩
    simp only [get_trim]
    by_cases hb : b < n
    · rw [if_neg (by omega), if_pos hb]
    · by_cases hb2 : b < h.next
      · rw [if_pos ⟨by omega, hb2⟩, if_neg hb]
      · rw [if_neg (by omega), if_neg hb, wf_beyond w hb2]

theorem Next.af {u : Value} {h1 : AHeap} {bound : Nat} {y : DRec} (N : Next P q ops s0 h0 A i o s h u h1 bound y) (F : Sofar P ops s0 h0 A i s h) : AF h h1 :=
  ⟨N.next, N.ro, fun b o hb => by
    rw [N.heap] at hb
    by_cases ht : y.tc b = true
    · rw [if_pos ht] at hb
      by_cases hl : b < y.g.next
      · have h2 := N.told.tc3 b o ht hl hb
        have h3 := N.told.heap b
        rw [h3] at h2
        by_cases hr : y.rd b = true
        · rw [if_pos hr, ← F.heap] at h2; exact .inl h2
        · rw [if_neg hr] at h2; exact absurd rfl h2
      · have hb1 : h1.get b = some o := by rw [N.heap, if_pos ht]; exact hb
        exact .inr ⟨by rw [← N.gn]; omega, N.wf b o hb1⟩
    · rw [if_neg ht] at hb
      exact .inl (by rw [hb]; simp)⟩
/-- One operation. -/
theorem opD_next (F : Sofar P ops s0 h0 A i s h) (hron : h.ro ≤ h.next) (ho : ops[i]? = some o) (hput : ∀ d, o.dst = some d → d < s.size) (hw : awanted ops s o = true) {r : Env} (hl : Le r s) {m : Nat} {al : List (Nat × Nat)} (hal : ∀ x, x ∈ al → x.2 ≤ h.next)
    {K : Value → AHeap → Prop} (hk : opD P q r o (view m al h) h K) : ∃ v u h1 y bound, (isBot v = true ∨ v = u) ∧ K v h1 ∧ Next P q ops s0 h0 A i o s h u h1 bound y ∧ ∀ n, firstFree m al = some n → bound = n := by
  obtain ⟨bound, hb1, hb2, hb3, hb4, hb5⟩ := view_facts (m := m) F.wf hal
  unfold opD at hk
  split at hk
  · rename_i g args ts hop
    have ef : aev s (.func g) = some (.func (.func g) #[] #[]) := rfl
    have hkind : kindO q o = kindF (q g) := by unfold kindO; simp only [hop]
    split at hk
    · rename_i hq
      obtain ⟨hc, hn, v, hsc, hT, hK⟩ := hk
      have hT2 : TC P g (evs r args.toList) (view m al h) (fun v1 h1 => v1 = v ∧ h1 = view m al h) :=
        (hT.quiet (fun v1 _ e => by rw [e]; exact hsc)).mono (by rintro v1 h1 ⟨⟨_, e1⟩, e2⟩; exact ⟨e1, e2⟩)
      obtain ⟨y, hy⟩ := next_read (q := q) F ho hput (by rw [hkind, hq]; rfl) hb1 hb2 hb3 hb4 (u := v) (.inr ⟨hw, .inr (.inl ⟨.func g, args, ts, g, #[], #[], _, hop, ef, levs hl hn, hc, by simpa using hT2⟩)⟩)
      exact ⟨v, v, h, y, bound, .inr rfl, hK, hy, hb5⟩
    · rename_i hq
      obtain ⟨hc, hn, v, h2, hT, af, hK⟩ := hk
      have hnx : h.next ≤ h2.next := af.next
      obtain ⟨y, hy⟩ := next_alloc (q := q) F ho hput (by rw [hkind, hq]; rfl) (h1 := graft h h2) hnx rfl (fun b hb => by rw [get_graft]; exact if_neg hb) (u := v)
        (.inr ⟨hw, .inr (.inl ⟨.func g, args, ts, g, #[], #[], _, hop, ef, levs hl hn, hc, by simpa using hT.fresh⟩)⟩) bound
      exact ⟨v, v, _, y, bound, .inr rfl, hK, hy, hb5⟩
    · rename_i hq
      obtain ⟨hn, hk⟩ := hk
      obtain ⟨v, h2, he, hK⟩ := of_optH hk
      obtain ⟨f1, f2, f3⟩ := still_facts (aext_still he)
      obtain ⟨y, hy⟩ := next_alloc (q := q) F ho hput (by rw [hkind, hq]; rfl) f1 f2 f3 (u := v) (.inr ⟨hw, .inr (.inr ⟨.func g, args, ts, g, #[], #[], _, hop, ef, levs hl hn, by simpa using he⟩)⟩) bound
      exact ⟨v, v, _, y, bound, .inr rfl, hK, hy, hb5⟩
    · rename_i n2 n3 n4
      obtain ⟨hc, hn, hd⟩ := hk
      obtain ⟨v, h2, hK, af, hT⟩ := hd ⟨F.wf, hron⟩
      obtain ⟨y, hy⟩ := next_write (q := q) F ho hput (by rw [hkind]; unfold kindF; split <;> first | rfl | (exfalso; simp_all)) af (u := v)
        (.inr ⟨hw, .inr (.inl ⟨.func g, args, ts, g, #[], #[], _, hop, ef, levs hl hn, hc, by simpa using hT⟩)⟩) bound
      exact ⟨v, v, _, y, bound, .inr rfl, hK, hy, hb5⟩
  · rename_i f args ts hnf hop
    unfold callVD at hk
    split at hk
    · rename_i g a c hf
      have ef : aev s f = some (.func (.func g) a c) := by rw [lev' hl (x := f) (by rw [hf]; rfl), hf]
      obtain ⟨hn0, hc, hn, hd⟩ := hk
      obtain ⟨v, h2, hK, af, hT⟩ := hd ⟨F.wf, hron⟩
      have hkind : kindO q o = 3 := by
        unfold kindO
        simp only [hop]
      obtain ⟨y, hy⟩ := next_write (q := q) F ho hput hkind af (u := v) (.inr ⟨hw, .inr (.inl ⟨f, args, ts, g, a, c, _, hop, ef, levs hl hn0, hc, hT⟩)⟩) bound
      exact ⟨v, v, _, y, bound, .inr rfl, hK, hy, hb5⟩
    · exact hk.elim
  · rename_i hn1 hn2
    cases h1 : Nat.beq (kindO q o) 1 with
    | true =>
      rw [h1] at hk
      have h1 := Nat.eq_of_beq_eq_true h1
      obtain ⟨v, u, h', he, hv, hK⟩ := opA_sound hl hk
      obtain rfl := reader_same h1 (aop_noCall he) he
      obtain ⟨y, hy⟩ := next_read (q := q) F ho hput h1 hb1 hb2 hb3 hb4 (u := u) (.inr ⟨hw, .inl he⟩)
      exact ⟨v, u, h, y, bound, hv, hK, hy, hb5⟩
    | false =>
      rw [h1] at hk
      obtain ⟨v, u, h', he, hv, hK⟩ := opA_sound hl hk
      have hnc := aop_noCall he
      have hkle : kindO q o = 0 ∨ kindO q o = 1 ∨ kindO q o = 2 ∨ kindO q o = 3 := by
        unfold kindO
        split <;> (try simp)
        · unfold kindF; split <;> simp
        · rename_i b _ _ _; cases quietB b <;> simp
      rcases hkle with h0' | h1' | h2' | h3'
      · obtain ⟨rfl, hany⟩ := pure_any h0' hnc he
        obtain ⟨y, hy⟩ := next_pure (q := q) F ho hput (u := u) (.inr ⟨hw, .inl (hany _)⟩) bound
        exact ⟨v, u, h', y, bound, hv, hK, hy, hb5⟩
      · rw [h1'] at h1; cases h1
      · obtain ⟨f1, f2, f3⟩ := still_facts (alloc_still h2' hnc he)
        obtain ⟨y, hy⟩ := next_alloc (q := q) F ho hput h2' f1 f2 f3 (u := u) (.inr ⟨hw, .inl he⟩) bound
        exact ⟨v, u, h', y, bound, hv, hK, hy, hb5⟩
      · obtain ⟨y, hy⟩ := next_write (q := q) F ho hput h3' (aop_parts he).1 (u := u) (.inr ⟨hw, .inl he⟩) bound
        exact ⟨v, u, h', y, bound, hv, hK, hy, hb5⟩
end

/-! ### The order that is told -/
/-- Where the first of the new blocks that stand free of an operation begin. -/
def alOf (q : FuncId → Nat) : List DRec → List (Nat × Nat)
  | [] => []
  | x :: l => cond (Nat.beq (kindO q x.o) 2) ((x.j, x.g.next) :: alOf q l) (alOf q l)
theorem alOf_snoc (q : FuncId → Nat) (A : List DRec) (y : DRec) : alOf q (A ++ [y]) = cond (Nat.beq (kindO q y.o) 2) (alOf q A ++ [(y.j, y.g.next)]) (alOf q A) := by
  induction A with
  | nil => simp only [List.nil_append, alOf]
  | cons x A ih =>
    simp only [List.cons_append, alOf, ih]
    cases Nat.beq (kindO q x.o) 2 <;> cases Nat.beq (kindO q y.o) 2 <;> rfl
theorem mem_alOf {q : FuncId → Nat} {A : List DRec} {z : Nat × Nat} (h : z ∈ alOf q A) : ∃ x, x ∈ A ∧ z = (x.j, x.g.next) := by
  induction A with
  | nil => cases h
  | cons x A ih =>
    simp only [alOf] at h
    cases hb : Nat.beq (kindO q x.o) 2 with
    | true =>
      rw [hb] at h
      rcases List.mem_cons.1 h with e | h
      · exact ⟨x, by simp, e⟩
      · obtain ⟨x', h1, h2⟩ := ih h; exact ⟨x', by simp [h1], h2⟩
    | false => rw [hb] at h; obtain ⟨x', h1, h2⟩ := ih h; exact ⟨x', by simp [h1], h2⟩
theorem ff_le {q : FuncId → Nat} {m : Nat} : ∀ {A : List DRec}, (∀ A1 x A2 y A3, A = A1 ++ x :: (A2 ++ y :: A3) → x.g.next ≤ y.g.next) → ∀ x, x ∈ A → kindO q x.o = 2 → m.testBit x.j = false → ∃ n, firstFree m (alOf q A) = some n ∧ n ≤ x.g.next
  | [], _, x, hx, _, _ => by cases hx
  | z :: A, hm, x, hx, hk, hb => by
    have rest : x ∈ A → ∃ n, firstFree m (alOf q A) = some n ∧ n ≤ x.g.next := fun hx => ff_le (fun A1 x A2 y A3 e => hm (z :: A1) x A2 y A3 (by rw [e]; rfl)) x hx hk hb
    simp only [alOf]
    cases hz : Nat.beq (kindO q z.o) 2 with
    | false =>
      simp only [cond_false]
      rcases List.mem_cons.1 hx with rfl | hx
      · rw [hk] at hz; cases hz
      · exact rest hx
    | true =>
      simp only [cond_true, firstFree]
      cases hbz : m.testBit z.j with
      | true =>
        simp only [cond_true]
        rcases List.mem_cons.1 hx with rfl | hx
        · rw [hb] at hbz; cases hbz
        · exact rest hx
      | false =>
        simp only [cond_false]
        refine ⟨_, rfl, ?_⟩
        rcases List.mem_cons.1 hx with rfl | hx
        · exact Nat.le_refl _
        · obtain ⟨A1, A2, e⟩ := List.append_of_mem hx
          exact hm [] z A1 x A2 (by rw [e]; rfl)

theorem free_pair {q : FuncId → Nat} {ops : Array Oper} {x y : DRec} (hx : RP q x) (hy : RP q y) (hs : slotsFree ops x.o y.o = true) (hp : pairOk (kindO q x.o) (kindO q y.o) = true) (hn : x.g.next ≤ y.g.next)
    (hb : kindO q x.o = 2 → kindO q y.o = 1 → ∀ b, y.rd b = true → b < x.g.next) : Free ops x y := by
  simp only [slotsFree, Bool.and_eq_true] at hs
  obtain ⟨h1, h2⟩ := hs
  have d1 : ∀ d, x.o.dst = some d → d ∉ y.o.looksAt ops ∧ y.o.dst ≠ some d := by
    intro d hd
    rw [hd] at h1
    simp only [Bool.and_eq_true, Bool.not_eq_true', decide_eq_false_iff_not, List.contains_eq_mem] at h1
    exact ⟨h1.1, h1.2⟩
  have d2 : ∀ d, y.o.dst = some d → d ∉ x.o.looksAt ops := by
    intro d hd
    rw [hd] at h2
    simp only [Bool.not_eq_true', decide_eq_false_iff_not, List.contains_eq_mem] at h2
    exact h2
  have ff : ∀ {b : Bool}, b ≠ true → b = false := fun h => by simpa using h
  simp only [pairOk, Bool.or_eq_true, Bool.and_eq_true] at hp
  rcases hp with ((h | h) | ⟨h, h'⟩) | ⟨h, h'⟩
  · have h := Nat.eq_of_beq_eq_true h
    have t := hx.k1 (by omega)
    have r := hx.k0 h
    exact ⟨d1, d2, fun b hb => (by rw [t b] at hb; cases hb), fun b _ => r b⟩
  · have h := Nat.eq_of_beq_eq_true h
    have t := hy.k1 (by omega)
    have r := hy.k0 h
    exact ⟨d1, d2, fun b _ => ⟨r b, t b⟩, fun b hb => by rw [t b] at hb; cases hb⟩
  · have h := Nat.eq_of_beq_eq_true h
    have h' := Nat.le_of_ble_eq_true h'
    have t := hx.k1 (by omega)
    refine ⟨d1, d2, fun b hb => (by rw [t b] at hb; cases hb), fun b hb => ff (fun hr => ?_)⟩
    have l1 := hx.rd b hr
    by_cases h2 : kindO q y.o = 2
    · have := hy.k2 h2 b hb; omega
    · rw [hy.k1 (by omega) b] at hb; cases hb
  · have h := Nat.eq_of_beq_eq_true h
    have h' := Nat.eq_of_beq_eq_true h'
    have t := hy.k1 (by omega)
    refine ⟨d1, d2, fun b hb' => ⟨ff (fun hr => ?_), t b⟩, fun b hb => by rw [t b] at hb; cases hb⟩
    have l1 := hx.k2 h b hb'
    have l2 := hb h h' b hr
    omega

theorem sofar_mono {ops : Array Oper} {s0 : Env} {h0 : AHeap} {A : List DRec} {i : Nat} {s : Env} {h : AHeap} (F : Sofar P ops s0 h0 A i s h) : ∀ A1 x A2 y A3, A = A1 ++ x :: (A2 ++ y :: A3) → x.g.next ≤ y.g.next := by
  intro A1 x A2 y A3 e
  have t1 := F.told A1 x _ e
  have t2 := F.told (A1 ++ x :: A2) y A3 (by rw [e]; simp)
  have := t2.nA x (by simp)
  have := t1.n1
  omega

theorem wpD_ok {q : FuncId → Nat} {ops : Array Oper} {s0 : Env} {h0 : AHeap} (hro0 : h0.ro ≤ h0.next) : ∀ (l : List Oper) (i : Nat) (ms : List Nat) (A : List DRec) (r s : Env) (h : AHeap) {K : Env → AHeap → Prop},
    ops.toList.drop i = l → i ≤ ops.size → MaskOk ops ms → ms.length = i → Sofar P ops s0 h0 A i s h → (∀ x, x ∈ A → RP q x) → statGo ops l i ms (A.reverse.map fun x => (x.j, x.o)) = true → kindGo q l i ms (A.reverse.map fun x => (x.j, kindO q x.o)) = true →
    Le r s → wpD P q ops l i ms (alOf q A) r h K → ∃ A' r' s' h', Sofar P ops s0 h0 A' ops.size s' h' ∧ Le r' s' ∧ K r' h' ∧ Fr (modsO l) s s' ∧ AF h h'
  | [], i, ms, A, r, s, h, K, hl, hle, hm, hml, F, hrp, hst, hkd, hle1, hk => by
    have : i = ops.size := by
      have := congrArg List.length hl
      simp at this
      omega
    subst this
    exact ⟨A, r, s, h, F, hle1, hk, .refl _ _, .refl _⟩
  | o :: os, i, ms, A, r, s, h, K, hl, hle, hm, hml, F, hrp, hst, hkd, hle1, hk => by
    have ho : ops[i]? = some o := by
      have := congrArg (fun l => l[0]?) hl
      simp only [List.getElem?_drop, List.getElem?_cons_zero] at this
      simpa using this
    have hlt : i < ops.size := by
      rcases Nat.lt_or_ge i ops.size with h | h
      · exact h
      · rw [Array.getElem?_eq_none h] at ho; cases ho
    have hl' : ops.toList.drop (i + 1) = os := by rw [← List.tail_drop, hl]; rfl
    simp only [statGo, Bool.and_eq_true] at hst
    obtain ⟨⟨hedge, hslots⟩, hst⟩ := hst
    simp only [kindGo, Bool.and_eq_true] at hkd
    obtain ⟨hpair, hkd⟩ := hkd
    have hal : ∀ x, x ∈ alOf q A → x.2 ≤ h.next := fun x hx => by
      obtain ⟨z, hz, rfl⟩ := mem_alOf hx
      have := F.nA z hz
      obtain ⟨A1, A2, e⟩ := List.append_of_mem hz
      have := (F.told A1 z A2 e).n1
      show z.g.next ≤ h.next
      omega
    -- one operation, then the rest
    have go : ∀ (v u : Value) (h1 : AHeap) (y : DRec) (bound : Nat), (isBot v = true ∨ v = u) → Next P q ops s0 h0 A i o s h u h1 bound y → (∀ n, firstFree (maskOf ms o) (alOf q A) = some n → bound = n) →
        (match r.put o.dst v with | some s1 => wpD P q ops os (i + 1) (ms ++ [maskOf ms o]) (cond (Nat.beq (kindO q o) 2) (alOf q A ++ [(i, h.next)]) (alOf q A)) s1 h1 K | none => False) →
        ∃ A' r' s' h', Sofar P ops s0 h0 A' ops.size s' h' ∧ Le r' s' ∧ K r' h' ∧ Fr (modsO (o :: os)) s s' ∧ AF h h' := by
      intro v u h1 y bound hv N hbound hk
      split at hk
      case h_2 => exact hk.elim
      rename_i r1 hp
      obtain ⟨s1, hp1, hl1⟩ := hle1.put hp hv
      have hs1 : ∀ t, s1.get t = if o.dst = some t then u else s.get t := by
        intro t
        cases hd : o.dst with
        | none => rw [hd] at hp1; simp only [Env.put, Option.some.injEq] at hp1; subst hp1; simp
        | some d =>
          rw [hd] at hp1
          simp only [Env.put] at hp1
          obtain ⟨_, hp1⟩ := cond_some hp1
          simp only [Option.some.injEq] at hp1
          subst hp1
          rw [Env.get_set]
          by_cases e : t = d
          · subst e; simp
          · rw [if_neg e, if_neg (by simp only [Option.some.injEq]; exact fun h => e h.symm)]
      have hs1s : s1.size = s.size := (Fr.put hp1).size
      have hal2 : (cond (Nat.beq (kindO q o) 2) (alOf q A ++ [(i, h.next)]) (alOf q A)) = alOf q (A ++ [y]) := by rw [alOf_snoc, N.hop, N.hj, N.gn]
      rw [hal2] at hk
      have F1 : Sofar P ops s0 h0 (A ++ [y]) (i + 1) s1 h1 := by
        refine ⟨?_, ?_, hs1s.trans F.size, ?_, N.ro.trans F.ro, Nat.le_trans F.next N.next, ?_, N.wf, ?_, ?_, ?_⟩
        · rw [List.map_append, F.js, List.range_succ]; simp [N.hj]
        · intro t
          rw [hs1, envV_snoc, N.hop, N.hval, F.env]
        · intro b
          rw [N.heap, hpV_snoc, F.heap]
        · intro x hx
          rcases List.mem_append.1 hx with hx | hx
          · exact Nat.le_trans (F.nA x hx) N.next
          · simp only [List.mem_singleton] at hx; subst hx; exact N.gnext
        · intro A1 r A2 e
          rcases snoc_split e with ⟨_, rfl, rfl⟩ | ⟨A3, _, e3⟩
          · exact N.told
          · exact F.told A1 r A3 e3
        · intro A1 r A2 e ed hed hb
          rcases snoc_split e with ⟨_, rfl, rfl⟩ | ⟨A3, _, e3⟩
          · rw [N.hop] at hed
            simp only [List.all_eq_true, Bool.or_eq_true, Bool.not_eq_true', Nat.blt_eq] at hedge
            rcases hedge ed (by simpa using hed) with h2 | h2
            · rw [hb] at h2; cases h2
            · have : ed.on ∈ A1.map (·.j) := by rw [F.js]; exact List.mem_range.2 h2
              obtain ⟨x, hx, hxj⟩ := List.mem_map.1 this
              exact ⟨x, hx, hxj⟩
          · exact F.edges A1 r A3 e3 ed hed hb
        · intro A1 x A2 z A3 e
          have e' : A ++ [y] = (A1 ++ x :: A2) ++ z :: A3 := by rw [e]; simp
          rcases snoc_split e' with ⟨_, e1, rfl⟩ | ⟨A4, _, e3⟩
          · have hxm : x ∈ A := by rw [← e1]; simp
            simp only [List.all_eq_true, Bool.or_eq_true] at hpair hslots
            rcases hslots (x.j, x.o) (List.mem_map.2 ⟨x, by simpa using hxm, rfl⟩) with h2 | h2
            · rw [N.hj]; exact .inl (maskOf_ok hm ho h2)
            · rcases hpair (x.j, kindO q x.o) (List.mem_map.2 ⟨x, by simpa using hxm, rfl⟩) with h3 | h3
              · rw [N.hj]; exact .inl (maskOf_ok hm ho h3)
              · by_cases hbit : (maskOf ms o).testBit x.j = true
                · rw [N.hj]; exact .inl (maskOf_ok hm ho hbit)
                · simp only [Bool.not_eq_true] at hbit
                  refine .inr (free_pair (q := q) (hrp x hxm) N.rp (by rw [N.hop]; exact h2) (by rw [N.hop]; exact h3) ?_ ?_)
                  · have := F.nA x hxm
                    obtain ⟨B1, B2, eB⟩ := List.append_of_mem hxm
                    have := (F.told B1 x B2 eB).n1
                    rw [N.gn]; omega
                  · intro k2 k1 b hrd
                    obtain ⟨n, hn, hle2⟩ := ff_le (m := maskOf ms o) (sofar_mono F) x hxm k2 hbit
                    have := N.rb (by rw [← N.hop]; exact k1) b hrd
                    have := hbound n hn
                    omega
          · exact F.apart A1 x A2 z A4 (by rw [e3]; simp)
      obtain ⟨A', r', s', h', F', l', k', f', a'⟩ := wpD_ok hro0 os (i + 1) (ms ++ [maskOf ms o]) (A ++ [y]) r1 s1 h1 hl' hlt (maskOk_snoc hm hml ho) (by simp [hml]) F1
        (fun x hx => by rcases List.mem_append.1 hx with hx | hx
                        · exact hrp x hx
                        · simp only [List.mem_singleton] at hx; subst hx; exact N.rp)
        (by simpa [N.hj, N.hop] using hst) (by simpa [N.hj, N.hop] using hkd) hl1 hk
      exact ⟨A', r', s', h', F', l', k', (Fr.put hp1).left.trans f'.right, (N.af F).trans a'⟩
    have slot : ∀ {v : Value} {h1 : AHeap} {al' : List (Nat × Nat)}, (match r.put o.dst v with | some s1 => wpD P q ops os (i + 1) (ms ++ [maskOf ms o]) al' s1 h1 K | none => False) → ∀ d, o.dst = some d → d < s.size := by
      intro v h1 al' hk d hd
      split at hk
      case h_2 => exact hk.elim
      rename_i r1 hp
      rw [hd] at hp
      simp only [Env.put] at hp
      obtain ⟨hb, _⟩ := cond_some hp
      rw [← hle1.size]
      simpa [Nat.blt_eq] using hb
    have hron : h.ro ≤ h.next := by rw [F.ro]; exact Nat.le_trans hro0 F.next
    have dstok : ∀ {hv : AHeap} {K' : Value → AHeap → Prop}, opD P q r o hv h K' → (∀ v h1, K' v h1 → ∀ d, o.dst = some d → d < s.size) → ∀ d, o.dst = some d → d < s.size := by
      intro hv K' hk hs
      have fromA : ∀ {g : AHeap} {K2 : Value → AHeap → Prop}, opA P r o g K2 → (∀ v h1, K2 v h1 → ∀ d, o.dst = some d → d < s.size) → ∀ d, o.dst = some d → d < s.size := fun hk hs => by
        obtain ⟨v, u, h', _, _, hK⟩ := opA_sound hle1 hk
        exact hs v h' hK
      unfold opD at hk
      split at hk
      · split at hk
        · obtain ⟨_, _, v, _, _, hK⟩ := hk; exact hs _ _ hK
        · obtain ⟨_, _, v, h2, _, _, hK⟩ := hk; exact hs _ _ hK
        · obtain ⟨_, hk⟩ := hk; obtain ⟨v, h2, _, hK⟩ := of_optH hk; exact hs _ _ hK
        · obtain ⟨_, _, hd⟩ := hk; obtain ⟨v, h2, hK, _⟩ := hd ⟨F.wf, hron⟩; exact hs _ _ hK
      · unfold callVD at hk
        split at hk
        · obtain ⟨_, _, _, hd⟩ := hk; obtain ⟨v, h2, hK, _⟩ := hd ⟨F.wf, hron⟩; exact hs _ _ hK
        · exact hk.elim
      · cases h1 : Nat.beq (kindO q o) 1 with
        | true => rw [h1] at hk; exact fromA hk (fun v _ q => hs v _ q)
        | false => rw [h1] at hk; exact fromA hk hs
    simp only [wpD] at hk
    split at hk
    · rename_i hg
      obtain ⟨v, u, h1, y, bound, hv, hK, N, hb⟩ := opD_next F hron ho (dstok hk (fun v h1 hK => slot hK)) (by simp only [awanted, hg]) hle1 hal hk
      exact go v u h1 y bound hv N hb hK
    · rename_i j want hg
      split at hk
      · exact hk.elim
      · rename_i d hdst
        unfold GD at hk
        split at hk
        · rename_i b hb
          have hs : s.get d = .bool b := by
            rcases hle1.get d with e | e
            · rw [hb] at e; cases e
            · rw [← e, hb]
          have haw : awanted ops s o = (b == want) := by simp only [awanted, hg, hdst, hs]
          by_cases hbw : b = want
          · have hk := hk.1 hbw
            obtain ⟨v, u, h1, y, bound, hv, hK, N, hb⟩ := opD_next F hron ho (dstok hk (fun v h1 hK => slot hK)) (by rw [haw, hbw]; simp) hle1 hal hk
            exact go v u h1 y bound hv N hb hK
          · have hk := hk.2 hbw
            obtain ⟨bound, _, _, _, _, hb5⟩ := view_facts (m := maskOf ms o) F.wf hal
            obtain ⟨y, N⟩ := next_pure (q := q) F ho (slot hk) (u := undef) (.inl ⟨by rw [haw]; simpa using hbw, rfl, rfl⟩) bound
            exact go undef undef h y bound (.inr rfl) N hb5 hk
        · exact hk.elim
        · rename_i n1 n2
          have hs : s.get d = r.get d := by
            rcases hle1.get d with e | e
            · obtain ⟨k, p, q, e2⟩ := isBot_eq e; exact absurd e2 (n2 k p q)
            · exact e.symm
          have haw : awanted ops s o = false := by
            simp only [awanted, hg, hdst, hs]
          obtain ⟨bound, _, _, _, _, hb5⟩ := view_facts (m := maskOf ms o) F.wf hal
          obtain ⟨y, N⟩ := next_pure (q := q) F ho (slot hk) (u := undef) (.inl ⟨haw, rfl, rfl⟩) bound
          exact go undef undef h y bound (.inr rfl) N hb5 hk

theorem drawW_ok {q : FuncId → Nat} (hmix : P.follows .mixedOrders = true) : DrawOk P (drawW P q) := by
  intro ops r s h K rd id hle wf hk
  unfold drawW at hk
  cases hc : calm q ops with
  | false => rw [hc] at hk; exact hk.elim
  | true =>
    rw [hc] at hk
    have hk : wpD P q ops ops.toList 0 [] [] r h K := hk
    simp only [calm, Bool.and_eq_true] at hc
    have F0 : Sofar P ops s h ([] : List DRec) 0 s h := ⟨rfl, fun t => rfl, rfl, fun b => rfl, rfl, Nat.le_refl _, fun x hx => (by cases hx), wf.1,
      fun A1 r A2 e => by simp at e, fun A1 r A2 e => by simp at e, fun A1 x A2 y A3 e => by simp at e⟩
    obtain ⟨A, r', s', h', F, hl', hK, hf, af⟩ := wpD_ok wf.2 ops.toList 0 [] [] r s h rfl (Nat.zero_le _) (fun k q hq => by simp at hq) rfl F0 (fun x hx => (by cases hx)) hc.1 hc.2 hle hk
    have V : Valid P ops s h A := ⟨by rw [F.js]; exact List.nodup_range, fun i hi => by
        have : i ∈ A.map (·.j) := by rw [F.js]; exact List.mem_range.2 hi
        obtain ⟨r, hr, hj⟩ := List.mem_map.1 this
        exact ⟨r, hr, hj⟩, F.told, F.edges, F.apart⟩
    exact ⟨r', s', h', hl', hK, hf, af, T_regionDraw hmix V F.env F.size F.heap F.ro F.next F.nA (Q := fun e s1 h1 => e = .normal ∧ s1 = s' ∧ h1 = h') ⟨rfl, rfl, rfl⟩⟩
/-- A function does what is asked of it. -/
theorem DC_of_wp {q : FuncId → Nat} (hmix : P.follows .mixedOrders = true) {n : Nat} {f : FuncId} {args : List Value} {h : AHeap} {R : Value → AHeap → Prop} (hk : wpF P (drawW P q) n f args h R) : DC P f args h R := DC_of_wpF (drawW_ok hmix) hk
theorem DC.mono {f : FuncId} {args : List Value} {h : AHeap} {R R' : Value → AHeap → Prop} (d : DC P f args h R) (m : ∀ v h1, R v h1 → R' v h1) : DC P f args h R' := fun wf => by
  obtain ⟨v, h1, a, b, c⟩ := d wf
  exact ⟨v, h1, m v h1 a, b, c⟩
/-- A heap that describes a world. -/
theorem DC_wf {f : FuncId} {args : List Value} {h : AHeap} {R : Value → AHeap → Prop} (ht : WF' h → DC P f args h R) : DC P f args h R := fun wf => ht wf wf
theorem DC.tc {f : FuncId} {args : List Value} {h : AHeap} {R : Value → AHeap → Prop} (d : DC P f args h R) : TC P f args h R := by
  intro ρ w cargs hr hv
  obtain ⟨v, h1, hR, _, t⟩ := d ⟨fun b o hb => hr.dom b o hb, hr.ro⟩
  exact (t.mono (by rintro v2 h2 ⟨rfl, rfl⟩; exact hR)) ρ w cargs hr hv
theorem WF'.lock {h : AHeap} (w : WF' h) : WF' h.lock := ⟨w.1, Nat.le_refl _⟩
end
end Go.Ai
