/- A part of the proof. -/
import Derived.Test.YtfhacoddmpbgnaaDoorTE
set_option linter.unusedVariables false
set_option linter.unusedSimpArgs false
set_option linter.unusedVariables false
namespace Go.Ai
noncomputable section
variable {P : Program}
theorem q7 {s : Env} {o : Oper} {h h' : za} {u : Value} (he : aop P s o h = some (u, h')) : jD o.op = false := by
  cases hc : jD o.op with
  | false => rfl
  | true =>
    unfold jD at hc
    split at hc
    . rename_i hop; unfold aop at he; simp only [hop] at he; cases he
    . cases hc
structure RP (q : FuncId -> Nat) (x : yR) : Prop where
  rd : ∀ b, x.rd b = true -> b < x.g.next
  k0 : y4 q x.o = 0 -> ∀ b, x.rd b = false
  k1 : y4 q x.o <= 1 -> ∀ b, x.tc b = false
  k2 : y4 q x.o = 2 -> ∀ b, x.tc b = true -> x.g.next <= b
structure Next (P : Program) (q : FuncId -> Nat) (ops : Array Oper) (s0 : Env) (h0 : za) (A : List yR) (i : Nat) (o : Oper) (s : Env) (h : za) (u : Value) (h1 : za) (bound : Nat) (y : yR) : Prop where
  hj : y.j = i
  hop : y.o = o
  hsl : y.s = s
  zmQ : y.v = u
  gn : y.g.next = h.next
  told : Told P ops s0 h0 A y
  rp : RP q y
  rb : y4 q o = 1 -> ∀ b, y.rd b = true -> b < bound
  heap : ∀ b, h1.get b = if y.tc b = true then y.g'.get b else h.get b
  ro : h1.ro = h.ro
  next : h.next <= h1.next
  zkB : y.g'.next <= h1.next
  wf : WF h1
section
variable {q : FuncId -> Nat} {ops : Array Oper} {s0 : Env} {h0 : za} {A : List yR} {i : Nat} {o : Oper} {s : Env} {h : za}
theorem Ug (F : wI P ops s0 h0 A i s h) (ho : ops[i]? = some o) (hput : ∀ d, o.dst = some d -> d < s.size) {u : Value} (hs : qt P ops s o (h.pick []) u (h.pick [])) (bound : Nat) : ∃ y, Next P q ops s0 h0 A i o s h u h bound y := by
  refine ⟨⟨i, o, u, s, h.pick [], h.pick [], fun _ => false, fun _ => false⟩, rfl, rfl, rfl, rfl, rfl,
    ⟨ho, F.env, F.size, fun b => by rw [xM]; simp, F.ro, F.next, F.nA, Nat.le_refl _, hs, fun d hd => by rw [<- F.size]; exact hput d hd, fun b hb => (by cases hb), fun b _ => rfl, fun b o' hb => (by cases hb)⟩,
    ⟨fun b hb => (by cases hb), fun _ _ => rfl, fun _ _ => rfl, fun _ b hb => (by cases hb)⟩, fun _ b hb => (by cases hb), fun b => by simp, rfl, Nat.le_refl _, Nat.le_refl _, F.wf⟩
theorem zbd (F : wI P ops s0 h0 A i s h) (ho : ops[i]? = some o) (hput : ∀ d, o.dst = some d -> d < s.size) (hk : y4 q o = 1) {hv : za} {bound : Nat} (hb : bound <= h.next) (hn : hv.next = h.next) (hro : hv.ro = h.ro)
    (hg : ∀ b, hv.get b = if b < bound then h.get b else none) {u : Value} (hs : qt P ops s o hv u hv) : ∃ y, Next P q ops s0 h0 A i o s h u h bound y := by
  refine ⟨⟨i, o, u, s, hv, hv, fun b => Nat.blt b bound, fun _ => false⟩, rfl, rfl, rfl, rfl, hn,
    ⟨ho, F.env, F.size, fun b => ?_, hro.trans F.ro, by rw [hn]; exact F.next, fun x hx => by rw [hn]; exact F.nA x hx, Nat.le_refl _, hs, fun d hd => by rw [<- F.size]; exact hput d hd, fun b hb => (by cases hb), fun b _ => rfl, fun b o' hb => (by cases hb)⟩,
    ⟨fun b hb2 => by have : b < bound := by simpa [Nat.blt_eq] using hb2
                     show b < hv.next; omega, fun h => by simp only at h; omega, fun _ _ => rfl, fun h => by simp only at h; omega⟩, fun _ b hb2 => by simpa [Nat.blt_eq] using hb2, fun b => by simp, rfl, Nat.le_refl _, by rw [hn]; exact Nat.le_refl _, F.wf⟩
  show hv.get b = if Nat.blt b bound = true then hpV A h0 b else none
  have hbl : (Nat.blt b bound = true) ↔ b < bound := by rw [Nat.blt_eq]
  rw [hg]
  by_cases hbb : b < bound
  . rw [if_pos hbb, if_pos (hbl.2 hbb), F.heap]
  . rw [if_neg hbb, if_neg (fun e => hbb (hbl.1 e))]
theorem ur {h : za} (w : WF h) {b : Nat} (hb : ¬ b < h.next) : h.get b = none := by
  cases hh : h.get b with | none => rfl | some o' => exact absurd (w b o' hh) hb
theorem XP (F : wI P ops s0 h0 A i s h) (ho : ops[i]? = some o) (hput : ∀ d, o.dst = some d -> d < s.size) (hk : y4 q o = 2) {h1 : za} (hn : h.next <= h1.next) (hro : h1.ro = h.ro) (hold : ∀ b, ¬ (h.next <= b /\ b < h1.next) -> h1.get b = h.get b)
    {u : Value} (hs : qt P ops s o h u h1) (bound : Nat) : ∃ y, Next P q ops s0 h0 A i o s h u h1 bound y := by
  have hrd : ∀ b, (Nat.blt b h.next = true) ↔ b < h.next := fun b => by rw [Nat.blt_eq]
  have htc : ∀ b, (decide (h.next <= b /\ b < h1.next) = true) ↔ (h.next <= b /\ b < h1.next) := fun b => by simp
  refine ⟨⟨i, o, u, s, h, h1, fun b => Nat.blt b h.next, fun b => decide (h.next <= b /\ b < h1.next)⟩, rfl, rfl, rfl, rfl, rfl,
    ⟨ho, F.env, F.size, fun b => ?_, F.ro, F.next, F.nA, hn, hs, fun d hd => by rw [<- F.size]; exact hput d hd, fun b hb => .inr ((htc b).1 hb), fun b hb => ?_, fun b o' hb hlt => ?_⟩,
    ⟨fun b hb => (hrd b).1 hb, fun h => by simp only at h; omega, fun h => by simp only at h; omega, fun _ b hb => ((htc b).1 hb).1⟩, fun h => by omega, fun b => ?_, hro, hn, Nat.le_refl _, fun b o' hb => ?_⟩
  . show h.get b = if Nat.blt b h.next = true then hpV A h0 b else none
    by_cases hb : b < h.next
    . rw [if_pos ((hrd b).2 hb), F.heap]
    . rw [if_neg (fun e => hb ((hrd b).1 e)), ur F.wf hb]
  . refine hold b (fun e => ?_)
    have := (htc b).2 e
    rw [show decide (h.next <= b /\ b < h1.next) = false from hb] at this
    cases this
  . have := ((htc b).1 hb).1
    have hlt : b < h.next := hlt
    omega
  . show h1.get b = if decide (h.next <= b /\ b < h1.next) = true then h1.get b else h.get b
    by_cases hb : h.next <= b /\ b < h1.next
    . rw [if_pos ((htc b).2 hb)]
    . rw [if_neg (fun e => hb ((htc b).1 e)), hold b hb]
  . by_cases hc : h.next <= b /\ b < h1.next
    . exact hc.2
    . rw [hold b hc] at hb
      exact Nat.lt_of_lt_of_le (F.wf b o' hb) hn
theorem XK (F : wI P ops s0 h0 A i s h) (ho : ops[i]? = some o) (hput : ∀ d, o.dst = some d -> d < s.size) (hk : y4 q o = 3) {h1 : za} (af : AF h h1)
    {u : Value} (hs : qt P ops s o h u h1) (bound : Nat) : ∃ y, Next P q ops s0 h0 A i o s h u h1 bound y := by
  have hrd : ∀ n b, (Nat.blt b n = true) ↔ b < n := fun n b => by rw [Nat.blt_eq]
  have hn : h.next <= h1.next := af.next
  have hwf : WF h1 := F.wf.af af
  refine ⟨⟨i, o, u, s, h, h1, fun b => Nat.blt b h.next, fun b => Nat.blt b h1.next⟩, rfl, rfl, rfl, rfl, rfl,
    ⟨ho, F.env, F.size, fun b => ?_, F.ro, F.next, F.nA, hn, hs, fun d hd => by rw [<- F.size]; exact hput d hd, fun b hb => ?_, fun b hb => ?_, fun b o' hb hlt hg => ?_⟩,
    ⟨fun b hb => (hrd _ b).1 hb, fun h => by simp only at h; omega, fun h => by simp only at h; omega, fun h => by simp only at h; omega⟩, fun h => by omega, fun b => ?_, af.ro, hn, Nat.le_refl _, hwf⟩
  . show h.get b = if Nat.blt b h.next = true then hpV A h0 b else none
    by_cases hb : b < h.next
    . rw [if_pos ((hrd _ b).2 hb), F.heap]
    . rw [if_neg (fun e => hb ((hrd _ b).1 e)), ur F.wf hb]
  . have hb := (hrd _ b).1 hb
    by_cases hlt : b < h.next
    . exact .inl ((hrd _ b).2 hlt)
    . exact .inr ⟨Nat.le_of_not_lt hlt, hb⟩
  . have hb' : ¬ b < h1.next := fun e => by
      have := (hrd h1.next b).2 e
      rw [show Nat.blt b h1.next = false from hb] at this
      cases this
    show h1.get b = h.get b
    rw [ur hwf hb', ur F.wf (by omega)]
  . rcases af.alive b o' hg with h2 | ⟨h2, _⟩
    . exact h2
    . have hlt : b < h.next := hlt
      omega
  . show h1.get b = if Nat.blt b h1.next = true then h1.get b else h.get b
    by_cases hb : b < h1.next
    . rw [if_pos ((hrd _ b).2 hb)]
    . rw [if_neg (fun e => hb ((hrd _ b).1 e)), ur hwf hb, ur F.wf (by omega)]
theorem kJ {h h1 : za} (st : Still h h1) : h.next <= h1.next /\ h1.ro = h.ro /\ ∀ b, ¬ (h.next <= b /\ b < h1.next) -> h1.get b = h.get b := by
  rcases st with rfl | ⟨ob, rfl⟩
  . exact ⟨Nat.le_refl _, rfl, fun _ _ => rfl⟩
  . refine ⟨Nat.le_succ _, rfl, fun b hb => ?_⟩
    rw [za.y6, if_neg (fun e => hb ⟨by omega, by rw [za.YL]; omega⟩)]
theorem Wg {m : Nat} {al : List (Nat × Nat)} {h : za} (w : WF h) (hal : ∀ x, x ∈ al -> x.2 <= h.next) : ∃ bound, bound <= h.next /\ (view m al h).next = h.next /\ (view m al h).ro = h.ro /\ (∀ b, (view m al h).get b = if b < bound then h.get b else none) /\ ∀ n, firstFree m al = some n -> bound = n := by
  have mem : ∀ (al : List (Nat × Nat)) n, firstFree m al = some n -> ∃ p, (p, n) ∈ al := by
    intro al
    induction al with
    | nil => intro n e; cases e
    | cons x l ih =>
      intro n e
      obtain ⟨p, n'⟩ := x
      simp only [firstFree] at e
      cases hb : m.testBit p with
      | true => rw [hb] at e; obtain ⟨p', hp⟩ := ih n e; exact ⟨p', by simp [hp]⟩
      | false => rw [hb] at e; cases e; exact ⟨p, by simp⟩
  unfold view
  cases hf : firstFree m al with
  | none => exact ⟨h.next, Nat.le_refl _, rfl, rfl, fun b => by
      by_cases hb : b < h.next
      . rw [if_pos hb]
      . rw [if_neg hb, ur w hb], fun n e => by cases e⟩
  | some n =>
    obtain ⟨p, hp⟩ := mem al n hf
    have hn : n <= h.next := hal _ hp
    refine ⟨n, hn, rfl, rfl, fun b => ?_, fun n' e => by cases e; rfl⟩
    simp only [zik]
    by_cases hb : b < n
    . rw [if_neg (by omega), if_pos hb]
    . by_cases hb2 : b < h.next
      . rw [if_pos ⟨by omega, hb2⟩, if_neg hb]
      . rw [if_neg (by omega), if_neg hb, ur w hb2]
theorem Next.af {u : Value} {h1 : za} {bound : Nat} {y : yR} (N : Next P q ops s0 h0 A i o s h u h1 bound y) (F : wI P ops s0 h0 A i s h) : AF h h1 :=
  ⟨N.next, N.ro, fun b o hb => by
    rw [N.heap] at hb
    by_cases ht : y.tc b = true
    . rw [if_pos ht] at hb
      by_cases hl : b < y.g.next
      . have h2 := N.told.tc3 b o ht hl hb
        have h3 := N.told.heap b
        rw [h3] at h2
        by_cases hr : y.rd b = true
        . rw [if_pos hr, <- F.heap] at h2; exact .inl h2
        . rw [if_neg hr] at h2; exact absurd rfl h2
      . have hb1 : h1.get b = some o := by rw [N.heap, if_pos ht]; exact hb
        exact .inr ⟨by rw [<- N.gn]; omega, N.wf b o hb1⟩
    . rw [if_neg ht] at hb
      exact .inl (by rw [hb]; simp)⟩
theorem zdH (F : wI P ops s0 h0 A i s h) (hron : h.ro <= h.next) (ho : ops[i]? = some o) (hput : ∀ d, o.dst = some d -> d < s.size) (hw : zZ ops s o = true) {r : Env} (hl : Le r s) {m : Nat} {al : List (Nat × Nat)} (hal : ∀ x, x ∈ al -> x.2 <= h.next)
    {K : Value -> za -> Prop} (hk : opD P q r o (view m al h) h K) : ∃ v u h1 y bound, (zV v = true \/ v = u) /\ K v h1 /\ Next P q ops s0 h0 A i o s h u h1 bound y /\ ∀ n, firstFree m al = some n -> bound = n := by
  obtain ⟨bound, hb1, hb2, hb3, hb4, hb5⟩ := Wg (m := m) F.wf hal
  unfold opD at hk
  split at hk
  . rename_i g args ts hop
    have ef : aev s (.func g) = some (.func (.func g) #[] #[]) := rfl
    have hkind : y4 q o = Kk (q g) := by unfold y4; simp only [hop]
    split at hk
    . rename_i hq
      obtain ⟨hc, hn, v, hsc, hT, hK⟩ := hk
      have hT2 : TC P g (evs r args.toList) (view m al h) (fun v1 h1 => v1 = v /\ h1 = view m al h) :=
        (hT.quiet (fun v1 _ e => by rw [e]; exact hsc)).mono (by rintro v1 h1 ⟨⟨_, e1⟩, e2⟩; exact ⟨e1, e2⟩)
      obtain ⟨y, hy⟩ := zbd (q := q) F ho hput (by rw [hkind, hq]; rfl) hb1 hb2 hb3 hb4 (u := v) (.inr ⟨hw, .inr (.inl ⟨.func g, args, ts, g, #[], #[], _, hop, ef, KZ hl hn, hc, by simpa using hT2⟩)⟩)
      exact ⟨v, v, h, y, bound, .inr rfl, hK, hy, hb5⟩
    . rename_i hq
      obtain ⟨hc, hn, v, h2, hT, af, hK⟩ := hk
      have hnx : h.next <= h2.next := af.next
      obtain ⟨y, hy⟩ := XP (q := q) F ho hput (by rw [hkind, hq]; rfl) (h1 := wO h h2) hnx rfl (fun b hb => by rw [xK]; exact if_neg hb) (u := v)
        (.inr ⟨hw, .inr (.inl ⟨.func g, args, ts, g, #[], #[], _, hop, ef, KZ hl hn, hc, by simpa using hT.fresh⟩)⟩) bound
      exact ⟨v, v, _, y, bound, .inr rfl, hK, hy, hb5⟩
    . rename_i hq
      obtain ⟨hn, hk⟩ := hk
      obtain ⟨v, h2, he, hK⟩ := vX hk
      obtain ⟨f1, f2, f3⟩ := kJ (uQ he)
      obtain ⟨y, hy⟩ := XP (q := q) F ho hput (by rw [hkind, hq]; rfl) f1 f2 f3 (u := v) (.inr ⟨hw, .inr (.inr ⟨.func g, args, ts, g, #[], #[], _, hop, ef, KZ hl hn, by simpa using he⟩)⟩) bound
      exact ⟨v, v, _, y, bound, .inr rfl, hK, hy, hb5⟩
    . rename_i n2 n3 n4
      obtain ⟨hc, hn, hd⟩ := hk
      obtain ⟨v, h2, hK, af, hT⟩ := hd ⟨F.wf, hron⟩
      obtain ⟨y, hy⟩ := XK (q := q) F ho hput (by rw [hkind]; unfold Kk; split <;> first | rfl | (exfalso; simp_all)) af (u := v)
        (.inr ⟨hw, .inr (.inl ⟨.func g, args, ts, g, #[], #[], _, hop, ef, KZ hl hn, hc, by simpa using hT⟩)⟩) bound
      exact ⟨v, v, _, y, bound, .inr rfl, hK, hy, hb5⟩
  . rename_i f args ts hnf hop
    unfold QH at hk
    split at hk
    . rename_i g a c hf
      have ef : aev s f = some (.func (.func g) a c) := by rw [Yx hl (x := f) (by rw [hf]; rfl), hf]
      obtain ⟨hn0, hc, hn, hd⟩ := hk
      obtain ⟨v, h2, hK, af, hT⟩ := hd ⟨F.wf, hron⟩
      have hkind : y4 q o = 3 := by
        unfold y4
        simp only [hop]
      obtain ⟨y, hy⟩ := XK (q := q) F ho hput hkind af (u := v) (.inr ⟨hw, .inr (.inl ⟨f, args, ts, g, a, c, _, hop, ef, KZ hl hn0, hc, hT⟩)⟩) bound
      exact ⟨v, v, _, y, bound, .inr rfl, hK, hy, hb5⟩
    . exact hk.elim
  . rename_i hn1 hn2
    cases h1 : Nat.beq (y4 q o) 1 with
    | true =>
      rw [h1] at hk
      have h1 := Nat.eq_of_beq_eq_true h1
      obtain ⟨v, u, h', he, hv, hK⟩ := vg hl hk
      obtain rfl := Yb h1 (q7 he) he
      obtain ⟨y, hy⟩ := zbd (q := q) F ho hput h1 hb1 hb2 hb3 hb4 (u := u) (.inr ⟨hw, .inl he⟩)
      exact ⟨v, u, h, y, bound, hv, hK, hy, hb5⟩
    | false =>
      rw [h1] at hk
      obtain ⟨v, u, h', he, hv, hK⟩ := vg hl hk
      have hnc := q7 he
      have hkle : y4 q o = 0 \/ y4 q o = 1 \/ y4 q o = 2 \/ y4 q o = 3 := by
        unfold y4
        split <;> (try simp)
        . unfold Kk; split <;> simp
        . rename_i b _ _ _; cases jl b <;> simp
      rcases hkle with h0' | h1' | h2' | h3'
      . obtain ⟨rfl, hany⟩ := Kh h0' hnc he
        obtain ⟨y, hy⟩ := Ug (q := q) F ho hput (u := u) (.inr ⟨hw, .inl (hany _)⟩) bound
        exact ⟨v, u, h', y, bound, hv, hK, hy, hb5⟩
      . rw [h1'] at h1; cases h1
      . obtain ⟨f1, f2, f3⟩ := kJ (Ve h2' hnc he)
        obtain ⟨y, hy⟩ := XP (q := q) F ho hput h2' f1 f2 f3 (u := u) (.inr ⟨hw, .inl he⟩) bound
        exact ⟨v, u, h', y, bound, hv, hK, hy, hb5⟩
      . obtain ⟨y, hy⟩ := XK (q := q) F ho hput h3' (uu he).1 (u := u) (.inr ⟨hw, .inl he⟩) bound
        exact ⟨v, u, h', y, bound, hv, hK, hy, hb5⟩
end
def QJ (q : FuncId -> Nat) : List yR -> List (Nat × Nat)
  | [] => []
  | x :: l => cond (Nat.beq (y4 q x.o) 2) ((x.j, x.g.next) :: QJ q l) (QJ q l)
theorem zfz (q : FuncId -> Nat) (A : List yR) (y : yR) : QJ q (A ++ [y]) = cond (Nat.beq (y4 q y.o) 2) (QJ q A ++ [(y.j, y.g.next)]) (QJ q A) := by
  induction A with
  | nil => simp only [List.nil_append, QJ]
  | cons x A ih =>
    simp only [List.cons_append, QJ, ih]
    cases Nat.beq (y4 q x.o) 2 <;> cases Nat.beq (y4 q y.o) 2 <;> rfl
theorem zim {q : FuncId -> Nat} {A : List yR} {z : Nat × Nat} (h : z ∈ QJ q A) : ∃ x, x ∈ A /\ z = (x.j, x.g.next) := by
  induction A with
  | nil => cases h
  | cons x A ih =>
    simp only [QJ] at h
    cases hb : Nat.beq (y4 q x.o) 2 with
    | true =>
      rw [hb] at h
      rcases List.mem_cons.1 h with e | h
      . exact ⟨x, by simp, e⟩
      . obtain ⟨x', h1, h2⟩ := ih h; exact ⟨x', by simp [h1], h2⟩
    | false => rw [hb] at h; obtain ⟨x', h1, h2⟩ := ih h; exact ⟨x', by simp [h1], h2⟩
theorem znb {q : FuncId -> Nat} {m : Nat} : ∀ {A : List yR}, (∀ A1 x A2 y A3, A = A1 ++ x :: (A2 ++ y :: A3) -> x.g.next <= y.g.next) -> ∀ x, x ∈ A -> y4 q x.o = 2 -> m.testBit x.j = false -> ∃ n, firstFree m (QJ q A) = some n /\ n <= x.g.next
  | [], _, x, hx, _, _ => by cases hx
  | z :: A, hm, x, hx, hk, hb => by
    have rest : x ∈ A -> ∃ n, firstFree m (QJ q A) = some n /\ n <= x.g.next := fun hx => znb (fun A1 x A2 y A3 e => hm (z :: A1) x A2 y A3 (by rw [e]; rfl)) x hx hk hb
    simp only [QJ]
    cases hz : Nat.beq (y4 q z.o) 2 with
    | false =>
      simp only [cond_false]
      rcases List.mem_cons.1 hx with rfl | hx
      . rw [hk] at hz; cases hz
      . exact rest hx
    | true =>
      simp only [cond_true, firstFree]
      cases hbz : m.testBit z.j with
      | true =>
        simp only [cond_true]
        rcases List.mem_cons.1 hx with rfl | hx
        . rw [hb] at hbz; cases hbz
        . exact rest hx
      | false =>
        simp only [cond_false]
        refine ⟨_, rfl, ?_⟩
        rcases List.mem_cons.1 hx with rfl | hx
        . exact Nat.le_refl _
        . obtain ⟨A1, A2, e⟩ := List.append_of_mem hx
          exact hm [] z A1 x A2 (by rw [e]; rfl)
theorem zg1 {q : FuncId -> Nat} {ops : Array Oper} {x y : yR} (hx : RP q x) (hy : RP q y) (hs : vD ops x.o y.o = true) (hp : zgH (y4 q x.o) (y4 q y.o) = true) (hn : x.g.next <= y.g.next)
    (hb : y4 q x.o = 2 -> y4 q y.o = 1 -> ∀ b, y.rd b = true -> b < x.g.next) : zho ops x y := by
  simp only [vD, Bool.and_eq_true] at hs
  obtain ⟨h1, h2⟩ := hs
  have d1 : ∀ d, x.o.dst = some d -> d ∉ y.o.looksAt ops /\ y.o.dst ≠ some d := by
    intro d hd
    rw [hd] at h1
    simp only [Bool.and_eq_true, Bool.not_eq_true', decide_eq_false_iff_not, List.contains_eq_mem] at h1
    exact ⟨h1.1, h1.2⟩
  have d2 : ∀ d, y.o.dst = some d -> d ∉ x.o.looksAt ops := by
    intro d hd
    rw [hd] at h2
    simp only [Bool.not_eq_true', decide_eq_false_iff_not, List.contains_eq_mem] at h2
    exact h2
  have ff : ∀ {b : Bool}, b ≠ true -> b = false := fun h => by simpa using h
  simp only [zgH, Bool.or_eq_true, Bool.and_eq_true] at hp
  rcases hp with ((h | h) | ⟨h, h'⟩) | ⟨h, h'⟩
  . have h := Nat.eq_of_beq_eq_true h
    have t := hx.k1 (by omega)
    have r := hx.k0 h
    exact ⟨d1, d2, fun b hb => (by rw [t b] at hb; cases hb), fun b _ => r b⟩
  . have h := Nat.eq_of_beq_eq_true h
    have t := hy.k1 (by omega)
    have r := hy.k0 h
    exact ⟨d1, d2, fun b _ => ⟨r b, t b⟩, fun b hb => by rw [t b] at hb; cases hb⟩
  . have h := Nat.eq_of_beq_eq_true h
    have h' := Nat.le_of_ble_eq_true h'
    have t := hx.k1 (by omega)
    refine ⟨d1, d2, fun b hb => (by rw [t b] at hb; cases hb), fun b hb => ff (fun hr => ?_)⟩
    have l1 := hx.rd b hr
    by_cases h2 : y4 q y.o = 2
    . have := hy.k2 h2 b hb; omega
    . rw [hy.k1 (by omega) b] at hb; cases hb
  . have h := Nat.eq_of_beq_eq_true h
    have h' := Nat.eq_of_beq_eq_true h'
    have t := hy.k1 (by omega)
    refine ⟨d1, d2, fun b hb' => ⟨ff (fun hr => ?_), t b⟩, fun b hb => by rw [t b] at hb; cases hb⟩
    have l1 := hx.k2 h b hb'
    have l2 := hb h h' b hr
    omega
theorem zeS {ops : Array Oper} {s0 : Env} {h0 : za} {A : List yR} {i : Nat} {s : Env} {h : za} (F : wI P ops s0 h0 A i s h) : ∀ A1 x A2 y A3, A = A1 ++ x :: (A2 ++ y :: A3) -> x.g.next <= y.g.next := by
  intro A1 x A2 y A3 e
  have t1 := F.told A1 x _ e
  have t2 := F.told (A1 ++ x :: A2) y A3 (by rw [e]; simp)
  have := t2.nA x (by simp)
  have := t1.n1
  omega
theorem zj3 {q : FuncId -> Nat} {ops : Array Oper} {s0 : Env} {h0 : za} (hro0 : h0.ro <= h0.next) : ∀ (l : List Oper) (i : Nat) (ms : List Nat) (A : List yR) (r s : Env) (h : za) {K : Env -> za -> Prop},
    ops.toList.drop i = l -> i <= ops.size -> V0 ops ms -> ms.length = i -> wI P ops s0 h0 A i s h -> (∀ x, x ∈ A -> RP q x) -> qF ops l i ms (A.reverse.map fun x => (x.j, x.o)) = true -> zcj q l i ms (A.reverse.map fun x => (x.j, y4 q x.o)) = true ->
    Le r s -> wpD P q ops l i ms (QJ q A) r h K -> ∃ A' r' s' h', wI P ops s0 h0 A' ops.size s' h' /\ Le r' s' /\ K r' h' /\ Fr (Xy l) s s' /\ AF h h'
  | [], i, ms, A, r, s, h, K, hl, hle, hm, hml, F, hrp, hst, hkd, hle1, hk => by
    have : i = ops.size := by
      have := congrArg List.length hl
      simp at this
      omega
    subst this
    exact ⟨A, r, s, h, F, hle1, hk, .refl _ _, .refl _⟩
  | o :: os, i, ms, A, r, s, h, K, hl, hle, hm, hml, F, hrp, hst, hkd, hle1, hk => by
    have ho : ops[i]? = some o := by
      have := congrArg (fun l => l[0]?) hl
      simp only [List.getElem?_drop, List.getElem?_cons_zero] at this
      simpa using this
    have hlt : i < ops.size := by
      rcases Nat.lt_or_ge i ops.size with h | h
      . exact h
      . rw [Array.getElem?_eq_none h] at ho; cases ho
    have hl' : ops.toList.drop (i + 1) = os := by rw [<- List.tail_drop, hl]; rfl
    simp only [qF, Bool.and_eq_true] at hst
    obtain ⟨⟨hedge, hslots⟩, hst⟩ := hst
    simp only [zcj, Bool.and_eq_true] at hkd
    obtain ⟨hpair, hkd⟩ := hkd
    have hal : ∀ x, x ∈ QJ q A -> x.2 <= h.next := fun x hx => by
      obtain ⟨z, hz, rfl⟩ := zim hx
      have := F.nA z hz
      obtain ⟨A1, A2, e⟩ := List.append_of_mem hz
      have := (F.told A1 z A2 e).n1
      show z.g.next <= h.next
      omega
    have go : ∀ (v u : Value) (h1 : za) (y : yR) (bound : Nat), (zV v = true \/ v = u) -> Next P q ops s0 h0 A i o s h u h1 bound y -> (∀ n, firstFree (yq ms o) (QJ q A) = some n -> bound = n) ->
        (match r.put o.dst v with | some s1 => wpD P q ops os (i + 1) (ms ++ [yq ms o]) (cond (Nat.beq (y4 q o) 2) (QJ q A ++ [(i, h.next)]) (QJ q A)) s1 h1 K | none => False) ->
        ∃ A' r' s' h', wI P ops s0 h0 A' ops.size s' h' /\ Le r' s' /\ K r' h' /\ Fr (Xy (o :: os)) s s' /\ AF h h' := by
      intro v u h1 y bound hv N hbound hk
      split at hk
      case h_2 => exact hk.elim
      rename_i r1 hp
      obtain ⟨s1, hp1, hl1⟩ := hle1.put hp hv
      have hs1 : ∀ t, s1.get t = if o.dst = some t then u else s.get t := by
        intro t
        cases hd : o.dst with
        | none => rw [hd] at hp1; simp only [Env.put, Option.some.injEq] at hp1; subst hp1; simp
        | some d =>
          rw [hd] at hp1
          simp only [Env.put] at hp1
          obtain ⟨_, hp1⟩ := zl hp1
          simp only [Option.some.injEq] at hp1
          subst hp1
          rw [Env.zP]
          by_cases e : t = d
          . subst e; simp
          . rw [if_neg e, if_neg (by simp only [Option.some.injEq]; exact fun h => e h.symm)]
      have hs1s : s1.size = s.size := (Fr.put hp1).size
      have hal2 : (cond (Nat.beq (y4 q o) 2) (QJ q A ++ [(i, h.next)]) (QJ q A)) = QJ q (A ++ [y]) := by rw [zfz, N.hop, N.hj, N.gn]
      rw [hal2] at hk
      have F1 : wI P ops s0 h0 (A ++ [y]) (i + 1) s1 h1 := by
        refine ⟨?_, ?_, hs1s.trans F.size, ?_, N.ro.trans F.ro, Nat.le_trans F.next N.next, ?_, N.wf, ?_, ?_, ?_⟩
        . rw [List.map_append, F.js, List.range_succ]; simp [N.hj]
        . intro t
          rw [hs1, Xw, N.hop, N.zmQ, F.env]
        . intro b
          rw [N.heap, WU, F.heap]
        . intro x hx
          rcases List.mem_append.1 hx with hx | hx
          . exact Nat.le_trans (F.nA x hx) N.next
          . simp only [List.mem_singleton] at hx; subst hx; exact N.zkB
        . intro A1 r A2 e
          rcases xq e with ⟨_, rfl, rfl⟩ | ⟨A3, _, e3⟩
          . exact N.told
          . exact F.told A1 r A3 e3
        . intro A1 r A2 e ed hed hb
          rcases xq e with ⟨_, rfl, rfl⟩ | ⟨A3, _, e3⟩
          . rw [N.hop] at hed
            simp only [List.all_eq_true, Bool.or_eq_true, Bool.not_eq_true', Nat.blt_eq] at hedge
            rcases hedge ed (by simpa using hed) with h2 | h2
            . rw [hb] at h2; cases h2
            . have : ed.on ∈ A1.map (·.j) := by rw [F.js]; exact List.mem_range.2 h2
              obtain ⟨x, hx, hxj⟩ := List.mem_map.1 this
              exact ⟨x, hx, hxj⟩
          . exact F.Wh A1 r A3 e3 ed hed hb
        . intro A1 x A2 z A3 e
          have e' : A ++ [y] = (A1 ++ x :: A2) ++ z :: A3 := by rw [e]; simp
          rcases xq e' with ⟨_, e1, rfl⟩ | ⟨A4, _, e3⟩
          . have hxm : x ∈ A := by rw [<- e1]; simp
            simp only [List.all_eq_true, Bool.or_eq_true] at hpair hslots
            rcases hslots (x.j, x.o) (List.mem_map.2 ⟨x, by simpa using hxm, rfl⟩) with h2 | h2
            . rw [N.hj]; exact .inl (wu hm ho h2)
            . rcases hpair (x.j, y4 q x.o) (List.mem_map.2 ⟨x, by simpa using hxm, rfl⟩) with h3 | h3
              . rw [N.hj]; exact .inl (wu hm ho h3)
              . by_cases hbit : (yq ms o).testBit x.j = true
                . rw [N.hj]; exact .inl (wu hm ho hbit)
                . simp only [Bool.not_eq_true] at hbit
                  refine .inr (zg1 (q := q) (hrp x hxm) N.rp (by rw [N.hop]; exact h2) (by rw [N.hop]; exact h3) ?_ ?_)
                  . have := F.nA x hxm
                    obtain ⟨B1, B2, eB⟩ := List.append_of_mem hxm
                    have := (F.told B1 x B2 eB).n1
                    rw [N.gn]; omega
                  . intro k2 k1 b hrd
                    obtain ⟨n, hn, hle2⟩ := znb (m := yq ms o) (zeS F) x hxm k2 hbit
                    have := N.rb (by rw [<- N.hop]; exact k1) b hrd
                    have := hbound n hn
                    omega
          . exact F.apart A1 x A2 z A4 (by rw [e3]; simp)
      obtain ⟨A', r', s', h', F', l', k', f', a'⟩ := zj3 hro0 os (i + 1) (ms ++ [yq ms o]) (A ++ [y]) r1 s1 h1 hl' hlt (kV hm hml ho) (by simp [hml]) F1
        (fun x hx => by rcases List.mem_append.1 hx with hx | hx
                        . exact hrp x hx
                        . simp only [List.mem_singleton] at hx; subst hx; exact N.rp)
        (by simpa [N.hj, N.hop] using hst) (by simpa [N.hj, N.hop] using hkd) hl1 hk
      exact ⟨A', r', s', h', F', l', k', (Fr.put hp1).left.trans f'.right, (N.af F).trans a'⟩
    have slot : ∀ {v : Value} {h1 : za} {al' : List (Nat × Nat)}, (match r.put o.dst v with | some s1 => wpD P q ops os (i + 1) (ms ++ [yq ms o]) al' s1 h1 K | none => False) -> ∀ d, o.dst = some d -> d < s.size := by
      intro v h1 al' hk d hd
      split at hk
      case h_2 => exact hk.elim
      rename_i r1 hp
      rw [hd] at hp
      simp only [Env.put] at hp
      obtain ⟨hb, _⟩ := zl hp
      rw [<- hle1.size]
      simpa [Nat.blt_eq] using hb
    have hron : h.ro <= h.next := by rw [F.ro]; exact Nat.le_trans hro0 F.next
    have dstok : ∀ {hv : za} {K' : Value -> za -> Prop}, opD P q r o hv h K' -> (∀ v h1, K' v h1 -> ∀ d, o.dst = some d -> d < s.size) -> ∀ d, o.dst = some d -> d < s.size := by
      intro hv K' hk hs
      have fromA : ∀ {g : za} {K2 : Value -> za -> Prop}, opA P r o g K2 -> (∀ v h1, K2 v h1 -> ∀ d, o.dst = some d -> d < s.size) -> ∀ d, o.dst = some d -> d < s.size := fun hk hs => by
        obtain ⟨v, u, h', _, _, hK⟩ := vg hle1 hk
        exact hs v h' hK
      unfold opD at hk
      split at hk
      . split at hk
        . obtain ⟨_, _, v, _, _, hK⟩ := hk; exact hs _ _ hK
        . obtain ⟨_, _, v, h2, _, _, hK⟩ := hk; exact hs _ _ hK
        . obtain ⟨_, hk⟩ := hk; obtain ⟨v, h2, _, hK⟩ := vX hk; exact hs _ _ hK
        . obtain ⟨_, _, hd⟩ := hk; obtain ⟨v, h2, hK, _⟩ := hd ⟨F.wf, hron⟩; exact hs _ _ hK
      . unfold QH at hk
        split at hk
        . obtain ⟨_, _, _, hd⟩ := hk; obtain ⟨v, h2, hK, _⟩ := hd ⟨F.wf, hron⟩; exact hs _ _ hK
        . exact hk.elim
      . cases h1 : Nat.beq (y4 q o) 1 with
        | true => rw [h1] at hk; exact fromA hk (fun v _ q => hs v _ q)
        | false => rw [h1] at hk; exact fromA hk hs
    simp only [wpD] at hk
    split at hk
    . rename_i hg
      obtain ⟨v, u, h1, y, bound, hv, hK, N, hb⟩ := zdH F hron ho (dstok hk (fun v h1 hK => slot hK)) (by simp only [zZ, hg]) hle1 hal hk
      exact go v u h1 y bound hv N hb hK
    . rename_i j want hg
      split at hk
      . exact hk.elim
      . rename_i d hdst
        unfold GD at hk
        split at hk
        . rename_i b hb
          have hs : s.get d = .bool b := by
            rcases hle1.get d with e | e
            . rw [hb] at e; cases e
            . rw [<- e, hb]
          have haw : zZ ops s o = (b == want) := by simp only [zZ, hg, hdst, hs]
          by_cases hbw : b = want
          . have hk := hk.1 hbw
            obtain ⟨v, u, h1, y, bound, hv, hK, N, hb⟩ := zdH F hron ho (dstok hk (fun v h1 hK => slot hK)) (by rw [haw, hbw]; simp) hle1 hal hk
            exact go v u h1 y bound hv N hb hK
          . have hk := hk.2 hbw
            obtain ⟨bound, _, _, _, _, hb5⟩ := Wg (m := yq ms o) F.wf hal
            obtain ⟨y, N⟩ := Ug (q := q) F ho (slot hk) (u := undef) (.inl ⟨by rw [haw]; simpa using hbw, rfl, rfl⟩) bound
            exact go undef undef h y bound (.inr rfl) N hb5 hk
        . exact hk.elim
        . rename_i n1 n2
          have hs : s.get d = r.get d := by
            rcases hle1.get d with e | e
            . obtain ⟨k, p, q, e2⟩ := qE e; exact absurd e2 (n2 k p q)
            . exact e.symm
          have haw : zZ ops s o = false := by
            simp only [zZ, hg, hdst, hs]
          obtain ⟨bound, _, _, _, _, hb5⟩ := Wg (m := yq ms o) F.wf hal
          obtain ⟨y, N⟩ := Ug (q := q) F ho (slot hk) (u := undef) (.inl ⟨haw, rfl, rfl⟩) bound
          exact go undef undef h y bound (.inr rfl) N hb5 hk
theorem YW {q : FuncId -> Nat} (hmix : P.follows .mixedOrders = true) : Z1 P (Q1 P q) := by
  intro ops r s h K rd id hle wf hk
  unfold Q1 at hk
  cases hc : calm q ops with
  | false => rw [hc] at hk; exact hk.elim
  | true =>
    rw [hc] at hk
    have hk : wpD P q ops ops.toList 0 [] [] r h K := hk
    simp only [calm, Bool.and_eq_true] at hc
    have F0 : wI P ops s h ([] : List yR) 0 s h := ⟨rfl, fun t => rfl, rfl, fun b => rfl, rfl, Nat.le_refl _, fun x hx => (by cases hx), wf.1,
      fun A1 r A2 e => by simp at e, fun A1 r A2 e => by simp at e, fun A1 x A2 y A3 e => by simp at e⟩
    obtain ⟨A, r', s', h', F, hl', hK, hf, af⟩ := zj3 wf.2 ops.toList 0 [] [] r s h rfl (Nat.zero_le _) (fun k q hq => by simp at hq) rfl F0 (fun x hx => (by cases hx)) hc.1 hc.2 hle hk
    have V : Valid P ops s h A := ⟨by rw [F.js]; exact List.nodup_range, fun i hi => by
        have : i ∈ A.map (·.j) := by rw [F.js]; exact List.mem_range.2 hi
        obtain ⟨r, hr, hj⟩ := List.mem_map.1 this
        exact ⟨r, hr, hj⟩, F.told, F.Wh, F.apart⟩
    exact ⟨r', s', h', hl', hK, hf, af, jW hmix V F.env F.size F.heap F.ro F.next F.nA (Q := fun e s1 h1 => e = .normal /\ s1 = s' /\ h1 = h') ⟨rfl, rfl, rfl⟩⟩
theorem zE {q : FuncId -> Nat} (hmix : P.follows .mixedOrders = true) {n : Nat} {f : FuncId} {args : List Value} {h : za} {R : Value -> za -> Prop} (hk : wpF P (Q1 P q) n f args h R) : DC P f args h R := Ui (YW hmix) hk
theorem DC.mono {f : FuncId} {args : List Value} {h : za} {R R' : Value -> za -> Prop} (d : DC P f args h R) (m : ∀ v h1, R v h1 -> R' v h1) : DC P f args h R' := fun wf => by
  obtain ⟨v, h1, a, b, c⟩ := d wf
  exact ⟨v, h1, m v h1 a, b, c⟩
theorem Yv {f : FuncId} {args : List Value} {h : za} {R : Value -> za -> Prop} (ht : WF' h -> DC P f args h R) : DC P f args h R := fun wf => ht wf wf
theorem DC.tc {f : FuncId} {args : List Value} {h : za} {R : Value -> za -> Prop} (d : DC P f args h R) : TC P f args h R := by
  intro ρ w cargs hr hv
  obtain ⟨v, h1, hR, _, t⟩ := d ⟨fun b o hb => hr.dom b o hb, hr.ro⟩
  exact (t.mono (by rintro v2 h2 ⟨rfl, rfl⟩; exact hR)) ρ w cargs hr hv
theorem WF'.lock {h : za} (w : WF' h) : WF' h.lock := ⟨w.1, Nat.le_refl _⟩
end
end Go.Ai
set_option linter.unusedVariables false
namespace Go.Ai
noncomputable section
variable {P : Program}
theorem zU {α : Sort _} {a b : α} (h : a = b) : a = b := h
theorem x6 {p : Prop} [Decidable p] (h : p) : decide p = true := decide_eq_true h
theorem xB {p : Prop} [Decidable p] (h : ¬p) : decide p = false := decide_eq_false h
def ld1 (h : za) (b off : Nat) : Option Value := match h.get b with
  | some (.cells c _) => c[off]?
  | _ => none
def ldn (h : za) (b off n : Nat) : Option Value := match h.get b with
  | some (.cells c _) => if off + n <= c.length then some (.agg ((c.drop off).take n).toArray) else none
  | _ => none
def sto (h : za) (b off : Nat) (vs : List Value) : Option za := match h.get b with
  | some (.cells c t) => if off + vs.length <= c.length /\ h.ro <= b /\ vs.all cellOk = true then some (h.set b (some (.cells (ze c off vs) t))) else none
  | _ => none
theorem uJ {α : Type} {b : Bool} {p : Prop} [Decidable p] {x y : α} (h : b = true ↔ p) : cond b x y = if p then x else y := by
  by_cases hp : p
  . rw [if_pos hp, h.2 hp]; rfl
  . rw [if_neg hp, show b = false by simpa using fun e => hp (h.1 e)]; rfl
theorem zN {t : TypeId} (ha : yM P (isAgg t) = some false) (b off : Nat) (h : za) : zd P t (.pointer (some ⟨b, off, none⟩)) h = ld1 h b off := by
  unfold zd ld1
  simp only [ha]
  cases h.get b with
  | none => rfl
  | some o => cases o <;> rfl
theorem wx {t : TypeId} {n : Nat} (ha : yM P (isAgg t) = some true) (hn : yM P (sizeOf t) = some n) (b off : Nat) (h : za) : zd P t (.pointer (some ⟨b, off, none⟩)) h = ldn h b off n := by
  unfold zd ldn
  simp only [ha, hn]
  cases h.get b with
  | none => rfl
  | some o =>
    cases o <;> simp only []
    rw [uJ (p := off + n <= _) (by rw [Nat.ble_eq])]
theorem Ql {t : TypeId} {n : Nat} (hn : yM P (sizeOf t) = some n) (b off : Nat) (v : Value) (h : za) (hv : v.cells.size = n) : zj P t (.pointer (some ⟨b, off, none⟩)) v h = sto h b off v.cells.toList := by
  unfold zj sto
  simp only [hn]
  cases h.get b with
  | none => rfl
  | some o =>
    cases o <;> simp only []
    refine uJ ?_
    simp only [Bool.and_eq_true, Nat.ble_eq, Nat.beq_eq, Array.length_toList, hv, true_and, and_assoc]
theorem xn {t : TypeId} (hn : yM P (sizeOf t) = some 1) (b off : Nat) (v : Value) (h : za) (hv : v.cells = #[v]) : zj P t (.pointer (some ⟨b, off, none⟩)) v h = sto h b off [v] := by
  rw [Ql hn b off v h (by rw [hv]; rfl), hv]
theorem vy {t : TypeId} {n : Nat} (hn : yM P (sizeOf t) = some n) (b off : Nat) (l : List Value) (h : za) (hv : l.length = n) : zj P t (.pointer (some ⟨b, off, none⟩)) (.agg l.toArray) h = sto h b off l := by
  rw [Ql hn b off _ h (by simpa [Value.cells] using hv)]; rfl
theorem yr {t e : TypeId} {n : Nat} (hu : yM P (underlying t) = some (.slice e)) (hn : yM P (sizeOf e) = some n) {b off len c : Nat} {k : IntKind} {i : Int} :
    zG P t (.slice (some ⟨b, off, none⟩) len c) (.int k i) = if 0 <= i /\ i < len then some (.pointer (some ⟨b, off + i.toNat * n, none⟩)) else none := by
  unfold zG
  simp only [hu, hn]
  exact uJ (by simp)
theorem Jf {t e : TypeId} {n len : Nat} (hu : yM P (underlying t) = some (.array len e)) (hn : yM P (sizeOf e) = some n) {b off : Nat} {k : IntKind} {i : Int} :
    zG P t (.pointer (some ⟨b, off, none⟩)) (.int k i) = if 0 <= i /\ i < len then some (.pointer (some ⟨b, off + i.toNat * n, none⟩)) else none := by
  unfold zG
  simp only [hu, hn]
  exact uJ (by simp)
theorem UI {d m : Nat} : wG none d m = some d := zU rfl
theorem Zr {k : IntKind} {i : Int} {d m : Nat} : wG (some (.int k i)) d m = if 0 <= i /\ i <= m then some i.toNat else none := uJ (by simp)
theorem zcn : onb none = true := zU rfl
theorem WQ {v : Value} (h : zV v = false) : onb (some v) = true := by simp only [onb, h, Bool.not_false]
theorem zfX {t e : TypeId} {n : Nat} (hu : yM P (underlying t) = some (.slice e)) (hn : yM P (sizeOf e) = some n) {b off len c : Nat} {lo hi : Option Value} {h : za} :
    asl P t (.slice (some ⟨b, off, none⟩) len c) lo hi h = (wG hi len len).bind fun hh => (wG lo 0 hh).bind fun l => some (.slice (some ⟨b, off + l * n, none⟩) (hh - l) (cond (wide P h b n) (Us c l) 0)) := by
  simp only [asl, QB, hu, hn]
  cases wG hi len len with
  | none => rfl
  | some hh =>
    simp only [Option.bind_some]
    cases wG lo 0 hh <;> rfl
theorem zgz {t e : TypeId} {n k : Nat} (hu : yM P (underlying t) = some (.array k e)) (hn : yM P (sizeOf e) = some n) {b off : Nat} {lo hi : Option Value} {h : za} :
    asl P t (.pointer (some ⟨b, off, none⟩)) lo hi h = (wG hi k k).bind fun hh => (wG lo 0 hh).bind fun l => some (.slice (some ⟨b, off + (if k = l then 0 else l * n), none⟩) (hh - l) 0) := by
  simp only [asl, QB, hu, hn]
  cases wG hi k k with
  | none => rfl
  | some hh =>
    simp only [Option.bind_some]
    cases wG lo 0 hh <;> rfl
theorem zfF {h : za} {b n : Nat} {cs : List Value} {t : TypeId} (hb : h.get b = some (.cells cs t)) : wide P h b n = Nat.beq (P.cellsOf t) n := by simp only [wide, hb]
def ziN (P : Program) (t : TypeId) : Option (Nat × Nat) := (yM P (typeInfo t)).map fun i => (i.size, i.bytes)
theorem zcC {t e : TypeId} {z : Value} {zs : List Value} {n bytes : Nat} (hu : yM P (underlying t) = some (.slice e)) (hs : ziN P e = some (n, bytes)) (hz : xo P e = some z) (hzs : z.cells.toList = zs) (hn : 0 < n) (hb : bytes <= 65536) (hl : zs.length = n)
    {k k2 : IntKind} {l c : Int} {h : za} (h0 : 0 <= l) (h1 : l <= c) (h2 : c < 2 ^ 31) : ZQ P t (.int k l) (.int k2 c) h = some (.slice (some ⟨h.next, 0, none⟩) l.toNat (c.toNat + 2), h.push (.cells (vN zs (c.toNat * n)) e)) := by
  unfold ziN at hs
  simp only [Option.map_eq_some_iff, Prod.mk.injEq] at hs
  obtain ⟨i, hi, rfl, rfl⟩ := hs
  unfold ZQ
  simp only [hu, hi, hz]
  have w : ∀ n : Int, 0 <= n -> n < 2 ^ 31 -> IntKind.i64.wrap n = n := fun n p q => by simp only [IntKind.wrap, IntKind.bits, IntKind.signed]; simp; omega
  have hm : (i.bytes : Int) * c <= 2 ^ 48 := by
    have : (i.bytes : Int) * c <= 65536 * c := Int.mul_le_mul_of_nonneg_right (by omega) (by omega)
    omega
  have hz2 : z.cells.size = i.size := by rw [<- hl, <- hzs]; simp
  rw [show (decide (IntKind.i64.wrap l = l) && decide (IntKind.i64.wrap c = c) && decide (0 <= l) && decide (l <= c) && decide ((i.bytes : Int) * c <= 2 ^ 48) && Nat.beq z.cells.size i.size && Nat.blt 0 i.size) = true by
    simp only [Bool.and_eq_true, decide_eq_true_eq, Nat.beq_eq, Nat.blt_eq]
    exact ⟨⟨⟨⟨⟨⟨w l h0 (by omega), w c (by omega) h2⟩, h0⟩, h1⟩, hm⟩, hz2⟩, hn⟩]
  simp only [cond_true, hzs]
def KU (h : za) (elem size bytes n : Nat) (new : List Value) (s : Value) : Option (Value × za) := match s with
  | .slice none 0 0 => if n = 0 then some (.slice none 0 0, h) else if n * bytes <= 2 ^ 48 then some (.slice (some ⟨h.next, 0, none⟩) n 1, h.push (.cells new elem)) else none
  | .slice (some ⟨b, off, none⟩) len c => if n = 0 then some (s, h) else (match h.get b with
    | some (.cells cs t) => if c ≠ 0 /\ t = elem /\ h.ro <= b /\ off + len * size <= cs.length /\ roomFor c (len + n) bytes = true /\ off % size = 0 then
        some (.slice (some ⟨h.next, 0, none⟩) (len + n) (wk c (len + n)), (h.set b none).push (.cells (((cs.drop off).take (len * size)) ++ new) elem)) else none
    | _ => none)
  | _ => none
theorem uX {sT xT e e2 : TypeId} {size bytes : Nat} (h1 : yM P (underlying sT) = some (.slice e)) (h2 : yM P (underlying xT) = some (.slice e2)) (hs : ziN P e = some (size, bytes)) (hz : (xo P e).map (fun z => z.cells.size) = some size) (hb : 0 < bytes)
    {r : TypeId} {v x : Value} {n : Nat} {new : List Value} {h : za} (hn : ZP x = some n) (hf : xh h n size x = some new) (hc : new.all cellOk = true) (hl : new.length = n * size) :
    zg P .append [sT, xT] r [v, x] h = KU h e size bytes n new v := by
  unfold ziN at hs
  simp only [Option.map_eq_some_iff, Prod.mk.injEq] at hs hz
  obtain ⟨i, hi, rfl, rfl⟩ := hs
  obtain ⟨z, hz, hz2⟩ := hz
  simp only [zg, jS, h1, h2, hn, hi, hz, hf]
  rw [show (!QM (TypeDesc.slice e2) && Nat.blt 0 i.bytes && Nat.beq z.cells.size i.size && new.all cellOk && Nat.beq new.length (n * i.size)) = true by
    simp only [Bool.and_eq_true, Nat.beq_eq, Nat.blt_eq]
    exact ⟨⟨⟨⟨rfl, hb⟩, hz2⟩, hc⟩, hl⟩]
  simp only [cond_true]
  unfold Zy KU
  split
  . exact (uJ (p := n = 0) (by simp)).trans (by
      by_cases h0 : n = 0
      . rw [if_pos h0]; exact (if_pos h0).symm
      . rw [if_neg h0]; exact (uJ (p := n * i.bytes <= 2 ^ 48) (by simp)).trans (if_neg h0).symm)
  . rename_i b off len c
    refine (uJ (p := n = 0) (by simp)).trans ?_
    by_cases h0 : n = 0
    . rw [if_pos h0]; exact (if_pos h0).symm
    . rw [if_neg h0]
      refine Eq.trans ?_ (if_neg h0).symm
      cases hg : h.get b with
      | none => rfl
      | some o =>
        cases o with
        | cells cs t =>
          refine uJ ?_
          simp only [Bool.and_eq_true, Bool.not_eq_true', Nat.beq_eq, Nat.ble_eq, ne_eq, and_assoc]
          refine and_congr ?_ (Iff.rfl)
          rw [<- Bool.not_eq_true, Nat.beq_eq]
        | _ => rfl
  . rename_i q1 q2
    split
    . exact (q1 rfl).elim
    . exact (q2 _ _ _ _ rfl).elim
    . rfl
section heaps
variable {h : za} {b c off n : Nat} {cs : List Value} {t : TypeId} {o : wB}
theorem zjU (hb : h.get b = some (.cells cs t)) (off : Nat) (vs : List Value) : sto h b off vs = if off + vs.length <= cs.length /\ h.ro <= b /\ vs.all cellOk = true then some (h.set b (some (.cells (ze cs off vs) t))) else none := by simp only [sto, hb]
theorem zw : (h.push o).get h.next = some o := by rw [za.y6, if_pos rfl]
theorem zn (hb : b = h.next) : (h.push o).get b = some o := by rw [za.y6, if_pos hb]
theorem zu (hb : b < h.next) : (h.push o).get b = h.get b := by rw [za.y6, if_neg (by omega)]
theorem zz {x : Option wB} : (h.set b x).get b = x := by rw [za.zP, if_pos rfl]
theorem zt {x : Option wB} (hb : ¬ c = b) : (h.set b x).get c = h.get c := by rw [za.zP, if_neg hb]
theorem Xa (h : za) (b : Nat) : h.lock.get b = h.get b := zU rfl
theorem kq (h : za) : h.lock.next = h.next := zU rfl
theorem zfo (h : za) : h.lock.ro = h.next := zU rfl
theorem zM (h : za) (o : wB) : (h.push o).next = h.next + 1 := zU rfl
theorem wa (h : za) (b : Nat) (o : Option wB) : (h.set b o).next = h.next := zU rfl
theorem xR (h : za) (o : wB) : (h.push o).ro = h.ro := zU rfl
theorem X3 (h : za) (b : Nat) (o : Option wB) : (h.set b o).ro = h.ro := zU rfl
theorem Qe {a n k : Nat} (h : a < n) : (a < n + k) = True := by simp; omega
theorem Ky {n : Nat} : (n < n + 1) = True := by simp
end heaps
section numbers
variable {t : TypeId} {x y : Operand} {k k' : IntKind} {a b : Int}
theorem xk {v : Value} {op : BinOp} {p q : Value} (h : zlP P op t x y p q = some v) : zf P op t x y p q = some v := by unfold zf; rw [h]
theorem wX : zf P .lss t x y (.int k a) (.int k b) = some (.bool (decide (a < b))) := xk (by cases k <;> rfl)
theorem zmx : zf P .leq t x y (.int k a) (.int k b) = some (.bool (decide (a <= b))) := xk (by cases k <;> rfl)
theorem ZN : zf P .gtr t x y (.int k a) (.int k b) = some (.bool (decide (b < a))) := xk (by cases k <;> rfl)
theorem zeU : zf P .geq t x y (.int k a) (.int k b) = some (.bool (decide (b <= a))) := xk (by cases k <;> rfl)
theorem ju : zf P .eql t x y (.int k a) (.int k b) = some (.bool (decide (a = b))) := xk (by cases k <;> rfl)
theorem qx : zf P .neq t x y (.int k a) (.int k b) = some (.bool (!decide (a = b))) := xk (by cases k <;> rfl)
theorem qw : zf P .add t x y (.int k a) (.int k b) = some (.int k (k.wrap (a + b))) := xk (by cases k <;> rfl)
theorem jH : zf P .sub t x y (.int k a) (.int k b) = some (.int k (k.wrap (a - b))) := xk (by cases k <;> rfl)
theorem YU : zf P .mul t x y (.int k a) (.int k b) = some (.int k (k.wrap (a * b))) := xk (by cases k <;> rfl)
theorem za6 (hb : ¬ b = 0) : zf P .quo t x y (.int k a) (.int k b) = some (.int k (k.wrap (a.tdiv b))) := by
  refine xk ?_
  have : yM P (Op.intDiv .quo k a b) = some (.int k (k.wrap (a.tdiv b))) := by unfold Op.intDiv; rw [if_neg hb]; rfl
  cases k <;> (show fl (yM P (Op.intDiv .quo _ a b)) = _; rw [this]; rfl)
theorem UZ (hb : ¬ b = 0) : zf P .rem t x y (.int k a) (.int k b) = some (.int k (a.tmod b)) := by
  refine xk ?_
  have : yM P (Op.intDiv .rem k a b) = some (.int k (a.tmod b)) := by unfold Op.intDiv; rw [if_neg hb]; rfl
  cases k <;> (show fl (yM P (Op.intDiv .rem _ a b)) = _; rw [this]; rfl)
theorem znf : zf P .and t x y (.int k a) (.int k b) = some (.int k (k.wrap (BitVec.ofInt k.bits a &&& BitVec.ofInt k.bits b).toNat)) := xk (by cases k <;> rfl)
theorem zlO : zf P .or t x y (.int k a) (.int k b) = some (.int k (k.wrap (BitVec.ofInt k.bits a ||| BitVec.ofInt k.bits b).toNat)) := xk (by cases k <;> rfl)
theorem zl1 : zf P .xor t x y (.int k a) (.int k b) = some (.int k (k.wrap (BitVec.ofInt k.bits a ^^^ BitVec.ofInt k.bits b).toNat)) := xk (by cases k <;> rfl)
theorem zc7 : zf P .andNot t x y (.int k a) (.int k b) = some (.int k (k.wrap (BitVec.ofInt k.bits a &&& ~~~BitVec.ofInt k.bits b).toNat)) := xk (by cases k <;> rfl)
theorem ze5 (hb : 0 <= b) : zf P .shl t x y (.int k a) (.int k' b) = some (.int k (k.wrap (a * 2 ^ (min b.toNat k.bits)))) := by
  refine xk ?_
  have : yM P (Op.shift .shl k a k' b) = some (.int k (k.wrap (a * 2 ^ (min b.toNat k.bits)))) := by unfold Op.shift; rw [if_neg (by omega)]; rfl
  show fl (yM P (Op.shift .shl k a k' b)) = _
  rw [this]; rfl
theorem zgj (hb : 0 <= b) : zf P .shr t x y (.int k a) (.int k' b) = some (.int k (a.fdiv (2 ^ (min b.toNat k.bits)))) := by
  refine xk ?_
  have : yM P (Op.shift .shr k a k' b) = some (.int k (a.fdiv (2 ^ (min b.toNat k.bits)))) := by unfold Op.shift; rw [if_neg (by omega)]; rfl
  show fl (yM P (Op.shift .shr k a k' b)) = _
  rw [this]; rfl
theorem zbR {c : Bool} : aun P .not (.bool c) = some (.bool (!c)) := zU rfl
theorem zmr : aun P .neg (.int k a) = some (.int k (k.wrap (0 - a))) := by cases k <;> rfl
end numbers
section nils
variable {t e : TypeId} {x y : Operand}
theorem zjB {p q : Value} {r : Bool} (hf : (flat p && flat q) = false) (h : isNil P t p q = some r) : zf P .eql t x y p q = some (.bool r) /\ zf P .neq t x y p q = some (.bool (!r)) := by
  constructor <;> refine xk ?_ <;> unfold zlP <;> rw [hf] <;> simp only [cond_false, znW, h, Option.map_some]
theorem zox (hu : yM P (underlying t) = some (.pointer e)) (a : Addr) : zf P .eql t x y (.pointer (some a)) (.pointer none) = some (.bool false) := (zjB (p := .pointer (some a)) (q := .pointer none) (r := false) rfl (by simp only [isNil, hu])).1
theorem znX (hu : yM P (underlying t) = some (.slice e)) (a : Addr) (n c : Nat) : zf P .eql t x y (.slice (some a) n c) (.slice none 0 0) = some (.bool false) := (zjB (p := .slice (some a) n c) (q := .slice none 0 0) (r := false) rfl (by simp only [isNil, hu])).1
end nils
theorem Zz {α β : Type} (s : Sem α) (f : α -> Sem β) : yM P (s >>= f) = (yM P s).bind fun a => yM P (f a) := by
  induction s with
  | pure a => rfl
  | program k ih => exact ih P
  | _ => rfl
theorem jJ {α : Type} (a : α) : yM P (Pure.pure a : Sem α) = some a := rfl
def eqF (P : Program) (d : Nat) (xs ys : Array Value) : List Field -> Option Bool
  | [] => some true
  | f :: fs => if f.name ≠ "_" then (match yM P (part f.type xs f.offset), yM P (part f.type ys f.offset) with
      | some a, some b => (match yM P (Op.equalIn d f.type a b) with
        | some r => cond r (eqF P d xs ys fs) (some false)
        | none => none)
      | _, _ => none) else eqF P d xs ys fs
theorem XN {d : Nat} {t : TypeId} {xs ys : Array Value} {fs : Array Field} (hu : P.underlying t = some (.struct fs)) (hp : P.stoodInHeld t = false) :
    yM P (Op.equalIn (d + 1) t (.agg xs) (.agg ys)) = eqF P d xs ys fs.toList := by
  have h2 : yM P program = some P := rfl
  have h1 : yM P (underlying t) = some (.struct fs) := by
    unfold underlying
    simp only [Zz, h2, Option.bind_some, hu]
    rfl
  simp only [Op.equalIn, Zz, h1, h2, Option.bind_some, hp, Bool.false_eq_true, if_false]
  rw [<- Array.forIn_toList]
  generalize fs.toList = l
  clear hu h1
  induction l with
  | nil => rfl
  | cons f l ih =>
    simp only [List.forIn_cons, eqF, Zz] at ih ⊢
    by_cases hn : f.name ≠ "_"
    . rw [if_pos hn, if_pos hn]
      simp only [Zz]
      cases yM P (part f.type xs f.offset) with
      | none => rfl
      | some a =>
        cases yM P (part f.type ys f.offset) with
        | none => rfl
        | some b =>
          simp only [Option.bind_some]
          cases yM P (Op.equalIn d f.type a b) with
          | none => rfl
          | some r =>
            cases r
            . simp only [Option.bind_some, Bool.not_false, if_true, jJ]
              rfl
            . simp only [Option.bind_some, Bool.not_true, Bool.false_eq_true, if_false, jJ]
              exact ih
    . rw [if_neg hn, if_neg hn]
      simp only [jJ, Option.bind_some]
      exact ih
theorem qK {t : TypeId} {x y : Operand} {xs ys : Array Value} {fs : Array Field} {r : Bool} (hu : P.underlying t = some (.struct fs)) (hp : P.stoodInHeld t = false) (hg : P.eqGuardType P.depth t = false) (hx : flat (.agg xs) = true) (hy : flat (.agg ys) = true)
    (hr : eqF P 9999 xs ys fs.toList = some r) : zf P .eql t x y (.agg xs) (.agg ys) = some (.bool r) /\ zf P .neq t x y (.agg xs) (.agg ys) = some (.bool (!r)) := by
  have he : yM P (Op.equal t (.agg xs) (.agg ys)) = some r := (XN hu hp).trans hr
  have hgd : ∀ op : BinOp, yM P (eqGuard op t x y (.agg xs) (.agg ys)) = some () := by
    intro op
    have h2 : yM P program = some P := rfl
    cases op <;> simp [eqGuard, Zz, h2, hg, jJ]
  constructor <;> refine xk ?_ <;> unfold zlP <;> rw [hx, hy] <;> simp only [Bool.and_true, cond_true, Zz, hgd, Option.bind_some, binOp, he, jJ] <;> rfl
section
theorem zq {b} : zV (.bool b) = false := zU rfl
theorem zA {k n} : zV (.int k n) = false := zU rfl
theorem Qt {s} : zV (.string s) = false := zU rfl
theorem yp {a} : zV (.pointer a) = false := zU rfl
theorem zL {a n c} : zV (.slice a n c) = false := zU rfl
theorem zfx {a} : zV (.map a) = false := zU rfl
theorem zcz {f a c} : zV (.func f a c) = false := zU rfl
theorem zdn : zV .nilFunc = false := zU rfl
theorem J7 {t v} : zV (.iface t v) = false := zU rfl
theorem zct : zV .nilIface = false := zU rfl
theorem zQ {a} : zV (.agg a) = false := zU rfl
theorem JJ {a} : zV (.tuple a) = false := zU rfl
theorem zcx {b} : cellOk (.bool b) = true := zU rfl
theorem x5 {k n} : cellOk (.int k n) = true := zU rfl
theorem QA {s} : cellOk (.string s) = true := zU rfl
theorem Wf {a} : cellOk (.pointer a) = true := zU rfl
theorem Zj {a n c} : cellOk (.slice a n c) = true := zU rfl
theorem zgB {a} : cellOk (.map a) = true := zU rfl
theorem zc2 {f a c} : cellOk (.func f a c) = true := zU rfl
end
theorem zay : yH [] = true := zU rfl
theorem Qq {v : Value} {l : List Value} (h : zV v = false) : yH (v :: l) = yH l := by simp only [yH, h, cond_false]
theorem zH {α : Type} (x : Option α) : nb [] x = x := zU rfl
theorem zv {α : Type} {v : Value} {l : List Value} {x : Option α} (h : zV v = false) : nb (v :: l) x = nb l x := by simp only [nb, yH, h, cond_false]
theorem yh {A B J} : CD (.bool true) A B J = A J := zU rfl
theorem zF {A B J} : CD (.bool false) A B J = B J := zU rfl
theorem zjE {b want : Bool} {A K h} (e : b = want) : GD (.bool b) want A K h = A K := by
  apply propext; constructor
  . intro g; exact g.1 e
  . intro g; exact ⟨fun _ => g, fun ne => absurd e ne⟩
theorem zjV {b want : Bool} {A K h} (e : ¬ b = want) : GD (.bool b) want A K h = K undef h := by
  apply propext; constructor
  . intro g; exact g.2 e
  . intro g; exact ⟨fun e' => absurd e' e, fun _ => g⟩
theorem zii {w A K h} : GD undef w A K h = K undef h := zU rfl
theorem v9 {A K h} : GD (.bool true) true A K h = A K := zjE rfl
theorem vz {A K h} : GD (.bool false) false A K h = A K := zjE rfl
theorem Xx {A K h} : GD (.bool true) false A K h = K undef h := zjV (by simp)
theorem uD {A K h} : GD (.bool false) true A K h = K undef h := zjV (by simp)
theorem yD {a b : Value} (h : zV a = false) : pk (.bool true) a b = some a := by simp only [pk, zv h, zH]
theorem zO {a b : Value} (h : zV b = false) : pk (.bool false) a b = some b := by simp only [pk, zv h, zH]
theorem yP (a : Addr) : nck (.pointer (some a)) = some (.pointer (some a)) := zU rfl
theorem zj1 {vs : Array Value} {i : Nat} (h : yH vs.toList = true) : axt (.tuple vs) i = vs[i]? := by simp only [axt, nb, h, cond_true]
theorem Xc {a b : Value} (ha : zV a = false) (hb : zV b = false) : axt (.tuple #[a, b]) 0 = some a := (zj1 (by simp only [yH, ha, hb, cond_false])).trans rfl
theorem YX {a b : Value} (ha : zV a = false) (hb : zV b = false) : axt (.tuple #[a, b]) 1 = some b := (zj1 (by simp only [yH, ha, hb, cond_false])).trans rfl
theorem x8 {v : Value} {h R} (hb : zV v = false) : rv [v] h R = R v h := by
  apply propext; simp only [rv, yH, hb, cond_false, ux, true_and]
theorem xQ {v w : Value} {h R} (hb : zV v = false) (hc : zV w = false) : rv [v, w] h R = R (.tuple #[v, w]) h := by
  apply propext; simp only [rv, yH, hb, hc, cond_false, ux, true_and]
theorem zJ {g : FuncId} {args : List Value} {h : za} {K R : Value -> za -> Prop} (hc : yT P g = true) (hn : yH args = true) (hT : DC P g args h R) (hk : ∀ v h1, R v h1 -> K v h1) : zI P (.func (.func g) #[] #[]) args h K :=
  ⟨hn, by simpa using hn, .inl ⟨hc, by simpa using hT.mono hk⟩⟩
theorem vi {g : FuncId} {args : List Value} {h : za} {K R : Value -> za -> Prop} (hc : yT P g = true) (hn : yH args = true) (hT : DC P g args h R) (hk : ∀ v h1, R v h1 -> K v h1) : Yz P g args h K :=
  ⟨hc, hn, hT.mono hk⟩
theorem kj {step : List Value -> za -> (List Value -> za -> Prop) -> Prop} (I : Nat -> List Value -> za -> Prop) (n : Nat) {vs : List Value} {h : za} (h0 : I n vs h)
    (hs : ∀ n vs h, I n vs h -> step vs h (fun vs' h' => ∃ m, m < n /\ I m vs' h')) : LP step vs h := ⟨I, n, h0, hs⟩
def xG (P : Program) (f : FuncId) (args : List Value) (h : za) (v : Value) : Prop := zec v = true /\ TC P f args h.lock (fun v1 _ => v1 = v)
theorem xG.dc {f : FuncId} {args : List Value} {h : za} {v : Value} (q : xG P f args h v) : DC P f args h (fun v1 h1 => v1 = v /\ h1 = h) := fun _ =>
  ⟨v, h, ⟨rfl, rfl⟩, .refl _, (q.2.quiet (fun v1 _ e => by rw [e]; exact q.1)).mono (by rintro v1 h1 ⟨⟨_, e1⟩, e2⟩; exact ⟨e1, e2⟩)⟩
theorem xG.of {f : FuncId} {args : List Value} {h : za} {v : Value} (hs : zec v = true) (d : DC P f args h.lock (fun v1 _ => v1 = v)) : xG P f args h v := ⟨hs, d.tc⟩
theorem zi {g : FuncId} {args : List Value} {h : za} {K : Value -> za -> Prop} {v : Value} (hc : yT P g = true) (hn : yH args = true) (hq : xG P g args h v) (hk : K v h) : zI P (.func (.func g) #[] #[]) args h K :=
  zJ hc hn hq.dc (by rintro v1 h1 ⟨rfl, rfl⟩; exact hk)
theorem wQ {g : FuncId} {args : List Value} {h : za} {K : Value -> Prop} {v : Value} (hc : yT P g = true) (hn : yH args = true) (hq : xG P g args h v) (hk : K v) : qy P g args h K :=
  ⟨hc, hn, v, hq.1, hq.2, hk⟩
end
end Go.Ai
