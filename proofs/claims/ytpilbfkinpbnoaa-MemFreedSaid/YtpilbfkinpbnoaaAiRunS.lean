/-
  THE INTERPRETER IS SOUND.
-/
import Derived.Test.YtpilbfkinpbnoaaAiRun
set_option linter.unusedVariables false
namespace Go.Ai
noncomputable section
variable {P : Program} {cls : List Nat}

/-! ### Heaps picked, hidden, mended -/
theorem foldl_set_get {α : Type} (f : Nat → Option α) (j : Nat) : ∀ (l : List Nat) (t : Tr α), (l.foldl (fun t b => t.set b (f b)) t).get j = if j ∈ l then f j else t.get j
  | [], t => by simp
  | b :: l, t => by
    rw [List.foldl_cons, foldl_set_get f j l, Tr.get_set]
    by_cases h : j ∈ l
    · simp [h]
    · by_cases e : j = b
      · subst e; simp [h]
      · simp [h, e]
theorem get_pick (h : AHeap) (l : List Nat) (b : Nat) : (h.pick l).get b = if b ∈ l then h.get b else none := by
  show (l.foldl (fun t b => t.set b (h.get b)) Tr.e).get b = _
  rw [foldl_set_get]; rfl
theorem get_hide (h : AHeap) (l : List Nat) (b : Nat) : (h.hide l).get b = if b ∈ l then none else h.get b := by
  show (l.foldl (fun t b => t.set b none) h.t).get b = _
  rw [foldl_set_get (fun _ => none)]; rfl
theorem get_mend (h g : AHeap) (l : List Nat) (b : Nat) : (h.mend g l).get b = if b ∈ l then g.get b else h.get b := by
  show (l.foldl (fun t b => t.set b (g.get b)) h.t).get b = _
  rw [foldl_set_get]; rfl
theorem get_unhide (h' h : AHeap) (l : List Nat) (b : Nat) : (h'.unhide h l).get b = if b ∈ l then h.get b else h'.get b := by
  show (l.foldl (fun t b => t.set b (h.get b)) h'.t).get b = _
  rw [foldl_set_get]; rfl
theorem mem_new {a c b : Nat} : b ∈ List.range' a (c - a) ↔ a ≤ b ∧ b < c := by
  rw [List.mem_range'_1]; omega
theorem get_graft (h h2 : AHeap) (b : Nat) : (graft h h2).get b = if h.next ≤ b ∧ b < h2.next then h2.get b else h.get b := by
  show ((List.range' h.next (h2.next - h.next)).foldl (fun t b => t.set b (h2.get b)) h.t).get b = _
  rw [foldl_set_get]
  by_cases hb : h.next ≤ b ∧ b < h2.next
  · rw [if_pos (mem_new.2 hb), if_pos hb]
  · rw [if_neg (fun hm => hb (mem_new.1 hm)), if_neg hb]; rfl

/-- A call that writes nothing of what there is: its new blocks are laid beside. -/
theorem TC.fresh {f : FuncId} {args : List Value} {h h2 : AHeap} {v : Value} (ht : TC P f args h.lock (fun v1 h1 => v1 = v ∧ h1 = h2)) : TC P f args h (fun v1 h1 => v1 = v ∧ h1 = graft h h2) := by
  intro ρ w cargs hr hv
  refine (ht ρ w cargs hr.lock hv).mono fun e w' => ?_
  rintro ⟨v1, v', h', ρ', e1, ⟨rfl, rfl⟩, st, hvv⟩
  have nomine : ∀ c, ¬ Mine ρ h.lock c := by
    rintro c ⟨b, o, pl, hg, hro, _⟩
    have h1 : h.next ≤ b := hro
    have h2 := hr.dom b o hg
    omega
  have hsame : ∀ c, c < w.heap.size → w'.heap[c]? = w.heap[c]? := fun c hc => st.frame c hc (nomine c)
  have hn : h.next ≤ h'.next := by have := st.le.1; rw [hr.next, st.rel.next] at this; exact this
  have hold : ∀ b, b < h.next → ρ'.m b = ρ.m b := fun b hb => st.le.2 b (by rw [hr.next]; exact hb)
  have cases' : ∀ b o, (graft h h').get b = some o → (h.next ≤ b ∧ b < h'.next ∧ h'.get b = some o) ∨ (b < h.next ∧ h.get b = some o) := by
    intro b o hg
    rw [get_graft] at hg
    split at hg
    · rename_i hb; exact .inl ⟨hb.1, hb.2, hg⟩
    · exact .inr ⟨hr.dom b o hg, hg⟩
  refine ⟨v1, v', graft h h', ρ', e1, ⟨rfl, rfl⟩, ⟨st.le, ⟨st.rel.next, Nat.le_trans hr.ro hn, ?_, ?_, ?_, hr.gro, st.rel.glob⟩, rfl, st.os, st.tape, st.output, st.size, fun c hc _ => hsame c hc, ?_⟩, hvv⟩
  · intro b o hg
    rcases cases' b o hg with ⟨_, h2, _⟩ | ⟨h1, _⟩
    · exact h2
    · exact Nat.lt_of_lt_of_le h1 hn
  · intro b o hg
    rcases cases' b _ hg with ⟨h1, h2, h3⟩ | ⟨h1, h3⟩
    · obtain ⟨pl, hp, hc⟩ := st.rel.ok b o h3
      refine ⟨pl, hp, hc.weak (fun _ => ?_)⟩
      rw [st.ro]; exact decide_eq_true h1
    · obtain ⟨pl, hp, hc⟩ := hr.ok b o h3
      exact ⟨pl, (hold b h1).trans hp, (hc.mono st.le).other (hsame _ hc.lt)⟩
  · have key : ∀ b1 b2 o1 o2 p1 p2, h.next ≤ b1 → h'.get b1 = some o1 → b2 < h.next → h.get b2 = some o2 → ρ'.m b1 = some p1 → ρ'.m b2 = some p2 → p1.c = p2.c → False := by
      intro b1 b2 o1 o2 p1 p2 l1 g1 l2 g2 m1 m2 ec
      obtain ⟨pl, hp, hc⟩ := hr.ok b2 o2 g2
      rw [hold b2 l2, hp] at m2
      cases m2
      have := st.img p1.c (by rw [ec]; exact hc.lt) ⟨b1, o1, p1, g1, by rw [st.ro]; exact l1, m1, rfl⟩
      exact nomine _ this
    intro b1 b2 o1 o2 p1 p2 g1 g2 m1 m2 ec
    rcases cases' b1 o1 g1 with ⟨l1, _, k1⟩ | ⟨l1, k1⟩ <;> rcases cases' b2 o2 g2 with ⟨l2, _, k2⟩ | ⟨l2, k2⟩
    · exact st.rel.inj b1 b2 o1 o2 p1 p2 k1 k2 m1 m2 ec
    · exact (key b1 b2 o1 o2 p1 p2 l1 k1 l2 k2 m1 m2 ec).elim
    · exact (key b2 b1 o2 o1 p2 p1 l2 k2 l1 k1 m2 m1 ec.symm).elim
    · rw [hold b1 l1] at m1; rw [hold b2 l2] at m2
      exact hr.inj b1 b2 o1 o2 p1 p2 k1 k2 m1 m2 ec
  · rintro c hc ⟨b, o, pl, hg, hro, hm, rfl⟩
    rcases cases' b o hg with ⟨l1, _, k1⟩ | ⟨l1, k1⟩
    · exact (nomine _ (st.img pl.c hc ⟨b, o, pl, k1, by rw [st.ro]; exact l1, hm, rfl⟩)).elim
    · rw [hold b l1] at hm; exact ⟨b, o, pl, k1, hro, hm, rfl⟩

/-! ### What a run says -/
def callsOk (P : Program) (cls : List Nat) : Bool := (List.range cls.length).all fun g => Nat.beq (cls.getD g 0) 0 || callable P g
theorem callable_of {g : FuncId} {k : Nat} (hC : callsOk P cls = true) (h : cls.getD g 0 = k + 1) : callable P g = true := by
  simp only [callsOk, List.all_eq_true, List.mem_range, Bool.or_eq_true] at hC
  have hg : g < cls.length := by
    rcases Nat.lt_or_ge g cls.length with h1 | h1
    · exact h1
    · rw [List.getD_eq_getElem?_getD, List.getElem?_eq_none h1] at h; cases h
  rcases hC g hg with h1 | h1
  · rw [h] at h1; cases h1
  · exact h1

structure Sound (P : Program) (rec : Runs) : Prop where
  code : ∀ rd c s h e s' h', rec (.code rd c s) h = some (.ex e s', h') → T P rd c s h (fun e1 s1 h1 => e1 = e ∧ s1 = s' ∧ h1 = h')
  call : ∀ f args h v h', rec (.call f args) h = some (.val v, h') → TC P f args h (fun v1 h1 => v1 = v ∧ h1 = h')
  kind : ∀ rd c s h o h', rec (.code rd c s) h = some (o, h') → ∃ e s', o = .ex e s'
  kindc : ∀ f args h o h', rec (.call f args) h = some (o, h') → ∃ v, o = .val v

theorem callF_sound {rec : Runs} (S : Sound P rec) (hC : callsOk P cls = true) {g : FuncId} {args : List Value} {h h' : AHeap} {v : Value} (he : callF cls rec g args h = some (v, h')) :
    callable P g = true ∧ TC P g args h (fun v1 h1 => v1 = v ∧ h1 = h') := by
  unfold callF at he
  split at he
  · rename_i hk
    refine ⟨callable_of hC hk, ?_⟩
    split at he
    · rename_i v1 h1 hrec
      simp only [Option.some.injEq, Prod.mk.injEq] at he
      obtain ⟨rfl, rfl⟩ := he
      exact S.call _ _ _ _ _ hrec
    · cases he
  · rename_i hk
    refine ⟨callable_of hC hk, ?_⟩
    split at he
    · rename_i v1 h1 hrec
      obtain ⟨hsc, he⟩ := cond_some he
      simp only [Option.some.injEq, Prod.mk.injEq] at he
      obtain ⟨rfl, rfl⟩ := he
      refine ((S.call _ _ _ _ _ hrec).quiet (fun v2 h2 q => by rw [q.1]; exact hsc)).mono ?_
      rintro v2 h2 ⟨⟨h3, q1, q2⟩, rfl⟩
      exact ⟨q1, rfl⟩
    · cases he
  · rename_i hk
    refine ⟨callable_of hC hk, ?_⟩
    split at he
    · rename_i v1 h2 hrec
      simp only [Option.some.injEq, Prod.mk.injEq] at he
      obtain ⟨rfl, rfl⟩ := he
      exact (S.call _ _ _ _ _ hrec).fresh
    · cases he
  · cases he

theorem roundF_sound {rec : Runs} (S : Sound P rec) {L : Nat} {args : List Value} {h h' : AHeap} {v : Value} (he : roundF rec L args h = some (v, h')) : TY P L args h (fun v1 h1 => v1 = v ∧ h1 = h') := by
  unfold roundF at he
  split at he
  case h_2 => cases he
  rename_i A hg
  split at he
  case h_2 => cases he
  rename_i s0 hs0
  split at he
  case h_2 => cases he
  rename_i s1 h1 hrec
  split at he
  case h_2 => cases he
  rename_i A1 g1
  obtain ⟨hc, he⟩ := cond_some he
  simp only [Bool.and_eq_true] at hc
  split at he
  case h_2 => cases he
  rename_i e s2 h2 hrec2
  split at he
  case h_2 => cases he
  rename_i A2 g2
  obtain ⟨hro, he⟩ := cond_some he
  simp only [Option.some.injEq, Prod.mk.injEq] at he
  obtain ⟨rfl, rfl⟩ := he
  refine TY_of_T hg hs0 ((S.code _ _ _ _ _ _ _ hrec).mono ?_)
  rintro e1 s3 h3 ⟨rfl, rfl, rfl⟩
  refine ⟨rfl, A1, g1, ?_, Nat.le_of_ble_eq_true hc.2, (S.code _ _ _ _ _ _ _ hrec2).mono ?_⟩
  · cases hst : A1.state <;> first | rfl | (rw [hst] at hc; cases hc.1)
  · rintro e1 s3 h3 ⟨rfl, rfl, rfl⟩
    refine ⟨A2, g2, Nat.le_of_ble_eq_true hro, ?_, rfl⟩
    cases e1 <;> rfl
theorem jumpOf_exOf {p : Option Code} {e : Ex} (h : exOf p = some e) : jumpOf e = p := by
  unfold exOf at h
  split at h <;> first | (simp only [Option.some.injEq] at h; subst h; rfl) | cases h
theorem rangeF_sound {rec : Runs} (S : Sound P rec) (hC : callsOk P cls = true) {rd : Option Nat} {f : Operand} {params : Array Tmp} {as bd : Code} {s : Env} {h h' : AHeap} {e : Ex} (he : rangeF cls rec rd (aev s f) params as bd s h = some (e, h')) :
    T P rd (.rangeFunc f params as bd) s h (fun e1 s1 h1 => e1 = e ∧ s1 = s ∧ h1 = h') := by
  unfold rangeF at he
  split at he
  case h_2 => cases he
  rename_i g fa fc hf
  obtain ⟨hc, he⟩ := cond_some he
  simp only [Bool.and_eq_true] at hc
  split at he
  case h_2 => cases he
  rename_i v h1 hrec
  split at he
  case h_2 => cases he
  rename_i A hA
  obtain ⟨hb, he⟩ := cond_some he
  simp only [Bool.and_eq_true] at hb
  split at he
  case h_2 => cases he
  rename_i e1 hex
  simp only [Option.some.injEq, Prod.mk.injEq] at he
  obtain ⟨rfl, rfl⟩ := he
  refine T_rangeFunc hf (callable_of (k := 0) hC (Nat.eq_of_beq_eq_true hc.1)) ?_ ((S.call _ _ _ _ _ hrec).mono ?_)
  · rintro L rfl
    have := hc.2
    simp only at this
    split at this
    · rename_i A0 g0; exact ⟨A0, g0⟩
    · cases this
  · rintro v1 h2 ⟨rfl, rfl⟩
    refine ⟨A, hA, ?_, Nat.le_of_ble_eq_true hb.2, e1, jumpOf_exOf hex, rfl, rfl, rfl⟩
    cases hst : A.state <;> first | rfl | (rw [hst] at hb; cases hb.1)

theorem runOps_sound {rec : Runs} (S : Sound P rec) (hC : callsOk P cls = true) {ops : Array Oper} : ∀ (l : List Oper) (i : Nat) {s s' : Env} {h h' : AHeap}, ops.toList.drop i = l → runOps P cls rec ops l s h = some (s', h') →
    TO P ops (List.range' i l.length) s h (fun s1 h1 => s1 = s' ∧ h1 = h')
  | [], i, s, s', h, h', hl, he => by
    simp only [runOps, Option.some.injEq, Prod.mk.injEq] at he
    exact TO_nil ⟨he.1, he.2⟩
  | o :: os, i, s, s', h, h', hl, he => by
    have ho : ops[i]? = some o := by
      have := congrArg (fun l => l[0]?) hl
      simp only [List.getElem?_drop, List.getElem?_cons_zero] at this
      simpa using this
    have hl' : ops.toList.drop (i + 1) = os := by rw [← List.tail_drop, hl]; rfl
    rw [List.length_cons, List.range'_succ]
    simp only [runOps] at he
    cases hw : awanted ops s o with
    | false =>
      rw [hw] at he
      simp only [cond_false] at he
      split at he
      · rename_i s1 hp
        exact TO_skip ho hw hp (runOps_sound S hC os (i + 1) hl' he)
      · cases he
    | true =>
      rw [hw] at he
      simp only [cond_true] at he
      split at he
      · rename_i v h1 hev
        split at he
        · rename_i s1 hp
          have hrest := runOps_sound S hC os (i + 1) hl' he
          unfold evalOp at hev
          split at hev
          · rename_i f args ts hop
            split at hev
            · rename_i g fa fc vs hf hargs
              cases hk : Nat.beq (cls.getD g 0) 0 with
              | true =>
                rw [hk] at hev
                simp only [cond_true] at hev
                exact TO_ok ho hw (by rw [hop]; rfl) (fun ρ w a hr hs => aext_ok hop hf hargs hev hr hs) hp hrest
              | false =>
                rw [hk] at hev
                simp only [cond_false] at hev
                obtain ⟨h1c, h2c⟩ := callF_sound S hC hev
                exact TO_call ho hw hop hf hargs h1c h2c (by rintro v2 h2 ⟨rfl, rfl⟩; exact ⟨s1, hp, hrest⟩)
            · rename_i L fa fc vs hf hargs
              obtain ⟨hz, hev⟩ := cond_some hev
              simp only [Bool.and_eq_true] at hz
              obtain rfl := arr_nil hz.1
              obtain rfl := arr_nil hz.2
              exact TO_yield ho hw hop hf hargs (roundF_sound S hev) (by rintro v2 h2 ⟨rfl, rfl⟩; exact ⟨s1, hp, hrest⟩)
            · cases hev
          · exact TO_op ho hw hev hp hrest
        · cases he
      · cases he

end
end Go.Ai
