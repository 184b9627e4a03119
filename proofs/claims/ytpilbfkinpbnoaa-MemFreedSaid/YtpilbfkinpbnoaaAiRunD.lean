/-
  THE INTERPRETER IS SOUND AT A REGION THAT DRAWS ITS ORDER.
-/
import Derived.Test.YtpilbfkinpbnoaaAiFrame
set_option linter.unusedVariables false
namespace Go.Ai
noncomputable section
variable {P : Program} {cls : List Nat}

/-- What every run does to a heap's blocks. -/
def Frames (rec : Runs) : Prop := ∀ t h o h', rec t h = some (o, h') → AF h h'
def WF (h : AHeap) : Prop := ∀ b o, h.get b = some o → b < h.next
theorem WF.af {h h' : AHeap} (w : WF h) (a : AF h h') : WF h' := by
  intro b o hb
  rcases a.alive b o hb with h1 | ⟨_, h2⟩
  · obtain ⟨o', ho'⟩ : ∃ o, h.get b = some o := by cases hh : h.get b with | none => exact absurd hh h1 | some o => exact ⟨o, rfl⟩
    exact Nat.lt_of_lt_of_le (w b o' ho') a.next
  · exact h2
theorem AF.lock {h h' : AHeap} (a : AF h.lock h') : h.next ≤ h'.next ∧ ∀ b o, h'.get b = some o → h.get b ≠ none ∨ (h.next ≤ b ∧ b < h'.next) := ⟨a.next, a.alive⟩
theorem AF.graft {h h2 : AHeap} (hn : h.next ≤ h2.next) : AF h (graft h h2) := ⟨hn, rfl, fun b o hb => by
  rw [get_graft] at hb
  split at hb
  · rename_i hc; exact .inr hc
  · exact .inl (by rw [hb]; simp)⟩

/-! ### The masks -/
def MaskOk (ops : Array Oper) (ms : List Nat) : Prop := ∀ k q, (ms.getD k 0).testBit q = true → Prec ops q k
theorem maskOf_ok {ops : Array Oper} {ms : List Nat} (hm : MaskOk ops ms) {i : Nat} {o : Oper} (ho : ops[i]? = some o) {q : Nat} (h : (maskOf ms o).testBit q = true) : Prec ops q i := by
  have key : ∀ (l : List Edge) (m : Nat), (∀ e, e ∈ l → e ∈ o.after) → (l.foldl (fun m e => cond (Region.binds .any e) (m ||| (1 <<< e.on) ||| ms.getD e.on 0) m) m).testBit q = true → m.testBit q = true ∨ Prec ops q i := by
    intro l
    induction l with
    | nil => intro m _ h; exact .inl h
    | cons e l ih =>
      intro m hl h
      rw [List.foldl_cons] at h
      rcases ih _ (fun x hx => hl x (by simp [hx])) h with h1 | h1
      · cases hb : Region.binds .any e with
        | false => rw [hb] at h1; exact .inl h1
        | true =>
          rw [hb] at h1
          simp only [cond_true, Nat.testBit_or, Bool.or_eq_true] at h1
          rcases h1 with (h1 | h1) | h1
          · exact .inl h1
          · rw [Nat.testBit_shiftLeft] at h1
            simp only [Bool.and_eq_true, decide_eq_true_eq, Nat.testBit_one_eq_true_iff_self_eq_zero] at h1
            have : q = e.on := by omega
            subst this
            exact .inr (.one ho (hl e (by simp)) hb)
          · exact .inr (.more ho (hl e (by simp)) hb (hm _ _ h1))
      · exact .inr h1
  rcases key o.after.toList 0 (fun e he => by simpa using he) h with h1 | h1
  · simp at h1
  · exact h1
theorem maskOk_snoc {ops : Array Oper} {ms : List Nat} (hm : MaskOk ops ms) {i : Nat} (hl : ms.length = i) {o : Oper} (ho : ops[i]? = some o) : MaskOk ops (ms ++ [maskOf ms o]) := by
  intro k q h
  rcases Nat.lt_trichotomy k i with hk | hk | hk
  · rw [List.getD_eq_getElem?_getD, List.getElem?_append_left (by omega), ← List.getD_eq_getElem?_getD] at h
    exact hm k q h
  · subst hk
    rw [List.getD_eq_getElem?_getD, List.getElem?_append_right (by omega), hl] at h
    simp at h
    exact maskOf_ok hm ho h
  · rw [List.getD_eq_getElem?_getD, List.getElem?_eq_none (by simp; omega)] at h
    simp at h

/-! ### A record more -/
theorem lastR_snoc (A : List DRec) (r : DRec) (p : DRec → Bool) : lastR (A ++ [r]) p = if p r = true then some r else lastR A p := by
  simp only [lastR, List.filter_append, List.filter_cons, List.filter_nil]
  by_cases h : p r = true
  · simp [h]
  · simp [h]
theorem envV_snoc (A : List DRec) (r : DRec) (s0 : Env) (t : Nat) : envV (A ++ [r]) s0 t = if r.o.dst = some t then r.v else envV A s0 t := by
  simp only [envV, lastR_snoc, wrs, decide_eq_true_eq]
  by_cases h : r.o.dst = some t <;> simp [h]
theorem hpV_snoc (A : List DRec) (r : DRec) (h0 : AHeap) (b : Nat) : hpV (A ++ [r]) h0 b = if r.tc b = true then r.g'.get b else hpV A h0 b := by
  simp only [hpV, lastR_snoc]
  by_cases h : r.tc b = true <;> simp [h]

/-- What a record's lists say. -/
structure FOk (y : FRec) : Prop where
  tc : y.all = false → ∀ b, y.r.tc b = true ↔ b ∈ y.tcl
  lt : ∀ b, y.all = true → y.r.tc b = true → True
  light : y.light = true → (∀ b, y.r.rd b = false) ∧ ∀ b, y.r.tc b = false
  ex : y.ex = true → ∀ b, y.r.rd b = true → b ∈ y.rdl
theorem free_of {ops : Array Oper} {x y : FRec} (hx : FOk x) (hy : FOk y) (hs : slotsFree ops x.r.o y.r.o = true) (h : y.light = true ∨ heapFree x y = true) : Free ops x.r y.r := by
  simp only [slotsFree, Bool.and_eq_true] at hs
  obtain ⟨h1, h2⟩ := hs
  have hd1 : ∀ d, x.r.o.dst = some d → d ∉ y.r.o.looksAt ops ∧ y.r.o.dst ≠ some d := by
    intro d hd
    rw [hd] at h1
    simp only [Bool.and_eq_true, Bool.not_eq_true', decide_eq_false_iff_not, List.contains_eq_mem] at h1
    exact ⟨h1.1, h1.2⟩
  have hd2 : ∀ d, y.r.o.dst = some d → d ∉ x.r.o.looksAt ops := by
    intro d hd
    rw [hd] at h2
    simp only [Bool.not_eq_true', decide_eq_false_iff_not, List.contains_eq_mem] at h2
    exact h2
  rcases h with hl | h
  · obtain ⟨l1, l2⟩ := hy.light hl
    exact ⟨hd1, hd2, fun b _ => ⟨l1 b, l2 b⟩, fun b hb => by rw [l2 b] at hb; cases hb⟩
  simp only [heapFree, Bool.and_eq_true] at h
  obtain ⟨h3, h4⟩ := h
  refine ⟨hd1, hd2, ?_, ?_⟩
  · intro b hb
    cases ha : x.all with
    | true =>
      rw [ha] at h3
      simp only [cond_true, Bool.or_eq_true, Bool.and_eq_true, Bool.not_eq_true', List.all_eq_true] at h3
      rcases h3 with h3 | ⟨⟨⟨h3, h5⟩, h6⟩, h7⟩
      · exact ⟨(hy.light h3).1 b, (hy.light h3).2 b⟩
      · refine ⟨?_, ?_⟩
        · cases hr : y.r.rd b with
          | false => rfl
          | true => have := h6 b (hy.ex h3 b hr); rw [hb] at this; cases this
        · cases hr : y.r.tc b with
          | false => rfl
          | true => have := h7 b ((hy.tc h5 b).1 hr); rw [hb] at this; cases this
    | false =>
      rw [ha] at h3
      simp only [cond_false, List.all_eq_true, Bool.and_eq_true, Bool.not_eq_true'] at h3
      exact h3 b ((hx.tc ha b).1 hb)
  · intro b hb
    cases ha : y.all with
    | true =>
      rw [ha] at h4
      simp only [cond_true, Bool.or_eq_true, Bool.and_eq_true, Bool.not_eq_true', List.all_eq_true] at h4
      rcases h4 with h4 | ⟨h4, h5⟩
      · exact (hx.light h4).1 b
      · cases hr : x.r.rd b with
        | false => rfl
        | true => have := h5 b (hx.ex h4 b hr); rw [hb] at this; cases this
    | false =>
      rw [ha] at h4
      simp only [cond_false, List.all_eq_true, Bool.not_eq_true'] at h4
      exact h4 b ((hy.tc ha b).1 hb)

/-- What is so before an operation, and with it behind. -/
structure Sofar (P : Program) (ops : Array Oper) (s0 : Env) (h0 : AHeap) (A : List DRec) (i : Nat) (s : Env) (h : AHeap) : Prop where
  js : A.map (·.j) = List.range i
  env : ∀ t, s.get t = envV A s0 t
  size : s.size = s0.size
  heap : ∀ b, h.get b = hpV A h0 b
  ro : h.ro = h0.ro
  next : h0.next ≤ h.next
  nA : ∀ x, x ∈ A → x.g'.next ≤ h.next
  wf : WF h
  told : ∀ A1 r A2, A = A1 ++ r :: A2 → Told P ops s0 h0 A1 r
  edges : ∀ A1 r A2, A = A1 ++ r :: A2 → ∀ e, e ∈ r.o.after → Region.binds .any e = true → ∃ x, x ∈ A1 ∧ x.j = e.on
  apart : ∀ A1 x A2 y A3, A = A1 ++ x :: (A2 ++ y :: A3) → Prec ops x.j y.j ∨ Free ops x y

/-- The operation's record fits, and what stands behind it. -/
theorem drawOp_ok {rec : Runs} (S : Sound P rec) (hF : Frames rec) (hC : callsOk P cls = true) {ops : Array Oper} {s0 : Env} {h0 : AHeap} {A : List DRec} {recs : List FRec} {i mask : Nat} {o : Oper} {os : List Oper} {s : Env} {h h1 : AHeap} {y : FRec}
    (F : Sofar P ops s0 h0 A i s h) (ho : ops[i]? = some o) (hput : ∀ d, o.dst = some d → d < s.size) (he : drawOp P cls rec ops recs mask i os o s h = some (y, h1)) :
    y.r.j = i ∧ y.r.o = o ∧ FOk y ∧ Told P ops s0 h0 A y.r ∧ (∀ b, h1.get b = if y.r.tc b = true then y.r.g'.get b else h.get b) ∧ h1.ro = h.ro ∧ h.next ≤ h1.next ∧ y.r.g'.next ≤ h1.next ∧ WF h1 := by
  unfold drawOp at he
  cases hw : awanted ops s o with
  | false =>
    rw [hw] at he
    simp only [cond_false, Option.some.injEq, Prod.mk.injEq] at he
    obtain ⟨rfl, rfl⟩ := he
    refine ⟨rfl, rfl, ⟨fun _ b => by simp, fun _ _ _ => trivial, fun _ => ⟨fun _ => rfl, fun _ => rfl⟩, fun _ b hb => (by cases hb)⟩, ⟨ho, F.env, F.size, fun b => by rw [get_pick]; simp, F.ro, F.next, F.nA, Nat.le_refl _, .inl ⟨hw, rfl, rfl⟩, fun d hd => by rw [← F.size]; exact hput d hd, fun b hb => (by cases hb), fun b _ => rfl, fun b o' hb => (by cases hb)⟩, fun b => by simp, rfl, Nat.le_refl _, Nat.le_refl _, F.wf⟩
  | true =>
    rw [hw] at he
    simp only [cond_true] at he
    split at he
    · -- a call
      rename_i f args ts hop
      split at he
      case h_2 => cases he
      rename_i g fa fc vs hf hargs
      split at he
      · -- any
        rename_i hk
        have hlt : ∀ b, b ∈ (((recs.flatMap fun x => cond (mask.testBit x.r.j) [] (x.tcl ++ x.rdl)) ++ aheadOf s ((o :: os).filterMap (·.dst)) os (i + 1) (1 <<< i)).filter fun b => Nat.blt b h.next) → b < h.next := fun b hb => by
          simpa [Nat.blt_eq] using (List.mem_filter.1 hb).2
        generalize (((recs.flatMap fun x => cond (mask.testBit x.r.j) [] (x.tcl ++ x.rdl)) ++ aheadOf s ((o :: os).filterMap (·.dst)) os (i + 1) (1 <<< i)).filter fun b => Nat.blt b h.next) = hid at *
        split at he
        case h_2 => cases he
        rename_i v h' hrec
        simp only [Option.some.injEq, Prod.mk.injEq] at he
        obtain ⟨rfl, rfl⟩ := he
        have af := hF _ _ _ _ hrec
        have hwfh : WF (h.hide hid) := fun b o' hb => by
          rw [get_hide] at hb
          split at hb
          · cases hb
          · exact F.wf b o' hb
        have hwf := hwfh.af af
        have hn : h.next ≤ h'.next := af.next
        have hgone : ∀ b, b ∈ hid → h'.get b = none := by
          intro b hb
          cases hh : h'.get b with
          | none => rfl
          | some o' =>
            rcases af.alive b o' hh with h2 | ⟨h2, _⟩
            · rw [get_hide, if_pos hb] at h2; exact absurd rfl h2
            · have : h.next ≤ b := h2
              have := hlt b hb; omega
        have hbeyond : ∀ b, ¬ b < h'.next → h'.get b = none ∧ h.get b = none := by
          intro b hb
          refine ⟨?_, ?_⟩
          · cases hh : h'.get b with | none => rfl | some o' => exact absurd (hwf b o' hh) hb
          · cases hh : h.get b with | none => rfl | some o' => exact absurd (Nat.lt_of_lt_of_le (F.wf b o' hh) hn) hb
        refine ⟨rfl, rfl, ⟨fun ha => (by cases ha), fun _ _ _ => trivial, fun hl => (by cases hl), fun hl => (by cases hl)⟩, ⟨ho, F.env, F.size, fun b => ?_, F.ro, F.next, F.nA, hn, .inr ⟨hw, .inr (.inl ⟨f, args, ts, g, fa, fc, vs, hop, hf, hargs, callable_of hC hk, S.call _ _ _ _ _ hrec⟩)⟩, fun d hd => by rw [← F.size]; exact hput d hd, fun b hb => ?_, fun b hb => ?_, fun b o' _ hlt2 hb => ?_⟩, fun b => ?_, af.ro, hn, Nat.le_refl _, ?_⟩
        · rw [get_hide]
          simp only [Bool.and_eq_true, Nat.blt_eq, Bool.not_eq_true', List.contains_eq_mem, decide_eq_false_iff_not]
          by_cases hm : b ∈ hid
          · rw [if_pos hm, if_neg (fun hc => hc.2 hm)]
          · rw [if_neg hm]
            by_cases hb : b < h.next
            · rw [if_pos ⟨hb, hm⟩]; exact F.heap b
            · rw [if_neg (fun hc => hb hc.1)]
              cases hh : h.get b with
              | none => rfl
              | some o' => exact absurd (F.wf b o' hh) hb
        · simp only [Bool.and_eq_true, Nat.blt_eq, Bool.not_eq_true', List.contains_eq_mem, decide_eq_false_iff_not] at hb ⊢
          by_cases hb2 : b < h.next
          · exact .inl ⟨hb2, hb.2⟩
          · exact .inr ⟨Nat.le_of_not_lt hb2, hb.1⟩
        · show h'.get b = (h.hide hid).get b
          rw [get_hide]
          by_cases hm : b ∈ hid
          · rw [if_pos hm, hgone b hm]
          · rw [if_neg hm]
            have hb' : ¬ b < h'.next := by
              intro hc
              have h3 : (Nat.blt b h'.next && !hid.contains b) = true := by simpa [Nat.blt_eq] using ⟨hc, hm⟩
              exact Bool.false_ne_true ((show (Nat.blt b h'.next && !hid.contains b) = false from hb).symm.trans h3)
            rw [(hbeyond b hb').1, (hbeyond b hb').2]
        · rcases af.alive b o' hb with h2 | ⟨h2, _⟩
          · exact h2
          · exact absurd hlt2 (by show ¬ b < (h.hide hid).next; omega)
        · rw [get_unhide]
          simp only [Bool.and_eq_true, Nat.blt_eq, Bool.not_eq_true', List.contains_eq_mem, decide_eq_false_iff_not]
          by_cases hm : b ∈ hid
          · rw [if_pos hm, if_neg (fun hc => hc.2 hm)]
          · rw [if_neg hm]
            by_cases hb : b < h'.next
            · rw [if_pos ⟨hb, hm⟩]
            · rw [if_neg (fun hc => hb hc.1), (hbeyond b hb).1, (hbeyond b hb).2]
        · intro b o' hb
          rw [get_unhide] at hb
          show b < h'.next
          split at hb
          · exact Nat.lt_of_lt_of_le (F.wf b o' hb) hn
          · exact hwf b o' hb
      · -- quiet
        rename_i hk
        split at he
        case h_2 => cases he
        rename_i v h2 hrec
        obtain ⟨hsc, he⟩ := cond_some he
        simp only [Option.some.injEq, Prod.mk.injEq] at he
        obtain ⟨rfl, rfl⟩ := he
        generalize (recs.flatMap fun x => cond (mask.testBit x.r.j) [] x.tcl) = hid at *
        have hq : TC P g (fa.toList ++ vs ++ fc.toList) (h.hide hid) (fun v1 h1 => v1 = v ∧ h1 = h.hide hid) :=
          ((S.call _ _ _ _ _ hrec).quiet (fun v2 h2 q => by rw [q.1]; exact hsc)).mono (by rintro v2 h3 ⟨⟨h4, q1, q2⟩, rfl⟩; exact ⟨q1, rfl⟩)
        refine ⟨rfl, rfl, ⟨fun _ b => by simp, fun _ _ _ => trivial, fun hl => (by cases hl), fun hl => (by cases hl)⟩, ⟨ho, F.env, F.size, fun b => ?_, F.ro, F.next, F.nA, Nat.le_refl _, .inr ⟨hw, .inr (.inl ⟨f, args, ts, g, fa, fc, vs, hop, hf, hargs, callable_of hC hk, hq⟩)⟩, fun d hd => by rw [← F.size]; exact hput d hd, fun b hb => (by cases hb), fun b _ => rfl, fun b o' hb => (by cases hb)⟩, fun b => by simp, rfl, Nat.le_refl _, Nat.le_refl _, F.wf⟩
        rw [get_hide]
        simp only [Bool.and_eq_true, Nat.blt_eq, Bool.not_eq_true', List.contains_eq_mem, decide_eq_false_iff_not]
        by_cases hm : b ∈ hid
        · rw [if_pos hm, if_neg (fun hc => hc.2 hm)]
        · rw [if_neg hm]
          by_cases hb : b < h.next
          · rw [if_pos ⟨hb, hm⟩]; exact F.heap b
          · rw [if_neg (fun hc => hb hc.1)]
            cases hh : h.get b with
            | none => rfl
            | some o' => exact absurd (F.wf b o' hh) hb
      · -- it lays blocks
        rename_i hk
        split at he
        case h_2 => cases he
        rename_i v h2 hrec
        simp only [Option.some.injEq, Prod.mk.injEq] at he
        obtain ⟨rfl, rfl⟩ := he
        generalize (recs.flatMap fun x => cond (mask.testBit x.r.j) [] x.tcl) = hid at *
        have af := (hF _ _ _ _ hrec).lock
        have hn : h.next ≤ h2.next := af.1
        refine ⟨rfl, rfl, ⟨fun _ b => by simp, fun _ _ _ => trivial, fun hl => (by cases hl), fun hl => (by cases hl)⟩, ⟨ho, F.env, F.size, fun b => ?_, F.ro, F.next, F.nA, hn, .inr ⟨hw, .inr (.inl ⟨f, args, ts, g, fa, fc, vs, hop, hf, hargs, callable_of hC hk, (S.call _ _ _ _ _ hrec).fresh⟩)⟩, fun d hd => by rw [← F.size]; exact hput d hd, fun b hb => ?_, fun b hb => ?_, fun b o' hb hlt _ => ?_⟩, fun b => ?_, rfl, hn, Nat.le_refl _, F.wf.af (.graft hn)⟩
        · rw [get_hide]
          simp only [Bool.and_eq_true, Nat.blt_eq, Bool.not_eq_true', List.contains_eq_mem, decide_eq_false_iff_not]
          by_cases hm : b ∈ hid
          · rw [if_pos hm, if_neg (fun hc => hc.2 hm)]
          · rw [if_neg hm]
            by_cases hb : b < h.next
            · rw [if_pos ⟨hb, hm⟩]; exact F.heap b
            · rw [if_neg (fun hc => hb hc.1)]
              cases hh : h.get b with
              | none => rfl
              | some o' => exact absurd (F.wf b o' hh) hb
        · simp only [List.contains_eq_mem, decide_eq_true_eq, mem_new] at hb
          exact .inr hb
        · simp only [List.contains_eq_mem, decide_eq_false_iff_not, mem_new] at hb
          simp only [get_graft]
          rw [if_neg (show ¬((h.hide hid).next ≤ b ∧ b < h2.next) from hb)]
        · simp only [List.contains_eq_mem, decide_eq_true_eq, mem_new] at hb
          exact absurd hlt (by show ¬ b < h.next; omega)
        · simp only [List.contains_eq_mem, decide_eq_true_eq, mem_new, get_graft]
          by_cases hb : h.next ≤ b ∧ b < h2.next
          · rw [if_pos hb, if_pos hb, if_pos (show (h.hide hid).next ≤ b ∧ b < h2.next from hb)]
          · rw [if_neg hb, if_neg hb]
      · -- a function without a body
        split at he
        case h_2 => cases he
        rename_i v g' hop2
        simp only [Option.some.injEq, Prod.mk.injEq] at he
        obtain ⟨rfl, rfl⟩ := he
        have still := aext_still hop2
        have af := still.af
        have hn : h.next ≤ g'.next := af.next
        have hro : g'.ro = h.ro := af.ro
        refine ⟨rfl, rfl, ⟨fun _ b => by simp, fun _ _ _ => trivial, fun hl => ?_, fun _ b hb => (by cases hb)⟩, ⟨ho, F.env, F.size, fun b => by rw [get_pick]; simp, F.ro, F.next, F.nA, hn, .inr ⟨hw, .inr (.inr ⟨f, args, ts, g, fa, fc, vs, hop, hf, hargs, hop2⟩)⟩, fun d hd => by rw [← F.size]; exact hput d hd, fun b hb => ?_, fun b hb => ?_, fun b o' hb hlt hg => ?_⟩, fun b => ?_, rfl, hn, Nat.le_refl _, ?_⟩
        · simp only [List.isEmpty_iff] at hl
          refine ⟨fun b => rfl, fun b => ?_⟩
          show (List.range' h.next (g'.next - h.next)).contains b = false
          rw [hl]; rfl
        · simp only [List.contains_eq_mem, decide_eq_true_eq, mem_new] at hb
          exact .inr hb
        · simp only [List.contains_eq_mem, decide_eq_false_iff_not, mem_new] at hb
          rcases still with e | ⟨ob, e⟩
          · rw [e]
          · rw [e, AHeap.get_push]
            split
            · rename_i eb
              exact absurd ⟨by rw [eb]; exact Nat.le_refl _, by rw [eb, e]; exact Nat.lt_succ_self _⟩ hb
            · rfl
        · simp only [List.contains_eq_mem, decide_eq_true_eq, mem_new] at hb
          exact absurd hlt (by show ¬ b < h.next; omega)
        · rw [get_mend]
          simp only [List.contains_eq_mem, decide_eq_true_eq]
        · intro b o' hb
          rw [get_mend] at hb
          split at hb
          · rename_i hm
            exact (mem_new.1 hm).2
          · exact Nat.lt_of_lt_of_le (F.wf b o' hb) hn
    · -- an operation by itself
      rename_i hnc
      split at he
      case h_2 => cases he
      rename_i v g' hop
      simp only [Option.some.injEq, Prod.mk.injEq] at he
      obtain ⟨rfl, rfl⟩ := he
      obtain ⟨af, still⟩ := aop_parts hop
      generalize hbs : opBlks s o h = bs at *
      have hn : h.next ≤ g'.next := af.next
      have hmemtc : ∀ b, b ∈ (cond (isWrite o.op) (bs ++ List.range' h.next (g'.next - h.next)) (List.range' h.next (g'.next - h.next))) ↔ (isWrite o.op = true ∧ b ∈ bs) ∨ (h.next ≤ b ∧ b < g'.next) := by
        intro b
        cases isWrite o.op with
        | true => simp only [cond_true, List.mem_append, mem_new, true_and]
        | false => simp only [cond_false, mem_new, Bool.false_eq_true, false_and, false_or]
      generalize htcl : (cond (isWrite o.op) (bs ++ List.range' h.next (g'.next - h.next)) (List.range' h.next (g'.next - h.next))) = tcl at *
      have hnew : ∀ b, ¬ (h.next ≤ b ∧ b < g'.next) → b ∉ bs ∨ isWrite o.op = false → g'.get b = (h.pick bs).get b := by
        intro b hb hor
        cases hwr : isWrite o.op with
        | false =>
          rcases still hwr with e | ⟨ob, e⟩
          · rw [e]
          · rw [e, AHeap.get_push]
            split
            · rename_i eb
              exact absurd ⟨by rw [eb]; exact Nat.le_refl _, by rw [eb, e]; exact Nat.lt_succ_self _⟩ hb
            · rfl
        | true =>
          rcases hor with hor | hor
          · have e0 : (h.pick bs).get b = none := by rw [get_pick, if_neg hor]
            rw [e0]
            cases hh : g'.get b with
            | none => rfl
            | some o' =>
              rcases af.alive b o' hh with h2 | h2
              · exact absurd e0 h2
              · exact absurd h2 hb
          · rw [hwr] at hor; cases hor
      have hro : g'.ro = h.ro := af.ro
      refine ⟨rfl, rfl, ⟨fun _ b => by simp, fun _ _ _ => trivial, fun hl => ?_, fun _ b hb => by simpa using hb⟩, ⟨ho, F.env, F.size, fun b => ?_, F.ro, F.next, F.nA, hn, .inr ⟨hw, .inl hop⟩, fun d hd => by rw [← F.size]; exact hput d hd, fun b hb => ?_, fun b hb => ?_, fun b o' hb hlt hg => ?_⟩, fun b => ?_, rfl, hn, Nat.le_refl _, ?_⟩
      · simp only [Bool.and_eq_true, List.isEmpty_iff] at hl
        obtain ⟨e1, e2⟩ := hl
        subst e1 e2
        exact ⟨fun b => rfl, fun b => rfl⟩
      · rw [get_pick]
        simp only [List.contains_eq_mem, decide_eq_true_eq]
        split
        · exact F.heap b
        · rfl
      · simp only [List.contains_eq_mem, decide_eq_true_eq] at hb ⊢
        rcases (hmemtc b).1 hb with h2 | h2
        · exact .inl h2.2
        · exact .inr h2
      · simp only [List.contains_eq_mem, decide_eq_false_iff_not] at hb
        have hb2 := fun hc => hb ((hmemtc b).2 hc)
        refine hnew b (fun hc => hb2 (.inr hc)) ?_
        cases hwr : isWrite o.op with
        | false => exact .inr rfl
        | true => exact .inl (fun hc => hb2 (.inl ⟨hwr, hc⟩))
      · rcases af.alive b o' hg with h2 | ⟨h2, _⟩
        · exact h2
        · exact absurd hlt (by show ¬ b < (h.pick bs).next; omega)
      · rw [get_mend]
        simp only [List.contains_eq_mem, decide_eq_true_eq]
      · intro b o' hb
        rw [get_mend] at hb
        split at hb
        · rcases af.alive b o' hb with h2 | ⟨_, h2⟩
          · rw [get_pick] at h2
            split at h2
            · obtain ⟨o2, ho2⟩ : ∃ o, h.get b = some o := by cases hh : h.get b with | none => exact absurd hh h2 | some o => exact ⟨o, rfl⟩
              exact Nat.lt_of_lt_of_le (F.wf b o2 ho2) hn
            · exact absurd rfl h2
          · exact h2
        · exact Nat.lt_of_lt_of_le (F.wf b o' hb) hn

end
end Go.Ai
