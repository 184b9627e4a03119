/-
  WHAT IS ASKED OF A PIECE OF CODE, 8: the order that is told of a region with appends of its own.
-/
import Derived.Test.YtogpghbigjnpnaaDoorAiWpV2
set_option linter.unusedVariables false
namespace Go.Ai
noncomputable section
variable {P : Program}
section
variable {q : FuncId → Nat} {ops : Array Oper} {s0 : Env} {h0 : AHeap} {A : List DRec} {i : Nat} {o : Oper} {s : Env} {h : AHeap}
theorem get_setS (h : AHeap) (v : Value) (h' : AHeap) (b : Nat) : (setS h v h').get b = h.get b ∨ ((∃ a n c, v = .slice (some a) n c ∧ b = a.block) ∧ (setS h v h').get b = h'.get b) := by
  unfold setS
  split
  · rename_i a n c
    rw [AHeap.get_set]
    by_cases e : b = a.block
    · rw [if_pos e]; exact .inr ⟨⟨a, n, c, rfl, e⟩, by rw [e]⟩
    · rw [if_neg e]; exact .inl rfl
  · exact .inl rfl
theorem next_setS (h : AHeap) (v : Value) (h' : AHeap) : (setS h v h').next = h.next := by unfold setS; split <;> rfl
theorem ro_setS (h : AHeap) (v : Value) (h' : AHeap) : (setS h v h').ro = h.ro := by unfold setS; split <;> rfl
def blkIs (v : Value) (b : Nat) : Bool := match v with
  | .slice (some a) _ _ => Nat.beq a.block b
  | _ => false
theorem blkIs_iff {v : Value} {b : Nat} : blkIs v b = true ↔ ∃ a n c, v = .slice (some a) n c ∧ b = a.block := by
  unfold blkIs
  split
  · rename_i a n c
    rw [Nat.beq_eq]
    constructor
    · intro e; exact ⟨a, n, c, rfl, e.symm⟩
    · rintro ⟨a', n', c', e1, e2⟩; cases e1; exact e2.symm
  · rename_i hn
    constructor
    · intro e; cases e
    · rintro ⟨a', n', c', e1, e2⟩; exact absurd e1 (hn a' n' c')
/-- An append onto a slice of the region's own. -/
theorem nextV_app (F : Sofar P ops s0 h0 A i s h) (ho : ops[i]? = some o) (hput : ∀ d, o.dst = some d → d < s.size) (hk : kindV P q ops o = 4) {m : Nat} {v u : Value} {g' : AHeap} {z : DRec} (hz : z ∈ A) (hzl : layer (kindV P q ops z.o) = true) (hzo : zOf ops o = some z.j)
    (hown : ownS v z.g.next z.g'.next (viewV m (alV P q ops A) h)) (fx : AppFx (viewV m (alV P q ops A) h) v g') (hs : OpSem P ops s o (viewV m (alV P q ops A) h) u g') : ∃ y, NextV P q ops s0 h0 A i o s h u (graft (setS h v g') g') m y := by
  obtain ⟨v1, v2, v3⟩ := viewV_facts m (alV P q ops A) h
  generalize hG : viewV m (alV P q ops A) h = g at *
  have hn : h.next ≤ g'.next := by rw [← v1]; exact fx.next
  have hzn : z.g'.next ≤ h.next := F.nA z hz
  have hsee : ∀ b, g.get b = if eyes m (alV P q ops A) h b = true then hpV A h0 b else none := fun b => by rw [← hG]; exact view_eyes F b
  have htc : ∀ b, ((decide (h.next ≤ b ∧ b < g'.next) || blkIs v b) = true) ↔ ((h.next ≤ b ∧ b < g'.next) ∨ ∃ a n c, v = .slice (some a) n c ∧ b = a.block) := fun b => by rw [Bool.or_eq_true, decide_eq_true_eq, blkIs_iff]
  have hblk : ∀ b, (∃ a n c, v = .slice (some a) n c ∧ b = a.block) → z.g.next ≤ b ∧ b < z.g'.next ∧ g.get b ≠ none := by
    rintro b ⟨a, n, c, rfl, rfl⟩
    exact hown
  refine ⟨⟨i, o, u, s, g, g', eyes m (alV P q ops A) h, fun b => decide (h.next ≤ b ∧ b < g'.next) || blkIs v b⟩, rfl, rfl, rfl, rfl, v1,
    ⟨ho, F.env, F.size, hsee, v2.trans F.ro, by rw [v1]; exact F.next, fun x hx => by rw [v1]; exact F.nA x hx, fx.next, hs, fun d hd => by rw [← F.size]; exact hput d hd, fun b hb => ?_, fun b hb => ?_, fun b o' hb hlt hg => fx.gone b o' hlt hg⟩,
    ⟨fun b hb => by show b < g.next; rw [v1]; exact eyes_lt hb, fun e => by simp only at e; omega, fun e => by simp only at e; omega, fun _ b hb z hz hl hm => eyes_not hb hz hl hm, fun _ b hb => ?_, fun _ b hb z hz hl hm => eyes_not7 hb hz hl hm, fun e => absurd (hk.symm.trans e) (by decide)⟩, fun b => ?_, ?_, hn, Nat.le_refl _, fun _ => rfl, fun b o' hb => ?_⟩
  · rcases (htc b).1 hb with e | e
    · exact .inr (by show g.next ≤ b ∧ b < g'.next; rw [v1]; exact e)
    · refine .inl ?_
      show eyes m (alV P q ops A) h b = true
      cases he : eyes m (alV P q ops A) h b with
      | true => rfl
      | false => exact absurd (by rw [hsee, he]; rfl) (hblk b e).2.2
  · have hb : (decide (h.next ≤ b ∧ b < g'.next) || blkIs v b) = false := hb
    refine fx.same b (fun e => ?_) (fun a n c e1 e2 => ?_)
    · rw [(htc b).2 (.inl (by rw [← v1]; exact e))] at hb; cases hb
    · rw [(htc b).2 (.inr ⟨a, n, c, e1, e2⟩)] at hb; cases hb
  · rcases (htc b).1 hb with e | e
    · exact .inl (by show g.next ≤ b ∧ b < g'.next; rw [v1]; exact e)
    · exact .inr (.inl ⟨hk, z, hz, hzl, hzo, (hblk b e).1, (hblk b e).2.1⟩)
  · show (graft (setS h v g') g').get b = if (decide (h.next ≤ b ∧ b < g'.next) || blkIs v b) = true then g'.get b else h.get b
    rw [get_graft, next_setS]
    by_cases e : h.next ≤ b ∧ b < g'.next
    · rw [if_pos e, if_pos ((htc b).2 (.inl e))]
    · rw [if_neg e]
      by_cases e2 : ∃ a n c, v = .slice (some a) n c ∧ b = a.block
      · rw [if_pos ((htc b).2 (.inr e2))]
        obtain ⟨a, n, c, rfl, rfl⟩ := e2
        unfold setS
        rw [AHeap.get_set, if_pos rfl]
      · rw [if_neg (fun t => by rcases (htc b).1 t with t | t; exact e t; exact e2 t)]
        rcases get_setS h v g' b with t | ⟨t, _⟩
        · exact t
        · exact absurd t e2
  · show (setS h v g').ro = h.ro
    exact ro_setS h v g'
  · show b < g'.next
    rw [get_graft, next_setS] at hb
    split at hb
    · rename_i e; exact e.2
    · rcases get_setS h v g' b with t | ⟨t, _⟩
      · rw [t] at hb; exact Nat.lt_of_lt_of_le (F.wf b o' hb) hn
      · have := hblk b t
        omega
/-- An append onto a slice that is not the region's own. -/
theorem nextV_app7 (F : Sofar P ops s0 h0 A i s h) (ho : ops[i]? = some o) (hput : ∀ d, o.dst = some d → d < s.size) (hk : kindV P q ops o = 7) (m : Nat) {v u : Value} {h1 : AHeap} (hv : val0 s o = v) (fx : AppFx h v h1) (hs : OpSem P ops s o h u h1) : ∃ y, NextV P q ops s0 h0 A i o s h u h1 m y := by
  have hn := fx.next
  have hwf : WF h1 := fx.wf F.wf
  have htc : ∀ b, ((decide (h.next ≤ b ∧ b < h1.next) || (blkIs v b && Nat.blt b h.next)) = true) ↔ ((h.next ≤ b ∧ b < h1.next) ∨ ((∃ a n c, v = .slice (some a) n c ∧ b = a.block) ∧ b < h.next)) := fun b => by rw [Bool.or_eq_true, decide_eq_true_eq, Bool.and_eq_true, blkIs_iff, Nat.blt_eq]
  have hsame : ∀ b, ¬ (decide (h.next ≤ b ∧ b < h1.next) || (blkIs v b && Nat.blt b h.next)) = true → h1.get b = h.get b := fun b hb => by
    have hb1 : ¬ (h.next ≤ b ∧ b < h1.next) := fun e => hb ((htc b).2 (.inl e))
    by_cases e2 : ∃ a n c, v = .slice (some a) n c ∧ b = a.block
    · have : ¬ b < h.next := fun e => hb ((htc b).2 (.inr ⟨e2, e⟩))
      rw [wf_hid F.wf this, wf_hid hwf (by omega)]
    · exact fx.same b hb1 (fun a n c e1 e3 => e2 ⟨a, n, c, e1, e3⟩)
  refine ⟨⟨i, o, u, s, h, h1, fun b => Nat.blt b h.next, fun b => decide (h.next ≤ b ∧ b < h1.next) || (blkIs v b && Nat.blt b h.next)⟩, rfl, rfl, rfl, rfl, rfl,
    ⟨ho, F.env, F.size, fun b => ?_, F.ro, F.next, F.nA, hn, hs, fun d hd => by rw [← F.size]; exact hput d hd, fun b hb => ?_, fun b hb => hsame b (fun e => by
      have hb : (decide (h.next ≤ b ∧ b < h1.next) || (blkIs v b && Nat.blt b h.next)) = false := hb
      rw [hb] at e; cases e), fun b o' hb hlt hg => fx.gone b o' hlt hg⟩,
    ⟨fun b hb => by rwa [Nat.blt_eq] at hb, fun e => by simp only at e; omega, fun e => by simp only at e; omega, fun e => (by simp only [hk] at e; cases e), fun _ b hb => ?_, fun e => (by simp only [hk] at e; cases e), fun e => absurd (hk.symm.trans e) (by decide)⟩, fun b => ?_, fx.ro, hn, Nat.le_refl _, fun _ => rfl, hwf⟩
  · show h.get b = if Nat.blt b h.next = true then hpV A h0 b else none
    by_cases hb : b < h.next
    · rw [if_pos (by rw [Nat.blt_eq]; exact hb), F.heap]
    · rw [if_neg (fun e => hb (by rwa [Nat.blt_eq] at e)), wf_hid F.wf hb]
  · rcases (htc b).1 hb with e | ⟨_, e⟩
    · exact .inr e
    · exact .inl (by show Nat.blt b h.next = true; rw [Nat.blt_eq]; exact e)
  · rcases (htc b).1 hb with e | ⟨e, e2⟩
    · exact .inl e
    · refine .inr (.inr ⟨hk, e2, ?_⟩)
      show blkF (val0 s o) ≤ b ∧ b < blkT (val0 s o)
      rw [hv]; exact (blk_iff v b).2 e
  · show h1.get b = if (decide (h.next ≤ b ∧ b < h1.next) || (blkIs v b && Nat.blt b h.next)) = true then h1.get b else h.get b
    split
    · rfl
    · rename_i e; exact hsame b e
/-- An operation that lays a block does so on any heap. -/
theorem lay_any {u : Value} {h' : AHeap} (hk : kindV P q ops o = 5) (he : aop P s o h = some (u, h')) : ∃ ob, h' = h.push ob ∧ aop P s o (h.pick []) = some (u, (h.pick []).push ob) := by
  have hcv : ∀ a b x, o.op ≠ .convert a b x := fun a b x e => by
    unfold kindV at hk
    simp only [e] at hk
    cases hn : numC P a b <;> cases ht : textC P b <;> (rw [hn, ht] at hk; exact absurd hk (by decide))
  unfold kindV at hk
  unfold aop at he ⊢
  split at he <;> rename_i hop <;> simp only [hop] at hk ⊢ <;> first
    | (cases hk; done)
    | (exact absurd hop (hcv _ _ _))
    | (cases he; done)
    | skip
  · split at he
    · simp only [Option.some.injEq, newb, Prod.mk.injEq] at he; obtain ⟨rfl, rfl⟩ := he; exact ⟨_, rfl, rfl⟩
    · cases he
  · split at he
    · simp only [Option.some.injEq, newb, Prod.mk.injEq] at he; obtain ⟨rfl, rfl⟩ := he; exact ⟨_, rfl, rfl⟩
    · cases he
  · split at he
    · unfold abuildSlice at he ⊢
      split at he
      · split at he
        · obtain ⟨hc, he⟩ := cond_some he
          rw [hc]
          simp only [cond_true]
          split at he
          · obtain ⟨hc2, he⟩ := cond_some he
            rw [hc2]
            simp only [cond_true, Option.some.injEq, Prod.mk.injEq] at he ⊢
            obtain ⟨rfl, rfl⟩ := he
            exact ⟨_, rfl, rfl, rfl⟩
          · cases he
        · cases he
      · cases he
    · cases he
  · split at he
    · unfold amake at he ⊢
      split at he
      · split at he
        · cases he
        · split at he
          · cases he
          · obtain ⟨hc, he⟩ := cond_some he
            rw [hc]
            simp only [cond_true, Option.some.injEq, Prod.mk.injEq] at he ⊢
            obtain ⟨rfl, rfl⟩ := he
            exact ⟨_, rfl, rfl, rfl⟩
      · cases he
    · cases he
  · exfalso
    split at hk <;> rename_i heq <;> first
      | (cases heq; done)
      | skip
    · (repeat' split at hk) <;> cases hk
    · rename_i b _ _ _
      cases hq : quietB b <;> rw [hq] at hk <;> cases hk
    all_goals (cases hk; done)
  all_goals (cases he; exact ⟨_, rfl, rfl⟩)
end
end
end Go.Ai
