/-
  WHICH BLOCKS AN OPERATION, AND A RUN, MAY LEAVE BEHIND: those that were there, and new ones.
-/
import Derived.Test.YtpilbfkinpbnoaaAiRunS
set_option linter.unusedVariables false
namespace Go.Ai
noncomputable section
variable {P : Program} {cls : List Nat}

structure AF (h h' : AHeap) : Prop where
  next : h.next ≤ h'.next
  ro : h'.ro = h.ro
  alive : ∀ b o, h'.get b = some o → h.get b ≠ none ∨ (h.next ≤ b ∧ b < h'.next)
theorem AF.refl (h : AHeap) : AF h h := ⟨Nat.le_refl _, rfl, fun b o hb => .inl (by rw [hb]; simp)⟩
theorem AF.trans {a b c : AHeap} (h : AF a b) (k : AF b c) : AF a c := by
  refine ⟨Nat.le_trans h.next k.next, k.ro.trans h.ro, fun x o hx => ?_⟩
  rcases k.alive x o hx with h1 | ⟨h1, h2⟩
  · obtain ⟨o', ho'⟩ : ∃ o, b.get x = some o := by cases hh : b.get x with | none => exact absurd hh h1 | some o => exact ⟨o, rfl⟩
    rcases h.alive x o' ho' with h2 | ⟨h2, h3⟩
    · exact .inl h2
    · exact .inr ⟨h2, Nat.lt_of_lt_of_le h3 k.next⟩
  · exact .inr ⟨Nat.le_trans h.next h1, h2⟩
theorem AF.push (h : AHeap) (o : AObj) : AF h (h.push o) := ⟨Nat.le_succ _, rfl, fun b o' hb => by
  rw [AHeap.get_push] at hb
  split at hb
  · rename_i e; subst e; exact .inr ⟨Nat.le_refl _, Nat.lt_succ_self _⟩
  · exact .inl (by rw [hb]; simp)⟩
theorem AF.setOld {h : AHeap} {b : Nat} {o : AObj} (hb : h.get b = some o) (x : Option AObj) : AF h (h.set b x) := ⟨Nat.le_refl _, rfl, fun c o' hc => by
  rw [AHeap.get_set] at hc
  split at hc
  · rename_i e; subst e; exact .inl (by rw [hb]; simp)
  · exact .inl (by rw [hc]; simp)⟩

theorem asplice_af {h h' : AHeap} {b off : Nat} {new : List Value} (he : asplice h b off new = some h') : AF h h' := by
  unfold asplice at he
  cases hz : Nat.beq new.length 0 with
  | true => rw [hz] at he; simp only [cond_true, Option.some.injEq] at he; subst he; exact .refl _
  | false =>
    rw [hz] at he
    simp only [cond_false] at he
    split at he
    · rename_i hg
      obtain ⟨_, he⟩ := cond_some he
      simp only [Option.some.injEq] at he
      subst he
      exact .setOld hg _
    · cases he
theorem astore_af {t : TypeId} {a v : Value} {h h' : AHeap} (he : astore P t a v h = some h') : AF h h' := by
  unfold astore at he
  split at he
  · split at he
    · cases he
    · rename_i hg
      split at he
      · cases he
      · obtain ⟨_, he⟩ := cond_some he
        simp only [Option.some.injEq] at he
        subst he
        exact .setOld hg _
    · cases he
  · cases he
theorem aappend_af {sT xT : TypeId} {s x v : Value} {h h' : AHeap} (he : aappend P sT xT s x h = some (v, h')) : AF h h' := by
  unfold aappend at he
  split at he
  case h_2 => cases he
  rename_i elem xd n _ _ _
  split at he
  case h_2 => cases he
  split at he
  case h_2 => cases he
  obtain ⟨_, he⟩ := cond_some he
  unfold aappend2 at he
  split at he
  · cases hz : Nat.beq n 0 with
    | true => rw [hz] at he; simp only [cond_true, Option.some.injEq, Prod.mk.injEq] at he; obtain ⟨_, rfl⟩ := he; exact .refl _
    | false =>
      rw [hz] at he
      obtain ⟨_, he⟩ := cond_some (show cond _ _ none = _ from he)
      simp only [Option.some.injEq, Prod.mk.injEq] at he
      obtain ⟨_, rfl⟩ := he
      exact .push _ _
  · cases hz : Nat.beq n 0 with
    | true => rw [hz] at he; simp only [cond_true, Option.some.injEq, Prod.mk.injEq] at he; obtain ⟨_, rfl⟩ := he; exact .refl _
    | false =>
      rw [hz] at he
      simp only [cond_false] at he
      split at he
      · rename_i hg
        obtain ⟨_, he⟩ := cond_some he
        simp only [Option.some.injEq, Prod.mk.injEq] at he
        obtain ⟨_, rfl⟩ := he
        exact (AF.setOld hg none).trans (.push _ _)
      · cases he
  · cases he
theorem acopy_af {t : TypeId} {d x v : Value} {h h' : AHeap} (he : acopy P t d x h = some (v, h')) : AF h h' := by
  unfold acopy at he
  split at he
  case h_2 => cases he
  split at he
  case h_1 => cases he
  split at he
  case h_1 => cases he
  split at he
  · simp only [Option.some.injEq, Prod.mk.injEq] at he; obtain ⟨_, rfl⟩ := he; exact .refl _
  · simp only [Option.map_eq_some_iff, Prod.mk.injEq] at he
    obtain ⟨h2, hs, _, rfl⟩ := he
    exact asplice_af hs
  · cases he
theorem aclear_af {t : TypeId} {x : Value} {h h' : AHeap} (he : aclear P t x h = some h') : AF h h' := by
  unfold aclear at he
  split at he
  case h_2 => cases he
  rename_i n _ _
  cases hz : Nat.beq n 0 with
  | true => rw [hz] at he; simp only [cond_true, Option.some.injEq] at he; subst he; exact .refl _
  | false =>
    rw [hz] at he
    simp only [cond_false] at he
    split at he
    case h_2 => cases he
    obtain ⟨_, he⟩ := cond_some he
    exact asplice_af he
theorem amapUpdate_af {t : TypeId} {x k v : Value} {h h' : AHeap} (he : amapUpdate P t x k v h = some h') : AF h h' := by
  unfold amapUpdate at he
  split at he
  case h_2 => cases he
  split at he
  case h_2 => cases he
  rename_i hg
  split at he
  case h_2 => cases he
  obtain ⟨_, he⟩ := cond_some he
  split at he
  · split at he
    · obtain ⟨_, he⟩ := cond_some he
      simp only [Option.some.injEq] at he; subst he; exact .setOld hg _
    · cases he
  · simp only [Option.some.injEq] at he; subst he; exact .setOld hg _
  · cases he
theorem amapDelete_af {t : TypeId} {x k : Value} {h h' : AHeap} (he : amapDelete P t x k h = some h') : AF h h' := by
  unfold amapDelete at he
  split at he
  case h_2 => cases he
  split at he
  case h_2 => cases he
  rename_i hg
  split at he
  case h_2 => cases he
  obtain ⟨_, he⟩ := cond_some he
  split at he
  · simp only [Option.some.injEq] at he; subst he; exact .setOld hg _
  · simp only [Option.some.injEq] at he; subst he; exact .refl _
  · cases he
theorem anext_af {x v : Value} {str : Bool} {h h' : AHeap} (he : anext P x str h = some (v, h')) : AF h h' := by
  unfold anext at he
  split at he
  case h_2 => cases he
  split at he
  · rename_i s pos hg
    obtain ⟨_, he⟩ := cond_some he
    cases hb : Nat.blt pos s.size <;> rw [hb] at he <;> simp only [cond_true, cond_false, Option.some.injEq, Prod.mk.injEq] at he <;> obtain ⟨_, rfl⟩ := he
    · exact .refl _
    · exact .setOld hg _
  · simp only [Option.some.injEq, Prod.mk.injEq] at he; obtain ⟨_, rfl⟩ := he; exact .refl _
  · rename_i hg
    split at he
    case h_2 => cases he
    obtain ⟨_, he⟩ := cond_some he
    split at he
    · simp only [Option.some.injEq, Prod.mk.injEq] at he; obtain ⟨_, rfl⟩ := he; exact .refl _
    · obtain ⟨_, he⟩ := cond_some he
      simp only [Option.some.injEq, Prod.mk.injEq] at he; obtain ⟨_, rfl⟩ := he; exact .setOld hg _
    · cases he
  · cases he
/-- An operation that does not write leaves the heap, or lays a block. -/
def Still (h h' : AHeap) : Prop := h' = h ∨ ∃ o, h' = h.push o
theorem Still.af {h h' : AHeap} (s : Still h h') : AF h h' := by
  rcases s with rfl | ⟨o, rfl⟩
  · exact .refl _
  · exact .push _ _
theorem amake_still {t : TypeId} {l c v : Value} {h h' : AHeap} (he : amake P t l c h = some (v, h')) : Still h h' := by
  unfold amake at he
  split at he
  case h_2 => cases he
  split at he
  case h_1 => cases he
  split at he
  case h_1 => cases he
  obtain ⟨_, he⟩ := cond_some he
  simp only [Option.some.injEq, Prod.mk.injEq] at he
  obtain ⟨_, rfl⟩ := he
  exact .inr ⟨_, rfl⟩
theorem aconv0_still {src dst : TypeId} {x v : Value} {h h' : AHeap} (he : aconv0 P src dst x h = some (v, h')) : Still h h' := by
  unfold aconv0 at he
  split at he
  · simp only [Option.some.injEq, Prod.mk.injEq] at he; obtain ⟨_, rfl⟩ := he; exact .inl rfl
  · split at he
    · split at he
      · simp only [Option.some.injEq, Prod.mk.injEq] at he; obtain ⟨_, rfl⟩ := he; exact .inr ⟨_, rfl⟩
      · cases he
    · split at he
      · simp only [Option.map_eq_some_iff, Prod.mk.injEq] at he; obtain ⟨_, _, _, rfl⟩ := he; exact .inl rfl
      · cases he
    · cases he
theorem aconv_still {src dst : TypeId} {x v : Value} {h h' : AHeap} (he : aconv P src dst x h = some (v, h')) : Still h h' := by
  unfold aconv at he
  split at he
  · rename_i r hc
    simp only [Option.some.injEq] at he
    subst he
    exact aconv0_still hc
  · simp only [Option.map_eq_some_iff, Prod.mk.injEq] at he; obtain ⟨_, _, _, rfl⟩ := he; exact .inl rfl
theorem aus_af {pt : TypeId} {p v : Value} {n : Int} {h h' : AHeap} (he : aus P pt p n h = some (v, h')) : AF h h' := by
  unfold aus at he
  split at he
  · obtain ⟨_, he⟩ := cond_some he
    simp only [Option.some.injEq, Prod.mk.injEq] at he; obtain ⟨_, rfl⟩ := he; exact .refl _
  · cases hn : decide (n = 0) with
    | true => rw [hn] at he; simp only [cond_true, Option.some.injEq, Prod.mk.injEq] at he; obtain ⟨_, rfl⟩ := he; exact .refl _
    | false =>
      rw [hn] at he
      simp only [cond_false] at he
      split at he
      case h_2 => cases he
      rename_i hg
      split at he
      case h_2 => cases he
      obtain ⟨_, he⟩ := cond_some he
      simp only [Option.some.injEq, Prod.mk.injEq] at he; obtain ⟨_, rfl⟩ := he; exact .setOld hg _
  · cases he
theorem abuildSlice_still {t : TypeId} {n : Nat} {ps : List (Nat × Value)} {v : Value} {h h' : AHeap} (he : abuildSlice P t n ps h = some (v, h')) : Still h h' := by
  unfold abuildSlice at he
  split at he
  case h_2 => cases he
  split at he
  case h_2 => cases he
  obtain ⟨_, he⟩ := cond_some he
  split at he
  case h_2 => cases he
  obtain ⟨_, he⟩ := cond_some he
  simp only [Option.some.injEq, Prod.mk.injEq] at he
  obtain ⟨_, rfl⟩ := he
  exact .inr ⟨_, rfl⟩
theorem one_still {x : Option Value} {v : Value} {h h' : AHeap} (he : one h x = some (v, h')) : Still h h' := .inl (one_some he).2
theorem abuiltin_af {b : Builtin} {ts : List TypeId} {r : TypeId} {vs : List Value} {v : Value} {h h' : AHeap} (he : abuiltin P b ts r vs h = some (v, h')) : AF h h' := by
  unfold abuiltin at he
  split at he
  · exact aappend_af he
  · exact acopy_af he
  · simp only [Option.map_eq_some_iff, Prod.mk.injEq] at he; obtain ⟨_, _, _, rfl⟩ := he; exact .refl _
  · simp only [Option.map_eq_some_iff, Prod.mk.injEq] at he; obtain ⟨_, hc, _, rfl⟩ := he; exact aclear_af hc
  · obtain ⟨_, he⟩ := cond_some he; simp only [Option.map_eq_some_iff, Prod.mk.injEq] at he; obtain ⟨_, _, _, rfl⟩ := he; exact .refl _
  · obtain ⟨_, he⟩ := cond_some he; simp only [Option.map_eq_some_iff, Prod.mk.injEq] at he; obtain ⟨_, _, _, rfl⟩ := he; exact .refl _
  · simp only [Option.map_eq_some_iff, Prod.mk.injEq] at he; obtain ⟨_, hc, _, rfl⟩ := he; exact amapDelete_af hc
  · simp only [Option.map_eq_some_iff, Prod.mk.injEq] at he; obtain ⟨_, _, _, rfl⟩ := he; exact .refl _
  · simp only [Option.map_eq_some_iff, Prod.mk.injEq] at he; obtain ⟨_, _, _, rfl⟩ := he; exact .refl _
  · exact aus_af he
  · cases he

theorem arange_still {t : TypeId} {x v : Value} {h h' : AHeap} (he : arange P t x h = some (v, h')) : Still h h' := by
  unfold arange at he
  split at he
  · simp only [Option.some.injEq, Prod.mk.injEq] at he; obtain ⟨_, rfl⟩ := he; exact .inr ⟨_, rfl⟩
  · simp only [Option.some.injEq, Prod.mk.injEq] at he; obtain ⟨_, rfl⟩ := he; exact .inr ⟨_, rfl⟩
  · split at he
    · simp only [Option.some.injEq, Prod.mk.injEq] at he; obtain ⟨_, rfl⟩ := he; exact .inr ⟨_, rfl⟩
    · cases he
  · cases he
theorem abuiltin_quiet {b : Builtin} {ts : List TypeId} {r : TypeId} {vs : List Value} {v : Value} {h h' : AHeap} (hq : quietB b = true) (he : abuiltin P b ts r vs h = some (v, h')) : h' = h := by
  unfold abuiltin at he
  split at he <;> first
    | (simp [quietB] at hq; done)
    | (simp only [Option.map_eq_some_iff, Prod.mk.injEq] at he; obtain ⟨_, _, _, rfl⟩ := he; rfl)
    | (obtain ⟨_, he⟩ := cond_some he; simp only [Option.map_eq_some_iff, Prod.mk.injEq] at he; obtain ⟨_, _, _, rfl⟩ := he; rfl)
    | cases he
theorem aext_still {g : FuncId} {args : List Value} {v : Value} {h h' : AHeap} (he : aext P g args h = some (v, h')) : Still h h' := by
  unfold aext at he
  split at he
  · rename_i r hn
    simp only [Option.some.injEq] at he
    subst he
    unfold noEsc at hn
    split at hn
    case h_2 => cases hn
    obtain ⟨_, hn⟩ := cond_some hn
    split at hn
    case h_2 => cases hn
    simp only [Option.some.injEq, Prod.mk.injEq] at hn
    obtain ⟨_, rfl⟩ := hn
    exact .inl rfl
  · unfold mkNoZero at he
    split at he
    case h_2 => cases he
    obtain ⟨_, he⟩ := cond_some he
    split at he
    case h_2 => cases he
    split at he
    case h_2 => cases he
    obtain ⟨_, he⟩ := cond_some he
    simp only [Option.some.injEq, Prod.mk.injEq] at he
    obtain ⟨_, rfl⟩ := he
    exact .inr ⟨_, rfl⟩
theorem aop_parts {s : Env} {o : Oper} {v : Value} {h h' : AHeap} (he : aop P s o h = some (v, h')) : AF h h' ∧ (isWrite o.op = false → Still h h') := by
  unfold aop at he
  split at he <;> rename_i hop
  · have := one_still he; exact ⟨this.af, fun _ => this⟩
  · have := one_still he; exact ⟨this.af, fun _ => this⟩
  · split at he
    · have := one_still he; exact ⟨this.af, fun _ => this⟩
    · have := one_still he; exact ⟨this.af, fun _ => this⟩
    · cases he
  · split at he
    · simp only [Option.some.injEq, newb, Prod.mk.injEq] at he; obtain ⟨_, rfl⟩ := he; exact ⟨.push _ _, fun _ => .inr ⟨_, rfl⟩⟩
    · cases he
  · split at he
    · simp only [Option.some.injEq, newb, Prod.mk.injEq] at he; obtain ⟨_, rfl⟩ := he; exact ⟨.push _ _, fun _ => .inr ⟨_, rfl⟩⟩
    · cases he
  · split at he
    · have := one_still he; exact ⟨this.af, fun _ => this⟩
    · cases he
  · split at he
    · have := abuildSlice_still he; exact ⟨this.af, fun _ => this⟩
    · cases he
  · split at he
    · have := one_still he; exact ⟨this.af, fun _ => this⟩
    · cases he
  · split at he
    · split at he
      · rename_i hs
        simp only [Option.some.injEq, Prod.mk.injEq] at he
        obtain ⟨_, rfl⟩ := he
        exact ⟨astore_af hs, fun hw => by rw [hop] at hw; cases hw⟩
      · cases he
    · cases he
  · split at he
    · simp only [Option.some.injEq, Prod.mk.injEq] at he; obtain ⟨_, rfl⟩ := he; exact ⟨.refl _, fun _ => .inl rfl⟩
    · simp only [Option.some.injEq, Prod.mk.injEq] at he; obtain ⟨_, rfl⟩ := he; exact ⟨.refl _, fun _ => .inl rfl⟩
    · cases he
  · split at he
    · have := one_still he; exact ⟨this.af, fun _ => this⟩
    · cases he
  · split at he
    · obtain ⟨_, he⟩ := cond_some he; have := one_still he; exact ⟨this.af, fun _ => this⟩
    · cases he
  · split at he
    · have := aconv_still he; exact ⟨this.af, fun _ => this⟩
    · cases he
  · split at he
    · split at he
      · simp only [Option.some.injEq, Prod.mk.injEq] at he; obtain ⟨_, rfl⟩ := he; exact ⟨.refl _, fun _ => .inl rfl⟩
      · cases he
    · cases he
  · split at he
    · simp only [Option.some.injEq, Prod.mk.injEq] at he; obtain ⟨_, rfl⟩ := he; exact ⟨.refl _, fun _ => .inl rfl⟩
    · cases he
  · split at he
    · have := amake_still he; exact ⟨this.af, fun _ => this⟩
    · cases he
  · split at he
    · split at he
      · simp only [Option.some.injEq, Prod.mk.injEq] at he; obtain ⟨_, rfl⟩ := he; exact ⟨.refl _, fun _ => .inl rfl⟩
      · cases he
    · have := one_still he; exact ⟨this.af, fun _ => this⟩
    · cases he
  · split at he
    · have := one_still he; exact ⟨this.af, fun _ => this⟩
    · cases he
  · split at he
    · split at he
      · split at he
        · have := one_still he; exact ⟨this.af, fun _ => this⟩
        · cases he
      · cases he
    · cases he
  · split at he
    · have := one_still he; exact ⟨this.af, fun _ => this⟩
    · cases he
  · split at he
    · obtain ⟨_, he⟩ := cond_some he; have := one_still he; exact ⟨this.af, fun _ => this⟩
    · cases he
  · split at he
    · have := one_still he; exact ⟨this.af, fun _ => this⟩
    · cases he
  · split at he
    · refine ⟨abuiltin_af he, fun hw => ?_⟩
      rw [hop] at hw
      simp only [isWrite, Bool.not_eq_false'] at hw
      exact .inl (abuiltin_quiet hw he)
    · cases he
  · simp only [Option.some.injEq, amakeMap, Prod.mk.injEq] at he; obtain ⟨_, rfl⟩ := he; exact ⟨.push _ _, fun _ => .inr ⟨_, rfl⟩⟩
  · split at he
    · have := one_still he; exact ⟨this.af, fun _ => this⟩
    · cases he
  · split at he
    · split at he
      · rename_i hu
        simp only [Option.some.injEq, Prod.mk.injEq] at he
        obtain ⟨_, rfl⟩ := he
        exact ⟨amapUpdate_af hu, fun hw => by rw [hop] at hw; cases hw⟩
      · cases he
    · cases he
  · split at he
    · have := arange_still he; exact ⟨this.af, fun _ => this⟩
    · cases he
  · split at he
    · exact ⟨anext_af he, fun hw => by rw [hop] at hw; cases hw⟩
    · cases he
  · split at he
    · have := one_still he; exact ⟨this.af, fun _ => this⟩
    · cases he
  · cases he

end
end Go.Ai
