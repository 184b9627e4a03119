/-
  THE INTERPRETER IS SOUND: whatever it answers, the machine does, in every world that the abstract heap describes.
-/
import Derived.Test.YtpilbfkinpbnoaaAiRunD
set_option linter.unusedVariables false
namespace Go.Ai
noncomputable section
variable {P : Program} {cls : List Nat}

theorem snoc_split {α : Type} {A A1 A2 : List α} {y r : α} (e : A ++ [y] = A1 ++ r :: A2) : (A2 = [] ∧ A1 = A ∧ r = y) ∨ ∃ A3, A2 = A3 ++ [y] ∧ A = A1 ++ r :: A3 := by
  rcases List.eq_nil_or_concat A2 with h | ⟨A3, z, h⟩
  · subst h
    have := List.append_inj' e rfl
    simp at this
    exact .inl ⟨rfl, this.1.symm, this.2.symm⟩
  · subst h
    rw [List.concat_eq_append] at *
    have e2 : A ++ [y] = (A1 ++ r :: A3) ++ [z] := by rw [e]; simp
    have := List.append_inj' e2 rfl
    simp at this
    exact .inr ⟨A3, by rw [this.2], this.1⟩

theorem drawGo_ok {rec : Runs} (S : Sound P rec) (hF : Frames rec) (hC : callsOk P cls = true) {ops : Array Oper} {s0 : Env} {h0 : AHeap} : ∀ (l : List Oper) (i : Nat) (ms : List Nat) (recs : List FRec) (s : Env) (h : AHeap) {s' : Env} {h' : AHeap},
    ops.toList.drop i = l → i ≤ ops.size → MaskOk ops ms → ms.length = i → Sofar P ops s0 h0 (recs.map (·.r)).reverse i s h → (∀ x, x ∈ recs → FOk x) → statGo ops l i ms (recs.map fun x => (x.r.j, x.r.o)) = true → drawGo P cls rec ops l i ms recs s h = some (s', h') →
    ∃ A, Sofar P ops s0 h0 A ops.size s' h'
  | [], i, ms, recs, s, h, s', h', hl, hle, hm, hml, F, hok, hst, he => by
    simp only [drawGo, Option.some.injEq, Prod.mk.injEq] at he
    obtain ⟨rfl, rfl⟩ := he
    have : i = ops.size := by
      have := congrArg List.length hl
      simp at this
      omega
    subst this
    exact ⟨_, F⟩
  | o :: os, i, ms, recs, s, h, s', h', hl, hle, hm, hml, F, hok, hst, he => by
    have ho : ops[i]? = some o := by
      have := congrArg (fun l => l[0]?) hl
      simp only [List.getElem?_drop, List.getElem?_cons_zero] at this
      simpa using this
    have hlt : i < ops.size := by
      rcases Nat.lt_or_ge i ops.size with h | h
      · exact h
      · rw [Array.getElem?_eq_none h] at ho; cases ho
    have hl' : ops.toList.drop (i + 1) = os := by rw [← List.tail_drop, hl]; rfl
    simp only [drawGo] at he
    simp only [statGo, Bool.and_eq_true] at hst
    obtain ⟨⟨hedge, hslots⟩, hst⟩ := hst
    split at he
    case h_2 => cases he
    rename_i y h1 hop
    obtain ⟨hind, he⟩ := cond_some he
    split at he
    case h_2 => cases he
    rename_i s1 hp
    -- the slot is there
    have hput : ∀ d, o.dst = some d → d < s.size := by
      intro d hd
      rw [hd] at hp
      simp only [Env.put] at hp
      obtain ⟨hb, _⟩ := cond_some hp
      simpa [Nat.blt_eq] using hb
    obtain ⟨hj, hyo, hfok, htold, hheap, hro, hnx, hyn, hwf⟩ := drawOp_ok S hF hC F ho hput hop
    have hs1 : ∀ t, s1.get t = if o.dst = some t then y.r.v else s.get t := by
      intro t
      cases hd : o.dst with
      | none => rw [hd] at hp; simp only [Env.put, Option.some.injEq] at hp; subst hp; simp
      | some d =>
        rw [hd] at hp
        simp only [Env.put] at hp
        obtain ⟨_, hp⟩ := cond_some hp
        simp only [Option.some.injEq] at hp
        subst hp
        rw [Env.get_set]
        by_cases e : t = d
        · subst e; simp
        · rw [if_neg e, if_neg (by simp only [Option.some.injEq]; exact fun h => e h.symm)]
    have hs1s : s1.size = s.size := by
      cases hd : o.dst with
      | none => rw [hd] at hp; simp only [Env.put, Option.some.injEq] at hp; subst hp; rfl
      | some d =>
        rw [hd] at hp
        simp only [Env.put] at hp
        obtain ⟨_, hp⟩ := cond_some hp
        simp only [Option.some.injEq] at hp
        subst hp; rfl
    have hrev : (List.map (·.r) (y :: recs)).reverse = (recs.map (·.r)).reverse ++ [y.r] := by simp
    refine drawGo_ok S hF hC os (i + 1) (ms ++ [maskOf ms o]) (y :: recs) s1 h1 hl' hlt (maskOk_snoc hm hml ho) (by simp [hml]) ?_ (fun x hx => ?_) (by simpa [hj, hyo] using hst) he
    · rw [hrev]
      refine ⟨?_, ?_, hs1s.trans F.size, ?_, hro.trans F.ro, Nat.le_trans F.next hnx, ?_, hwf, ?_, ?_, ?_⟩
      · rw [List.map_append, F.js, List.range_succ]; simp [hj]
      · intro t
        rw [hs1, envV_snoc, hyo, F.env]
      · intro b
        rw [hheap, hpV_snoc, F.heap]
      · intro x hx
        rcases List.mem_append.1 hx with hx | hx
        · exact Nat.le_trans (F.nA x hx) hnx
        · simp only [List.mem_singleton] at hx; subst hx; exact hyn
      · intro A1 r A2 e
        rcases snoc_split e with ⟨_, rfl, rfl⟩ | ⟨A3, _, e3⟩
        · exact htold
        · exact F.told A1 r A3 e3
      · intro A1 r A2 e ed hed hb
        rcases snoc_split e with ⟨_, rfl, rfl⟩ | ⟨A3, _, e3⟩
        · rw [hyo] at hed
          simp only [List.all_eq_true, Bool.or_eq_true, Bool.not_eq_true', Nat.blt_eq] at hedge
          rcases hedge ed (by simpa using hed) with h2 | h2
          · rw [hb] at h2; cases h2
          · have : ed.on ∈ (recs.map (·.r)).reverse.map (·.j) := by rw [F.js]; exact List.mem_range.2 h2
            obtain ⟨x, hx, hxj⟩ := List.mem_map.1 this
            exact ⟨x, hx, hxj⟩
        · exact F.edges A1 r A3 e3 ed hed hb
      · intro A1 x A2 z A3 e
        have e' : (recs.map (·.r)).reverse ++ [y.r] = (A1 ++ x :: A2) ++ z :: A3 := by rw [e]; simp
        rcases snoc_split e' with ⟨_, e1, rfl⟩ | ⟨A4, _, e3⟩
        · have hxm : x ∈ (recs.map (·.r)).reverse := by rw [← e1]; simp
          rw [List.mem_reverse, List.mem_map] at hxm
          obtain ⟨fx, hfx, rfl⟩ := hxm
          simp only [List.all_eq_true, Bool.or_eq_true] at hind hslots
          rcases hslots (fx.r.j, fx.r.o) (List.mem_map.2 ⟨fx, hfx, rfl⟩) with h2 | h2
          · rw [hj]; exact .inl (maskOf_ok hm ho h2)
          · rw [← hyo] at h2
            rcases hind with h3 | h3
            · exact .inr (free_of (hok fx hfx) hfok h2 (.inl h3))
            · rcases h3 fx hfx with h4 | h4
              · exact .inr (free_of (hok fx hfx) hfok h2 (.inr h4))
              · rw [hj]; exact .inl (maskOf_ok hm ho h4)
        · exact F.apart A1 x A2 z A4 (by rw [e3]; simp)
    · rcases List.mem_cons.1 hx with rfl | hx
      · exact hfok
      · exact hok x hx

theorem draw_sound {rec : Runs} (S : Sound P rec) (hF : Frames rec) (hC : callsOk P cls = true) (hmix : P.follows .mixedOrders = true) {rd : Option Nat} {id : Nat} {ops : Array Oper} {s s' : Env} {h h' : AHeap}
    (hst : statGo ops ops.toList 0 [] [] = true) (he : drawGo P cls rec ops ops.toList 0 [] [] s h = some (s', h')) : T P rd (.region id ops true) s h (fun e1 s1 h1 => e1 = .normal ∧ s1 = s' ∧ h1 = h') := by
  intro ρ w tm ds hr
  have F0 : Sofar P ops s h ([] : List DRec) 0 s h := ⟨rfl, fun t => rfl, rfl, fun b => rfl, rfl, Nat.le_refl _, fun x hx => (by cases hx), fun b o hb => hr.dom b o hb,
    fun A1 r A2 e => by simp at e, fun A1 r A2 e => by simp at e, fun A1 x A2 y A3 e => by simp at e⟩
  obtain ⟨A, F⟩ := drawGo_ok S hF hC ops.toList 0 [] [] s h rfl (Nat.zero_le _) (fun k q hq => by simp at hq) rfl F0 (fun x hx => (by cases hx)) hst he
  have V : Valid P ops s h A := ⟨by rw [F.js]; exact List.nodup_range, fun i hi => by
      have : i ∈ A.map (·.j) := by rw [F.js]; exact List.mem_range.2 hi
      obtain ⟨r, hr, hj⟩ := List.mem_map.1 this
      exact ⟨r, hr, hj⟩, F.told, F.edges, F.apart⟩
  exact T_regionDraw hmix V F.env F.size F.heap F.ro F.next F.nA ⟨rfl, rfl, rfl⟩ ρ w tm ds hr

/-! ### Frames -/
theorem callF_af {rec : Runs} (hF : Frames rec) {g : FuncId} {args : List Value} {h h' : AHeap} {v : Value} (he : callF cls rec g args h = some (v, h')) : AF h h' := by
  unfold callF at he
  split at he
  · split at he
    · rename_i hrec
      simp only [Option.some.injEq, Prod.mk.injEq] at he
      obtain ⟨_, rfl⟩ := he
      exact hF _ _ _ _ hrec
    · cases he
  · split at he
    · obtain ⟨_, he⟩ := cond_some he
      simp only [Option.some.injEq, Prod.mk.injEq] at he
      obtain ⟨_, rfl⟩ := he
      exact .refl _
    · cases he
  · split at he
    · rename_i hrec
      simp only [Option.some.injEq, Prod.mk.injEq] at he
      obtain ⟨_, rfl⟩ := he
      exact .graft (hF _ _ _ _ hrec).lock.1
    · cases he
  · cases he
theorem roundF_af {rec : Runs} (hF : Frames rec) {L : Nat} {args : List Value} {h h' : AHeap} {v : Value} (he : roundF rec L args h = some (v, h')) : AF h h' := by
  unfold roundF at he
  split at he
  case h_2 => cases he
  rename_i A hg
  split at he
  case h_2 => cases he
  split at he
  case h_2 => cases he
  rename_i s1 h1 hrec
  split at he
  case h_2 => cases he
  rename_i A1 g1
  obtain ⟨_, he⟩ := cond_some he
  split at he
  case h_2 => cases he
  rename_i e s2 h2 hrec2
  split at he
  case h_2 => cases he
  rename_i A2 g2
  obtain ⟨_, he⟩ := cond_some he
  simp only [Option.some.injEq, Prod.mk.injEq] at he
  obtain ⟨rfl, rfl⟩ := he
  exact (((hF _ _ _ _ hrec).trans (.setOld g1 _)).trans (hF _ _ _ _ hrec2)).trans (.setOld g2 _)
theorem rangeF_af {rec : Runs} (hF : Frames rec) {rd : Option Nat} {f : Option Value} {params : Array Tmp} {as bd : Code} {s : Env} {h h' : AHeap} {e : Ex} (he : rangeF cls rec rd f params as bd s h = some (e, h')) : AF h h' := by
  unfold rangeF at he
  split at he
  case h_2 => cases he
  obtain ⟨_, he⟩ := cond_some he
  split at he
  case h_2 => cases he
  rename_i v h1 hrec
  split at he
  case h_2 => cases he
  rename_i A hA
  obtain ⟨_, he⟩ := cond_some he
  split at he
  case h_2 => cases he
  simp only [Option.some.injEq, Prod.mk.injEq] at he
  obtain ⟨_, rfl⟩ := he
  exact ((AF.push _ _).trans (hF _ _ _ _ hrec)).trans (.setOld hA _)
theorem evalOp_af {rec : Runs} (hF : Frames rec) {s : Env} {o : Oper} {h h' : AHeap} {v : Value} (he : evalOp P cls rec s o h = some (v, h')) : AF h h' := by
  unfold evalOp at he
  split at he
  · split at he
    · rename_i g fa fc vs _ _
      cases hk : Nat.beq (cls.getD g 0) 0 with
      | true =>
        rw [hk] at he
        simp only [cond_true] at he
        exact (aext_still he).af
      | false =>
        rw [hk] at he
        simp only [cond_false] at he
        exact callF_af hF he
    · obtain ⟨_, he⟩ := cond_some he
      exact roundF_af hF he
    · cases he
  · exact (aop_parts he).1
theorem runOps_af {rec : Runs} (hF : Frames rec) {ops : Array Oper} : ∀ (l : List Oper) {s s' : Env} {h h' : AHeap}, runOps P cls rec ops l s h = some (s', h') → AF h h'
  | [], s, s', h, h', he => by
    simp only [runOps, Option.some.injEq, Prod.mk.injEq] at he
    obtain ⟨_, rfl⟩ := he
    exact .refl _
  | o :: os, s, s', h, h', he => by
    simp only [runOps] at he
    cases hw : awanted ops s o with
    | false =>
      rw [hw] at he
      simp only [cond_false] at he
      split at he
      · exact runOps_af hF os he
      · cases he
    | true =>
      rw [hw] at he
      simp only [cond_true] at he
      split at he
      · rename_i hev
        split at he
        · exact (evalOp_af hF hev).trans (runOps_af hF os he)
        · cases he
      · cases he
theorem af_mend {h g : AHeap} {l : List Nat} (hn : h.next ≤ g.next) (hl : ∀ b, b ∈ l → ∀ o, g.get b = some o → h.get b ≠ none ∨ (h.next ≤ b ∧ b < g.next)) : AF h (h.mend g l) := ⟨hn, rfl, fun b o hb => by
  rw [get_mend] at hb
  split at hb
  · rename_i hm; exact hl b hm o hb
  · exact .inl (by rw [hb]; simp)⟩
theorem drawOp_af {rec : Runs} (hF : Frames rec) {ops : Array Oper} {recs : List FRec} {mask i : Nat} {o : Oper} {os : List Oper} {s : Env} {h h1 : AHeap} {y : FRec} (he : drawOp P cls rec ops recs mask i os o s h = some (y, h1)) : AF h h1 := by
  unfold drawOp at he
  cases hw : awanted ops s o with
  | false =>
    rw [hw] at he
    simp only [cond_false, Option.some.injEq, Prod.mk.injEq] at he
    obtain ⟨_, rfl⟩ := he
    exact .refl _
  | true =>
    rw [hw] at he
    simp only [cond_true] at he
    split at he
    · split at he
      case h_2 => cases he
      split at he
      · split at he
        case h_2 => cases he
        rename_i hrec
        simp only [Option.some.injEq, Prod.mk.injEq] at he
        obtain ⟨_, rfl⟩ := he
        have af := hF _ _ _ _ hrec
        refine ⟨af.next, af.ro, fun b o' hb => ?_⟩
        rw [get_unhide] at hb
        split at hb
        · exact .inl (by rw [hb]; simp)
        · rcases af.alive b o' hb with h2 | h2
          · rw [get_hide] at h2
            split at h2
            · exact absurd rfl h2
            · exact .inl h2
          · exact .inr h2
      · split at he
        case h_2 => cases he
        obtain ⟨_, he⟩ := cond_some he
        simp only [Option.some.injEq, Prod.mk.injEq] at he
        obtain ⟨_, rfl⟩ := he
        exact .refl _
      · split at he
        case h_2 => cases he
        rename_i hrec
        simp only [Option.some.injEq, Prod.mk.injEq] at he
        obtain ⟨_, rfl⟩ := he
        have := (hF _ _ _ _ hrec).lock.1
        exact .graft this
      · split at he
        case h_2 => cases he
        rename_i v g' hop
        simp only [Option.some.injEq, Prod.mk.injEq] at he
        obtain ⟨_, rfl⟩ := he
        have af := (aext_still hop).af
        refine af_mend af.next (fun b _ o' hb => ?_)
        rcases af.alive b o' hb with h2 | h2
        · rw [get_pick] at h2
          split at h2
          · exact .inl h2
          · exact absurd rfl h2
        · exact .inr h2
    · split at he
      case h_2 => cases he
      rename_i v g' hop
      simp only [Option.some.injEq, Prod.mk.injEq] at he
      obtain ⟨_, rfl⟩ := he
      have af := (aop_parts hop).1
      refine af_mend af.next (fun b _ o' hb => ?_)
      rcases af.alive b o' hb with h2 | h2
      · rw [get_pick] at h2
        split at h2
        · exact .inl h2
        · exact absurd rfl h2
      · exact .inr h2
theorem drawGo_af {rec : Runs} (hF : Frames rec) {ops : Array Oper} : ∀ (l : List Oper) (i : Nat) (ms : List Nat) (recs : List FRec) {s s' : Env} {h h' : AHeap}, drawGo P cls rec ops l i ms recs s h = some (s', h') → AF h h'
  | [], i, ms, recs, s, s', h, h', he => by
    simp only [drawGo, Option.some.injEq, Prod.mk.injEq] at he
    obtain ⟨_, rfl⟩ := he
    exact .refl _
  | o :: os, i, ms, recs, s, s', h, h', he => by
    simp only [drawGo] at he
    split at he
    case h_2 => cases he
    rename_i y h1 hop
    obtain ⟨_, he⟩ := cond_some he
    split at he
    case h_2 => cases he
    exact (drawOp_af hF hop).trans (drawGo_af hF os _ _ _ he)

theorem body_frames {rec : Runs} (hF : Frames rec) : Frames (body P cls rec) := by
  intro t h o h' he
  cases t with
  | call f args =>
    simp only [body] at he
    split at he
    case h_1 => cases he
    split at he
    case h_1 => cases he
    split at he
    · rename_i hrec
      split at he
      · simp only [Option.some.injEq, Prod.mk.injEq] at he; obtain ⟨_, rfl⟩ := he; exact hF _ _ _ _ hrec
      · cases he
    · rename_i hrec
      split at he
      · simp only [Option.some.injEq, Prod.mk.injEq] at he; obtain ⟨_, rfl⟩ := he; exact hF _ _ _ _ hrec
      · cases he
    · cases he
  | code rd c s =>
    cases c <;> simp only [body] at he
    case skip => simp only [Option.some.injEq, Prod.mk.injEq] at he; obtain ⟨_, rfl⟩ := he; exact .refl _
    case label => simp only [Option.some.injEq, Prod.mk.injEq] at he; obtain ⟨_, rfl⟩ := he; exact .refl _
    case exit => simp only [Option.some.injEq, Prod.mk.injEq] at he; obtain ⟨_, rfl⟩ := he; exact .refl _
    case ret => simp only [Option.some.injEq, Prod.mk.injEq] at he; obtain ⟨_, rfl⟩ := he; exact .refl _
    case region id ops draw =>
      cases draw with
      | true =>
        simp only [cond_true] at he
        obtain ⟨_, he⟩ := cond_some he
        split at he
        · rename_i hd
          simp only [Option.some.injEq, Prod.mk.injEq] at he; obtain ⟨_, rfl⟩ := he
          exact drawGo_af hF _ _ _ _ hd
        · cases he
      | false =>
        simp only [cond_false] at he
        split at he
        · rename_i hd
          simp only [Option.some.injEq, Prod.mk.injEq] at he; obtain ⟨_, rfl⟩ := he
          exact runOps_af hF _ hd
        · cases he
    case seq a b =>
      split at he
      · rename_i hrec; exact (hF _ _ _ _ hrec).trans (hF _ _ _ _ he)
      · exact hF _ _ _ _ he
    case cond x a b =>
      split at he
      · exact hF _ _ _ _ he
      · exact hF _ _ _ _ he
      · cases he
    case block id a =>
      split at he
      · rename_i id' s1 h1 hrec
        cases hb : Nat.beq id' id with
        | true => rw [hb] at he; simp only [cond_true, Option.some.injEq, Prod.mk.injEq] at he; obtain ⟨_, rfl⟩ := he; exact hF _ _ _ _ hrec
        | false => rw [hb] at he; simp only [cond_false, Option.some.injEq, Prod.mk.injEq] at he; obtain ⟨_, rfl⟩ := he; exact hF _ _ _ _ hrec
      · exact hF _ _ _ _ he
    case scope a => exact hF _ _ _ _ he
    case loop a =>
      split at he
      · rename_i hrec; exact (hF _ _ _ _ hrec).trans (hF _ _ _ _ he)
      · exact hF _ _ _ _ he
    case rangeFunc f params as bd =>
      split at he
      · rename_i hr
        simp only [Option.some.injEq, Prod.mk.injEq] at he
        obtain ⟨_, rfl⟩ := he
        exact rangeF_af hF hr
      · cases he
    all_goals cases he

theorem body_sound {rec : Runs} (S : Sound P rec) (hF : Frames rec) (hC : callsOk P cls = true) (hmix : P.follows .mixedOrders = true) : Sound P (body P cls rec) := by
  refine ⟨?_, ?_, ?_, ?_⟩
  · intro rd c s h e s' h' he
    cases c <;> simp only [body] at he
    case skip => simp only [Option.some.injEq, Prod.mk.injEq, Out.ex.injEq] at he; obtain ⟨⟨rfl, rfl⟩, rfl⟩ := he; exact T_skip ⟨rfl, rfl, rfl⟩
    case label => simp only [Option.some.injEq, Prod.mk.injEq, Out.ex.injEq] at he; obtain ⟨⟨rfl, rfl⟩, rfl⟩ := he; exact T_label ⟨rfl, rfl, rfl⟩
    case exit => simp only [Option.some.injEq, Prod.mk.injEq, Out.ex.injEq] at he; obtain ⟨⟨rfl, rfl⟩, rfl⟩ := he; exact T_exit ⟨rfl, rfl, rfl⟩
    case ret => simp only [Option.some.injEq, Prod.mk.injEq, Out.ex.injEq] at he; obtain ⟨⟨rfl, rfl⟩, rfl⟩ := he; exact T_ret ⟨rfl, rfl, rfl⟩
    case region id ops draw =>
      cases draw with
      | true =>
        simp only [cond_true] at he
        obtain ⟨hst, he⟩ := cond_some he
        split at he
        · rename_i hd
          simp only [Option.some.injEq, Prod.mk.injEq, Out.ex.injEq] at he
          obtain ⟨⟨rfl, rfl⟩, rfl⟩ := he
          exact draw_sound S hF hC hmix hst hd
        · cases he
      | false =>
        simp only [cond_false] at he
        split at he
        · rename_i hd
          simp only [Option.some.injEq, Prod.mk.injEq, Out.ex.injEq] at he
          obtain ⟨⟨rfl, rfl⟩, rfl⟩ := he
          refine T_region ?_
          have := runOps_sound S hC ops.toList 0 rfl hd
          rw [Array.length_toList, ← List.range_eq_range'] at this
          intro ρ w tm ds hr hs b k cs
          obtain ⟨s1, h1, ρ1, w1, tm1, ⟨q1, q2⟩, r⟩ := this ρ w tm ds hr hs b k cs
          exact ⟨s1, h1, ρ1, w1, tm1, ⟨rfl, q1, q2⟩, r⟩
        · cases he
    case seq a b =>
      refine T_seq ?_
      split at he
      · rename_i s1 h1 hrec
        refine (S.code _ _ _ _ _ _ _ hrec).mono ?_
        rintro e1 s2 h2 ⟨rfl, rfl, rfl⟩
        exact S.code _ _ _ _ _ _ _ he
      · rename_i hne
        refine (S.code _ _ _ _ _ _ _ he).mono ?_
        rintro e1 s2 h2 ⟨rfl, rfl, rfl⟩
        cases e1 with
        | normal => exact (hne _ _ he).elim
        | exit id => exact ⟨rfl, rfl, rfl⟩
        | ret => exact ⟨rfl, rfl, rfl⟩
    case cond x a b =>
      split at he
      · rename_i hx; exact T_cond hx (by rw [if_pos rfl]; exact S.code _ _ _ _ _ _ _ he)
      · rename_i hx; exact T_cond hx (by rw [if_neg (by decide)]; exact S.code _ _ _ _ _ _ _ he)
      · cases he
    case block id a =>
      refine T_block ?_
      split at he
      · rename_i id' s1 h1 hrec
        refine (S.code _ _ _ _ _ _ _ hrec).mono ?_
        rintro e1 s2 h2 ⟨rfl, rfl, rfl⟩
        cases hb : Nat.beq id' id with
        | true =>
          rw [hb] at he
          simp only [cond_true, Option.some.injEq, Prod.mk.injEq, Out.ex.injEq] at he
          obtain ⟨⟨rfl, rfl⟩, rfl⟩ := he
          rw [Nat.eq_of_beq_eq_true hb, if_pos rfl]
          exact ⟨rfl, rfl, rfl⟩
        | false =>
          rw [hb] at he
          simp only [cond_false, Option.some.injEq, Prod.mk.injEq, Out.ex.injEq] at he
          obtain ⟨⟨rfl, rfl⟩, rfl⟩ := he
          rw [if_neg (by
            intro hc
            cases hc
            rw [Nat.beq_refl] at hb; cases hb)]
          exact ⟨rfl, rfl, rfl⟩
      · rename_i hne
        refine (S.code _ _ _ _ _ _ _ he).mono ?_
        rintro e1 s2 h2 ⟨rfl, rfl, rfl⟩
        cases e1 with
        | normal => rw [if_neg (by simp)]; exact ⟨rfl, rfl, rfl⟩
        | exit id' => exact (hne _ _ _ he).elim
        | ret => rw [if_neg (by simp)]; exact ⟨rfl, rfl, rfl⟩
    case scope a => exact T_scope (S.code _ _ _ _ _ _ _ he)
    case loop a =>
      refine T_loop_step ?_
      split at he
      · rename_i s1 h1 hrec
        refine (S.code _ _ _ _ _ _ _ hrec).mono ?_
        rintro e1 s2 h2 ⟨rfl, rfl, rfl⟩
        exact S.code _ _ _ _ _ _ _ he
      · rename_i hne
        refine (S.code _ _ _ _ _ _ _ he).mono ?_
        rintro e1 s2 h2 ⟨rfl, rfl, rfl⟩
        cases e1 with
        | normal => exact (hne _ _ he).elim
        | exit id => exact ⟨rfl, rfl, rfl⟩
        | ret => exact ⟨rfl, rfl, rfl⟩
    case rangeFunc f params as bd =>
      split at he
      · rename_i hr
        simp only [Option.some.injEq, Prod.mk.injEq, Out.ex.injEq] at he
        obtain ⟨⟨rfl, rfl⟩, rfl⟩ := he
        exact rangeF_sound S hC hr
      · cases he
    all_goals cases he
  · intro f args h v h' he
    simp only [body] at he
    split at he
    case h_1 => cases he
    rename_i fn hfn
    split at he
    case h_1 => cases he
    rename_i c hc
    have fin : ∀ e s1 h1, (e = .normal ∨ e = .ret) → rec (.code none c (Env.enter args fn.ntmps)) h = some (.ex e s1, h1) → (match aresults P s1 h1 fn.results.toList with | some vs => some (Out.val (aresult vs), h1) | none => none) = some (.val v, h') →
        TC P f args h (fun v1 h1 => v1 = v ∧ h1 = h') := by
      intro e s1 h1 hee hrec hres
      split at hres
      · rename_i vs hvs
        simp only [Option.some.injEq, Prod.mk.injEq, Out.val.injEq] at hres
        obtain ⟨rfl, rfl⟩ := hres
        refine TC_of_T hfn hc ((S.code _ _ _ _ _ _ _ hrec).mono ?_)
        rintro e1 s2 h2 ⟨rfl, rfl, rfl⟩
        exact ⟨hee, vs, hvs, rfl, rfl⟩
      · cases hres
    split at he
    · rename_i s1 h1 hrec; exact fin _ s1 h1 (.inl rfl) hrec he
    · rename_i s1 h1 hrec; exact fin _ s1 h1 (.inr rfl) hrec he
    · cases he
  · intro rd c s h o h' he
    cases c <;> simp only [body] at he
    case skip => simp only [Option.some.injEq, Prod.mk.injEq] at he; obtain ⟨rfl, _⟩ := he; exact ⟨_, _, rfl⟩
    case label => simp only [Option.some.injEq, Prod.mk.injEq] at he; obtain ⟨rfl, _⟩ := he; exact ⟨_, _, rfl⟩
    case exit => simp only [Option.some.injEq, Prod.mk.injEq] at he; obtain ⟨rfl, _⟩ := he; exact ⟨_, _, rfl⟩
    case ret => simp only [Option.some.injEq, Prod.mk.injEq] at he; obtain ⟨rfl, _⟩ := he; exact ⟨_, _, rfl⟩
    case region id ops draw =>
      cases draw with
      | true =>
        simp only [cond_true] at he
        obtain ⟨_, he⟩ := cond_some he
        split at he
        · simp only [Option.some.injEq, Prod.mk.injEq] at he; obtain ⟨rfl, _⟩ := he; exact ⟨_, _, rfl⟩
        · cases he
      | false =>
        simp only [cond_false] at he
        split at he
        · simp only [Option.some.injEq, Prod.mk.injEq] at he; obtain ⟨rfl, _⟩ := he; exact ⟨_, _, rfl⟩
        · cases he
    case seq a b =>
      split at he
      · exact S.kind _ _ _ _ _ _ he
      · exact S.kind _ _ _ _ _ _ he
    case cond x a b =>
      split at he
      · exact S.kind _ _ _ _ _ _ he
      · exact S.kind _ _ _ _ _ _ he
      · cases he
    case block id a =>
      split at he
      · rename_i id' s1 h1 hrec
        cases hb : Nat.beq id' id with
        | true => rw [hb] at he; simp only [cond_true, Option.some.injEq, Prod.mk.injEq] at he; obtain ⟨rfl, _⟩ := he; exact ⟨_, _, rfl⟩
        | false => rw [hb] at he; simp only [cond_false, Option.some.injEq, Prod.mk.injEq] at he; obtain ⟨rfl, _⟩ := he; exact ⟨_, _, rfl⟩
      · exact S.kind _ _ _ _ _ _ he
    case scope a => exact S.kind _ _ _ _ _ _ he
    case loop a =>
      split at he
      · exact S.kind _ _ _ _ _ _ he
      · exact S.kind _ _ _ _ _ _ he
    case rangeFunc f params as bd =>
      split at he
      · simp only [Option.some.injEq, Prod.mk.injEq] at he; obtain ⟨rfl, _⟩ := he; exact ⟨_, _, rfl⟩
      · cases he
    all_goals cases he
  · intro f args h o h' he
    simp only [body] at he
    split at he
    case h_1 => cases he
    split at he
    case h_1 => cases he
    split at he
    · split at he
      · simp only [Option.some.injEq, Prod.mk.injEq] at he; obtain ⟨rfl, _⟩ := he; exact ⟨_, rfl⟩
      · cases he
    · split at he
      · simp only [Option.some.injEq, Prod.mk.injEq] at he; obtain ⟨rfl, _⟩ := he; exact ⟨_, rfl⟩
      · cases he
    · cases he

theorem run_both (hC : callsOk P cls = true) (hmix : P.follows .mixedOrders = true) : ∀ n, Sound P (run P cls n) ∧ Frames (run P cls n)
  | 0 => ⟨⟨fun rd c s h e s' h' he => (by cases he), fun f args h v h' he => (by cases he), fun rd c s h o h' he => (by cases he), fun f args h o h' he => (by cases he)⟩, fun t h o h' he => (by cases he)⟩
  | n + 1 => by
    obtain ⟨S, F⟩ := run_both hC hmix n
    exact ⟨body_sound S F hC hmix, body_frames F⟩
/-- What the interpreter answers of a call, the call does. -/
theorem TC_of_run (hC : callsOk P cls = true) (hmix : P.follows .mixedOrders = true) {n : Nat} {f : FuncId} {args : List Value} {h h' : AHeap} {v : Value} (he : run P cls n (.call f args) h = some (.val v, h')) : TC P f args h (fun v1 h1 => v1 = v ∧ h1 = h') :=
  (run_both hC hmix n).1.call _ _ _ _ _ he

/-! ### From nothing known of the world -/
/-- The heap of which nothing is told. -/
def nowhere (n : Nat) : AHeap := ⟨.e, n, n⟩
/-- The heap of which some tables are told: package-level variables. -/
def tabled (n : Nat) (tabs : List (Nat × List Value)) : AHeap := ⟨tabs.foldl (fun t x => t.set x.1 (some (.tab x.2))) .e, n, n⟩
theorem get_tabled {n : Nat} {tabs : List (Nat × List Value)} {b : Nat} {o : AObj} (h : (tabled n tabs).get b = some o) : ∃ c, (b, c) ∈ tabs ∧ o = .tab c := by
  have key : ∀ (l : List (Nat × List Value)) (t : Tr AObj), (l.foldl (fun t x => t.set x.1 (some (.tab x.2))) t).get b = some o → (∃ c, (b, c) ∈ l ∧ o = .tab c) ∨ t.get b = some o := by
    intro l
    induction l with
    | nil => intro t h; exact .inr h
    | cons x l ih =>
      intro t h
      rw [List.foldl_cons] at h
      rcases ih _ h with ⟨c, h1, h2⟩ | h1
      · exact .inl ⟨c, by simp [h1], h2⟩
      · rw [Tr.get_set] at h1
        split at h1
        · rename_i e
          simp only [Option.some.injEq] at h1
          subst e
          exact .inl ⟨x.2, by simp, h1.symm⟩
        · exact .inr h1
  rcases key tabs .e h with h1 | h1
  · exact h1
  · cases h1
/-- The world holds the table. -/
def HoldsTab (w : World) (g : Nat) (c : List Value) : Prop := ∃ cs t fz, w.heap[g]? = some (.cells cs t fz) ∧ ∀ (i : Nat) x, c[i]? = some x → cs[i]? = some x
theorem rel_tabled (P : Program) (w : World) (n : Nat) (tabs : List (Nat × List Value)) (hn : P.globals.size ≤ n) (hg : ∀ x, x ∈ tabs → x.1 < n ∧ x.2.all flat = true ∧ HoldsTab w x.1 x.2) :
    Rel P ⟨n, fun g => some ⟨g, 0, (match w.heap[g]? with | some (.cells cs _ _) => cs.size | _ => 0), 0⟩⟩ (tabled n tabs) w := by
  refine ⟨rfl, Nat.le_refl _, fun b o h => ?_, fun b o h => ?_, fun b1 b2 o1 o2 p1 p2 h1 h2 m1 m2 e => ?_, hn, fun b pl _ h => ?_⟩
  · obtain ⟨c, h1, _⟩ := get_tabled h
    exact (hg _ h1).1
  · obtain ⟨c, h1, rfl⟩ := get_tabled h
    obtain ⟨_, h2, cs, t, fz, h3, h4⟩ := hg _ h1
    refine ⟨_, rfl, t, cs, fz, h3, by simp only [h3], ⟨rfl, Nat.zero_mod _⟩, ?_, fun e => (by cases e), fun i x hx => ⟨x, by simpa using h4 i x hx, ?_⟩⟩
    · show 0 + c.length ≤ cs.size
      rcases Nat.lt_or_ge cs.size c.length with hl | hl
      · have h5 := h4 cs.size _ (List.getElem?_eq_getElem hl)
        simp at h5
      · omega
    · simp only [List.all_eq_true] at h2
      exact .of_flat _ (h2 x (List.mem_of_getElem? hx))
  · simp only [Option.some.injEq] at m1 m2
    subst m1 m2
    exact e
  · simp only [Option.some.injEq] at h
    subst h
    exact ⟨rfl, rfl⟩

theorem scal_same {ρ : Ren} {v v' : Value} (hv : scal v = true) (hvr : VRel ρ v v') : v' = v := by
  cases v with
  | tuple a =>
    cases hvr with
    | tuple ha hr =>
      simp only [scal, List.all_eq_true] at hv
      congr 1
      apply Array.ext'
      refine list_eq_of (by simpa using ha) (fun i x y hx hy => ?_)
      exact flat_eq (hr i x y (by simpa using hx) (by simpa using hy)) (hv x (List.mem_of_getElem? hx))
  | _ => exact flat_eq hvr hv
/-- What stays of the world. -/
theorem Calls_of_runT (hC : callsOk P cls = true) (hmix : P.follows .mixedOrders = true) {n m : Nat} {tabs : List (Nat × List Value)} {f : FuncId} {h' : AHeap} {v : Value} (hv : scal v = true) (hn : P.globals.size ≤ m) (he : run P cls n (.call f []) (tabled m tabs) = some (.val v, h')) (w : World)
    (hg : ∀ x, x ∈ tabs → x.1 < m ∧ x.2.all flat = true ∧ HoldsTab w x.1 x.2) :
    Calls P f #[] w fun e w' => e = .returned v ∧ RowKit.Below w.heap.size w w' := by
  refine (TC_of_run hC hmix he _ w [] (rel_tabled P w m tabs hn hg) (.nil _)).mono fun e w' => ?_
  rintro ⟨v1, v', h1, ρ', rfl, ⟨rfl, rfl⟩, st, hvr⟩
  refine ⟨by rw [scal_same hv hvr], st.os, st.tape, st.output, st.size, fun k hk => st.frame k hk ?_⟩
  rintro ⟨b, o, pl, hb, hro, _⟩
  obtain ⟨c, hc, _⟩ := get_tabled hb
  have h1 := (hg _ hc).1
  have h2 : m ≤ b := hro
  omega
theorem Calls_of_run (hC : callsOk P cls = true) (hmix : P.follows .mixedOrders = true) {n m : Nat} {f : FuncId} {h' : AHeap} {v : Value} (hv : scal v = true) (hn : P.globals.size ≤ m) (he : run P cls n (.call f []) (nowhere m) = some (.val v, h')) (w : World) :
    Calls P f #[] w fun e w' => e = .returned v ∧ RowKit.Below w.heap.size w w' := Calls_of_runT (tabs := []) hC hmix hv hn he w (fun x hx => by cases hx)

end
end Go.Ai
