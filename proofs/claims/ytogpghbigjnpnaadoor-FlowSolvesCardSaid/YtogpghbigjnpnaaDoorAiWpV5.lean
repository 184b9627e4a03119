/-
  WHAT IS ASKED OF A PIECE OF CODE, 10: those questions are sound.
-/
import Derived.Test.YtogpghbigjnpnaaDoorAiWpV4
set_option linter.unusedVariables false
namespace Go.Ai
noncomputable section
variable {P : Program}
theorem kind7_guard {q : FuncId → Nat} {ops : Array Oper} {o : Oper} (h : kindV P q ops o = 7) : o.guard = none := by
  unfold kindV at h
  split at h
  · unfold kindFV at h; split at h <;> cases h
  · cases h
  · split at h
    · cases h
    · split at h
      · assumption
      · cases h
  · rename_i b _ _ _ _
    cases hq : quietB b <;> rw [hq] at h <;> cases h
  all_goals first
    | (cases h; done)
    | (rename_i a b _ _; cases hn : numC P a b <;> cases ht : textC P b <;> (rw [hn] at h; try rw [ht] at h) <;> cases h)
theorem wpDV_ok {q : FuncId → Nat} {ops : Array Oper} {s0 : Env} {h0 : AHeap} (hro0 : h0.ro ≤ h0.next) : ∀ (l : List Oper) (i : Nat) (ms : List Nat) (A : List DRec) (prev : List (Nat × Nat × Option Nat × Nat)) (r s : Env) (h : AHeap) {K : Env → AHeap → Prop},
    ops.toList.drop i = l → i ≤ ops.size → MaskOk ops ms → ms.length = i → Sofar P ops s0 h0 A i s h → (∀ A1 x A2, A = A1 ++ x :: A2 → ∃ m, (x.j, kindV P q ops x.o, zOf ops x.o, m) ∈ prev ∧ RV P q ops A1 m x) → statGo ops l i ms (A.reverse.map fun x => (x.j, x.o)) = true → kindGoV P q ops l ms prev = true →
    Le r s → wpDV P q ops l i ms (alV P q ops A) r h K → ∃ A' r' s' h', Sofar P ops s0 h0 A' ops.size s' h' ∧ Le r' s' ∧ K r' h' ∧ Fr (modsO l) s s' ∧ AF h h'
  | [], i, ms, A, prev, r, s, h, K, hl, hle, hm, hml, F, hrp, hst, hkd, hle1, hk => by
    have : i = ops.size := by
      have := congrArg List.length hl
      simp at this
      omega
    subst this
    exact ⟨A, r, s, h, F, hle1, hk, .refl _ _, .refl _⟩
  | o :: os, i, ms, A, prev, r, s, h, K, hl, hle, hm, hml, F, hrp, hst, hkd, hle1, hk => by
    have ho : ops[i]? = some o := by
      have := congrArg (fun l => l[0]?) hl
      simp only [List.getElem?_drop, List.getElem?_cons_zero] at this
      simpa using this
    have hlt : i < ops.size := by
      rcases Nat.lt_or_ge i ops.size with h | h
      · exact h
      · rw [Array.getElem?_eq_none h] at ho; cases ho
    have hl' : ops.toList.drop (i + 1) = os := by rw [← List.tail_drop, hl]; rfl
    simp only [statGo, Bool.and_eq_true] at hst
    obtain ⟨⟨hedge, hslots⟩, hst⟩ := hst
    simp only [kindGoV, Bool.and_eq_true] at hkd
    obtain ⟨⟨hpair, hzz⟩, hkd⟩ := hkd
    have hzz2 : ∀ z, zOf ops o = some z → (maskOf ms o).testBit z = true := fun z hz => by rw [hz] at hzz; exact hzz
    -- one operation, then the rest
    have go : ∀ (v u : Value) (h1 : AHeap) (y : DRec), (isBot v = true ∨ v = u) → NextV P q ops s0 h0 A i o s h u h1 (maskOf ms o) y → (kindV P q ops o = 7 → val0 s o = val0 r o) →
        (match r.put o.dst v with | some s1 => wpDV P q ops os (i + 1) (ms ++ [maskOf ms o]) (alV P q ops A ++ lays (kindV P q ops o) i h.next h1.next (val0 r o)) s1 h1 K | none => False) →
        ∃ A' r' s' h', Sofar P ops s0 h0 A' ops.size s' h' ∧ Le r' s' ∧ K r' h' ∧ Fr (modsO (o :: os)) s s' ∧ AF h h' := by
      intro v u h1 y hv N h7 hk
      split at hk
      case h_2 => exact hk.elim
      rename_i r1 hp
      obtain ⟨s1, hp1, hl1⟩ := hle1.put hp hv
      have hs1 : ∀ t, s1.get t = if o.dst = some t then u else s.get t := by
        intro t
        cases hd : o.dst with
        | none => rw [hd] at hp1; simp only [Env.put, Option.some.injEq] at hp1; subst hp1; simp
        | some d =>
          rw [hd] at hp1
          simp only [Env.put] at hp1
          obtain ⟨_, hp1⟩ := cond_some hp1
          simp only [Option.some.injEq] at hp1
          subst hp1
          rw [Env.get_set]
          by_cases e : t = d
          · subst e; simp
          · rw [if_neg e, if_neg (by simp only [Option.some.injEq]; exact fun h => e h.symm)]
      have hs1s : s1.size = s.size := (Fr.put hp1).size
      have hal2 : (alV P q ops A ++ lays (kindV P q ops o) i h.next h1.next (val0 r o)) = alV P q ops (A ++ [y]) := by
        rw [alV_snoc, N.hop, N.hj, N.gn, N.hsl]
        unfold lays
        cases hla : layer (kindV P q ops o) with
        | true =>
          rw [N.geq hla]
          cases h7b : Nat.beq (kindV P q ops o) 7 with
          | true => rw [h7 (Nat.eq_of_beq_eq_true h7b)]
          | false => rfl
        | false => rfl
      rw [hal2] at hk
      have hny : ∀ w, w ∈ A → w.g'.next ≤ y.g.next := fun w hw => by rw [N.gn]; exact F.nA w hw
      have F1 : Sofar P ops s0 h0 (A ++ [y]) (i + 1) s1 h1 := by
        refine ⟨?_, ?_, hs1s.trans F.size, ?_, N.ro.trans F.ro, Nat.le_trans F.next N.next, ?_, N.wf, ?_, ?_, ?_⟩
        · rw [List.map_append, F.js, List.range_succ]; simp [N.hj]
        · intro t
          rw [hs1, envV_snoc, N.hop, N.hval, F.env]
        · intro b
          rw [N.heap, hpV_snoc, F.heap]
        · intro x hx
          rcases List.mem_append.1 hx with hx | hx
          · exact Nat.le_trans (F.nA x hx) N.next
          · simp only [List.mem_singleton] at hx; subst hx; exact N.gnext
        · intro A1 r A2 e
          rcases snoc_split e with ⟨_, rfl, rfl⟩ | ⟨A3, _, e3⟩
          · exact N.told
          · exact F.told A1 r A3 e3
        · intro A1 r A2 e ed hed hb
          rcases snoc_split e with ⟨_, rfl, rfl⟩ | ⟨A3, _, e3⟩
          · rw [N.hop] at hed
            simp only [List.all_eq_true, Bool.or_eq_true, Bool.not_eq_true', Nat.blt_eq] at hedge
            rcases hedge ed (by simpa using hed) with h2 | h2
            · rw [hb] at h2; cases h2
            · have : ed.on ∈ A1.map (·.j) := by rw [F.js]; exact List.mem_range.2 h2
              obtain ⟨x, hx, hxj⟩ := List.mem_map.1 this
              exact ⟨x, hx, hxj⟩
          · exact F.edges A1 r A3 e3 ed hed hb
        · intro A1 x A2 z A3 e
          have e' : A ++ [y] = (A1 ++ x :: A2) ++ z :: A3 := by rw [e]; simp
          rcases snoc_split e' with ⟨_, e1, rfl⟩ | ⟨A4, _, e3⟩
          · have e1 : A = A1 ++ x :: A2 := e1.symm
            have hxm : x ∈ A := by rw [e1]; simp
            obtain ⟨mx, hpm, hrx⟩ := hrp A1 x A2 e1
            simp only [List.all_eq_true, Bool.or_eq_true] at hpair hslots
            rcases hslots (x.j, x.o) (List.mem_map.2 ⟨x, by simpa using hxm, rfl⟩) with h2 | h2
            · rw [N.hj]; exact .inl (maskOf_ok hm ho h2)
            · rcases hpair _ hpm with h3 | h3
              · rw [N.hj]; exact .inl (maskOf_ok hm ho h3)
              · by_cases hbit : (maskOf ms o).testBit x.j = true
                · rw [N.hj]; exact .inl (maskOf_ok hm ho hbit)
                · simp only [Bool.not_eq_true] at hbit
                  have F' := F
                  have nr := N.rv
                  rw [e1] at F' nr
                  rw [e1] at hny
                  exact .inr (free_pairV F' hrx nr hny (by rw [N.hop]; exact h2) hbit (by rw [N.hop]; exact hzz2) (by rw [N.hop]; exact h3))
          · exact F.apart A1 x A2 z A4 (by rw [e3]; simp)
      have hrp1 : ∀ A1 x A2, A ++ [y] = A1 ++ x :: A2 → ∃ m, (x.j, kindV P q ops x.o, zOf ops x.o, m) ∈ (ms.length, kindV P q ops o, zOf ops o, maskOf ms o) :: prev ∧ RV P q ops A1 m x := by
        intro A1 x A2 e
        rcases snoc_split e with ⟨_, e1, e2⟩ | ⟨A3, _, e3⟩
        · subst e1 e2
          exact ⟨maskOf ms o, by rw [N.hj, N.hop, hml]; simp, N.rv⟩
        · obtain ⟨m, h1, h2⟩ := hrp A1 x A3 e3
          exact ⟨m, List.mem_cons_of_mem _ h1, h2⟩
      obtain ⟨A', r', s', h', F', l', k', f', a'⟩ := wpDV_ok hro0 os (i + 1) (ms ++ [maskOf ms o]) (A ++ [y]) _ r1 s1 h1 hl' hlt (maskOk_snoc hm hml ho) (by simp [hml]) F1 hrp1
        (by simpa [N.hj, N.hop] using hst) hkd hl1 hk
      exact ⟨A', r', s', h', F', l', k', (Fr.put hp1).left.trans f'.right, (app_next F (v := v) N).trans a'⟩
    have slot : ∀ {v : Value} {h1 : AHeap} {al' : List (Nat × Nat × Nat)}, (match r.put o.dst v with | some s1 => wpDV P q ops os (i + 1) (ms ++ [maskOf ms o]) al' s1 h1 K | none => False) → ∀ d, o.dst = some d → d < s.size := by
      intro v h1 al' hk d hd
      split at hk
      case h_2 => exact hk.elim
      rename_i r1 hp
      rw [hd] at hp
      simp only [Env.put] at hp
      obtain ⟨hb, _⟩ := cond_some hp
      rw [← hle1.size]
      simpa [Nat.blt_eq] using hb
    have hron : h.ro ≤ h.next := by rw [F.ro]; exact Nat.le_trans hro0 F.next
    have dstok : ∀ {hv : AHeap} {al : List (Nat × Nat × Nat)} {K' : Value → AHeap → Prop}, opDV P q ops r o al hv h K' → (∀ v h1, K' v h1 → ∀ d, o.dst = some d → d < s.size) → ∀ d, o.dst = some d → d < s.size := by
      intro hv al K' hk hs
      have fromA : ∀ {g : AHeap} {K2 : Value → AHeap → Prop}, opA P r o g K2 → (∀ v h1, K2 v h1 → ∀ d, o.dst = some d → d < s.size) → ∀ d, o.dst = some d → d < s.size := fun hk hs => by
        obtain ⟨v, u, h', _, _, hK⟩ := opA_sound hle1 hk
        exact hs v h' hK
      unfold opDV at hk
      split at hk
      · split at hk
        · obtain ⟨_, _, v, _, _, hK⟩ := hk; exact hs _ _ hK
        · obtain ⟨_, _, v, h2, _, _, hK⟩ := hk; exact hs _ _ hK
        · obtain ⟨_, hk⟩ := hk; obtain ⟨v, h2, _, hK⟩ := of_optH hk; exact hs _ _ hK
        · obtain ⟨_, _, hd⟩ := hk; obtain ⟨v, h2, hK, _⟩ := hd ⟨F.wf, hron⟩; exact hs _ _ hK
      · unfold callVD at hk
        split at hk
        · obtain ⟨_, _, _, hd⟩ := hk; obtain ⟨v, h2, hK, _⟩ := hd ⟨F.wf, hron⟩; exact hs _ _ hK
        · exact hk.elim
      · split at hk
        · unfold appV at hk
          split at hk
          · obtain ⟨_, hk⟩ := hk; obtain ⟨v, h2, _, hK⟩ := of_optH hk; exact hs _ _ hK
          · exact hk.elim
        · exact fromA hk hs
      · cases h1 : Nat.beq (kindV P q ops o) 1 with
        | true => rw [h1] at hk; exact fromA hk (fun v _ q => hs v _ q)
        | false => rw [h1] at hk; exact fromA hk hs
    simp only [wpDV] at hk
    split at hk
    · rename_i hg
      obtain ⟨v, u, h1, y, hv, hK, N, h7⟩ := opDV_next F hron ho (dstok hk (fun v h1 hK => slot hK)) (by simp only [awanted, hg]) hle1 hk
      exact go v u h1 y hv N h7 hK
    · rename_i j want hg
      split at hk
      · exact hk.elim
      · rename_i d hdst
        unfold GD at hk
        split at hk
        · rename_i b hb
          have hs : s.get d = .bool b := by
            rcases hle1.get d with e | e
            · rw [hb] at e; cases e
            · rw [← e, hb]
          have haw : awanted ops s o = (b == want) := by simp only [awanted, hg, hdst, hs]
          by_cases hbw : b = want
          · have hk := hk.1 hbw
            obtain ⟨v, u, h1, y, hv, hK, N, h7⟩ := opDV_next F hron ho (dstok hk (fun v h1 hK => slot hK)) (by rw [haw, hbw]; simp) hle1 hk
            exact go v u h1 y hv N h7 hK
          · have hk := hk.2 hbw
            obtain ⟨y, N⟩ := nextV_pure (q := q) F ho (slot hk) (u := undef) (.inl ⟨by rw [haw]; simpa using hbw, rfl, rfl⟩) (maskOf ms o)
            exact go undef undef h y (.inr rfl) N (fun e => by rw [kind7_guard e] at hg; cases hg) hk
        · exact hk.elim
        · rename_i n1 n2
          have hs : s.get d = r.get d := by
            rcases hle1.get d with e | e
            · obtain ⟨k, p, q, e2⟩ := isBot_eq e; exact absurd e2 (n2 k p q)
            · exact e.symm
          have haw : awanted ops s o = false := by
            simp only [awanted, hg, hdst, hs]
          obtain ⟨y, N⟩ := nextV_pure (q := q) F ho (slot hk) (u := undef) (.inl ⟨haw, rfl, rfl⟩) (maskOf ms o)
          exact go undef undef h y (.inr rfl) N (fun e => by rw [kind7_guard e] at hg; cases hg) hk

theorem drawV_ok {q : FuncId → Nat} (hmix : P.follows .mixedOrders = true) : DrawOk P (drawV P q) := by
  intro ops r s h K rd id hle wf hk
  unfold drawV at hk
  cases hc : calmV P q ops with
  | false => rw [hc] at hk; exact hk.elim
  | true =>
    rw [hc] at hk
    have hk : wpDV P q ops ops.toList 0 [] [] r h K := hk
    simp only [calmV, Bool.and_eq_true] at hc
    have F0 : Sofar P ops s h ([] : List DRec) 0 s h := ⟨rfl, fun t => rfl, rfl, fun b => rfl, rfl, Nat.le_refl _, fun x hx => (by cases hx), wf.1,
      fun A1 r A2 e => by simp at e, fun A1 r A2 e => by simp at e, fun A1 x A2 y A3 e => by simp at e⟩
    obtain ⟨A, r', s', h', F, hl', hK, hf, af⟩ := wpDV_ok wf.2 ops.toList 0 [] [] [] r s h rfl (Nat.zero_le _) (fun k q hq => by simp at hq) rfl F0 (fun A1 x A2 e => by simp at e) hc.1 hc.2 hle hk
    have V : Valid P ops s h A := ⟨by rw [F.js]; exact List.nodup_range, fun i hi => by
        have : i ∈ A.map (·.j) := by rw [F.js]; exact List.mem_range.2 hi
        obtain ⟨r, hr, hj⟩ := List.mem_map.1 this
        exact ⟨r, hr, hj⟩, F.told, F.edges, F.apart⟩
    exact ⟨r', s', h', hl', hK, hf, af, T_regionDraw hmix V F.env F.size F.heap F.ro F.next F.nA (Q := fun e s1 h1 => e = .normal ∧ s1 = s' ∧ h1 = h') ⟨rfl, rfl, rfl⟩⟩
/-- A function does what is asked of it. -/
theorem DC_of_wpV {q : FuncId → Nat} (hmix : P.follows .mixedOrders = true) {n : Nat} {f : FuncId} {args : List Value} {h : AHeap} {R : Value → AHeap → Prop} (hk : wpF P (drawV P q) n f args h R) : DC P f args h R := DC_of_wpF (drawV_ok hmix) hk
/-- A region that draws its order, the plain way where that is calm. -/
def drawX (P : Program) (q : FuncId → Nat) (ops : Array Oper) (s : Env) (h : AHeap) (K : Env → AHeap → Prop) : Prop := sel (calm q ops) (wpD P q ops ops.toList 0 [] [] s h K) (drawV P q ops s h K)
theorem drawX_ok {q : FuncId → Nat} (hmix : P.follows .mixedOrders = true) : DrawOk P (drawX P q) := by
  intro ops r s h K rd id hle wf hk
  unfold drawX at hk
  cases hc : calm q ops with
  | true =>
    rw [hc] at hk
    exact drawW_ok hmix ops r s h K rd id hle wf (by unfold drawW; rw [hc]; exact hk)
  | false =>
    rw [hc] at hk
    exact drawV_ok hmix ops r s h K rd id hle wf hk
/-- A function does what is asked of it. -/
theorem DC_of_wpX {q : FuncId → Nat} (hmix : P.follows .mixedOrders = true) {n : Nat} {f : FuncId} {args : List Value} {h : AHeap} {R : Value → AHeap → Prop} (hk : wpF P (drawX P q) n f args h R) : DC P f args h R := DC_of_wpF (drawX_ok hmix) hk
end
end Go.Ai
