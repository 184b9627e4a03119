/-
  WHAT IS ASKED OF A PIECE OF CODE, 9: a region with appends of its own, whole.
-/
import Derived.Test.YtogpghbigjnpnaaDoorAiWpV3
set_option linter.unusedVariables false
namespace Go.Ai
noncomputable section
variable {P : Program}
section
variable {q : FuncId → Nat} {ops : Array Oper} {s0 : Env} {h0 : AHeap} {A : List DRec} {i : Nat} {o : Oper} {s : Env} {h : AHeap}
theorem conv_any {a b : TypeId} (hn : numC P a b = true) {x u : Value} {g g' : AHeap} (he : aconv P a b x g = some (u, g')) : g' = g ∧ ∀ g2, aconv P a b x g2 = some (u, g2) := by
  unfold numC at hn
  rw [Bool.and_eq_true] at hn
  obtain ⟨n1, n2⟩ := hn
  split at n1
  case h_2 => cases n1
  rename_i _ _ _ _ e1 e2
  split at n2
  case h_2 => cases n2
  rename_i _ _ _ _ e3 e4
  unfold aconv aconv0 aconvU at he ⊢
  simp only [e1, e2, e3, e4] at he ⊢
  cases hf : cond (flat x) (fl (srun P (convert a b x))) none with
  | none => rw [hf] at he; cases he
  | some v =>
    rw [hf] at he
    simp only [Option.some.injEq, Prod.mk.injEq] at he ⊢
    obtain ⟨rfl, rfl⟩ := he
    exact ⟨rfl, fun _ => ⟨rfl, trivial⟩⟩
theorem conv_text {a b : TypeId} (hn : textC P b = true) {x u : Value} {g g' : AHeap} (he : aconv P a b x g = some (u, g')) : g' = g := by
  unfold textC at hn
  rw [Bool.and_eq_true] at hn
  obtain ⟨n1, n2⟩ := hn
  split at n1
  case h_2 => cases n1
  rename_i e1
  split at n2
  case h_2 => cases n2
  rename_i e2
  unfold aconv at he
  cases h0 : aconv0 P a b x g with
  | some r =>
    rw [h0] at he
    simp only [Option.some.injEq] at he
    subst he
    unfold aconv0 at h0
    split at h0
    · simp only [Option.some.injEq, Prod.mk.injEq] at h0; exact h0.2.symm
    · split at h0
      · rename_i k2 _; rw [e1] at k2; cases k2
      · split at h0
        · simp only [Option.map_eq_some_iff, Prod.mk.injEq] at h0
          obtain ⟨_, _, _, q⟩ := h0
          exact q.symm
        · cases h0
      · cases h0
  | none =>
    rw [h0] at he
    simp only [Option.map_eq_some_iff, Prod.mk.injEq] at he
    obtain ⟨_, _, _, q⟩ := he
    exact q.symm
theorem kindV_O {k : Nat} (hc : isCallF o.op = false) (hk : kindV P q ops o = k) (h1 : 1 ≤ k) (h5 : k ≤ 2) (hv : k = 1 → ¬ ∃ a b x, o.op = .convert a b x) : kindO q o = k := by
  unfold kindV at hk
  unfold kindO
  unfold isCallF at hc
  split at hk <;> rename_i hop <;> simp only [hop] at hc ⊢ <;> first
    | (cases hc; done)
    | exact hk
    | (subst hk; omega)
    | (split at hk <;> (subst hk; omega))
    | ((repeat' split at hk) <;> (subst hk; omega))
    | skip
  rename_i a b x
  cases hn : numC P a b with
  | true => rw [hn] at hk; exact absurd (show (0 : Nat) = k from hk) (by omega)
  | false =>
    rw [hn] at hk
    cases ht : textC P b with
    | true => rw [ht] at hk; exact absurd ⟨_, _, _, hop⟩ (hv (show 1 = k from hk).symm)
    | false => rw [ht] at hk; exact hk
theorem readerV_same {u : Value} {h' : AHeap} (hk : kindV P q ops o = 1) (hc : isCallF o.op = false) (he : aop P s o h = some (u, h')) : h' = h := by
  by_cases hv : ∃ a b x, o.op = .convert a b x
  · obtain ⟨a, b, x, hop⟩ := hv
    unfold kindV at hk
    simp only [hop] at hk
    cases hn : numC P a b with
    | true => rw [hn] at hk; cases hk
    | false =>
      cases ht : textC P b with
      | false => rw [hn, ht] at hk; cases hk
      | true =>
        unfold aop at he
        simp only [hop] at he
        split at he
        · exact conv_text ht he
        · cases he
  · exact reader_same (kindV_O hc hk (by omega) (by omega) (fun _ => hv)) hc he
theorem pureV_any {u : Value} {h' : AHeap} (hk : kindV P q ops o = 0) (hc : isCallF o.op = false) (he : aop P s o h = some (u, h')) : h' = h ∧ ∀ g, aop P s o g = some (u, g) := by
  by_cases hv : ∃ a b x, o.op = .convert a b x
  · obtain ⟨a, b, x, hop⟩ := hv
    unfold kindV at hk
    simp only [hop] at hk
    cases hn : numC P a b with
    | false => rw [hn] at hk; cases ht : textC P b <;> (rw [ht] at hk; cases hk)
    | true =>
      unfold aop at he ⊢
      simp only [hop] at he ⊢
      split at he
      · exact conv_any hn he
      · cases he
  · refine pure_any (q := q) ?_ hc he
    unfold kindV at hk
    unfold kindO
    unfold isCallF at hc
    split at hk <;> rename_i hop <;> simp only [hop] at hc ⊢ <;> first
      | (cases hc; done)
      | exact hk
      | (exact absurd hk (by decide))
      | (exact (hv ⟨_, _, _, hop⟩).elim)
      | (exfalso; split at hk <;> simp at hk)
      | (exfalso; (repeat' split at hk) <;> simp at hk)
      | (split at hk <;> exact absurd hk (by decide))
      | (cases hz : zOf ops o <;> (rw [hz] at hk; simp at hk))
theorem app_next (F : Sofar P ops s0 h0 A i s h) {v : Value} {h1 : AHeap} {y : DRec} {u : Value} {m : Nat} (N : NextV P q ops s0 h0 A i o s h u h1 m y) : AF h h1 :=
  ⟨N.next, N.ro, fun b o hb => by
    rw [N.heap] at hb
    by_cases ht : y.tc b = true
    · rw [if_pos ht] at hb
      by_cases hl : b < y.g.next
      · have h2 := N.told.tc3 b o ht hl hb
        have h3 := N.told.heap b
        rw [h3] at h2
        by_cases hr : y.rd b = true
        · rw [if_pos hr, ← F.heap] at h2; exact .inl h2
        · rw [if_neg hr] at h2; exact absurd rfl h2
      · have hb1 : h1.get b = some o := by rw [N.heap, if_pos ht]; exact hb
        exact .inr ⟨by rw [← N.gn]; omega, N.wf b o hb1⟩
    · rw [if_neg ht] at hb
      exact .inl (by rw [hb]; simp)⟩
/-- One operation. -/
theorem opDV_next (F : Sofar P ops s0 h0 A i s h) (hron : h.ro ≤ h.next) (ho : ops[i]? = some o) (hput : ∀ d, o.dst = some d → d < s.size) (hw : awanted ops s o = true) {r : Env} (hl : Le r s) {m : Nat}
    {K : Value → AHeap → Prop} (hk : opDV P q ops r o (alV P q ops A) (viewV m (alV P q ops A) h) h K) : ∃ v u h1 y, (isBot v = true ∨ v = u) ∧ K v h1 ∧ NextV P q ops s0 h0 A i o s h u h1 m y ∧ (kindV P q ops o = 7 → val0 s o = val0 r o) := by
  obtain ⟨w1, w2, w3⟩ := viewV_facts m (alV P q ops A) h
  have no7 : ∀ {X : Prop}, kindV P q ops o ≠ 7 → kindV P q ops o = 7 → X := fun h1 h2 => absurd h2 h1
  unfold opDV at hk
  split at hk
  · rename_i g args ts hop
    have ef : aev s (.func g) = some (.func (.func g) #[] #[]) := rfl
    have hkind : kindV P q ops o = kindFV (q g) := by unfold kindV; simp only [hop]
    split at hk
    · rename_i hq
      obtain ⟨hc, hn, v, hsc, hT, hK⟩ := hk
      have hT2 : TC P g (evs r args.toList) (viewV m (alV P q ops A) h) (fun v1 h1 => v1 = v ∧ h1 = viewV m (alV P q ops A) h) :=
        (hT.quiet (fun v1 _ e => by rw [e]; exact hsc)).mono (by rintro v1 h1 ⟨⟨_, e1⟩, e2⟩; exact ⟨e1, e2⟩)
      obtain ⟨y, hy⟩ := nextV_read (q := q) F ho hput (by rw [hkind, hq]; rfl) (u := v) (.inr ⟨hw, .inr (.inl ⟨.func g, args, ts, g, #[], #[], _, hop, ef, levs hl hn, hc, by simpa using hT2⟩)⟩)
      exact ⟨v, v, h, y, .inr rfl, hK, hy, no7 (by rw [hkind, hq]; decide)⟩
    · rename_i hq
      obtain ⟨hc, hn, v, h2, hT, af, hK⟩ := hk
      have hnx : h.next ≤ h2.next := by have := af.next; rw [← w1]; exact this
      obtain ⟨y, hy⟩ := nextV_call (q := q) F ho hput (by rw [hkind, hq]; rfl) (m := m) hnx (u := v)
        (.inr ⟨hw, .inr (.inl ⟨.func g, args, ts, g, #[], #[], _, hop, ef, levs hl hn, hc, by simpa using hT.fresh⟩)⟩)
      exact ⟨v, v, _, y, .inr rfl, hK, hy, no7 (by rw [hkind, hq]; decide)⟩
    · rename_i hq
      obtain ⟨hn, hk⟩ := hk
      obtain ⟨v, h2, he, hK⟩ := of_optH hk
      obtain ⟨f1, f2, f3⟩ := still_facts (aext_still he)
      obtain ⟨y, hy⟩ := nextV_alloc (q := q) F ho hput (by rw [hkind, hq]; rfl) f1 f2 f3 (u := v) (.inr ⟨hw, .inr (.inr ⟨.func g, args, ts, g, #[], #[], _, hop, ef, levs hl hn, by simpa using he⟩)⟩) m
      exact ⟨v, v, _, y, .inr rfl, hK, hy, no7 (by rw [hkind, hq]; decide)⟩
    · rename_i n2 n3 n4
      obtain ⟨hc, hn, hd⟩ := hk
      obtain ⟨v, h2, hK, af, hT⟩ := hd ⟨F.wf, hron⟩
      have hk3 : kindV P q ops o = 3 := by rw [hkind]; unfold kindFV; split <;> first | rfl | (exfalso; simp_all)
      obtain ⟨y, hy⟩ := nextV_write (q := q) F ho hput hk3 af (u := v)
        (.inr ⟨hw, .inr (.inl ⟨.func g, args, ts, g, #[], #[], _, hop, ef, levs hl hn, hc, by simpa using hT⟩)⟩) m
      exact ⟨v, v, _, y, .inr rfl, hK, hy, no7 (by rw [hk3]; decide)⟩
  · rename_i f args ts hnf hop
    unfold callVD at hk
    split at hk
    · rename_i g a c hf
      have ef : aev s f = some (.func (.func g) a c) := by rw [lev' hl (x := f) (by rw [hf]; rfl), hf]
      obtain ⟨hn0, hc, hn, hd⟩ := hk
      obtain ⟨v, h2, hK, af, hT⟩ := hd ⟨F.wf, hron⟩
      have hkind : kindV P q ops o = 3 := by
        unfold kindV
        simp only [hop]
      obtain ⟨y, hy⟩ := nextV_write (q := q) F ho hput hkind af (u := v) (.inr ⟨hw, .inr (.inl ⟨f, args, ts, g, a, c, _, hop, ef, levs hl hn0, hc, hT⟩)⟩) m
      exact ⟨v, v, _, y, .inr rfl, hK, hy, no7 (by rw [hkind]; decide)⟩
    · exact hk.elim
  · rename_i args ts hop
    split at hk
    · rename_i z hz
      have hkind : kindV P q ops o = 4 := by unfold kindV; simp only [hop, hz]
      unfold appV at hk
      split at hk
      case h_2 => exact hk.elim
      rename_i x sv vs' hx hvs
      obtain ⟨how, hk⟩ := hk
      obtain ⟨v, h2, he, hK⟩ := of_optH hk
      obtain ⟨hn, he⟩ := nb_some he
      obtain ⟨f, t⟩ := x
      obtain ⟨zr, hzm, hzl, hze⟩ := find_alV hx
      simp only [Prod.mk.injEq] at hze
      obtain ⟨rfl, rfl, rfl⟩ := hze
      have hop2 : aop P s o (viewV m (alV P q ops A) h) = some (v, h2) := by
        unfold aop
        simp only [hop]
        rw [levs hl hn]
        exact he
      rw [hvs] at he
      obtain ⟨y, hy⟩ := nextV_app (q := q) F ho hput hkind (m := m) hzm hzl hz how (appFx_of he) (.inr ⟨hw, .inl hop2⟩)
      exact ⟨v, v, _, y, .inr rfl, hK, hy, no7 (by rw [hkind]; decide)⟩
    · rename_i hz
      obtain ⟨v, u, h', he, hv, hK⟩ := opA_sound hl hk
      have hkk : kindV P q ops o = 7 ∨ kindV P q ops o = 3 := by
        unfold kindV; simp only [hop, hz]
        split
        · exact .inl rfl
        · exact .inr rfl
      rcases hkk with h7 | h3
      · have hs0 : ∃ d xs, args.toList = .tmp d :: xs ∧ slot0 o = some d := by
          unfold kindV at h7
          simp only [hop, hz] at h7
          split at h7
          · rename_i d hd _
            have hd2 := hd
            unfold slot0 at hd
            simp only [hop] at hd
            split at hd
            · rename_i d2 xs hx
              obtain rfl : d2 = d := by simpa using hd
              exact ⟨_, xs, hx, hd2⟩
            · cases hd
          · cases h7
        obtain ⟨d, xs, hx, hsl⟩ := hs0
        have he0 := he
        unfold aop at he
        simp only [hop, hx] at he
        simp only [aevs, aev] at he
        split at he
        · rename_i vs hvs
          split at hvs
          · cases hvs
          · cases hvs
            have hval : val0 s o = s.get d := by unfold val0; rw [hsl]
            obtain ⟨y, hy⟩ := nextV_app7 (q := q) F ho hput h7 m hval (appFx_of he) (.inr ⟨hw, .inl he0⟩)
            refine ⟨v, u, h', y, hv, hK, hy, fun _ => ?_⟩
            rw [hval]; unfold val0; rw [hsl]
            unfold opA at hk
            simp only [hop, hx] at hk
            obtain ⟨v2, h2, he2, _⟩ := of_optH hk
            obtain ⟨hnb, _⟩ := nb_some he2
            simp only [evs, ev, nobot] at hnb
            have hd : isBot (r.get d) = false := by
              cases hb : isBot (r.get d) with
              | false => rfl
              | true => rw [hb] at hnb; cases hnb
            rcases hl.get d with e | e
            · rw [e] at hd; cases hd
            · exact e.symm
        · cases he
      · obtain ⟨y, hy⟩ := nextV_write (q := q) F ho hput h3 (aop_parts he).1 (u := u) (.inr ⟨hw, .inl he⟩) m
        exact ⟨v, u, h', y, hv, hK, hy, no7 (by rw [h3]; decide)⟩
  · rename_i hn1 hn2 hn3
    cases h1 : Nat.beq (kindV P q ops o) 1 with
    | true =>
      rw [h1] at hk
      have h1 := Nat.eq_of_beq_eq_true h1
      obtain ⟨v, u, h', he, hv, hK⟩ := opA_sound hl hk
      have hnc := aop_noCall he
      obtain rfl := readerV_same h1 hnc he
      obtain ⟨y, hy⟩ := nextV_read (q := q) F ho hput h1 (m := m) (u := u) (.inr ⟨hw, .inl he⟩)
      exact ⟨v, u, h, y, hv, hK, hy, no7 (by rw [h1]; decide)⟩
    | false =>
      rw [h1] at hk
      obtain ⟨v, u, h', he, hv, hK⟩ := opA_sound hl hk
      have hnc := aop_noCall he
      have hkle : kindV P q ops o = 0 ∨ kindV P q ops o = 1 ∨ kindV P q ops o = 2 ∨ kindV P q ops o = 3 ∨ kindV P q ops o = 5 := by
        unfold kindV
        split <;> (try simp)
        · rename_i hop; rw [hop] at hnc; cases hnc
        · rename_i hop; exact absurd hop (hn3 _ _)
        · cases quietB _ <;> simp
        · cases numC P _ _ <;> cases textC P _ <;> simp
      rcases hkle with h0' | h1' | h2' | h3' | h5'
      · obtain ⟨rfl, hany⟩ := pureV_any h0' hnc he
        obtain ⟨y, hy⟩ := nextV_pure (q := q) F ho hput (u := u) (.inr ⟨hw, .inl (hany _)⟩) m
        exact ⟨v, u, h', y, hv, hK, hy, no7 (by rw [h0']; decide)⟩
      · rw [h1'] at h1; cases h1
      · obtain ⟨f1, f2, f3⟩ := still_facts (alloc_still (kindV_O hnc h2' (by omega) (by omega) (fun e => absurd e (by decide))) hnc he)
        obtain ⟨y, hy⟩ := nextV_alloc (q := q) F ho hput h2' f1 f2 f3 (u := u) (.inr ⟨hw, .inl he⟩) m
        exact ⟨v, u, h', y, hv, hK, hy, no7 (by rw [h2']; decide)⟩
      · obtain ⟨y, hy⟩ := nextV_write (q := q) F ho hput h3' (aop_parts he).1 (u := u) (.inr ⟨hw, .inl he⟩) m
        exact ⟨v, u, h', y, hv, hK, hy, no7 (by rw [h3']; decide)⟩
      · obtain ⟨ob, rfl, he2⟩ := lay_any h5' he
        obtain ⟨y, hy⟩ := nextV_lay (q := q) F ho hput h5' (u := u) (.inr ⟨hw, .inl he2⟩) m
        exact ⟨v, u, _, y, hv, hK, hy, no7 (by rw [h5']; decide)⟩
theorem ran_before {A1 A2 : List DRec} {x w : DRec} (F : Sofar P ops s0 h0 (A1 ++ x :: A2) i s h) (hw : w ∈ A1) : w.g'.next ≤ x.g.next := (F.told A1 x A2 rfl).nA w hw
theorem ran_after {A1 A2 : List DRec} {x w : DRec} (F : Sofar P ops s0 h0 (A1 ++ x :: A2) i s h) (hw : w ∈ A2) : x.g'.next ≤ w.g.next := by
  obtain ⟨B1, B2, rfl⟩ := List.append_of_mem hw
  exact (F.told (A1 ++ x :: B1) w B2 (by simp)).nA x (by simp)
theorem ran_up {x : DRec} (F : Sofar P ops s0 h0 A i s h) (hx : x ∈ A) : x.g.next ≤ x.g'.next := by
  obtain ⟨B1, B2, rfl⟩ := List.append_of_mem hx
  exact (F.told B1 x B2 rfl).n1
theorem ran_apart {u w : DRec} (F : Sofar P ops s0 h0 A i s h) (hu : u ∈ A) (hw : w ∈ A) (hne : u.j ≠ w.j) : u.g'.next ≤ w.g.next ∨ w.g'.next ≤ u.g.next := by
  obtain ⟨B1, B2, rfl⟩ := List.append_of_mem hu
  rcases List.mem_append.1 hw with h1 | h1
  · exact .inr (ran_before F h1)
  · rcases List.mem_cons.1 h1 with rfl | h1
    · exact absurd rfl hne
    · exact .inl (ran_after F h1)
theorem free_pairV {A1 A2 : List DRec} {x y : DRec} {mx my : Nat} (F : Sofar P ops s0 h0 (A1 ++ x :: A2) i s h) (hx : RV P q ops A1 mx x) (hy : RV P q ops (A1 ++ x :: A2) my y) (hn : ∀ w, w ∈ A1 ++ x :: A2 → w.g'.next ≤ y.g.next)
    (hs : slotsFree ops x.o y.o = true) (hbit : my.testBit x.j = false) (hzy : ∀ z, zOf ops y.o = some z → my.testBit z = true) (hp : pairV (x.j, kindV P q ops x.o, zOf ops x.o, mx) (kindV P q ops y.o) (zOf ops y.o) my = true) : Free ops x y := by
  simp only [slotsFree, Bool.and_eq_true] at hs
  obtain ⟨h1, h2⟩ := hs
  have d1 : ∀ d, x.o.dst = some d → d ∉ y.o.looksAt ops ∧ y.o.dst ≠ some d := by
    intro d hd
    rw [hd] at h1
    simp only [Bool.and_eq_true, Bool.not_eq_true', decide_eq_false_iff_not, List.contains_eq_mem] at h1
    exact ⟨h1.1, h1.2⟩
  have d2 : ∀ d, y.o.dst = some d → d ∉ x.o.looksAt ops := by
    intro d hd
    rw [hd] at h2
    simp only [Bool.not_eq_true', decide_eq_false_iff_not, List.contains_eq_mem] at h2
    exact h2
  have ff : ∀ {b : Bool}, b ≠ true → b = false := fun h => by simpa using h
  have xm : x ∈ A1 ++ x :: A2 := by simp
  have xu := ran_up F xm
  have xy := hn x xm
  unfold pairV at hp
  simp only [Bool.or_eq_true, Bool.and_eq_true, Bool.not_eq_true'] at hp
  rcases hp with (((hp | hp) | hp) | hp) | ⟨⟨⟨⟨⟨⟨p1, p2⟩, p7⟩, q7⟩, p3⟩, p4⟩, p5⟩
  · have e := Nat.eq_of_beq_eq_true hp
    have t := hx.k1 (by omega)
    have r := hx.k0 (.inl e)
    exact ⟨d1, d2, fun b hb => (by rw [t b] at hb; cases hb), fun b _ => r b⟩
  · have e := Nat.eq_of_beq_eq_true hp
    have t := hy.k1 (by omega)
    have r := hy.k0 (.inl e)
    exact ⟨d1, d2, fun b _ => ⟨r b, t b⟩, fun b hb => by rw [t b] at hb; cases hb⟩
  · have e3 := Nat.eq_of_beq_eq_true hp.1
    have e5 := Nat.eq_of_beq_eq_true hp.2
    have own : ∀ b, y.tc b = true → y.g.next ≤ b := fun b hb => by
      rcases hy.tc (by omega) b hb with q | ⟨q, _⟩ | ⟨q, _⟩
      · exact q.1
      · omega
      · omega
    exact ⟨d1, d2, fun b hb => ⟨hy.k0 (.inr e5) b, ff fun ht => by have := hx.t3 e3 b hb; have := own b ht; omega⟩, fun b hb => ff fun hr => by have := hx.rd b hr; have := own b hb; omega⟩
  · have e7 := Nat.eq_of_beq_eq_true hp.1
    have k15 : kindV P q ops y.o = 1 ∨ kindV P q ops y.o = 5 := hp.2.imp Nat.eq_of_beq_eq_true Nat.eq_of_beq_eq_true
    have own : ∀ b, y.tc b = true → y.g.next ≤ b := fun b hb => by
      rcases hy.tc (by omega) b hb with q | ⟨q, _⟩ | ⟨q, _⟩
      · exact q.1
      · omega
      · omega
    have xl : layer (kindV P q ops x.o) = true := by rw [e7]; rfl
    refine ⟨d1, d2, fun b hb => ?_, fun b hb => ff fun hr => by have := hx.rd b hr; have := own b hb; omega⟩
    rcases hx.tc (by omega) b hb with e | ⟨q, _⟩ | ⟨_, q1, q2⟩
    · refine ⟨ff fun hr => ?_, ff fun ht => by have := own b ht; omega⟩
      rcases k15 with k | k
      · exact hy.lk (by rw [k]; rfl) b hr x xm xl hbit e
      · rw [hy.k0 (.inr k) b] at hr; cases hr
    · omega
    · refine ⟨ff fun hr => ?_, ff fun ht => by have := own b ht; omega⟩
      rcases k15 with k | k
      · exact hy.lb (by rw [k]; rfl) b hr x xm e7 hbit q2
      · rw [hy.k0 (.inr k) b] at hr; cases hr
  have nb : ∀ {n m : Nat}, Nat.beq n m = false → n ≠ m := fun h e => by subst e; simp at h
  have x3 := nb p1
  have y3 := nb p2
  have x7 := nb p7
  have y7 := nb q7
  have xtc := hx.tc x3
  have ytc := hy.tc y3
  have lay : ∀ {o : Oper}, kindV P q ops o ≠ 3 → ¬ kindV P q ops o ≤ 1 → layer (kindV P q ops o) = true := fun {o} h3 h1 => by
    have : kindV P q ops o = 0 ∨ kindV P q ops o = 1 ∨ kindV P q ops o = 2 ∨ kindV P q ops o = 3 ∨ kindV P q ops o = 4 ∨ kindV P q ops o = 5 ∨ kindV P q ops o = 6 ∨ kindV P q ops o = 7 := by
      unfold kindV
      split <;> (try simp)
      · unfold kindFV; split <;> simp
      · split
        · simp
        · split <;> simp
      · cases quietB _ <;> simp
      · cases numC P _ _ <;> cases textC P _ <;> simp
    rcases this with e | e | e | e | e | e | e | e
    · omega
    · omega
    · rw [e]; rfl
    · exact absurd e h3
    · rw [e]; rfl
    · rw [e]; rfl
    · rw [e]; rfl
    · rw [e]; rfl
  have see : ∀ b, y.rd b = true → kindV P q ops x.o ≠ 1 → looker (kindV P q ops y.o) = true ∧ kindV P q ops y.o ≠ 5 := fun b hr hk1 => by
    have k0 : kindV P q ops y.o ≠ 0 := fun e => by rw [hy.k0 (.inl e) b] at hr; cases hr
    have k5 : kindV P q ops y.o ≠ 5 := fun e => by rw [hy.k0 (.inr e) b] at hr; cases hr
    refine ⟨?_, k5⟩
    by_cases l1 : kindV P q ops y.o ≤ 1
    · have : kindV P q ops y.o = 1 := by omega
      rw [this]; rfl
    · have := lay y3 l1
      have n2 : kindV P q ops y.o ≠ 2 := by
        rcases p3 with p3 | p3
        · exact nb p3
        · exact absurd (Nat.eq_of_beq_eq_true p3) hk1
      unfold layer at this
      simp only [Bool.or_eq_true, Nat.beq_eq] at this
      rcases this with (((e | e) | e) | e) | e
      · exact absurd e n2
      · rw [e]; rfl
      · exact absurd e k5
      · rw [e]; rfl
      · exact absurd e y7
  have xn1 : ∀ b, x.tc b = true → ¬ kindV P q ops x.o ≤ 1 := fun b hb e => by rw [hx.k1 e b] at hb; cases hb
  refine ⟨d1, d2, fun b hb => ?_, fun b hb => ff fun hr => ?_⟩
  · have x1 := xn1 b hb
    have xne : kindV P q ops x.o ≠ 1 := by omega
    rcases xtc b hb with hown | ⟨k4, z, hz, hzl, hzo, hzb⟩ | ⟨q, _⟩
    rotate_left 2
    · exact absurd q x7
    · refine ⟨ff fun hr => ?_, ff fun ht => ?_⟩
      · exact hy.lk (see b hr xne).1 b hr x xm (lay x3 x1) hbit hown
      · rcases ytc b ht with e | ⟨_, w, hw, hwl, hwo, hwb⟩ | ⟨q, _⟩
        rotate_left 2
        · exact absurd q y7
        · omega
        · have hne : x.j ≠ w.j := fun e => by
            have := hzy _ hwo
            rw [← e, hbit] at this
            cases this
          have := ran_apart F xm hw hne
          omega
    · have zm : z ∈ A1 ++ x :: A2 := by simp [hz]
      have zx := ran_before F hz
      rcases p4 with (p4 | p4) | p4
      · exact absurd k4 (nb p4)
      · have k5 := Nat.eq_of_beq_eq_true p4
        refine ⟨hy.k0 (.inr k5) b, ff fun ht => ?_⟩
        rcases ytc b ht with e | ⟨ky4, _⟩ | ⟨q, _⟩
        · omega
        · omega
        · omega
      · rw [hzo] at p4
        simp only [Bool.and_eq_true, Bool.not_eq_true'] at p4
        refine ⟨ff fun hr => ?_, ff fun ht => ?_⟩
        · exact hy.lk (see b hr xne).1 b hr z zm hzl p4.1 hzb
        · rcases ytc b ht with e | ⟨_, w, hw, hwl, hwo, hwb⟩ | ⟨q, _⟩
          rotate_left 2
          · exact absurd q y7
          · omega
          · rw [hwo] at p4
            simp only [Bool.not_eq_true'] at p4
            have := ran_apart F zm hw (nb p4.2)
            omega
  · have hlt := hx.rd b hr
    rcases ytc b hb with e | ⟨ky4, w, hw, hwl, hwo, hwb⟩ | ⟨q, _⟩
    rotate_left 2
    · exact absurd q y7
    · omega
    · rcases p5 with (p5 | p5) | p5
      · exact absurd ky4 (nb p5)
      · have k5 := Nat.eq_of_beq_eq_true p5
        rw [hx.k0 (.inr k5) b] at hr
        cases hr
      · rw [hwo] at p5
        simp only [Bool.not_eq_true'] at p5
        rcases List.mem_append.1 hw with h1 | h1
        · exact hx.lk p5.1 b hr w h1 hwl p5.2 hwb
        · rcases List.mem_cons.1 h1 with rfl | h1
          · omega
          · have := ran_after F h1
            omega
end
end
end Go.Ai
