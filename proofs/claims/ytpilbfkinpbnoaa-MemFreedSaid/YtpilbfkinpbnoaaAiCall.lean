/-
  A FUNCTION, ENTERED AND LEFT.
-/
import Derived.Test.YtpilbfkinpbnoaaAiTrip
set_option linter.unusedVariables false
namespace Go.Ai
noncomputable section
variable {P : Program}

/-! ### The marks among the deferred calls are taken -/
theorem leave_marks (fr : Frame) (hm : fr.mode = .returning) : ∀ (rs : List Nat) (w : World), fr.defers = rs.map mark0 → rs.Nodup → (∀ r, r ∈ rs → w.heap[r]? = some (.deferred (some []))) → ∀ cs,
    ∃ w', Steps P (lone fr cs w) (lone { fr with defers := [] } cs w') ∧ w'.os = w.os ∧ w'.tape = w.tape ∧ w'.output = w.output ∧ w'.heap.size = w.heap.size ∧ (∀ k, k ∉ rs → w'.heap[k]? = w.heap[k]?) := by
  intro rs
  induction rs generalizing fr with
  | nil => intro w hd _ _ cs; refine ⟨w, ?_, rfl, rfl, rfl, rfl, fun _ _ => rfl⟩; rw [show fr = { fr with defers := [] } by cases fr; simp_all]; exact .refl P _
  | cons r rs ih =>
    intro w hd hn hb cs
    have hr := hb r (by simp)
    have hlt := lt_of_get hr
    let w1 : World := { w with heap := w.heap.setIfInBounds r (.deferred none) }
    have hn := List.nodup_cons.1 hn
    have hother : ∀ k, k ≠ r → w1.heap[k]? = w.heap[k]? := fun k hk => by show (w.heap.setIfInBounds r _)[k]? = _; rw [Array.getElem?_setIfInBounds, if_neg (Ne.symm hk)]
    obtain ⟨w', hs, h1, h2, h3, h4, h5⟩ := ih { fr with defers := rs.map mark0 } hm w1 rfl hn.2 (fun k hk => (hother k (fun e => hn.1 (e ▸ hk))).trans (hb k (by simp [hk]))) cs
    refine ⟨w', .head ?_ hs, h1, h2, h3, by rw [h4]; simp [w1], fun k hk => ?_⟩
    · refine step_lone_go ?_
      have hd' : fr.defers = { target := .collected r, args := #[] } :: rs.map mark0 := hd
      have hrun : (Instr.takeDeferred r).run P w = .ok [] w1 := by
        simp only [Instr.takeDeferred, getObj, setObj, Sem.run_bind]
        simp only [Sem.run, hr, Result.andThen_ok, Sem.run_bind]
        rfl
      simp only [stepG, hm, unwind, hd', Sem.runT_eq, hrun, GStep.bare_after]
      simp [GStep.bare]
    · simp only [List.mem_cons, not_or] at hk
      exact (h5 k hk.2).trans (hother k hk.1)

/-! ### A function's results -/
def aresults (P : Program) (s : Env) (h : AHeap) : List ResultVar → Option (List Value)
  | [] => some []
  | .tmp t :: rs => (match aresults P s h rs with
    | some vs => some (s.get t :: vs)
    | none => none)
  | .cell a t :: rs => (match aload P t (s.get a) h with
    | some v => (match aresults P s h rs with
      | some vs => some (v :: vs)
      | none => none)
    | none => none)
def aresult : List Value → Value
  | [v] => v
  | vs => .tuple vs.toArray
/-- What a result is read by. -/
def resOf (tm : Array Value) : ResultVar → Sem Value
  | .tmp t => pure (tm.getD t undef)
  | .cell a t => do loadVar t (← asAddr (tm.getD a undef))
theorem results_eq (fn : Func) (tm : Array Value) : results fn tm = (do let vs ← fn.results.mapM (resOf tm); pure (if h : vs.size = 1 then vs[0] else .tuple vs)) := rfl
theorem aresults_sound {ρ : Ren} {s : Env} {h : AHeap} {w : World} {tm : Array Value} (hr : Rel P ρ h w) (hs : EnvRel ρ s tm) : ∀ {rs : List ResultVar} {vs : List Value}, aresults P s h rs = some vs →
    ∃ vs', (rs.mapM (resOf tm)).run P w = .ok vs' w ∧ VList ρ vs vs'
  | [], vs, he => by simp only [aresults, Option.some.injEq] at he; subst he; exact ⟨[], rfl, .nil ρ⟩
  | .tmp t :: rs, vs, he => by
    simp only [aresults] at he
    split at he
    case h_2 => cases he
    rename_i vs0 h0
    simp only [Option.some.injEq] at he
    subst he
    obtain ⟨vs', e, hv⟩ := aresults_sound hr hs h0
    exact ⟨_, by simp only [List.mapM_cons, resOf, Sem.run_bind, Sem.run_pure, Result.andThen_ok, e], .cons (hs.get t) hv⟩
  | .cell a t :: rs, vs, he => by
    simp only [aresults] at he
    split at he
    case h_2 => cases he
    rename_i v hv0
    split at he
    case h_2 => cases he
    rename_i vs0 h0
    simp only [Option.some.injEq] at he
    subst he
    obtain ⟨vs', e, hv⟩ := aresults_sound hr hs h0
    obtain ⟨v', e1, hv1⟩ := aload_sound hv0 hr (hs.get a)
    have e2 : (do loadVar t (← asAddr (tm.getD a undef)) : Sem Value).run P w = .ok v' w := by
      have hp := hs.get a
      generalize tm.getD a undef = x at hp e1 ⊢
      unfold aload at hv0
      split at hv0
      · rename_i hb
        rw [hb] at hp
        cases hp
        simpa [Instr.loadAt, Instr.sureAddr, asAddr] using e1
      · rename_i hb
        rw [hb] at hp
        cases hp
        simpa [Instr.loadAt, Instr.sureAddr, asAddr] using e1
      · cases hv0
    exact ⟨_, by rw [List.mapM_cons, Sem.run_bind, show resOf tm (.cell a t) = (do loadVar t (← asAddr (tm.getD a undef)) : Sem Value) from rfl, e2]; simp only [Sem.run_bind, Result.andThen_ok, e, Sem.run_pure], .cons hv1 hv⟩
theorem results_run {ρ : Ren} {s : Env} {h : AHeap} {w : World} {tm : Array Value} (hr : Rel P ρ h w) (hs : EnvRel ρ s tm) {fn : Func} {vs : List Value} (he : aresults P s h fn.results.toList = some vs) :
    ∃ v', (results fn tm).run P w = .ok v' w ∧ VRel ρ (aresult vs) v' := by
  obtain ⟨vs', e, hv⟩ := aresults_sound hr hs he
  have em : (fn.results.mapM (resOf tm)).run P w = .ok vs'.toArray w := by
    rw [Array.mapM_eq_mapM_toList, Sem.run_map, e]; rfl
  rw [results_eq]
  simp only [Sem.run_bind]
  refine ⟨if h : vs'.toArray.size = 1 then vs'.toArray[0] else .tuple vs'.toArray, ?_, ?_⟩
  · rw [em]; simp only [Result.andThen_ok, Sem.run_pure]
  · unfold aresult
    split
    · rename_i v
      obtain ⟨y, ys, rfl, h1, h2⟩ := hv.cons_inv
      cases h2.nil_inv
      simpa using h1
    · rename_i hne
      rw [dif_neg (by
        intro h1
        have h1 : vs'.length = 1 := by simpa using h1
        have h2 : vs.length = 1 := by rw [hv.1]; exact h1
        cases vs with
        | nil => cases h2
        | cons v vs => cases vs with
          | nil => exact hne v rfl
          | cons => simp at h2)]
      exact .tuple (by simpa using hv.1) (fun i x y hx hy => hv.2 i x y (by simpa using hx) (by simpa using hy))

/-- A function by its body. -/
theorem TC_of_T {f : FuncId} {fn : Func} {c : Code} {args : List Value} {h : AHeap} {R : Value → AHeap → Prop} (hf : P.funcs[f]? = some fn) (hb : fn.body = some c)
    (ht : T P none c (Env.enter args fn.ntmps) h (fun e s1 h1 => (e = .normal ∨ e = .ret) ∧ ∃ vs, aresults P s1 h1 fn.results.toList = some vs ∧ R (aresult vs) h1)) : TC P f args h R := by
  intro ρ w cargs hr hv cs
  let b : Frame := { (default : Frame) with fn := f, kind := .normal, roundOf := none }
  let tm : Array Value := cargs.toArray ++ Array.replicate (fn.ntmps - cargs.toArray.size) undef
  have henter : Frame.enter P f cargs.toArray .normal = fat b tm [] [.code c] := by simp [Frame.enter, fat, hf, hb, b, tm]
  have hs : EnvRel ρ (Env.enter args fn.ntmps) tm := by
    refine ⟨?_, fun i => ?_⟩
    · simp only [Env.enter_eq, tm, Array.size_append, Array.size_replicate, List.size_toArray, hv.1]; omega
    · rw [Env.get_enter]
      rcases Nat.lt_or_ge i args.length with hi | hi
      · obtain ⟨y, hy, hxy⟩ := hv.get (List.getElem?_eq_getElem hi)
        have e1 : tm[i]? = some y := by
          rw [Array.getElem?_append_left (by simp; rw [← hv.1]; exact hi)]
          simpa using hy
        rw [List.getElem?_eq_getElem hi]
        simp only [Option.getD_some, Array.getD_eq_getD_getElem?, e1]
        exact hxy
      · rw [List.getElem?_eq_none hi]
        have e1 : tm.getD i undef = undef := by
          simp only [Array.getD_eq_getD_getElem?, tm]
          rw [Array.getElem?_append_right (by simp; rw [← hv.1]; exact hi)]
          rw [Array.getElem?_replicate]
          split <;> rfl
        rw [e1]
        exact .of_plain ρ rfl
  obtain ⟨e, s1, h1, ρ1, w1, tm1, ds1, ⟨he, vs, hvs, hR⟩, st, hs1, ⟨rs, hd1, hnd, hb1⟩, ha⟩ := ht ρ w tm [] hr hs b rfl [] cs
  obtain ⟨todo, hret⟩ : ∃ todo, Steps P (lone (Frame.enter P f cargs.toArray .normal) cs w) (lone { fat b tm1 ds1 todo with mode := .returning } cs w1) := by
    rw [henter]
    rcases he with rfl | rfl
    · exact ⟨[], Steps.trans ha (.one (fstep_end rfl))⟩
    · obtain ⟨t, sx⟩ := ha; exact ⟨_, sx.trans (.one (fstep_ret rfl))⟩
  rw [List.append_nil] at hd1
  obtain ⟨w2, hs2, e1, e2, e3, e4, e5⟩ := leave_marks (P := P) { fat b tm1 ds1 todo with mode := .returning } rfl rs w1 hd1 hnd (fun r hr => (hb1 r hr).2) cs
  have hnot : ∀ b0 o pl, h1.get b0 = some o → ρ1.m b0 = some pl → pl.c ∉ rs := by
    intro b0 o pl hg hm hin
    have hc := st.rel.objAt hg hm
    have hx := (hb1 _ hin).2
    cases o with
    | cells c t => obtain ⟨cs, fz, q1, _⟩ := hc; rw [hx] at q1; cases q1
    | map es q => obtain ⟨ms, q1, _⟩ := hc; rw [hx] at q1; cases q1
    | iter m a b c => obtain ⟨m', q1, _⟩ := hc; rw [hx] at q1; cases q1
    | tab c => obtain ⟨t, cs, fz, q1, _⟩ := hc; rw [hx] at q1; cases q1
    | siter s pos => have q1 : w1.heap[pl.c]? = _ := hc.1; rw [hx] at q1; cases q1
    | loop l => obtain ⟨tm, d, fn', q1, _⟩ := hc; rw [hx] at q1; cases q1
  have hr2 : Rel P ρ1 h1 w2 := ⟨st.rel.next, st.rel.ro, st.rel.dom, fun b0 o0 hg => by
    obtain ⟨pl, hp, hc⟩ := st.rel.ok b0 o0 hg
    exact ⟨pl, hp, hc.other (e5 _ (hnot _ _ _ hg hp))⟩, st.rel.inj, st.rel.gro, st.rel.glob⟩
  obtain ⟨v', hv', hvr⟩ := results_run hr2 hs1 hvs
  refine ⟨.returned v', w2, { fat b tm1 ds1 todo with mode := .returning, defers := [] }, ⟨aresult vs, v', h1, ρ1, rfl, hR, ?_, hvr⟩, hret.trans hs2, rfl, rfl, rfl, rfl, fn, hf, hv'⟩
  exact ⟨st.le, hr2, st.ro, e1.trans st.os, e2.trans st.tape, e3.trans st.output, by rw [e4]; exact st.size,
    fun c hc hn => (e5 c (fun hin => by have := (hb1 c hin).1; omega)).trans (st.frame c hc hn), st.img⟩

end
end Go.Ai
