/-
  LOOPS OVER A FUNCTION: the loop's object, a round of its body, the whole loop.
-/
import Derived.Test.YtpilbfkinpbnoaaAiCall
set_option linter.unusedVariables false
namespace Go.Ai
noncomputable section
variable {P : Program}

/-! ### What a round begins with -/
def roundEnv : List Tmp → List Value → Env → Option Env
  | [], [], s => some s
  | t :: ts, v :: vs, s => (match s.put (some t) v with
    | some s1 => roundEnv ts vs s1
    | none => none)
  | _, _, _ => none
theorem roundEnv_sound {ρ : Ren} : ∀ {ts : List Tmp} {vs vs' : List Value} {s s' : Env} {tm : Array Value}, roundEnv ts vs s = some s' → EnvRel ρ s tm → VList ρ vs vs' →
    ts.length = vs'.length ∧ EnvRel ρ s' ((ts.zip vs').foldl (fun tm x => tm.setIfInBounds x.1 x.2) tm)
  | [], [], vs', s, s', tm, he, hs, hv => by
    cases hv.nil_inv
    simp only [roundEnv, Option.some.injEq] at he
    subst he
    exact ⟨rfl, hs⟩
  | t :: ts, v :: vs, vs', s, s', tm, he, hs, hv => by
    obtain ⟨y, ys, rfl, h1, h2⟩ := hv.cons_inv
    simp only [roundEnv] at he
    split at he
    · rename_i s1 hp
      have := roundEnv_sound he (hs.put h1 hp) h2
      exact ⟨by simp [this.1], by simpa [putTm] using this.2⟩
    · cases he
  | [], _ :: _, _, _, _, _, he, _, _ => by simp [roundEnv] at he
  | _ :: _, [], _, _, _, _, he, _, _ => by simp [roundEnv] at he

/-! ### The loop's object -/
def mkLoop (l : ALoop) (tm : Array Value) (d : Nat) (fn : FuncId) : Loop := { state := l.state, pending := l.pending, fn := fn, tmps := tm, params := l.params, assign := l.assign, body := l.body, defers := d }
theorem Rel.loop {ρ : Ren} {h : AHeap} {w : World} (hr : Rel P ρ h w) {b : Nat} {A : ALoop} {pl : Place} (hg : h.get b = some (.loop A)) (hm : ρ.m b = some pl) :
    ∃ tm d fn, w.heap[pl.c]? = some (.loop (mkLoop A tm d fn)) ∧ EnvRel ρ A.s tm := hr.objAt hg hm
theorem heap_set_ne (w : World) (l k : Nat) (o : Obj) (hk : k ≠ l) : (w.heap.setIfInBounds l o)[k]? = w.heap[k]? := by rw [Array.getElem?_setIfInBounds, if_neg (Ne.symm hk)]
theorem heap_set_eq (w : World) (l : Nat) (o : Obj) (hl : l < w.heap.size) : (w.heap.setIfInBounds l o)[l]? = some o := by rw [Array.getElem?_setIfInBounds, if_pos rfl, if_pos hl]
/-- The loop's object turned. -/
theorem Step.turn {ρ : Ren} {h : AHeap} {w : World} (hr : Rel P ρ h w) {b : Nat} {A A' : ALoop} {pl : Place} (hg : h.get b = some (.loop A)) (hm : ρ.m b = some pl) (hro : h.ro ≤ b) {tm : Array Value} {d fn : Nat}
    (ho : w.heap[pl.c]? = some (.loop (mkLoop A tm d fn))) (hs : EnvRel ρ A'.s tm) :
    Step P ρ h w ρ (h.set b (some (.loop A'))) { w with heap := w.heap.setIfInBounds pl.c (.loop (mkLoop A' tm d fn)) } :=
  Step.putObj hr hg hm hro (ob' := .loop A') ⟨tm, d, fn, heap_set_eq w pl.c _ (lt_of_obj ho), hs⟩ rfl rfl rfl (by simp) (fun k hk => heap_set_ne w pl.c k _ hk)

theorem run_getLoop {w : World} {l : Nat} {r : Loop} (h : w.heap[l]? = some (.loop r)) : (Instr.getLoop l).run P w = .ok r w := by
  simp only [Instr.getLoop, getObj, Sem.run_bind]
  simp only [Sem.run, h, Result.andThen_ok]
  rfl
theorem run_setLoop {w : World} {l : Nat} {r : Loop} (h : w.heap[l]? = some (.loop r)) (o : Obj) : (setObj l o).run P w = .ok () { w with heap := w.heap.setIfInBounds l o } := by
  simp only [setObj, Sem.run, h]
theorem run_yield {w : World} {l : Nat} {r : Loop} {args : Array Value} (h : w.heap[l]? = some (.loop r)) (hn : args.size = r.params.size) :
    (Instr.yield l args).run P w = .ok (.round l r.fn ((r.params.toList.zip args.toList).foldl (fun tm x => tm.setIfInBounds x.1 x.2) r.tmps) r.assign r.body) w := by
  simp only [Instr.yield, Sem.run_bind, run_getLoop h, Result.andThen_ok]
  rw [if_neg (by simp [hn])]
  simp only [Sem.run_pure]
  rw [← Array.foldl_toList, Array.toList_zip]
theorem run_beginRound {w : World} {l : Nat} {r : Loop} (h : w.heap[l]? = some (.loop r)) (hr : r.state = .ready) :
    (Instr.beginRound l).run P w = .ok () { w with heap := w.heap.setIfInBounds l (.loop { r with state := .busy }) } := by
  simp only [Instr.beginRound, Sem.run_bind, run_getLoop h, Result.andThen_ok, run_setLoop h, hr, Sem.run_pure]
theorem run_endRound {w : World} {l : Nat} {r : Loop} (h : w.heap[l]? = some (.loop r)) (jump : Option Code) :
    (Instr.endRound l jump).run P w = .ok (.bool jump.isNone) { w with heap := w.heap.setIfInBounds l (.loop { r with state := if jump.isNone then .ready else .done, pending := jump }) } := by
  simp only [Instr.endRound, Sem.run_bind, run_getLoop h, Result.andThen_ok, run_setLoop h, Sem.run_pure]
theorem run_endLoop {w : World} {l : Nat} {r : Loop} (h : w.heap[l]? = some (.loop r)) (hb : (r.state == .busy) = false) :
    (Instr.endLoop l).run P w = .ok r.pending { w with heap := w.heap.setIfInBounds l (.loop { r with state := .exhausted }) } := by
  simp only [Instr.endLoop, Sem.run_bind, run_getLoop h, Result.andThen_ok, hb, Bool.false_eq_true, if_false, run_setLoop h, Sem.run_pure]

/-! ### The machine's steps -/
section moves
variable {b : Frame} {tm : Array Value} {ds : List Deferred} {k : List Item} {cs : List Frame} {w w' : World}
theorem fstep_beginRound {l : Nat} (hb : b.roundOf = some l) (hrun : (Instr.beginRound l).run P w = .ok () w') : step P (lone (fat b tm ds (.beginRound :: k)) cs w) = .next (lone (fat b tm ds k) cs w') :=
  step_lone_go (by
    simp only [stepG, fat, stepG.exec, hb, stepG.apply]
    simp [hrun, Frame.finish])
def jumpOf : Ex → Option Code
  | .normal => none
  | .ret => some .ret
  | .exit id => some (.exit id)
theorem fstep_leave {l : Nat} {fr : Frame} (hb : b.roundOf = some l) (hk : b.kind = .normal) {e : Ex} (todo : List Item)
    (htodo : match e with | .normal => todo = [] | .ret => ∃ t, todo = .code .ret :: t | .exit id => ∃ t, todo = .code (.exit id) :: t ∧ exitTo id t = none) {v : Value}
    (hrun : (Instr.endRound l (jumpOf e)).run P w = .ok v w') :
    step P (lone (fat b tm ds todo) (fr :: cs) w) = .next (lone (fr.finish v) cs w') :=
  step_lone_go (by
    cases e with
    | normal => subst htodo; simp only [jumpOf] at hrun; simp [stepG, fat, stepG.exec, hb, hrun, doReturn, hk]
    | ret => obtain ⟨t, rfl⟩ := htodo; simp only [jumpOf] at hrun; simp [stepG, fat, stepG.exec, hb, hrun, doReturn, hk]
    | exit id => obtain ⟨t, rfl, ht⟩ := htodo; simp only [jumpOf] at hrun; simp [stepG, fat, stepG.exec, hb, ht, hrun, doReturn, hk])
theorem fstep_op_round {ops : Array Oper} {i : Nat} {rest : List Nat} {o : Oper} (ho : ops[i]? = some o) (hw : Region.wanted o (yielded ops tm) = true) (hd : isDefer o.op = false) {l : Nat} {f : FuncId} {tm' : Array Value} {as bd : Code} {w' : World}
    (hr : (execOp (Act.eval ⟨tm, ds⟩) o).run P w = .ok (.round l f tm' as bd) w') :
    step P (lone (fat b tm ds (.inRegion ops (i :: rest) :: k)) cs w) = .next (lone (Frame.round l f tm' as bd .normal) (fat b tm ds (.inRegion ops (i :: rest) :: k) :: cs) w') :=
  step_lone_go (by rw [stepG_fop ho hw hd]; simp [stepG.apply, hr, fat])
theorem fstep_endRangeFunc {l : Nat} {jump : Option Code} (hrun : (Instr.endLoop l).run P w = .ok jump w') :
    step P (lone (fat b tm ds (.endRangeFunc l :: k)) cs w) = .next (lone (fat b tm ds ((jump.map Item.code).toList ++ k)) cs w') :=
  step_lone_go (by simp [stepG, fat, stepG.exec, hrun])
theorem fstep_rangeFunc {f : Operand} {params : Array Tmp} {as bd : Code} {l : Nat} {mark : List Deferred} {w1 w2 : World} {g : FuncId} {args : Array Value}
    (hrun : (Instr.enterLoop b.fn tm params as bd b.roundOf).run P w = .ok (l, mark) w1)
    (hcall : (do let d ← resolve (Act.eval ⟨tm, ds⟩) { callee := .value f, args := #[.const (.func (.yield l) #[] #[])], argTypes := #[] } 0; invoke d.target d.args : Sem Next).run P w1 = .ok (.enter g args) w2) :
    step P (lone (fat b tm ds (.code (.rangeFunc f params as bd) :: k)) cs w) = .next (lone (Frame.enter P g args .normal) (fat b tm (mark ++ ds) (.inRangeFunc l :: k) :: cs) w2) :=
  step_lone_go (by
    have he := fat_eval b tm (mark ++ ds) (.inRangeFunc l :: k)
    have he' : (Act.eval ⟨tm, mark ++ ds⟩) = (Act.eval ⟨tm, ds⟩) := by funext x; cases x <;> rfl
    rw [he'] at he
    simp only [fat] at he
    simp only [stepG, fat, stepG.exec]
    simp only [Sem.runT_eq, hrun, GStep.bare_after]
    simp only [stepG.apply, he, Sem.runT_eq, hcall]
    simp [GStep.bare, GStep.after])
end moves

/-! ### A round -/
def TY (P : Program) (L : Nat) (args : List Value) (h : AHeap) (R : Value → AHeap → Prop) : Prop :=
  ∀ (ρ : Ren) (w : World) (cargs : List Value) (pl : Place), Rel P ρ h w → VList ρ args cargs → L < ρ.next → ρ.m L = some pl →
    ∃ f tm as bd, (Instr.yield pl.c cargs.toArray).run P w = .ok (.round pl.c f tm as bd) w ∧
      ∀ (fr : Frame) (cs : List Frame), ∃ v v' h' ρ' w', R v h' ∧ Step P ρ h w ρ' h' w' ∧ VRel ρ' v v' ∧ Steps P (lone (Frame.round pl.c f tm as bd .normal) (fr :: cs) w) (lone (fr.finish v') cs w')
/-- How a round leaves its loop. -/
def ALoop.left (A : ALoop) (e : Ex) : ALoop := { A with state := if (jumpOf e).isNone then .ready else .done, pending := jumpOf e }
theorem TY_of_T {L : Nat} {A : ALoop} {args : List Value} {h : AHeap} {s0 : Env} {R : Value → AHeap → Prop} (hg : h.get L = some (.loop A)) (he : roundEnv A.params.toList args A.s = some s0)
    (ht : T P (some L) A.assign s0 h (fun e s1 h1 => e = .normal ∧ ∃ A1, h1.get L = some (.loop A1) ∧ A1.state = .ready ∧ h1.ro ≤ L ∧
      T P (some L) A.body s1 (h1.set L (some (.loop { A1 with state := .busy }))) (fun e s2 h2 => ∃ A2, h2.get L = some (.loop A2) ∧ h2.ro ≤ L ∧
        R (.bool (jumpOf e).isNone) (h2.set L (some (.loop (A2.left e))))))) : TY P L args h R := by
  intro ρ w cargs pl hr hv hL hm
  obtain ⟨tm, d, fn, ho, hs⟩ := hr.loop hg hm
  obtain ⟨hlen, hs0⟩ := roundEnv_sound he hs hv
  refine ⟨fn, _, A.assign, A.body, run_yield ho (by simpa [mkLoop] using hlen.symm), fun fr cs => ?_⟩
  let b : Frame := { (default : Frame) with fn := fn, kind := .normal, roundOf := some pl.c }
  have hrd : Rd ρ (some L) b := ⟨hL, pl, hm, rfl⟩
  obtain ⟨e, s1, h1, ρ1, w1, tm1, ds1, ⟨rfl, A1, g1, a1, ro1, q⟩, st1, hs1, _, ha⟩ := ht ρ w _ [] hr hs0 b hrd [.beginRound, .code A.body] (fr :: cs)
  have hm1 : ρ1.m L = some pl := (st1.le.2 L hL).trans hm
  obtain ⟨tmA, dA, fnA, hoA, hsA⟩ := st1.rel.loop g1 hm1
  have sb := Step.turn st1.rel g1 hm1 ro1 (A' := { A1 with state := .busy }) hoA hsA
  obtain ⟨e, s2, h2, ρ2, w2, tm2, ds2, ⟨A2, g2, ro2, hR⟩, st2, hs2, _, ha2⟩ := q ρ1 _ tm1 ds1 sb.rel hs1 b (hrd.mono st1.le) [] (fr :: cs)
  have hm2 : ρ2.m L = some pl := (st2.le.2 L (Nat.lt_of_lt_of_le hL st1.le.1)).trans hm1
  obtain ⟨tmB, dB, fnB, hoB, hsB⟩ := st2.rel.loop g2 hm2
  have se := Step.turn st2.rel g2 hm2 ro2 (A' := A2.left e) hoB hsB
  refine ⟨_, .bool (jumpOf e).isNone, _, ρ2, _, hR, ((st1.trans sb).trans st2).trans se, .bool _, ?_⟩
  refine Steps.trans ha (.head (fstep_beginRound rfl (run_beginRound hoA a1)) ?_)
  cases e with
  | normal => exact Steps.trans ha2 (.one (fstep_leave (e := .normal) rfl rfl [] rfl (run_endRound hoB _)))
  | ret => obtain ⟨t, sx⟩ := ha2; exact sx.trans (.one (fstep_leave (e := .ret) rfl rfl _ ⟨t, rfl⟩ (run_endRound hoB _)))
  | exit id => obtain ⟨t, et, sx⟩ := ha2; exact sx.trans (.one (fstep_leave (e := .exit id) rfl rfl _ ⟨t, rfl, et.trans rfl⟩ (run_endRound hoB _)))

/-- A round called for. -/
theorem TO_yield {s : Env} {h : AHeap} {Q : Env → AHeap → Prop} {ops : Array Oper} {i : Nat} {rest : List Nat} {o : Oper} {f : Operand} {cargs : Array Operand} {ts : Array TypeId} {L : Nat} {vs : List Value} {R : Value → AHeap → Prop}
    (ho : ops[i]? = some o) (hw : awanted ops s o = true) (hop : o.op = .call { callee := .value f, args := cargs, argTypes := ts }) (hf : aev s f = some (.func (.yield L) #[] #[])) (hargs : aevs s cargs.toList = some vs)
    (hc : TY P L vs h R) (ht : ∀ v h1, R v h1 → ∃ s1, s.put o.dst v = some s1 ∧ TO P ops rest s1 h1 Q) : TO P ops (i :: rest) s h Q := by
  intro ρ w tm ds hr hs b k cs
  have hw' : Region.wanted o (yielded ops tm) = true := (awanted_eq hs ops o).trans hw
  have e1 := aev_sound (a := ⟨tm, ds⟩) hs hf
  have e2 := aevs_sound (a := ⟨tm, ds⟩) hs hargs
  generalize hfv : Act.eval ⟨tm, ds⟩ f = fv at e1
  cases e1 with
  | yield hb hm =>
    rename_i pl
    obtain ⟨fn, tmr, as, bd, hy, hgo⟩ := hc ρ w _ pl hr e2 hb hm
    have hrun : (execOp (Act.eval ⟨tm, ds⟩) o).run P w = .ok (.round pl.c fn tmr as bd) w := by
      have hargs' : (#[] : Array Value) ++ cargs.map (Act.eval ⟨tm, ds⟩) = (cargs.toList.map (Act.eval ⟨tm, ds⟩)).toArray := by apply Array.ext'; simp
      simp only [execOp, hop, resolve, hfv, Deferred.ofValue, Sem.run_bind, Sem.run_pure, Result.andThen_ok, invoke, hargs', hy]
    obtain ⟨v, v', h', ρ', w1, hR, st, hv, hgo⟩ := hgo (fat b tm ds (.inRegion ops (i :: rest) :: k)) cs
    obtain ⟨s1, hp, hrest⟩ := ht v h' hR
    have hs1 : EnvRel ρ' s1 (putTm tm o.dst v') := (hs.mono st.le).put hv hp
    obtain ⟨s2, h2, ρ2, w2, tm2, q, st2, hs2, sx⟩ := hrest ρ' w1 _ ds st.rel hs1 b k cs
    have hd : isDefer o.op = false := by rw [hop]; rfl
    refine ⟨s2, h2, ρ2, w2, tm2, q, st.trans st2, hs2, .head (fstep_op_round ho hw' hd hrun) (Steps.trans hgo ?_)⟩
    rw [fat_finish, ho]
    exact sx

/-! ### The loop -/
theorem Step.more {ρ : Ren} {h : AHeap} {w w' : World} (hr : Rel P ρ h w) {o : Obj} (hw : w' = { w with heap := w.heap.push o }) : Step P ρ h w ρ h w' := by
  subst hw
  have hold : ∀ k, k < w.heap.size → (w.heap.push o)[k]? = w.heap[k]? := fun k hk => by rw [Array.getElem?_push, if_neg (by omega)]
  exact ⟨Ren.le_refl _, hr.grow hold, rfl, rfl, rfl, rfl, by simp, fun k hk _ => hold k hk, fun _ _ h => h⟩
theorem run_newObj (w : World) (o : Obj) : (newObj o).run P w = .ok w.heap.size { w with heap := w.heap.push o } := rfl
theorem T_rangeFunc {rd : Option Nat} {f : Operand} {params : Array Tmp} {as bd : Code} {s : Env} {h : AHeap} {g : FuncId} {fa fc : Array Value} {Q : Ex → Env → AHeap → Prop}
    (hf : aev s f = some (.func (.func g) fa fc)) (hcall : callable P g = true) (hrd : ∀ L, rd = some L → ∃ A, h.get L = some (.loop A))
    (hc : TC P g (fa.toList ++ [.func (.yield h.next) #[] #[]] ++ fc.toList) (h.push (.loop { state := .ready, pending := none, s := s, params := params, assign := as, body := bd }))
      (fun _ h1 => ∃ A, h1.get h.next = some (.loop A) ∧ (A.state == .busy) = false ∧ h1.ro ≤ h.next ∧ ∃ e, jumpOf e = A.pending ∧ Q e s (h1.set h.next none))) : T P rd (.rangeFunc f params as bd) s h Q := by
  intro ρ w tm ds hr hs b hb k cs
  let A0 : ALoop := { state := .ready, pending := none, s := s, params := params, assign := as, body := bd }
  obtain ⟨mark, d, w1, hrun, st1, hd1⟩ : ∃ mark d w1, (Instr.enterLoop b.fn tm params as bd b.roundOf).run P w = .ok (w1.heap.size, mark) { w1 with heap := w1.heap.push (.loop (mkLoop A0 tm d b.fn)) } ∧ Step P ρ h w ρ h w1 ∧ DefExt w ds w1 (mark ++ ds) := by
    cases rd with
    | none =>
      have hb : b.roundOf = none := hb
      refine ⟨[mark0 w.heap.size], w.heap.size, { w with heap := w.heap.push (.deferred (some [])) }, ?_, Step.more hr rfl, [w.heap.size], rfl, by simp, fun r hr' => ?_⟩
      · simp only [Instr.enterLoop, hb, Sem.run_bind, run_newObj, Result.andThen_ok, Sem.run_pure]
        rfl
      · simp only [List.mem_singleton] at hr'
        subst hr'
        exact ⟨Nat.le_refl _, by simp⟩
    | some L0 =>
      obtain ⟨hL, pl, hm, hb⟩ := hb
      obtain ⟨A, gA⟩ := hrd L0 rfl
      obtain ⟨tmA, dA, fnA, hoA, _⟩ := hr.loop gA hm
      refine ⟨[], dA, w, ?_, .refl hr, .refl _ _ _⟩
      simp only [Instr.enterLoop, hb, Sem.run_bind, run_getLoop hoA, run_newObj, Result.andThen_ok, Sem.run_pure]
      rfl
  let pl : Place := ⟨w1.heap.size, 0, 0, 0⟩
  have stp : Step P ρ h w1 (ρ.ext pl) (h.push (.loop A0)) { w1 with heap := w1.heap.push (.loop (mkLoop A0 tm d b.fn)) } :=
    Step.pushObj st1.rel (ob := .loop A0) (pl := pl) rfl rfl ⟨tm, d, b.fn, by simp [pl, mkLoop], hs.mono (ρ.le_ext pl)⟩ rfl rfl rfl
  have hnew : (ρ.ext pl).m h.next = some pl := by rw [← hr.next]; exact ρ.ext_next pl
  have hlt : h.next < (ρ.ext pl).next := by show h.next < ρ.next + 1; rw [hr.next]; omega
  have e1 := aev_sound (a := ⟨tm, ds⟩) (hs.mono (ρ.le_ext pl)) hf
  generalize hfv : Act.eval ⟨tm, ds⟩ f = fv at e1
  cases e1 with
  | func ha hcs k1 k2 =>
    rename_i fa' fc'
    let yl : Value := .func (.yield w1.heap.size) #[] #[]
    let full := fa'.toList ++ [yl] ++ fc'.toList
    have hyl : VRel (ρ.ext pl) (.func (.yield h.next) #[] #[]) yl := .yield (pl := pl) hlt hnew
    have hfull : VList (ρ.ext pl) (fa.toList ++ [.func (.yield h.next) #[] #[]] ++ fc.toList) full :=
      (VList.append ⟨by simpa using ha, fun i x y hx hy => k1 i x y (by simpa using hx) (by simpa using hy)⟩ (.cons hyl (.nil _))).append ⟨by simpa using hcs, fun i x y hx hy => k2 i x y (by simpa using hx) (by simpa using hy)⟩
    have hrun2 : (do let d ← resolve (Act.eval ⟨tm, ds⟩) { callee := .value f, args := #[.const yl], argTypes := #[] } 0; invoke d.target d.args : Sem Next).run P { w1 with heap := w1.heap.push (.loop (mkLoop A0 tm d b.fn)) } = .ok (.enter g full.toArray) { w1 with heap := w1.heap.push (.loop (mkLoop A0 tm d b.fn)) } := by
      have hargs' : fa' ++ (#[.const yl] : Array Operand).map (Act.eval ⟨tm, ds⟩) ++ fc' = full.toArray := by apply Array.ext'; simp [full]; rfl
      simp only [resolve, hfv, Deferred.ofValue, Sem.run_bind, Sem.run_pure, Result.andThen_ok, invoke, callFunc, run_program, hargs']
      unfold callable at hcall
      cases hfn : P.funcs[g]? with
      | none => rw [hfn] at hcall; cases hcall
      | some fn =>
        rw [hfn] at hcall
        simp only [Bool.and_eq_true, Bool.not_eq_true'] at hcall
        simp only [hcall.2, Bool.false_eq_true, if_false]
        rw [if_neg (by cases hb : fn.body <;> simp_all)]
        rfl
    obtain ⟨e, w3, fr, ⟨v, v', h', ρ', rfl, ⟨A, gA, nb, roA, ex, hj, q⟩, st, hv⟩, hcomes, _, hleave⟩ := hc (ρ.ext pl) _ full stp.rel hfull (fat b tm (mark ++ ds) (.inRangeFunc w1.heap.size :: k) :: cs)
    have hm' : ρ'.m h.next = some pl := (st.le.2 _ hlt).trans hnew
    obtain ⟨tmA, dA, fnA, hoA, hsA⟩ := st.rel.loop gA hm'
    have stt := Step.turn st.rel gA hm' roA (A' := { A with state := .exhausted }) hoA hsA
    have std := Step.ofDrop stt.rel h.next
    have sta := (((stp.trans st).trans stt).trans std).same (h'' := h'.set h.next none) ⟨rfl, rfl, fun x => by rw [AHeap.set_set]⟩
    refine ⟨ex, s, h'.set h.next none, ρ', _, tm, mark ++ ds, q, st1.trans sta, hs.mono (st1.trans sta).le, hd1.trans (.refl _ _ _) st1.size st1.rel sta, ?_⟩
    have harr : Steps P (lone (fat b tm ds (.code (.rangeFunc f params as bd) :: k)) cs w) (lone (fat b tm (mark ++ ds) ((A.pending.map Item.code).toList ++ k)) cs { w3 with heap := w3.heap.setIfInBounds pl.c (.loop (mkLoop { A with state := .exhausted } tmA dA fnA)) }) :=
      .head (fstep_rangeFunc hrun hrun2) (Steps.trans hcomes (.head (step_leave_returned hleave) (.one (fstep_endRangeFunc (run_endLoop hoA nb)))))
    have hp : (A.pending.map Item.code).toList = ((jumpOf ex).map Item.code).toList := by rw [hj]
    rw [hp] at harr
    cases ex with
    | normal => exact harr
    | ret => exact ⟨k, harr⟩
    | exit id => exact ⟨k, rfl, harr⟩
end
end Go.Ai
