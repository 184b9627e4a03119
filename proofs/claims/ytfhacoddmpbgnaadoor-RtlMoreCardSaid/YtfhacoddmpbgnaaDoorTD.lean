/- A part of the proof. -/
import Derived.Test.YtfhacoddmpbgnaaDoorTC
import Derived.ChangeSame
import Derived.Carry
import Derived.ProofKit
set_option linter.unusedVariables false
set_option linter.unusedSimpArgs false
set_option linter.unusedVariables false
namespace Go.Ai
noncomputable section
variable {P : Program}
def vM : List Tmp -> List Value -> Env -> Option Env
  | [], [], s => some s
  | t :: ts, v :: vs, s => (match s.put (some t) v with
    | some s1 => vM ts vs s1
    | none => none)
  | _, _, _ => none
theorem Z2 {ρ : Ren} : ∀ {ts : List Tmp} {vs vs' : List Value} {s s' : Env} {tm : Array Value}, vM ts vs s = some s' -> xe ρ s tm -> yQ ρ vs vs' ->
    ts.length = vs'.length /\ xe ρ s' ((ts.zip vs').foldl (fun tm x => tm.setIfInBounds x.1 x.2) tm)
  | [], [], vs', s, s', tm, he, hs, hv => by
    cases hv.xJ
    simp only [vM, Option.some.injEq] at he
    subst he
    exact ⟨rfl, hs⟩
  | t :: ts, v :: vs, vs', s, s', tm, he, hs, hv => by
    obtain ⟨y, ys, rfl, h1, h2⟩ := hv.cons_inv
    simp only [vM] at he
    split at he
    . rename_i s1 hp
      have := Z2 he (hs.put h1 hp) h2
      exact ⟨by simp [this.1], by simpa [wV] using this.2⟩
    . cases he
  | [], _ :: _, _, _, _, _, he, _, _ => by simp [vM] at he
  | _ :: _, [], _, _, _, _, he, _, _ => by simp [vM] at he
def ZT (l : u5) (tm : Array Value) (d : Nat) (fn : FuncId) : Loop := { state := l.state, pending := l.pending, fn := fn, tmps := tm, params := l.params, assign := l.assign, body := l.body, defers := d }
theorem Rel.loop {ρ : Ren} {h : za} {w : World} (hr : Rel P ρ h w) {b : Nat} {A : u5} {pl : Place} (hg : h.get b = some (.loop A)) (hm : ρ.m b = some pl) :
    ∃ tm d fn, w.heap[pl.c]? = some (.loop (ZT A tm d fn)) /\ xe ρ A.s tm := hr.zls hg hm
theorem zbs (w : World) (l k : Nat) (o : Obj) (hk : k ≠ l) : (w.heap.setIfInBounds l o)[k]? = w.heap[k]? := by rw [Array.getElem?_setIfInBounds, if_neg (Ne.symm hk)]
theorem zb3 (w : World) (l : Nat) (o : Obj) (hl : l < w.heap.size) : (w.heap.setIfInBounds l o)[l]? = some o := by rw [Array.getElem?_setIfInBounds, if_pos rfl, if_pos hl]
theorem Step.znH {ρ : Ren} {h : za} {w : World} (hr : Rel P ρ h w) {b : Nat} {A A' : u5} {pl : Place} (hg : h.get b = some (.loop A)) (hm : ρ.m b = some pl) (hro : h.ro <= b) {tm : Array Value} {d fn : Nat}
    (ho : w.heap[pl.c]? = some (.loop (ZT A tm d fn))) (hs : xe ρ A'.s tm) :
    Step P ρ h w ρ (h.set b (some (.loop A'))) { w with heap := w.heap.setIfInBounds pl.c (.loop (ZT A' tm d fn)) } :=
  Step.zjy hr hg hm hro (ob' := .loop A') ⟨tm, d, fn, zb3 w pl.c _ (u3 ho), hs⟩ rfl rfl rfl (by simp) (fun k hk => zbs w pl.c k _ hk)
theorem u6 {w : World} {l : Nat} {r : Loop} (h : w.heap[l]? = some (.loop r)) : (Instr.getLoop l).run P w = .ok r w := by
  simp only [Instr.getLoop, getObj, Sem.run_bind]
  simp only [Sem.run, h, Result.andThen_ok]
  rfl
theorem Yd {w : World} {l : Nat} {r : Loop} (h : w.heap[l]? = some (.loop r)) (o : Obj) : (setObj l o).run P w = .ok () { w with heap := w.heap.setIfInBounds l o } := by
  simp only [setObj, Sem.run, h]
theorem zgZ {w : World} {l : Nat} {r : Loop} {args : Array Value} (h : w.heap[l]? = some (.loop r)) (hn : args.size = r.params.size) :
    (Instr.yield l args).run P w = .ok (.round l r.fn ((r.params.toList.zip args.toList).foldl (fun tm x => tm.setIfInBounds x.1 x.2) r.tmps) r.assign r.body) w := by
  simp only [Instr.yield, Sem.run_bind, u6 h, Result.andThen_ok]
  rw [if_neg (by simp [hn])]
  simp only [Sem.run_pure]
  rw [<- Array.foldl_toList, Array.toList_zip]
theorem UT {w : World} {l : Nat} {r : Loop} (h : w.heap[l]? = some (.loop r)) (hr : r.state = .ready) :
    (Instr.beginRound l).run P w = .ok () { w with heap := w.heap.setIfInBounds l (.loop { r with state := .busy }) } := by
  simp only [Instr.beginRound, Sem.run_bind, u6 h, Result.andThen_ok, Yd h, hr, Sem.run_pure]
theorem Zi {w : World} {l : Nat} {r : Loop} (h : w.heap[l]? = some (.loop r)) (jump : Option Code) :
    (Instr.endRound l jump).run P w = .ok (.bool jump.isNone) { w with heap := w.heap.setIfInBounds l (.loop { r with state := if jump.isNone then .ready else .done, pending := jump }) } := by
  simp only [Instr.endRound, Sem.run_bind, u6 h, Result.andThen_ok, Yd h, Sem.run_pure]
theorem zb7 {w : World} {l : Nat} {r : Loop} (h : w.heap[l]? = some (.loop r)) (hb : (r.state == .busy) = false) :
    (Instr.endLoop l).run P w = .ok r.pending { w with heap := w.heap.setIfInBounds l (.loop { r with state := .exhausted }) } := by
  simp only [Instr.endLoop, Sem.run_bind, u6 h, Result.andThen_ok, hb, Bool.false_eq_true, if_false, Yd h, Sem.run_pure]
section moves
variable {b : Frame} {tm : Array Value} {ds : List Deferred} {k : List Item} {cs : List Frame} {w w' : World}
theorem WK {l : Nat} (hb : b.roundOf = some l) (hrun : (Instr.beginRound l).run P w = .ok () w') : step P (lone (fat b tm ds (.beginRound :: k)) cs w) = .next (lone (fat b tm ds k) cs w') :=
  step_lone_go (by
    simp only [stepG, fat, stepG.exec, hb, stepG.apply]
    simp [hrun, Frame.finish])
def kA : Ex -> Option Code
  | .normal => none
  | .ret => some .ret
  | .exit id => some (.exit id)
theorem Z5 {l : Nat} {fr : Frame} (hb : b.roundOf = some l) (hk : b.kind = .normal) {e : Ex} (todo : List Item)
    (htodo : match e with | .normal => todo = [] | .ret => ∃ t, todo = .code .ret :: t | .exit id => ∃ t, todo = .code (.exit id) :: t /\ exitTo id t = none) {v : Value}
    (hrun : (Instr.endRound l (kA e)).run P w = .ok v w') :
    step P (lone (fat b tm ds todo) (fr :: cs) w) = .next (lone (fr.finish v) cs w') :=
  step_lone_go (by
    cases e with
    | normal => subst htodo; simp only [kA] at hrun; simp [stepG, fat, stepG.exec, hb, hrun, doReturn, hk]
    | ret => obtain ⟨t, rfl⟩ := htodo; simp only [kA] at hrun; simp [stepG, fat, stepG.exec, hb, hrun, doReturn, hk]
    | exit id => obtain ⟨t, rfl, ht⟩ := htodo; simp only [kA] at hrun; simp [stepG, fat, stepG.exec, hb, ht, hrun, doReturn, hk])
theorem UY {ops : Array Oper} {i : Nat} {rest : List Nat} {o : Oper} (ho : ops[i]? = some o) (hw : Region.wanted o (yielded ops tm) = true) (hd : qQ o.op = false) {l : Nat} {f : FuncId} {tm' : Array Value} {as bd : Code} {w' : World}
    (hr : (execOp (Act.eval ⟨tm, ds⟩) o).run P w = .ok (.round l f tm' as bd) w') :
    step P (lone (fat b tm ds (.inRegion ops (i :: rest) :: k)) cs w) = .next (lone (Frame.round l f tm' as bd .normal) (fat b tm ds (.inRegion ops (i :: rest) :: k) :: cs) w') :=
  step_lone_go (by rw [Xh ho hw hd]; simp [stepG.apply, hr, fat])
theorem Xg {l : Nat} {jump : Option Code} (hrun : (Instr.endLoop l).run P w = .ok jump w') :
    step P (lone (fat b tm ds (.endRangeFunc l :: k)) cs w) = .next (lone (fat b tm ds ((jump.map Item.code).toList ++ k)) cs w') :=
  step_lone_go (by simp [stepG, fat, stepG.exec, hrun])
theorem VZ {f : Operand} {params : Array Tmp} {as bd : Code} {l : Nat} {mark : List Deferred} {w1 w2 : World} {g : FuncId} {args : Array Value}
    (hrun : (Instr.enterLoop b.fn tm params as bd b.roundOf).run P w = .ok (l, mark) w1)
    (hcall : (do let d <- resolve (Act.eval ⟨tm, ds⟩) { callee := .value f, args := #[.const (.func (.yield l) #[] #[])], argTypes := #[] } 0; invoke d.target d.args : Sem Next).run P w1 = .ok (.enter g args) w2) :
    step P (lone (fat b tm ds (.code (.rangeFunc f params as bd) :: k)) cs w) = .next (lone (Frame.enter P g args .normal) (fat b tm (mark ++ ds) (.inRangeFunc l :: k) :: cs) w2) :=
  step_lone_go (by
    have he := KH b tm (mark ++ ds) (.inRangeFunc l :: k)
    have he' : (Act.eval ⟨tm, mark ++ ds⟩) = (Act.eval ⟨tm, ds⟩) := by funext x; cases x <;> rfl
    rw [he'] at he
    simp only [fat] at he
    simp only [stepG, fat, stepG.exec]
    simp only [Sem.runT_eq, hrun, GStep.bare_after]
    simp only [stepG.apply, he, Sem.runT_eq, hcall]
    simp [GStep.bare, GStep.after])
end moves
def TY (P : Program) (L : Nat) (args : List Value) (h : za) (R : Value -> za -> Prop) : Prop :=
  ∀ (ρ : Ren) (w : World) (cargs : List Value) (pl : Place), Rel P ρ h w -> yQ ρ args cargs -> L < ρ.next -> ρ.m L = some pl ->
    ∃ f tm as bd, (Instr.yield pl.c cargs.toArray).run P w = .ok (.round pl.c f tm as bd) w /\
      ∀ (fr : Frame) (cs : List Frame), ∃ v v' h' ρ' w', R v h' /\ Step P ρ h w ρ' h' w' /\ z9 ρ' v v' /\ Steps P (lone (Frame.round pl.c f tm as bd .normal) (fr :: cs) w) (lone (fr.finish v') cs w')
def u5.left (A : u5) (e : Ex) : u5 := { A with state := if (kA e).isNone then .ready else .done, pending := kA e }
theorem zfi {L : Nat} {A : u5} {args : List Value} {h : za} {s0 : Env} {R : Value -> za -> Prop} (hg : h.get L = some (.loop A)) (he : vM A.params.toList args A.s = some s0)
    (ht : T P (some L) A.assign s0 h (fun e s1 h1 => e = .normal /\ ∃ A1, h1.get L = some (.loop A1) /\ A1.state = .ready /\ h1.ro <= L /\
      T P (some L) A.body s1 (h1.set L (some (.loop { A1 with state := .busy }))) (fun e s2 h2 => ∃ A2, h2.get L = some (.loop A2) /\ h2.ro <= L /\
        R (.bool (kA e).isNone) (h2.set L (some (.loop (A2.left e))))))) : TY P L args h R := by
  intro ρ w cargs pl hr hv hL hm
  obtain ⟨tm, d, fn, ho, hs⟩ := hr.loop hg hm
  obtain ⟨hlen, hs0⟩ := Z2 he hs hv
  refine ⟨fn, _, A.assign, A.body, zgZ ho (by simpa [ZT] using hlen.symm), fun fr cs => ?_⟩
  let b : Frame := { (default : Frame) with fn := fn, kind := .normal, roundOf := some pl.c }
  have hrd : Rd ρ (some L) b := ⟨hL, pl, hm, rfl⟩
  obtain ⟨e, s1, h1, ρ1, w1, tm1, ds1, ⟨rfl, A1, g1, a1, ro1, q⟩, st1, hs1, _, ha⟩ := ht ρ w _ [] hr hs0 b hrd [.beginRound, .code A.body] (fr :: cs)
  have hm1 : ρ1.m L = some pl := (st1.le.2 L hL).trans hm
  obtain ⟨tmA, dA, fnA, hoA, hsA⟩ := st1.rel.loop g1 hm1
  have sb := Step.znH st1.rel g1 hm1 ro1 (A' := { A1 with state := .busy }) hoA hsA
  obtain ⟨e, s2, h2, ρ2, w2, tm2, ds2, ⟨A2, g2, ro2, hR⟩, st2, hs2, _, ha2⟩ := q ρ1 _ tm1 ds1 sb.rel hs1 b (hrd.mono st1.le) [] (fr :: cs)
  have hm2 : ρ2.m L = some pl := (st2.le.2 L (Nat.lt_of_lt_of_le hL st1.le.1)).trans hm1
  obtain ⟨tmB, dB, fnB, hoB, hsB⟩ := st2.rel.loop g2 hm2
  have se := Step.znH st2.rel g2 hm2 ro2 (A' := A2.left e) hoB hsB
  refine ⟨_, .bool (kA e).isNone, _, ρ2, _, hR, ((st1.trans sb).trans st2).trans se, .bool _, ?_⟩
  refine Steps.trans ha (.head (WK rfl (UT hoA a1)) ?_)
  cases e with
  | normal => exact Steps.trans ha2 (.one (Z5 (e := .normal) rfl rfl [] rfl (Zi hoB _)))
  | ret => obtain ⟨t, sx⟩ := ha2; exact sx.trans (.one (Z5 (e := .ret) rfl rfl _ ⟨t, rfl⟩ (Zi hoB _)))
  | exit id => obtain ⟨t, et, sx⟩ := ha2; exact sx.trans (.one (Z5 (e := .exit id) rfl rfl _ ⟨t, rfl, et.trans rfl⟩ (Zi hoB _)))
theorem zdt {s : Env} {h : za} {Q : Env -> za -> Prop} {ops : Array Oper} {i : Nat} {rest : List Nat} {o : Oper} {f : Operand} {cargs : Array Operand} {ts : Array TypeId} {L : Nat} {vs : List Value} {R : Value -> za -> Prop}
    (ho : ops[i]? = some o) (hw : zZ ops s o = true) (hop : o.op = .call { callee := .value f, args := cargs, argTypes := ts }) (hf : aev s f = some (.func (.yield L) #[] #[])) (hargs : QD s cargs.toList = some vs)
    (hc : TY P L vs h R) (ht : ∀ v h1, R v h1 -> ∃ s1, s.put o.dst v = some s1 /\ TO P ops rest s1 h1 Q) : TO P ops (i :: rest) s h Q := by
  intro ρ w tm ds hr hs b k cs
  have hw' : Region.wanted o (yielded ops tm) = true := (uU hs ops o).trans hw
  have e1 := zB (a := ⟨tm, ds⟩) hs hf
  have e2 := wW (a := ⟨tm, ds⟩) hs hargs
  generalize hfv : Act.eval ⟨tm, ds⟩ f = fv at e1
  cases e1 with
  | yield hb hm =>
    rename_i pl
    obtain ⟨fn, tmr, as, bd, hy, hgo⟩ := hc ρ w _ pl hr e2 hb hm
    have hrun : (execOp (Act.eval ⟨tm, ds⟩) o).run P w = .ok (.round pl.c fn tmr as bd) w := by
      have hargs' : (#[] : Array Value) ++ cargs.map (Act.eval ⟨tm, ds⟩) = (cargs.toList.map (Act.eval ⟨tm, ds⟩)).toArray := by apply Array.ext'; simp
      simp only [execOp, hop, resolve, hfv, Deferred.ofValue, Sem.run_bind, Sem.run_pure, Result.andThen_ok, invoke, hargs', hy]
    obtain ⟨v, v', h', ρ', w1, hR, st, hv, hgo⟩ := hgo (fat b tm ds (.inRegion ops (i :: rest) :: k)) cs
    obtain ⟨s1, hp, hrest⟩ := ht v h' hR
    have hs1 : xe ρ' s1 (wV tm o.dst v') := (hs.mono st.le).put hv hp
    obtain ⟨s2, h2, ρ2, w2, tm2, q, st2, hs2, sx⟩ := hrest ρ' w1 _ ds st.rel hs1 b k cs
    have hd : qQ o.op = false := by rw [hop]; rfl
    refine ⟨s2, h2, ρ2, w2, tm2, q, st.trans st2, hs2, .head (UY ho hw' hd hrun) (Steps.trans hgo ?_)⟩
    rw [wZ, ho]
    exact sx
theorem Step.more {ρ : Ren} {h : za} {w w' : World} (hr : Rel P ρ h w) {o : Obj} (hw : w' = { w with heap := w.heap.push o }) : Step P ρ h w ρ h w' := by
  subst hw
  have hold : ∀ k, k < w.heap.size -> (w.heap.push o)[k]? = w.heap[k]? := fun k hk => by rw [Array.getElem?_push, if_neg (by omega)]
  exact ⟨Ren.le_refl _, hr.grow hold, rfl, rfl, rfl, rfl, by simp, fun k hk _ => hold k hk, fun _ _ h => h⟩
theorem run_newObj (w : World) (o : Obj) : (newObj o).run P w = .ok w.heap.size { w with heap := w.heap.push o } := rfl
theorem W8 {rd : Option Nat} {f : Operand} {params : Array Tmp} {as bd : Code} {s : Env} {h : za} {g : FuncId} {fa fc : Array Value} {Q : Ex -> Env -> za -> Prop}
    (hf : aev s f = some (.func (.func g) fa fc)) (hcall : yT P g = true) (hrd : ∀ L, rd = some L -> ∃ A, h.get L = some (.loop A))
    (hc : TC P g (fa.toList ++ [.func (.yield h.next) #[] #[]] ++ fc.toList) (h.push (.loop { state := .ready, pending := none, s := s, params := params, assign := as, body := bd }))
      (fun _ h1 => ∃ A, h1.get h.next = some (.loop A) /\ (A.state == .busy) = false /\ h1.ro <= h.next /\ ∃ e, kA e = A.pending /\ Q e s (h1.set h.next none))) : T P rd (.rangeFunc f params as bd) s h Q := by
  intro ρ w tm ds hr hs b hb k cs
  let A0 : u5 := { state := .ready, pending := none, s := s, params := params, assign := as, body := bd }
  obtain ⟨mark, d, w1, hrun, st1, hd1⟩ : ∃ mark d w1, (Instr.enterLoop b.fn tm params as bd b.roundOf).run P w = .ok (w1.heap.size, mark) { w1 with heap := w1.heap.push (.loop (ZT A0 tm d b.fn)) } /\ Step P ρ h w ρ h w1 /\ WE w ds w1 (mark ++ ds) := by
    cases rd with
    | none =>
      have hb : b.roundOf = none := hb
      refine ⟨[zg9 w.heap.size], w.heap.size, { w with heap := w.heap.push (.deferred (some [])) }, ?_, Step.more hr rfl, [w.heap.size], rfl, by simp, fun r hr' => ?_⟩
      . simp only [Instr.enterLoop, hb, Sem.run_bind, run_newObj, Result.andThen_ok, Sem.run_pure]
        rfl
      . simp only [List.mem_singleton] at hr'
        subst hr'
        exact ⟨Nat.le_refl _, by simp⟩
    | some L0 =>
      obtain ⟨hL, pl, hm, hb⟩ := hb
      obtain ⟨A, gA⟩ := hrd L0 rfl
      obtain ⟨tmA, dA, fnA, hoA, _⟩ := hr.loop gA hm
      refine ⟨[], dA, w, ?_, .refl hr, .refl _ _ _⟩
      simp only [Instr.enterLoop, hb, Sem.run_bind, u6 hoA, run_newObj, Result.andThen_ok, Sem.run_pure]
      rfl
  let pl : Place := ⟨w1.heap.size, 0, 0, 0⟩
  have stp : Step P ρ h w1 (ρ.ext pl) (h.push (.loop A0)) { w1 with heap := w1.heap.push (.loop (ZT A0 tm d b.fn)) } :=
    Step.Wk st1.rel (ob := .loop A0) (pl := pl) rfl rfl ⟨tm, d, b.fn, by simp [pl, ZT], hs.mono (ρ.Qo pl)⟩ rfl rfl rfl
  have hnew : (ρ.ext pl).m h.next = some pl := by rw [<- hr.next]; exact ρ.wF pl
  have hlt : h.next < (ρ.ext pl).next := by show h.next < ρ.next + 1; rw [hr.next]; omega
  have e1 := zB (a := ⟨tm, ds⟩) (hs.mono (ρ.Qo pl)) hf
  generalize hfv : Act.eval ⟨tm, ds⟩ f = fv at e1
  cases e1 with
  | func ha hcs k1 k2 =>
    rename_i fa' fc'
    let yl : Value := .func (.yield w1.heap.size) #[] #[]
    let full := fa'.toList ++ [yl] ++ fc'.toList
    have hyl : z9 (ρ.ext pl) (.func (.yield h.next) #[] #[]) yl := .yield (pl := pl) hlt hnew
    have hfull : yQ (ρ.ext pl) (fa.toList ++ [.func (.yield h.next) #[] #[]] ++ fc.toList) full :=
      (yQ.append ⟨by simpa using ha, fun i x y hx hy => k1 i x y (by simpa using hx) (by simpa using hy)⟩ (.cons hyl (.nil _))).append ⟨by simpa using hcs, fun i x y hx hy => k2 i x y (by simpa using hx) (by simpa using hy)⟩
    have hrun2 : (do let d <- resolve (Act.eval ⟨tm, ds⟩) { callee := .value f, args := #[.const yl], argTypes := #[] } 0; invoke d.target d.args : Sem Next).run P { w1 with heap := w1.heap.push (.loop (ZT A0 tm d b.fn)) } = .ok (.enter g full.toArray) { w1 with heap := w1.heap.push (.loop (ZT A0 tm d b.fn)) } := by
      have hargs' : fa' ++ (#[.const yl] : Array Operand).map (Act.eval ⟨tm, ds⟩) ++ fc' = full.toArray := by apply Array.ext'; simp [full]; rfl
      simp only [resolve, hfv, Deferred.ofValue, Sem.run_bind, Sem.run_pure, Result.andThen_ok, invoke, callFunc, run_program, hargs']
      unfold yT at hcall
      cases hfn : P.funcs[g]? with
      | none => rw [hfn] at hcall; cases hcall
      | some fn =>
        rw [hfn] at hcall
        simp only [Bool.and_eq_true, Bool.not_eq_true'] at hcall
        simp only [hcall.2, Bool.false_eq_true, if_false]
        rw [if_neg (by cases hb : fn.body <;> simp_all)]
        rfl
    obtain ⟨e, w3, fr, ⟨v, v', h', ρ', rfl, ⟨A, gA, nb, roA, ex, hj, q⟩, st, hv⟩, hcomes, _, hleave⟩ := hc (ρ.ext pl) _ full stp.rel hfull (fat b tm (mark ++ ds) (.inRangeFunc w1.heap.size :: k) :: cs)
    have hm' : ρ'.m h.next = some pl := (st.le.2 _ hlt).trans hnew
    obtain ⟨tmA, dA, fnA, hoA, hsA⟩ := st.rel.loop gA hm'
    have stt := Step.znH st.rel gA hm' roA (A' := { A with state := .exhausted }) hoA hsA
    have std := Step.zhc stt.rel h.next
    have sta := (((stp.trans st).trans stt).trans std).same (h'' := h'.set h.next none) ⟨rfl, rfl, fun x => by rw [za.set_set]⟩
    refine ⟨ex, s, h'.set h.next none, ρ', _, tm, mark ++ ds, q, st1.trans sta, hs.mono (st1.trans sta).le, hd1.trans (.refl _ _ _) st1.size st1.rel sta, ?_⟩
    have harr : Steps P (lone (fat b tm ds (.code (.rangeFunc f params as bd) :: k)) cs w) (lone (fat b tm (mark ++ ds) ((A.pending.map Item.code).toList ++ k)) cs { w3 with heap := w3.heap.setIfInBounds pl.c (.loop (ZT { A with state := .exhausted } tmA dA fnA)) }) :=
      .head (VZ hrun hrun2) (Steps.trans hcomes (.head (step_leave_returned hleave) (.one (Xg (zb7 hoA nb)))))
    have hp : (A.pending.map Item.code).toList = ((kA ex).map Item.code).toList := by rw [hj]
    rw [hp] at harr
    cases ex with
    | normal => exact harr
    | ret => exact ⟨k, harr⟩
    | exit id => exact ⟨k, rfl, harr⟩
end
end Go.Ai
set_option linter.unusedVariables false
namespace Go.Ai
noncomputable section
inductive Task where
  | code (rd : Option Nat) (c : Code) (s : Env)
  | call (f : FuncId) (args : List Value)
inductive Out where
  | ex (e : Ex) (s : Env)
  | val (v : Value)
abbrev XG := Task -> za -> Option (Out × za)
def wO (h h2 : za) : za := @za.rec (fun _ => za) (fun t n r => @za.rec (fun _ => za) (fun t2 n2 _ => ⟨(List.range' n (n2 - n)).foldl (fun t b => t.set b (t2.get b)) t, n2, r⟩) h2) h
def zhy (cls : List Nat) (rec : XG) (g : FuncId) (args : List Value) (h : za) : Option (Value × za) :=
  match cls.getD g 0 with
  | 1 => (match rec (.call g args) h with
    | some (.val v, h') => some (v, h')
    | _ => none)
  | 2 => (match rec (.call g args) h.lock with
    | some (.val v, _) => cond (zec v) (some (v, h)) none
    | _ => none)
  | 3 => (match rec (.call g args) h.lock with
    | some (.val v, h2) => some (v, wO h h2)
    | _ => none)
  | _ => none
def zmj : Ex -> Bool
  | .normal => true
  | _ => false
def isReady : LoopState -> Bool
  | .ready => true
  | _ => false
def zkI : LoopState -> Bool
  | .busy => false
  | _ => true
def zbh (rec : XG) (L : Nat) (args : List Value) (h : za) : Option (Value × za) :=
  match h.get L with
  | some (.loop A) => (match vM A.params.toList args A.s with
    | some s0 => (match rec (.code (some L) A.assign s0) h with
      | some (.ex .normal s1, h1) => (match h1.get L with
        | some (.loop A1) => cond (isReady A1.state && Nat.ble h1.ro L)
            (match rec (.code (some L) A.body s1) (h1.set L (some (.loop { A1 with state := .busy }))) with
              | some (.ex e _, h2) => (match h2.get L with
                | some (.loop A2) => cond (Nat.ble h2.ro L) (some (.bool (zmj e), h2.set L (some (.loop (A2.left e))))) none
                | _ => none)
              | _ => none) none
        | _ => none)
      | _ => none)
    | none => none)
  | _ => none
def znN : Option Code -> Option Ex
  | none => some .normal
  | some .ret => some .ret
  | some (.exit id) => some (.exit id)
  | _ => none
def Jt (cls : List Nat) (rec : XG) (rd : Option Nat) (f : Option Value) (params : Array Tmp) (as bd : Code) (s : Env) (h : za) : Option (Ex × za) :=
  match f with
  | some (.func (.func g) fa fc) => cond (Nat.beq (cls.getD g 0) 1 && (match rd with
      | none => true
      | some L0 => (match h.get L0 with
        | some (.loop _) => true
        | _ => false)))
      (match rec (.call g (fa.toList ++ [.func (.yield h.next) #[] #[]] ++ fc.toList)) (h.push (.loop { state := .ready, pending := none, s := s, params := params, assign := as, body := bd })) with
        | some (.val _, h1) => (match h1.get h.next with
          | some (.loop A) => cond (zkI A.state && Nat.ble h1.ro h.next)
              (match znN A.pending with
                | some e => some (e, h1.set h.next none)
                | none => none) none
          | _ => none)
        | _ => none) none
  | _ => none
def evalOp (P : Program) (cls : List Nat) (rec : XG) (s : Env) (o : Oper) (h : za) : Option (Value × za) :=
  match o.op with
  | .call { callee := .value f, args, argTypes } => (match aev s f, QD s args.toList with
    | some (.func (.func g) fa fc), some vs => cond (Nat.beq (cls.getD g 0) 0) (zih P g (fa.toList ++ vs ++ fc.toList) h) (zhy cls rec g (fa.toList ++ vs ++ fc.toList) h)
    | some (.func (.yield L) fa fc), some vs => cond (Nat.beq fa.size 0 && Nat.beq fc.size 0) (zbh rec L vs h) none
    | _, _ => none)
  | _ => aop P s o h
def Xe (P : Program) (cls : List Nat) (rec : XG) (ops : Array Oper) : List Oper -> Env -> za -> Option (Env × za)
  | [], s, h => some (s, h)
  | o :: os, s, h =>
    cond (zZ ops s o)
      (match evalOp P cls rec s o h with
        | some (v, h1) => (match s.put o.dst v with
          | some s1 => Xe P cls rec ops os s1 h1
          | none => none)
        | none => none)
      (match s.put o.dst undef with
        | some s1 => Xe P cls rec ops os s1 h
        | none => none)
structure zfb where
  r : yR
  tcl : List Nat
  all : Bool
  U1 : Bool
  rdl : List Nat
  ex : Bool
def yq (ms : List Nat) (o : Oper) : Nat := o.after.toList.foldl (fun m e => cond (Region.binds .any e) (m ||| (1 <<< e.on) ||| ms.getD e.on 0) m) 0
def vD (ops : Array Oper) (x y : Oper) : Bool :=
  (match x.dst with
    | none => true
    | some d => !(y.looksAt ops).contains d && !(decide (y.dst = some d))) &&
  (match y.dst with
    | none => true
    | some d => !(x.looksAt ops).contains d)
def Kn (x y : zfb) : Bool :=
  cond x.all (y.U1 || (y.ex && !y.all && y.rdl.all (fun b => !x.r.tc b) && y.tcl.all (fun b => !x.r.tc b))) (x.tcl.all fun b => !y.r.rd b && !y.r.tc b) &&
  cond y.all (x.U1 || (x.ex && x.rdl.all fun b => !y.r.tc b)) (y.tcl.all fun b => !x.r.rd b)
def qF (ops : Array Oper) : List Oper -> Nat -> List Nat -> List (Nat × Oper) -> Bool
  | [], _, _, _ => true
  | o :: os, i, ms, prev =>
    (o.after.toList.all fun e => !(Region.binds .any e) || Nat.blt e.on i) && (prev.all fun x => (yq ms o).testBit x.1 || vD ops x.2 o) && qF ops os (i + 1) (ms ++ [yq ms o]) ((i, o) :: prev)
def zmP : Value -> List Nat
  | .pointer (some a) => [a.block]
  | .slice (some a) _ _ => [a.block]
  | .map (some b) => [b]
  | _ => []
def Jw : Op -> Bool
  | .call { callee := .builtin .cap, .. } | .call { callee := .builtin .min, .. } | .call { callee := .builtin .max, .. } | .call { callee := .builtin .unsafeSliceData, .. } => false
  | .move _ | .assign _ | .pick _ _ _ | .alloc _ | .box _ _ | .build _ _ | .nilCheck _ | .binOp _ _ _ _ _ | .unOp _ _ _ | .makeInterface _ _ | .makeFunc _ _ _ | .fieldAddr _ _ _ | .field _ _ _ | .indexAddr _ _ _ | .index _ _ _ | .extract _ _ => false
  | _ => true
def zd9 (h : za) (b : Nat) : List Nat :=
  match h.get b with
  | some (.iter (some m) _ _ _) => [b, m]
  | _ => [b]
def zkf (s : Env) (o : Oper) (h : za) : List Nat := cond (Jw o.op) ((o.op.operands.toList.flatMap fun x => (match aev s x with | some v => zmP v | none => [])).flatMap (zd9 h)) []
def za.pick (h : za) (l : List Nat) : za := @za.rec (fun _ => za) (fun t0 n r => ⟨l.foldl (fun t b => t.set b (t0.get b)) .e, n, r⟩) h
def za.UU (h : za) (l : List Nat) : za := @za.rec (fun _ => za) (fun t0 n r => ⟨l.foldl (fun t b => t.set b none) t0, n, r⟩) h
def za.znx (h g : za) (l : List Nat) : za := @za.rec (fun _ => za) (fun t0 _ r => @za.rec (fun _ => za) (fun t1 n _ => ⟨l.foldl (fun t b => t.set b (t1.get b)) t0, n, r⟩) g) h
def za.zjK (h' h : za) (l : List Nat) : za := @za.rec (fun _ => za) (fun t0 n r => ⟨l.foldl (fun t b => t.set b (h.get b)) t0, n, r⟩) h'
def UE (s : Env) (dsts : List Nat) : List Oper -> Nat -> Nat -> List Nat
  | [], _, _ => []
  | o :: os, j, desc => cond (o.after.toList.any fun e => Region.binds .any e && desc.testBit e.on)
      (UE s dsts os (j + 1) (desc ||| (1 <<< j)))
      ((cond (Jw o.op) (o.op.operands.toList.flatMap fun x => (match x with
        | .tmp t => cond (dsts.contains t) [] (zmP (s.get t))
        | _ => [])) []) ++ UE s dsts os (j + 1) desc)
def jl : Builtin -> Bool
  | .len | .cap | .min | .max | .unsafeSliceData => true
  | _ => false
def qT : Op -> Bool
  | .call { callee := .builtin b, .. } => !jl b
  | .store _ _ _ => true
  | .mapUpdate _ _ _ _ => true
  | .next _ _ => true
  | .call _ => true
  | _ => false
def zaE (P : Program) (cls : List Nat) (rec : XG) (ops : Array Oper) (recs : List zfb) (mask i : Nat) (os : List Oper) (o : Oper) (s : Env) (h : za) : Option (zfb × za) :=
  cond (zZ ops s o)
    (match o.op with
      | .call { callee := .value f, args, argTypes } => (match aev s f, QD s args.toList with
        | some (.func (.func g) fa fc), some vs =>
          (match cls.getD g 0 with
            | 1 =>
              let hid := ((recs.flatMap fun x => cond (mask.testBit x.r.j) [] (x.tcl ++ x.rdl)) ++ UE s ((o :: os).filterMap (·.dst)) os (i + 1) (1 <<< i)).filter fun b => Nat.blt b h.next
              (match rec (.call g (fa.toList ++ vs ++ fc.toList)) (h.UU hid) with
                | some (.val v, h') => some (⟨⟨i, o, v, s, h.UU hid, h', fun b => Nat.blt b h.next && !hid.contains b, fun b => Nat.blt b h'.next && !hid.contains b⟩, [], true, false, [], false⟩, h'.zjK h hid)
                | _ => none)
            | 2 =>
              let hid := recs.flatMap fun x => cond (mask.testBit x.r.j) [] x.tcl
              (match rec (.call g (fa.toList ++ vs ++ fc.toList)) (h.UU hid).lock with
                | some (.val v, _) => cond (zec v) (some (⟨⟨i, o, v, s, h.UU hid, h.UU hid, fun b => Nat.blt b h.next && !hid.contains b, fun _ => false⟩, [], false, false, [], false⟩, h)) none
                | _ => none)
            | 3 =>
              let hid := recs.flatMap fun x => cond (mask.testBit x.r.j) [] x.tcl
              (match rec (.call g (fa.toList ++ vs ++ fc.toList)) (h.UU hid).lock with
                | some (.val v, h2) =>
                  let new := List.range' h.next (h2.next - h.next)
                  some (⟨⟨i, o, v, s, h.UU hid, wO (h.UU hid) h2, fun b => Nat.blt b h.next && !hid.contains b, fun b => new.contains b⟩, new, false, false, [], false⟩, wO h h2)
                | _ => none)
            | _ => (match zih P g (fa.toList ++ vs ++ fc.toList) (h.pick []) with
              | some (v, g') =>
                let new := List.range' h.next (g'.next - h.next)
                some (⟨⟨i, o, v, s, h.pick [], g', fun _ => false, fun b => new.contains b⟩, new, false, new.isEmpty, [], true⟩, h.znx g' new)
              | none => none))
        | _, _ => none)
      | _ =>
        let bs := zkf s o h
        (match aop P s o (h.pick bs) with
          | some (v, g') =>
            let new := List.range' h.next (g'.next - h.next)
            let tcl := cond (qT o.op) (bs ++ new) new
            some (⟨⟨i, o, v, s, h.pick bs, g', fun b => bs.contains b, fun b => tcl.contains b⟩, tcl, false, bs.isEmpty && tcl.isEmpty, bs, true⟩, h.znx g' tcl)
          | none => none))
    (some (⟨⟨i, o, undef, s, h.pick [], h.pick [], fun _ => false, fun _ => false⟩, [], false, true, [], true⟩, h))
def Y0 (P : Program) (cls : List Nat) (rec : XG) (ops : Array Oper) : List Oper -> Nat -> List Nat -> List zfb -> Env -> za -> Option (Env × za)
  | [], _, _, _, s, h => some (s, h)
  | o :: os, i, ms, recs, s, h =>
    (match zaE P cls rec ops recs (yq ms o) i os o s h with
      | some (y, h1) => cond (y.U1 || recs.all fun x => Kn x y || (yq ms o).testBit x.r.j)
          (match s.put o.dst y.r.v with
            | some s1 => Y0 P cls rec ops os (i + 1) (ms ++ [yq ms o]) (y :: recs) s1 h1
            | none => none) none
      | none => none)
def body (P : Program) (cls : List Nat) (rec : XG) : Task -> za -> Option (Out × za)
  | .call f args, h => (match P.funcs[f]? with
    | none => none
    | some fn => (match fn.body with
      | none => none
      | some c => (match rec (.code none c (Env.enter args fn.ntmps)) h with
        | some (.ex .normal s1, h1) => (match wj P s1 h1 fn.results.toList with
          | some vs => some (.val (ux vs), h1)
          | none => none)
        | some (.ex .ret s1, h1) => (match wj P s1 h1 fn.results.toList with
          | some vs => some (.val (ux vs), h1)
          | none => none)
        | _ => none)))
  | .code rd c s, h => (match c with
    | .skip => some (.ex .normal s, h)
    | .label _ => some (.ex .normal s, h)
    | .exit id => some (.ex (.exit id) s, h)
    | .ret => some (.ex .ret s, h)
    | .seq a b => (match rec (.code rd a s) h with
      | some (.ex .normal s1, h1) => rec (.code rd b s1) h1
      | r => r)
    | .cond x a b => (match aev s x with
      | some (.bool true) => rec (.code rd a s) h
      | some (.bool false) => rec (.code rd b s) h
      | _ => none)
    | .block id a => (match rec (.code rd a s) h with
      | some (.ex (.exit id') s1, h1) => cond (Nat.beq id' id) (some (.ex .normal s1, h1)) (some (.ex (.exit id') s1, h1))
      | r => r)
    | .scope a => rec (.code rd a s) h
    | .loop a => (match rec (.code rd a s) h with
      | some (.ex .normal s1, h1) => rec (.code rd (.loop a) s1) h1
      | r => r)
    | .region _ ops draw => cond draw
        (cond (qF ops ops.toList 0 [] []) (match Y0 P cls rec ops ops.toList 0 [] [] s h with
          | some (s1, h1) => some (.ex .normal s1, h1)
          | none => none) none)
        (match Xe P cls rec ops ops.toList s h with
          | some (s1, h1) => some (.ex .normal s1, h1)
          | none => none)
    | .rangeFunc f params as bd => (match Jt cls rec rd (aev s f) params as bd s h with
      | some (e, h1) => some (.ex e s, h1)
      | none => none)
    | _ => none)
def run (P : Program) (cls : List Nat) (n : Nat) : XG := Nat.rec (fun _ _ => none) (fun _ rec => body P cls rec) n
end
end Go.Ai
set_option linter.unusedVariables false
namespace Go.Ai
noncomputable section
variable {P : Program} {cls : List Nat}
theorem wY {α : Type} (f : Nat -> Option α) (j : Nat) : ∀ (l : List Nat) (t : Tr α), (l.foldl (fun t b => t.set b (f b)) t).get j = if j ∈ l then f j else t.get j
  | [], t => by simp
  | b :: l, t => by
    rw [List.foldl_cons, wY f j l, Tr.zP]
    by_cases h : j ∈ l
    . simp [h]
    . by_cases e : j = b
      . subst e; simp [h]
      . simp [h, e]
theorem xM (h : za) (l : List Nat) (b : Nat) : (h.pick l).get b = if b ∈ l then h.get b else none := by
  show (l.foldl (fun t b => t.set b (h.get b)) Tr.e).get b = _
  rw [wY]; rfl
theorem uc (h : za) (l : List Nat) (b : Nat) : (h.UU l).get b = if b ∈ l then none else h.get b := by
  show (l.foldl (fun t b => t.set b none) h.t).get b = _
  rw [wY (fun _ => none)]; rfl
theorem YD (h g : za) (l : List Nat) (b : Nat) : (h.znx g l).get b = if b ∈ l then g.get b else h.get b := by
  show (l.foldl (fun t b => t.set b (g.get b)) h.t).get b = _
  rw [wY]; rfl
theorem XX (h' h : za) (l : List Nat) (b : Nat) : (h'.zjK h l).get b = if b ∈ l then h.get b else h'.get b := by
  show (l.foldl (fun t b => t.set b (h.get b)) h'.t).get b = _
  rw [wY]; rfl
theorem vG {a c b : Nat} : b ∈ List.range' a (c - a) ↔ a <= b /\ b < c := by
  rw [List.mem_range'_1]; omega
theorem xK (h h2 : za) (b : Nat) : (wO h h2).get b = if h.next <= b /\ b < h2.next then h2.get b else h.get b := by
  show ((List.range' h.next (h2.next - h.next)).foldl (fun t b => t.set b (h2.get b)) h.t).get b = _
  rw [wY]
  by_cases hb : h.next <= b /\ b < h2.next
  . rw [if_pos (vG.2 hb), if_pos hb]
  . rw [if_neg (fun hm => hb (vG.1 hm)), if_neg hb]; rfl
theorem TC.fresh {f : FuncId} {args : List Value} {h h2 : za} {v : Value} (ht : TC P f args h.lock (fun v1 h1 => v1 = v /\ h1 = h2)) : TC P f args h (fun v1 h1 => v1 = v /\ h1 = wO h h2) := by
  intro ρ w cargs hr hv
  refine (ht ρ w cargs hr.lock hv).mono fun e w' => ?_
  rintro ⟨v1, v', h', ρ', e1, ⟨rfl, rfl⟩, st, hvv⟩
  have nomine : ∀ c, ¬ zdP ρ h.lock c := by
    rintro c ⟨b, o, pl, hg, hro, _⟩
    have h1 : h.next <= b := hro
    have h2 := hr.dom b o hg
    omega
  have hsame : ∀ c, c < w.heap.size -> w'.heap[c]? = w.heap[c]? := fun c hc => st.frame c hc (nomine c)
  have hn : h.next <= h'.next := by have := st.le.1; rw [hr.next, st.rel.next] at this; exact this
  have hold : ∀ b, b < h.next -> ρ'.m b = ρ.m b := fun b hb => st.le.2 b (by rw [hr.next]; exact hb)
  have cases' : ∀ b o, (wO h h').get b = some o -> (h.next <= b /\ b < h'.next /\ h'.get b = some o) \/ (b < h.next /\ h.get b = some o) := by
    intro b o hg
    rw [xK] at hg
    split at hg
    . rename_i hb; exact .inl ⟨hb.1, hb.2, hg⟩
    . exact .inr ⟨hr.dom b o hg, hg⟩
  refine ⟨v1, v', wO h h', ρ', e1, ⟨rfl, rfl⟩, ⟨st.le, ⟨st.rel.next, Nat.le_trans hr.ro hn, ?_, ?_, ?_, hr.gro, st.rel.Yt⟩, rfl, st.os, st.tape, st.output, st.size, fun c hc _ => hsame c hc, ?_⟩, hvv⟩
  . intro b o hg
    rcases cases' b o hg with ⟨_, h2, _⟩ | ⟨h1, _⟩
    . exact h2
    . exact Nat.lt_of_lt_of_le h1 hn
  . intro b o hg
    rcases cases' b _ hg with ⟨h1, h2, h3⟩ | ⟨h1, h3⟩
    . obtain ⟨pl, hp, hc⟩ := st.rel.ok b o h3
      refine ⟨pl, hp, hc.zlL (fun _ => ?_)⟩
      rw [st.ro]; exact decide_eq_true h1
    . obtain ⟨pl, hp, hc⟩ := hr.ok b o h3
      exact ⟨pl, (hold b h1).trans hp, (hc.mono st.le).other (hsame _ hc.lt)⟩
  . have key : ∀ b1 b2 o1 o2 p1 p2, h.next <= b1 -> h'.get b1 = some o1 -> b2 < h.next -> h.get b2 = some o2 -> ρ'.m b1 = some p1 -> ρ'.m b2 = some p2 -> p1.c = p2.c -> False := by
      intro b1 b2 o1 o2 p1 p2 l1 g1 l2 g2 m1 m2 ec
      obtain ⟨pl, hp, hc⟩ := hr.ok b2 o2 g2
      rw [hold b2 l2, hp] at m2
      cases m2
      have := st.img p1.c (by rw [ec]; exact hc.lt) ⟨b1, o1, p1, g1, by rw [st.ro]; exact l1, m1, rfl⟩
      exact nomine _ this
    intro b1 b2 o1 o2 p1 p2 g1 g2 m1 m2 ec
    rcases cases' b1 o1 g1 with ⟨l1, _, k1⟩ | ⟨l1, k1⟩ <;> rcases cases' b2 o2 g2 with ⟨l2, _, k2⟩ | ⟨l2, k2⟩
    . exact st.rel.inj b1 b2 o1 o2 p1 p2 k1 k2 m1 m2 ec
    . exact (key b1 b2 o1 o2 p1 p2 l1 k1 l2 k2 m1 m2 ec).elim
    . exact (key b2 b1 o2 o1 p2 p1 l2 k2 l1 k1 m2 m1 ec.symm).elim
    . rw [hold b1 l1] at m1; rw [hold b2 l2] at m2
      exact hr.inj b1 b2 o1 o2 p1 p2 k1 k2 m1 m2 ec
  . rintro c hc ⟨b, o, pl, hg, hro, hm, rfl⟩
    rcases cases' b o hg with ⟨l1, _, k1⟩ | ⟨l1, k1⟩
    . exact (nomine _ (st.img pl.c hc ⟨b, o, pl, k1, by rw [st.ro]; exact l1, hm, rfl⟩)).elim
    . rw [hold b l1] at hm; exact ⟨b, o, pl, k1, hro, hm, rfl⟩
def uA (P : Program) (cls : List Nat) : Bool := (List.range cls.length).all fun g => Nat.beq (cls.getD g 0) 0 || yT P g
theorem vn {g : FuncId} {k : Nat} (hC : uA P cls = true) (h : cls.getD g 0 = k + 1) : yT P g = true := by
  simp only [uA, List.all_eq_true, List.mem_range, Bool.or_eq_true] at hC
  have hg : g < cls.length := by
    rcases Nat.lt_or_ge g cls.length with h1 | h1
    . exact h1
    . rw [List.getD_eq_getElem?_getD, List.getElem?_eq_none h1] at h; cases h
  rcases hC g hg with h1 | h1
  . rw [h] at h1; cases h1
  . exact h1
structure Sound (P : Program) (rec : XG) : Prop where
  code : ∀ rd c s h e s' h', rec (.code rd c s) h = some (.ex e s', h') -> T P rd c s h (fun e1 s1 h1 => e1 = e /\ s1 = s' /\ h1 = h')
  call : ∀ f args h v h', rec (.call f args) h = some (.val v, h') -> TC P f args h (fun v1 h1 => v1 = v /\ h1 = h')
  kind : ∀ rd c s h o h', rec (.code rd c s) h = some (o, h') -> ∃ e s', o = .ex e s'
  zo4 : ∀ f args h o h', rec (.call f args) h = some (o, h') -> ∃ v, o = .val v
theorem zch {rec : XG} (S : Sound P rec) (hC : uA P cls = true) {g : FuncId} {args : List Value} {h h' : za} {v : Value} (he : zhy cls rec g args h = some (v, h')) :
    yT P g = true /\ TC P g args h (fun v1 h1 => v1 = v /\ h1 = h') := by
  unfold zhy at he
  split at he
  . rename_i hk
    refine ⟨vn hC hk, ?_⟩
    split at he
    . rename_i v1 h1 hrec
      simp only [Option.some.injEq, Prod.mk.injEq] at he
      obtain ⟨rfl, rfl⟩ := he
      exact S.call _ _ _ _ _ hrec
    . cases he
  . rename_i hk
    refine ⟨vn hC hk, ?_⟩
    split at he
    . rename_i v1 h1 hrec
      obtain ⟨hsc, he⟩ := zl he
      simp only [Option.some.injEq, Prod.mk.injEq] at he
      obtain ⟨rfl, rfl⟩ := he
      refine ((S.call _ _ _ _ _ hrec).quiet (fun v2 h2 q => by rw [q.1]; exact hsc)).mono ?_
      rintro v2 h2 ⟨⟨h3, q1, q2⟩, rfl⟩
      exact ⟨q1, rfl⟩
    . cases he
  . rename_i hk
    refine ⟨vn hC hk, ?_⟩
    split at he
    . rename_i v1 h2 hrec
      simp only [Option.some.injEq, Prod.mk.injEq] at he
      obtain ⟨rfl, rfl⟩ := he
      exact (S.call _ _ _ _ _ hrec).fresh
    . cases he
  . cases he
theorem zac {rec : XG} (S : Sound P rec) {L : Nat} {args : List Value} {h h' : za} {v : Value} (he : zbh rec L args h = some (v, h')) : TY P L args h (fun v1 h1 => v1 = v /\ h1 = h') := by
  unfold zbh at he
  split at he
  case h_2 => cases he
  rename_i A hg
  split at he
  case h_2 => cases he
  rename_i s0 hs0
  split at he
  case h_2 => cases he
  rename_i s1 h1 hrec
  split at he
  case h_2 => cases he
  rename_i A1 g1
  obtain ⟨hc, he⟩ := zl he
  simp only [Bool.and_eq_true] at hc
  split at he
  case h_2 => cases he
  rename_i e s2 h2 hrec2
  split at he
  case h_2 => cases he
  rename_i A2 g2
  obtain ⟨hro, he⟩ := zl he
  simp only [Option.some.injEq, Prod.mk.injEq] at he
  obtain ⟨rfl, rfl⟩ := he
  refine zfi hg hs0 ((S.code _ _ _ _ _ _ _ hrec).mono ?_)
  rintro e1 s3 h3 ⟨rfl, rfl, rfl⟩
  refine ⟨rfl, A1, g1, ?_, Nat.le_of_ble_eq_true hc.2, (S.code _ _ _ _ _ _ _ hrec2).mono ?_⟩
  . cases hst : A1.state <;> first | rfl | (rw [hst] at hc; cases hc.1)
  . rintro e1 s3 h3 ⟨rfl, rfl, rfl⟩
    refine ⟨A2, g2, Nat.le_of_ble_eq_true hro, ?_, rfl⟩
    cases e1 <;> rfl
theorem zbX {p : Option Code} {e : Ex} (h : znN p = some e) : kA e = p := by
  unfold znN at h
  split at h <;> first | (simp only [Option.some.injEq] at h; subst h; rfl) | cases h
theorem JL {rec : XG} (S : Sound P rec) (hC : uA P cls = true) {rd : Option Nat} {f : Operand} {params : Array Tmp} {as bd : Code} {s : Env} {h h' : za} {e : Ex} (he : Jt cls rec rd (aev s f) params as bd s h = some (e, h')) :
    T P rd (.rangeFunc f params as bd) s h (fun e1 s1 h1 => e1 = e /\ s1 = s /\ h1 = h') := by
  unfold Jt at he
  split at he
  case h_2 => cases he
  rename_i g fa fc hf
  obtain ⟨hc, he⟩ := zl he
  simp only [Bool.and_eq_true] at hc
  split at he
  case h_2 => cases he
  rename_i v h1 hrec
  split at he
  case h_2 => cases he
  rename_i A hA
  obtain ⟨hb, he⟩ := zl he
  simp only [Bool.and_eq_true] at hb
  split at he
  case h_2 => cases he
  rename_i e1 hex
  simp only [Option.some.injEq, Prod.mk.injEq] at he
  obtain ⟨rfl, rfl⟩ := he
  refine W8 hf (vn (k := 0) hC (Nat.eq_of_beq_eq_true hc.1)) ?_ ((S.call _ _ _ _ _ hrec).mono ?_)
  . rintro L rfl
    have := hc.2
    simp only at this
    split at this
    . rename_i A0 g0; exact ⟨A0, g0⟩
    . cases this
  . rintro v1 h2 ⟨rfl, rfl⟩
    refine ⟨A, hA, ?_, Nat.le_of_ble_eq_true hb.2, e1, zbX hex, rfl, rfl, rfl⟩
    cases hst : A.state <;> first | rfl | (rw [hst] at hb; cases hb.1)
theorem jM {rec : XG} (S : Sound P rec) (hC : uA P cls = true) {ops : Array Oper} : ∀ (l : List Oper) (i : Nat) {s s' : Env} {h h' : za}, ops.toList.drop i = l -> Xe P cls rec ops l s h = some (s', h') ->
    TO P ops (List.range' i l.length) s h (fun s1 h1 => s1 = s' /\ h1 = h')
  | [], i, s, s', h, h', hl, he => by
    simp only [Xe, Option.some.injEq, Prod.mk.injEq] at he
    exact zjr ⟨he.1, he.2⟩
  | o :: os, i, s, s', h, h', hl, he => by
    have ho : ops[i]? = some o := by
      have := congrArg (fun l => l[0]?) hl
      simp only [List.getElem?_drop, List.getElem?_cons_zero] at this
      simpa using this
    have hl' : ops.toList.drop (i + 1) = os := by rw [<- List.tail_drop, hl]; rfl
    rw [List.length_cons, List.range'_succ]
    simp only [Xe] at he
    cases hw : zZ ops s o with
    | false =>
      rw [hw] at he
      simp only [cond_false] at he
      split at he
      . rename_i s1 hp
        exact zfs ho hw hp (jM S hC os (i + 1) hl' he)
      . cases he
    | true =>
      rw [hw] at he
      simp only [cond_true] at he
      split at he
      . rename_i v h1 hev
        split at he
        . rename_i s1 hp
          have hrest := jM S hC os (i + 1) hl' he
          unfold evalOp at hev
          split at hev
          . rename_i f args ts hop
            split at hev
            . rename_i g fa fc vs hf hargs
              cases hk : Nat.beq (cls.getD g 0) 0 with
              | true =>
                rw [hk] at hev
                simp only [cond_true] at hev
                exact zlY ho hw (by rw [hop]; rfl) (fun ρ w a hr hs => zbD hop hf hargs hev hr hs) hp hrest
              | false =>
                rw [hk] at hev
                simp only [cond_false] at hev
                obtain ⟨h1c, h2c⟩ := zch S hC hev
                exact zhD ho hw hop hf hargs h1c h2c (by rintro v2 h2 ⟨rfl, rfl⟩; exact ⟨s1, hp, hrest⟩)
            . rename_i L fa fc vs hf hargs
              obtain ⟨hz, hev⟩ := zl hev
              simp only [Bool.and_eq_true] at hz
              obtain rfl := jR hz.1
              obtain rfl := jR hz.2
              exact zdt ho hw hop hf hargs (zac S hev) (by rintro v2 h2 ⟨rfl, rfl⟩; exact ⟨s1, hp, hrest⟩)
            . cases hev
          . exact zmu ho hw hev hp hrest
        . cases he
      . cases he
end
end Go.Ai
set_option linter.unusedVariables false
namespace Go.Ai
noncomputable section
variable {P : Program} {cls : List Nat}
structure AF (h h' : za) : Prop where
  next : h.next <= h'.next
  ro : h'.ro = h.ro
  alive : ∀ b o, h'.get b = some o -> h.get b ≠ none \/ (h.next <= b /\ b < h'.next)
theorem AF.refl (h : za) : AF h h := ⟨Nat.le_refl _, rfl, fun b o hb => .inl (by rw [hb]; simp)⟩
theorem AF.trans {a b c : za} (h : AF a b) (k : AF b c) : AF a c := by
  refine ⟨Nat.le_trans h.next k.next, k.ro.trans h.ro, fun x o hx => ?_⟩
  rcases k.alive x o hx with h1 | ⟨h1, h2⟩
  . obtain ⟨o', ho'⟩ : ∃ o, b.get x = some o := by cases hh : b.get x with | none => exact absurd hh h1 | some o => exact ⟨o, rfl⟩
    rcases h.alive x o' ho' with h2 | ⟨h2, h3⟩
    . exact .inl h2
    . exact .inr ⟨h2, Nat.lt_of_lt_of_le h3 k.next⟩
  . exact .inr ⟨Nat.le_trans h.next h1, h2⟩
theorem AF.push (h : za) (o : wB) : AF h (h.push o) := ⟨Nat.le_succ _, rfl, fun b o' hb => by
  rw [za.y6] at hb
  split at hb
  . rename_i e; subst e; exact .inr ⟨Nat.le_refl _, Nat.lt_succ_self _⟩
  . exact .inl (by rw [hb]; simp)⟩
theorem AF.Uw {h : za} {b : Nat} {o : wB} (hb : h.get b = some o) (x : Option wB) : AF h (h.set b x) := ⟨Nat.le_refl _, rfl, fun c o' hc => by
  rw [za.zP] at hc
  split at hc
  . rename_i e; subst e; exact .inl (by rw [hb]; simp)
  . exact .inl (by rw [hc]; simp)⟩
theorem zeG {h h' : za} {b off : Nat} {new : List Value} (he : X4 h b off new = some h') : AF h h' := by
  unfold X4 at he
  cases hz : Nat.beq new.length 0 with
  | true => rw [hz] at he; simp only [cond_true, Option.some.injEq] at he; subst he; exact .refl _
  | false =>
    rw [hz] at he
    simp only [cond_false] at he
    split at he
    . rename_i hg
      obtain ⟨_, he⟩ := zl he
      simp only [Option.some.injEq] at he
      subst he
      exact .Uw hg _
    . cases he
theorem J6 {t : TypeId} {a v : Value} {h h' : za} (he : zj P t a v h = some h') : AF h h' := by
  unfold zj at he
  split at he
  . split at he
    . cases he
    . rename_i hg
      split at he
      . cases he
      . obtain ⟨_, he⟩ := zl he
        simp only [Option.some.injEq] at he
        subst he
        exact .Uw hg _
    . cases he
  . cases he
theorem zeT {sT xT : TypeId} {s x v : Value} {h h' : za} (he : jS P sT xT s x h = some (v, h')) : AF h h' := by
  unfold jS at he
  split at he
  case h_2 => cases he
  rename_i elem xd n _ _ _
  split at he
  case h_2 => cases he
  split at he
  case h_2 => cases he
  obtain ⟨_, he⟩ := zl he
  unfold Zy at he
  split at he
  . cases hz : Nat.beq n 0 with
    | true => rw [hz] at he; simp only [cond_true, Option.some.injEq, Prod.mk.injEq] at he; obtain ⟨_, rfl⟩ := he; exact .refl _
    | false =>
      rw [hz] at he
      obtain ⟨_, he⟩ := zl (show cond _ _ none = _ from he)
      simp only [Option.some.injEq, Prod.mk.injEq] at he
      obtain ⟨_, rfl⟩ := he
      exact .push _ _
  . cases hz : Nat.beq n 0 with
    | true => rw [hz] at he; simp only [cond_true, Option.some.injEq, Prod.mk.injEq] at he; obtain ⟨_, rfl⟩ := he; exact .refl _
    | false =>
      rw [hz] at he
      simp only [cond_false] at he
      split at he
      . rename_i hg
        obtain ⟨_, he⟩ := zl he
        simp only [Option.some.injEq, Prod.mk.injEq] at he
        obtain ⟨_, rfl⟩ := he
        exact (AF.Uw hg none).trans (.push _ _)
      . cases he
  . cases he
theorem ziD {t : TypeId} {d x v : Value} {h h' : za} (he : zfZ P t d x h = some (v, h')) : AF h h' := by
  unfold zfZ at he
  split at he
  case h_2 => cases he
  split at he
  case h_1 => cases he
  split at he
  case h_1 => cases he
  split at he
  . simp only [Option.some.injEq, Prod.mk.injEq] at he; obtain ⟨_, rfl⟩ := he; exact .refl _
  . simp only [Option.map_eq_some_iff, Prod.mk.injEq] at he
    obtain ⟨h2, hs, _, rfl⟩ := he
    exact zeG hs
  . cases he
theorem zhK {t : TypeId} {x : Value} {h h' : za} (he : zas P t x h = some h') : AF h h' := by
  unfold zas at he
  cases he
theorem KT {t : TypeId} {x k v : Value} {h h' : za} (he : uT P t x k v h = some h') : AF h h' := by
  unfold uT at he
  cases he
theorem Kr {t : TypeId} {x k : Value} {h h' : za} (he : ko P t x k h = some h') : AF h h' := by
  unfold ko at he
  cases he
theorem ziK {x v : Value} {str : Bool} {h h' : za} (he : zdX P x str h = some (v, h')) : AF h h' := by
  unfold zdX at he
  cases he
def Still (h h' : za) : Prop := h' = h \/ ∃ o, h' = h.push o
theorem Still.af {h h' : za} (s : Still h h') : AF h h' := by
  rcases s with rfl | ⟨o, rfl⟩
  . exact .refl _
  . exact .push _ _
theorem zbV {t : TypeId} {l c v : Value} {h h' : za} (he : ZQ P t l c h = some (v, h')) : Still h h' := by
  unfold ZQ at he
  split at he
  case h_2 => cases he
  split at he
  case h_1 => cases he
  split at he
  case h_1 => cases he
  obtain ⟨_, he⟩ := zl he
  simp only [Option.some.injEq, Prod.mk.injEq] at he
  obtain ⟨_, rfl⟩ := he
  exact .inr ⟨_, rfl⟩
theorem za5 {src dst : TypeId} {x v : Value} {h h' : za} (he : zaS P src dst x h = some (v, h')) : Still h h' := by
  unfold zaS at he
  split at he
  . simp only [Option.some.injEq, Prod.mk.injEq] at he; obtain ⟨_, rfl⟩ := he; exact .inl rfl
  . split at he
    . split at he
      . simp only [Option.some.injEq, Prod.mk.injEq] at he; obtain ⟨_, rfl⟩ := he; exact .inr ⟨_, rfl⟩
      . cases he
    . split at he
      . simp only [Option.map_eq_some_iff, Prod.mk.injEq] at he; obtain ⟨_, _, _, rfl⟩ := he; exact .inl rfl
      . cases he
    . cases he
theorem zbI {src dst : TypeId} {x v : Value} {h h' : za} (he : vf P src dst x h = some (v, h')) : Still h h' := by
  unfold vf at he
  split at he
  . rename_i r hc
    simp only [Option.some.injEq] at he
    subst he
    exact za5 hc
  . simp only [Option.map_eq_some_iff, Prod.mk.injEq] at he; obtain ⟨_, _, _, rfl⟩ := he; exact .inl rfl
theorem zmS {pt : TypeId} {p v : Value} {n : Int} {h h' : za} (he : aus P pt p n h = some (v, h')) : AF h h' := by
  unfold aus at he
  split at he
  . obtain ⟨_, he⟩ := zl he
    simp only [Option.some.injEq, Prod.mk.injEq] at he; obtain ⟨_, rfl⟩ := he; exact .refl _
  . cases hn : decide (n = 0) with
    | true => rw [hn] at he; simp only [cond_true, Option.some.injEq, Prod.mk.injEq] at he; obtain ⟨_, rfl⟩ := he; exact .refl _
    | false =>
      rw [hn] at he
      simp only [cond_false] at he
      split at he
      case h_2 => cases he
      rename_i hg
      split at he
      case h_2 => cases he
      obtain ⟨_, he⟩ := zl he
      simp only [Option.some.injEq, Prod.mk.injEq] at he; obtain ⟨_, rfl⟩ := he; exact .Uw hg _
  . cases he
theorem Wa {t : TypeId} {n : Nat} {ps : List (Nat × Value)} {v : Value} {h h' : za} (he : yd P t n ps h = some (v, h')) : Still h h' := by
  unfold yd at he
  split at he
  case h_2 => cases he
  split at he
  case h_2 => cases he
  obtain ⟨_, he⟩ := zl he
  split at he
  case h_2 => cases he
  obtain ⟨_, he⟩ := zl he
  simp only [Option.some.injEq, Prod.mk.injEq] at he
  obtain ⟨_, rfl⟩ := he
  exact .inr ⟨_, rfl⟩
theorem xf {x : Option Value} {v : Value} {h h' : za} (he : one h x = some (v, h')) : Still h h' := .inl (yU he).2
theorem zbJ {b : Builtin} {ts : List TypeId} {r : TypeId} {vs : List Value} {v : Value} {h h' : za} (he : zg P b ts r vs h = some (v, h')) : AF h h' := by
  unfold zg at he
  split at he
  . exact zeT he
  . exact ziD he
  . simp only [Option.map_eq_some_iff, Prod.mk.injEq] at he; obtain ⟨_, _, _, rfl⟩ := he; exact .refl _
  . simp only [Option.map_eq_some_iff, Prod.mk.injEq] at he; obtain ⟨_, hc, _, rfl⟩ := he; exact zhK hc
  . obtain ⟨_, he⟩ := zl he; simp only [Option.map_eq_some_iff, Prod.mk.injEq] at he; obtain ⟨_, _, _, rfl⟩ := he; exact .refl _
  . obtain ⟨_, he⟩ := zl he; simp only [Option.map_eq_some_iff, Prod.mk.injEq] at he; obtain ⟨_, _, _, rfl⟩ := he; exact .refl _
  . simp only [Option.map_eq_some_iff, Prod.mk.injEq] at he; obtain ⟨_, hc, _, rfl⟩ := he; exact Kr hc
  . simp only [Option.map_eq_some_iff, Prod.mk.injEq] at he; obtain ⟨_, _, _, rfl⟩ := he; exact .refl _
  . simp only [Option.map_eq_some_iff, Prod.mk.injEq] at he; obtain ⟨_, _, _, rfl⟩ := he; exact .refl _
  . exact zmS he
  . cases he
theorem zbb {t : TypeId} {x v : Value} {h h' : za} (he : QC P t x h = some (v, h')) : Still h h' := by
  unfold QC at he
  cases he
theorem Z0 {b : Builtin} {ts : List TypeId} {r : TypeId} {vs : List Value} {v : Value} {h h' : za} (hq : jl b = true) (he : zg P b ts r vs h = some (v, h')) : h' = h := by
  unfold zg at he
  split at he <;> first
    | (simp [jl] at hq; done)
    | (simp only [Option.map_eq_some_iff, Prod.mk.injEq] at he; obtain ⟨_, _, _, rfl⟩ := he; rfl)
    | (obtain ⟨_, he⟩ := zl he; simp only [Option.map_eq_some_iff, Prod.mk.injEq] at he; obtain ⟨_, _, _, rfl⟩ := he; rfl)
    | cases he
theorem uQ {g : FuncId} {args : List Value} {v : Value} {h h' : za} (he : zih P g args h = some (v, h')) : Still h h' := by
  unfold zih at he
  split at he
  . rename_i r hn
    simp only [Option.some.injEq] at he
    subst he
    unfold ziT at hn
    split at hn
    case h_2 => cases hn
    obtain ⟨_, hn⟩ := zl hn
    split at hn
    case h_2 => cases hn
    simp only [Option.some.injEq, Prod.mk.injEq] at hn
    obtain ⟨_, rfl⟩ := hn
    exact .inl rfl
  . unfold Ku at he
    split at he
    case h_2 => cases he
    obtain ⟨_, he⟩ := zl he
    split at he
    case h_2 => cases he
    split at he
    case h_2 => cases he
    obtain ⟨_, he⟩ := zl he
    simp only [Option.some.injEq, Prod.mk.injEq] at he
    obtain ⟨_, rfl⟩ := he
    exact .inr ⟨_, rfl⟩
theorem uu {s : Env} {o : Oper} {v : Value} {h h' : za} (he : aop P s o h = some (v, h')) : AF h h' /\ (qT o.op = false -> Still h h') := by
  unfold aop at he
  split at he <;> rename_i hop
  . have := xf he; exact ⟨this.af, fun _ => this⟩
  . have := xf he; exact ⟨this.af, fun _ => this⟩
  . split at he
    . have := xf he; exact ⟨this.af, fun _ => this⟩
    . have := xf he; exact ⟨this.af, fun _ => this⟩
    . cases he
  . split at he
    . simp only [Option.some.injEq, zhZ, Prod.mk.injEq] at he; obtain ⟨_, rfl⟩ := he; exact ⟨.push _ _, fun _ => .inr ⟨_, rfl⟩⟩
    . cases he
  . split at he
    . simp only [Option.some.injEq, zhZ, Prod.mk.injEq] at he; obtain ⟨_, rfl⟩ := he; exact ⟨.push _ _, fun _ => .inr ⟨_, rfl⟩⟩
    . cases he
  . split at he
    . have := xf he; exact ⟨this.af, fun _ => this⟩
    . cases he
  . split at he
    . have := Wa he; exact ⟨this.af, fun _ => this⟩
    . cases he
  . split at he
    . have := xf he; exact ⟨this.af, fun _ => this⟩
    . cases he
  . split at he
    . split at he
      . rename_i hs
        simp only [Option.some.injEq, Prod.mk.injEq] at he
        obtain ⟨_, rfl⟩ := he
        exact ⟨J6 hs, fun hw => by rw [hop] at hw; cases hw⟩
      . cases he
    . cases he
  . split at he
    . simp only [Option.some.injEq, Prod.mk.injEq] at he; obtain ⟨_, rfl⟩ := he; exact ⟨.refl _, fun _ => .inl rfl⟩
    . simp only [Option.some.injEq, Prod.mk.injEq] at he; obtain ⟨_, rfl⟩ := he; exact ⟨.refl _, fun _ => .inl rfl⟩
    . cases he
  . split at he
    . have := xf he; exact ⟨this.af, fun _ => this⟩
    . cases he
  . split at he
    . obtain ⟨_, he⟩ := zl he; have := xf he; exact ⟨this.af, fun _ => this⟩
    . cases he
  . split at he
    . have := zbI he; exact ⟨this.af, fun _ => this⟩
    . cases he
  . split at he
    . split at he
      . simp only [Option.some.injEq, Prod.mk.injEq] at he; obtain ⟨_, rfl⟩ := he; exact ⟨.refl _, fun _ => .inl rfl⟩
      . cases he
    . cases he
  . split at he
    . simp only [Option.some.injEq, Prod.mk.injEq] at he; obtain ⟨_, rfl⟩ := he; exact ⟨.refl _, fun _ => .inl rfl⟩
    . cases he
  . split at he
    . have := zbV he; exact ⟨this.af, fun _ => this⟩
    . cases he
  . split at he
    . split at he
      . simp only [Option.some.injEq, Prod.mk.injEq] at he; obtain ⟨_, rfl⟩ := he; exact ⟨.refl _, fun _ => .inl rfl⟩
      . cases he
    . have := xf he; exact ⟨this.af, fun _ => this⟩
    . cases he
  . split at he
    . have := xf he; exact ⟨this.af, fun _ => this⟩
    . cases he
  . split at he
    . split at he
      . split at he
        . have := xf he; exact ⟨this.af, fun _ => this⟩
        . cases he
      . cases he
    . cases he
  . split at he
    . have := xf he; exact ⟨this.af, fun _ => this⟩
    . cases he
  . split at he
    . obtain ⟨_, he⟩ := zl he; have := xf he; exact ⟨this.af, fun _ => this⟩
    . cases he
  . split at he
    . have := xf he; exact ⟨this.af, fun _ => this⟩
    . cases he
  . split at he
    . refine ⟨zbJ he, fun hw => ?_⟩
      rw [hop] at hw
      simp only [qT, Bool.not_eq_false'] at hw
      exact .inl (Z0 hw he)
    . cases he
  . simp only [Option.some.injEq, Zu, Prod.mk.injEq] at he; obtain ⟨_, rfl⟩ := he; exact ⟨.push _ _, fun _ => .inr ⟨_, rfl⟩⟩
  . split at he
    . have := xf he; exact ⟨this.af, fun _ => this⟩
    . cases he
  . split at he
    . split at he
      . rename_i hu
        simp only [Option.some.injEq, Prod.mk.injEq] at he
        obtain ⟨_, rfl⟩ := he
        exact ⟨KT hu, fun hw => by rw [hop] at hw; cases hw⟩
      . cases he
    . cases he
  . split at he
    . have := zbb he; exact ⟨this.af, fun _ => this⟩
    . cases he
  . split at he
    . exact ⟨ziK he, fun hw => by rw [hop] at hw; cases hw⟩
    . cases he
  . split at he
    . have := xf he; exact ⟨this.af, fun _ => this⟩
    . cases he
  . cases he
end
end Go.Ai
set_option linter.unusedVariables false
namespace Go.Ai
noncomputable section
variable {P : Program} {cls : List Nat}
def Frames (rec : XG) : Prop := ∀ t h o h', rec t h = some (o, h') -> AF h h'
def WF (h : za) : Prop := ∀ b o, h.get b = some o -> b < h.next
theorem WF.af {h h' : za} (w : WF h) (a : AF h h') : WF h' := by
  intro b o hb
  rcases a.alive b o hb with h1 | ⟨_, h2⟩
  . obtain ⟨o', ho'⟩ : ∃ o, h.get b = some o := by cases hh : h.get b with | none => exact absurd hh h1 | some o => exact ⟨o, rfl⟩
    exact Nat.lt_of_lt_of_le (w b o' ho') a.next
  . exact h2
theorem AF.lock {h h' : za} (a : AF h.lock h') : h.next <= h'.next /\ ∀ b o, h'.get b = some o -> h.get b ≠ none \/ (h.next <= b /\ b < h'.next) := ⟨a.next, a.alive⟩
theorem AF.wO {h h2 : za} (hn : h.next <= h2.next) : AF h (wO h h2) := ⟨hn, rfl, fun b o hb => by
  rw [xK] at hb
  split at hb
  . rename_i hc; exact .inr hc
  . exact .inl (by rw [hb]; simp)⟩
def V0 (ops : Array Oper) (ms : List Nat) : Prop := ∀ k q, (ms.getD k 0).testBit q = true -> Prec ops q k
theorem wu {ops : Array Oper} {ms : List Nat} (hm : V0 ops ms) {i : Nat} {o : Oper} (ho : ops[i]? = some o) {q : Nat} (h : (yq ms o).testBit q = true) : Prec ops q i := by
  have key : ∀ (l : List Edge) (m : Nat), (∀ e, e ∈ l -> e ∈ o.after) -> (l.foldl (fun m e => cond (Region.binds .any e) (m ||| (1 <<< e.on) ||| ms.getD e.on 0) m) m).testBit q = true -> m.testBit q = true \/ Prec ops q i := by
    intro l
    induction l with
    | nil => intro m _ h; exact .inl h
    | cons e l ih =>
      intro m hl h
      rw [List.foldl_cons] at h
      rcases ih _ (fun x hx => hl x (by simp [hx])) h with h1 | h1
      . cases hb : Region.binds .any e with
        | false => rw [hb] at h1; exact .inl h1
        | true =>
          rw [hb] at h1
          simp only [cond_true, Nat.testBit_or, Bool.or_eq_true] at h1
          rcases h1 with (h1 | h1) | h1
          . exact .inl h1
          . rw [Nat.testBit_shiftLeft] at h1
            simp only [Bool.and_eq_true, decide_eq_true_eq, Nat.testBit_one_eq_true_iff_self_eq_zero] at h1
            have : q = e.on := by omega
            subst this
            exact .inr (.one ho (hl e (by simp)) hb)
          . exact .inr (.more ho (hl e (by simp)) hb (hm _ _ h1))
      . exact .inr h1
  rcases key o.after.toList 0 (fun e he => by simpa using he) h with h1 | h1
  . simp at h1
  . exact h1
theorem kV {ops : Array Oper} {ms : List Nat} (hm : V0 ops ms) {i : Nat} (hl : ms.length = i) {o : Oper} (ho : ops[i]? = some o) : V0 ops (ms ++ [yq ms o]) := by
  intro k q h
  rcases Nat.lt_trichotomy k i with hk | hk | hk
  . rw [List.getD_eq_getElem?_getD, List.getElem?_append_left (by omega), <- List.getD_eq_getElem?_getD] at h
    exact hm k q h
  . subst hk
    rw [List.getD_eq_getElem?_getD, List.getElem?_append_right (by omega), hl] at h
    simp at h
    exact wu hm ho h
  . rw [List.getD_eq_getElem?_getD, List.getElem?_eq_none (by simp; omega)] at h
    simp at h
theorem Qg (A : List yR) (r : yR) (p : yR -> Bool) : xp (A ++ [r]) p = if p r = true then some r else xp A p := by
  simp only [xp, List.filter_append, List.filter_cons, List.filter_nil]
  by_cases h : p r = true
  . simp [h]
  . simp [h]
theorem Xw (A : List yR) (r : yR) (s0 : Env) (t : Nat) : UQ (A ++ [r]) s0 t = if r.o.dst = some t then r.v else UQ A s0 t := by
  simp only [UQ, Qg, wrs, decide_eq_true_eq]
  by_cases h : r.o.dst = some t <;> simp [h]
theorem WU (A : List yR) (r : yR) (h0 : za) (b : Nat) : hpV (A ++ [r]) h0 b = if r.tc b = true then r.g'.get b else hpV A h0 b := by
  simp only [hpV, Qg]
  by_cases h : r.tc b = true <;> simp [h]
structure FOk (y : zfb) : Prop where
  tc : y.all = false -> ∀ b, y.r.tc b = true ↔ b ∈ y.tcl
  lt : ∀ b, y.all = true -> y.r.tc b = true -> True
  U1 : y.U1 = true -> (∀ b, y.r.rd b = false) /\ ∀ b, y.r.tc b = false
  ex : y.ex = true -> ∀ b, y.r.rd b = true -> b ∈ y.rdl
theorem zgC {ops : Array Oper} {x y : zfb} (hx : FOk x) (hy : FOk y) (hs : vD ops x.r.o y.r.o = true) (h : y.U1 = true \/ Kn x y = true) : zho ops x.r y.r := by
  simp only [vD, Bool.and_eq_true] at hs
  obtain ⟨h1, h2⟩ := hs
  have hd1 : ∀ d, x.r.o.dst = some d -> d ∉ y.r.o.looksAt ops /\ y.r.o.dst ≠ some d := by
    intro d hd
    rw [hd] at h1
    simp only [Bool.and_eq_true, Bool.not_eq_true', decide_eq_false_iff_not, List.contains_eq_mem] at h1
    exact ⟨h1.1, h1.2⟩
  have hd2 : ∀ d, y.r.o.dst = some d -> d ∉ x.r.o.looksAt ops := by
    intro d hd
    rw [hd] at h2
    simp only [Bool.not_eq_true', decide_eq_false_iff_not, List.contains_eq_mem] at h2
    exact h2
  rcases h with hl | h
  . obtain ⟨l1, l2⟩ := hy.U1 hl
    exact ⟨hd1, hd2, fun b _ => ⟨l1 b, l2 b⟩, fun b hb => by rw [l2 b] at hb; cases hb⟩
  simp only [Kn, Bool.and_eq_true] at h
  obtain ⟨h3, h4⟩ := h
  refine ⟨hd1, hd2, ?_, ?_⟩
  . intro b hb
    cases ha : x.all with
    | true =>
      rw [ha] at h3
      simp only [cond_true, Bool.or_eq_true, Bool.and_eq_true, Bool.not_eq_true', List.all_eq_true] at h3
      rcases h3 with h3 | ⟨⟨⟨h3, h5⟩, h6⟩, h7⟩
      . exact ⟨(hy.U1 h3).1 b, (hy.U1 h3).2 b⟩
      . refine ⟨?_, ?_⟩
        . cases hr : y.r.rd b with
          | false => rfl
          | true => have := h6 b (hy.ex h3 b hr); rw [hb] at this; cases this
        . cases hr : y.r.tc b with
          | false => rfl
          | true => have := h7 b ((hy.tc h5 b).1 hr); rw [hb] at this; cases this
    | false =>
      rw [ha] at h3
      simp only [cond_false, List.all_eq_true, Bool.and_eq_true, Bool.not_eq_true'] at h3
      exact h3 b ((hx.tc ha b).1 hb)
  . intro b hb
    cases ha : y.all with
    | true =>
      rw [ha] at h4
      simp only [cond_true, Bool.or_eq_true, Bool.and_eq_true, Bool.not_eq_true', List.all_eq_true] at h4
      rcases h4 with h4 | ⟨h4, h5⟩
      . exact (hx.U1 h4).1 b
      . cases hr : x.r.rd b with
        | false => rfl
        | true => have := h5 b (hx.ex h4 b hr); rw [hb] at this; cases this
    | false =>
      rw [ha] at h4
      simp only [cond_false, List.all_eq_true, Bool.not_eq_true'] at h4
      exact h4 b ((hy.tc ha b).1 hb)
structure wI (P : Program) (ops : Array Oper) (s0 : Env) (h0 : za) (A : List yR) (i : Nat) (s : Env) (h : za) : Prop where
  js : A.map (·.j) = List.range i
  env : ∀ t, s.get t = UQ A s0 t
  size : s.size = s0.size
  heap : ∀ b, h.get b = hpV A h0 b
  ro : h.ro = h0.ro
  next : h0.next <= h.next
  nA : ∀ x, x ∈ A -> x.g'.next <= h.next
  wf : WF h
  told : ∀ A1 r A2, A = A1 ++ r :: A2 -> Told P ops s0 h0 A1 r
  Wh : ∀ A1 r A2, A = A1 ++ r :: A2 -> ∀ e, e ∈ r.o.after -> Region.binds .any e = true -> ∃ x, x ∈ A1 /\ x.j = e.on
  apart : ∀ A1 x A2 y A3, A = A1 ++ x :: (A2 ++ y :: A3) -> Prec ops x.j y.j \/ zho ops x y
theorem zhn {rec : XG} (S : Sound P rec) (hF : Frames rec) (hC : uA P cls = true) {ops : Array Oper} {s0 : Env} {h0 : za} {A : List yR} {recs : List zfb} {i mask : Nat} {o : Oper} {os : List Oper} {s : Env} {h h1 : za} {y : zfb}
    (F : wI P ops s0 h0 A i s h) (ho : ops[i]? = some o) (hput : ∀ d, o.dst = some d -> d < s.size) (he : zaE P cls rec ops recs mask i os o s h = some (y, h1)) :
    y.r.j = i /\ y.r.o = o /\ FOk y /\ Told P ops s0 h0 A y.r /\ (∀ b, h1.get b = if y.r.tc b = true then y.r.g'.get b else h.get b) /\ h1.ro = h.ro /\ h.next <= h1.next /\ y.r.g'.next <= h1.next /\ WF h1 := by
  unfold zaE at he
  cases hw : zZ ops s o with
  | false =>
    rw [hw] at he
    simp only [cond_false, Option.some.injEq, Prod.mk.injEq] at he
    obtain ⟨rfl, rfl⟩ := he
    refine ⟨rfl, rfl, ⟨fun _ b => by simp, fun _ _ _ => trivial, fun _ => ⟨fun _ => rfl, fun _ => rfl⟩, fun _ b hb => (by cases hb)⟩, ⟨ho, F.env, F.size, fun b => by rw [xM]; simp, F.ro, F.next, F.nA, Nat.le_refl _, .inl ⟨hw, rfl, rfl⟩, fun d hd => by rw [<- F.size]; exact hput d hd, fun b hb => (by cases hb), fun b _ => rfl, fun b o' hb => (by cases hb)⟩, fun b => by simp, rfl, Nat.le_refl _, Nat.le_refl _, F.wf⟩
  | true =>
    rw [hw] at he
    simp only [cond_true] at he
    split at he
    ·
      rename_i f args ts hop
      split at he
      case h_2 => cases he
      rename_i g fa fc vs hf hargs
      split at he
      ·
        rename_i hk
        have hlt : ∀ b, b ∈ (((recs.flatMap fun x => cond (mask.testBit x.r.j) [] (x.tcl ++ x.rdl)) ++ UE s ((o :: os).filterMap (·.dst)) os (i + 1) (1 <<< i)).filter fun b => Nat.blt b h.next) -> b < h.next := fun b hb => by
          simpa [Nat.blt_eq] using (List.mem_filter.1 hb).2
        generalize (((recs.flatMap fun x => cond (mask.testBit x.r.j) [] (x.tcl ++ x.rdl)) ++ UE s ((o :: os).filterMap (·.dst)) os (i + 1) (1 <<< i)).filter fun b => Nat.blt b h.next) = hid at *
        split at he
        case h_2 => cases he
        rename_i v h' hrec
        simp only [Option.some.injEq, Prod.mk.injEq] at he
        obtain ⟨rfl, rfl⟩ := he
        have af := hF _ _ _ _ hrec
        have hwfh : WF (h.UU hid) := fun b o' hb => by
          rw [uc] at hb
          split at hb
          . cases hb
          . exact F.wf b o' hb
        have hwf := hwfh.af af
        have hn : h.next <= h'.next := af.next
        have hgone : ∀ b, b ∈ hid -> h'.get b = none := by
          intro b hb
          cases hh : h'.get b with
          | none => rfl
          | some o' =>
            rcases af.alive b o' hh with h2 | ⟨h2, _⟩
            . rw [uc, if_pos hb] at h2; exact absurd rfl h2
            . have : h.next <= b := h2
              have := hlt b hb; omega
        have hbeyond : ∀ b, ¬ b < h'.next -> h'.get b = none /\ h.get b = none := by
          intro b hb
          refine ⟨?_, ?_⟩
          . cases hh : h'.get b with | none => rfl | some o' => exact absurd (hwf b o' hh) hb
          . cases hh : h.get b with | none => rfl | some o' => exact absurd (Nat.lt_of_lt_of_le (F.wf b o' hh) hn) hb
        refine ⟨rfl, rfl, ⟨fun ha => (by cases ha), fun _ _ _ => trivial, fun hl => (by cases hl), fun hl => (by cases hl)⟩, ⟨ho, F.env, F.size, fun b => ?_, F.ro, F.next, F.nA, hn, .inr ⟨hw, .inr (.inl ⟨f, args, ts, g, fa, fc, vs, hop, hf, hargs, vn hC hk, S.call _ _ _ _ _ hrec⟩)⟩, fun d hd => by rw [<- F.size]; exact hput d hd, fun b hb => ?_, fun b hb => ?_, fun b o' _ hlt2 hb => ?_⟩, fun b => ?_, af.ro, hn, Nat.le_refl _, ?_⟩
        . rw [uc]
          simp only [Bool.and_eq_true, Nat.blt_eq, Bool.not_eq_true', List.contains_eq_mem, decide_eq_false_iff_not]
          by_cases hm : b ∈ hid
          . rw [if_pos hm, if_neg (fun hc => hc.2 hm)]
          . rw [if_neg hm]
            by_cases hb : b < h.next
            . rw [if_pos ⟨hb, hm⟩]; exact F.heap b
            . rw [if_neg (fun hc => hb hc.1)]
              cases hh : h.get b with
              | none => rfl
              | some o' => exact absurd (F.wf b o' hh) hb
        . simp only [Bool.and_eq_true, Nat.blt_eq, Bool.not_eq_true', List.contains_eq_mem, decide_eq_false_iff_not] at hb ⊢
          by_cases hb2 : b < h.next
          . exact .inl ⟨hb2, hb.2⟩
          . exact .inr ⟨Nat.le_of_not_lt hb2, hb.1⟩
        . show h'.get b = (h.UU hid).get b
          rw [uc]
          by_cases hm : b ∈ hid
          . rw [if_pos hm, hgone b hm]
          . rw [if_neg hm]
            have hb' : ¬ b < h'.next := by
              intro hc
              have h3 : (Nat.blt b h'.next && !hid.contains b) = true := by simpa [Nat.blt_eq] using ⟨hc, hm⟩
              exact Bool.false_ne_true ((show (Nat.blt b h'.next && !hid.contains b) = false from hb).symm.trans h3)
            rw [(hbeyond b hb').1, (hbeyond b hb').2]
        . rcases af.alive b o' hb with h2 | ⟨h2, _⟩
          . exact h2
          . exact absurd hlt2 (by show ¬ b < (h.UU hid).next; omega)
        . rw [XX]
          simp only [Bool.and_eq_true, Nat.blt_eq, Bool.not_eq_true', List.contains_eq_mem, decide_eq_false_iff_not]
          by_cases hm : b ∈ hid
          . rw [if_pos hm, if_neg (fun hc => hc.2 hm)]
          . rw [if_neg hm]
            by_cases hb : b < h'.next
            . rw [if_pos ⟨hb, hm⟩]
            . rw [if_neg (fun hc => hb hc.1), (hbeyond b hb).1, (hbeyond b hb).2]
        . intro b o' hb
          rw [XX] at hb
          show b < h'.next
          split at hb
          . exact Nat.lt_of_lt_of_le (F.wf b o' hb) hn
          . exact hwf b o' hb
      ·
        rename_i hk
        split at he
        case h_2 => cases he
        rename_i v h2 hrec
        obtain ⟨hsc, he⟩ := zl he
        simp only [Option.some.injEq, Prod.mk.injEq] at he
        obtain ⟨rfl, rfl⟩ := he
        generalize (recs.flatMap fun x => cond (mask.testBit x.r.j) [] x.tcl) = hid at *
        have hq : TC P g (fa.toList ++ vs ++ fc.toList) (h.UU hid) (fun v1 h1 => v1 = v /\ h1 = h.UU hid) :=
          ((S.call _ _ _ _ _ hrec).quiet (fun v2 h2 q => by rw [q.1]; exact hsc)).mono (by rintro v2 h3 ⟨⟨h4, q1, q2⟩, rfl⟩; exact ⟨q1, rfl⟩)
        refine ⟨rfl, rfl, ⟨fun _ b => by simp, fun _ _ _ => trivial, fun hl => (by cases hl), fun hl => (by cases hl)⟩, ⟨ho, F.env, F.size, fun b => ?_, F.ro, F.next, F.nA, Nat.le_refl _, .inr ⟨hw, .inr (.inl ⟨f, args, ts, g, fa, fc, vs, hop, hf, hargs, vn hC hk, hq⟩)⟩, fun d hd => by rw [<- F.size]; exact hput d hd, fun b hb => (by cases hb), fun b _ => rfl, fun b o' hb => (by cases hb)⟩, fun b => by simp, rfl, Nat.le_refl _, Nat.le_refl _, F.wf⟩
        rw [uc]
        simp only [Bool.and_eq_true, Nat.blt_eq, Bool.not_eq_true', List.contains_eq_mem, decide_eq_false_iff_not]
        by_cases hm : b ∈ hid
        . rw [if_pos hm, if_neg (fun hc => hc.2 hm)]
        . rw [if_neg hm]
          by_cases hb : b < h.next
          . rw [if_pos ⟨hb, hm⟩]; exact F.heap b
          . rw [if_neg (fun hc => hb hc.1)]
            cases hh : h.get b with
            | none => rfl
            | some o' => exact absurd (F.wf b o' hh) hb
      ·
        rename_i hk
        split at he
        case h_2 => cases he
        rename_i v h2 hrec
        simp only [Option.some.injEq, Prod.mk.injEq] at he
        obtain ⟨rfl, rfl⟩ := he
        generalize (recs.flatMap fun x => cond (mask.testBit x.r.j) [] x.tcl) = hid at *
        have af := (hF _ _ _ _ hrec).lock
        have hn : h.next <= h2.next := af.1
        refine ⟨rfl, rfl, ⟨fun _ b => by simp, fun _ _ _ => trivial, fun hl => (by cases hl), fun hl => (by cases hl)⟩, ⟨ho, F.env, F.size, fun b => ?_, F.ro, F.next, F.nA, hn, .inr ⟨hw, .inr (.inl ⟨f, args, ts, g, fa, fc, vs, hop, hf, hargs, vn hC hk, (S.call _ _ _ _ _ hrec).fresh⟩)⟩, fun d hd => by rw [<- F.size]; exact hput d hd, fun b hb => ?_, fun b hb => ?_, fun b o' hb hlt _ => ?_⟩, fun b => ?_, rfl, hn, Nat.le_refl _, F.wf.af (.wO hn)⟩
        . rw [uc]
          simp only [Bool.and_eq_true, Nat.blt_eq, Bool.not_eq_true', List.contains_eq_mem, decide_eq_false_iff_not]
          by_cases hm : b ∈ hid
          . rw [if_pos hm, if_neg (fun hc => hc.2 hm)]
          . rw [if_neg hm]
            by_cases hb : b < h.next
            . rw [if_pos ⟨hb, hm⟩]; exact F.heap b
            . rw [if_neg (fun hc => hb hc.1)]
              cases hh : h.get b with
              | none => rfl
              | some o' => exact absurd (F.wf b o' hh) hb
        . simp only [List.contains_eq_mem, decide_eq_true_eq, vG] at hb
          exact .inr hb
        . simp only [List.contains_eq_mem, decide_eq_false_iff_not, vG] at hb
          simp only [xK]
          rw [if_neg (show ¬((h.UU hid).next <= b /\ b < h2.next) from hb)]
        . simp only [List.contains_eq_mem, decide_eq_true_eq, vG] at hb
          exact absurd hlt (by show ¬ b < h.next; omega)
        . simp only [List.contains_eq_mem, decide_eq_true_eq, vG, xK]
          by_cases hb : h.next <= b /\ b < h2.next
          . rw [if_pos hb, if_pos hb, if_pos (show (h.UU hid).next <= b /\ b < h2.next from hb)]
          . rw [if_neg hb, if_neg hb]
      ·
        split at he
        case h_2 => cases he
        rename_i v g' hop2
        simp only [Option.some.injEq, Prod.mk.injEq] at he
        obtain ⟨rfl, rfl⟩ := he
        have still := uQ hop2
        have af := still.af
        have hn : h.next <= g'.next := af.next
        have hro : g'.ro = h.ro := af.ro
        refine ⟨rfl, rfl, ⟨fun _ b => by simp, fun _ _ _ => trivial, fun hl => ?_, fun _ b hb => (by cases hb)⟩, ⟨ho, F.env, F.size, fun b => by rw [xM]; simp, F.ro, F.next, F.nA, hn, .inr ⟨hw, .inr (.inr ⟨f, args, ts, g, fa, fc, vs, hop, hf, hargs, hop2⟩)⟩, fun d hd => by rw [<- F.size]; exact hput d hd, fun b hb => ?_, fun b hb => ?_, fun b o' hb hlt hg => ?_⟩, fun b => ?_, rfl, hn, Nat.le_refl _, ?_⟩
        . simp only [List.isEmpty_iff] at hl
          refine ⟨fun b => rfl, fun b => ?_⟩
          show (List.range' h.next (g'.next - h.next)).contains b = false
          rw [hl]; rfl
        . simp only [List.contains_eq_mem, decide_eq_true_eq, vG] at hb
          exact .inr hb
        . simp only [List.contains_eq_mem, decide_eq_false_iff_not, vG] at hb
          rcases still with e | ⟨ob, e⟩
          . rw [e]
          . rw [e, za.y6]
            split
            . rename_i eb
              exact absurd ⟨by rw [eb]; exact Nat.le_refl _, by rw [eb, e]; exact Nat.lt_succ_self _⟩ hb
            . rfl
        . simp only [List.contains_eq_mem, decide_eq_true_eq, vG] at hb
          exact absurd hlt (by show ¬ b < h.next; omega)
        . rw [YD]
          simp only [List.contains_eq_mem, decide_eq_true_eq]
        . intro b o' hb
          rw [YD] at hb
          split at hb
          . rename_i hm
            exact (vG.1 hm).2
          . exact Nat.lt_of_lt_of_le (F.wf b o' hb) hn
    ·
      rename_i hnc
      split at he
      case h_2 => cases he
      rename_i v g' hop
      simp only [Option.some.injEq, Prod.mk.injEq] at he
      obtain ⟨rfl, rfl⟩ := he
      obtain ⟨af, still⟩ := uu hop
      generalize hbs : zkf s o h = bs at *
      have hn : h.next <= g'.next := af.next
      have hmemtc : ∀ b, b ∈ (cond (qT o.op) (bs ++ List.range' h.next (g'.next - h.next)) (List.range' h.next (g'.next - h.next))) ↔ (qT o.op = true /\ b ∈ bs) \/ (h.next <= b /\ b < g'.next) := by
        intro b
        cases qT o.op with
        | true => simp only [cond_true, List.mem_append, vG, true_and]
        | false => simp only [cond_false, vG, Bool.false_eq_true, false_and, false_or]
      generalize htcl : (cond (qT o.op) (bs ++ List.range' h.next (g'.next - h.next)) (List.range' h.next (g'.next - h.next))) = tcl at *
      have hnew : ∀ b, ¬ (h.next <= b /\ b < g'.next) -> b ∉ bs \/ qT o.op = false -> g'.get b = (h.pick bs).get b := by
        intro b hb hor
        cases hwr : qT o.op with
        | false =>
          rcases still hwr with e | ⟨ob, e⟩
          . rw [e]
          . rw [e, za.y6]
            split
            . rename_i eb
              exact absurd ⟨by rw [eb]; exact Nat.le_refl _, by rw [eb, e]; exact Nat.lt_succ_self _⟩ hb
            . rfl
        | true =>
          rcases hor with hor | hor
          . have e0 : (h.pick bs).get b = none := by rw [xM, if_neg hor]
            rw [e0]
            cases hh : g'.get b with
            | none => rfl
            | some o' =>
              rcases af.alive b o' hh with h2 | h2
              . exact absurd e0 h2
              . exact absurd h2 hb
          . rw [hwr] at hor; cases hor
      have hro : g'.ro = h.ro := af.ro
      refine ⟨rfl, rfl, ⟨fun _ b => by simp, fun _ _ _ => trivial, fun hl => ?_, fun _ b hb => by simpa using hb⟩, ⟨ho, F.env, F.size, fun b => ?_, F.ro, F.next, F.nA, hn, .inr ⟨hw, .inl hop⟩, fun d hd => by rw [<- F.size]; exact hput d hd, fun b hb => ?_, fun b hb => ?_, fun b o' hb hlt hg => ?_⟩, fun b => ?_, rfl, hn, Nat.le_refl _, ?_⟩
      . simp only [Bool.and_eq_true, List.isEmpty_iff] at hl
        obtain ⟨e1, e2⟩ := hl
        subst e1 e2
        exact ⟨fun b => rfl, fun b => rfl⟩
      . rw [xM]
        simp only [List.contains_eq_mem, decide_eq_true_eq]
        split
        . exact F.heap b
        . rfl
      . simp only [List.contains_eq_mem, decide_eq_true_eq] at hb ⊢
        rcases (hmemtc b).1 hb with h2 | h2
        . exact .inl h2.2
        . exact .inr h2
      . simp only [List.contains_eq_mem, decide_eq_false_iff_not] at hb
        have hb2 := fun hc => hb ((hmemtc b).2 hc)
        refine hnew b (fun hc => hb2 (.inr hc)) ?_
        cases hwr : qT o.op with
        | false => exact .inr rfl
        | true => exact .inl (fun hc => hb2 (.inl ⟨hwr, hc⟩))
      . rcases af.alive b o' hg with h2 | ⟨h2, _⟩
        . exact h2
        . exact absurd hlt (by show ¬ b < (h.pick bs).next; omega)
      . rw [YD]
        simp only [List.contains_eq_mem, decide_eq_true_eq]
      . intro b o' hb
        rw [YD] at hb
        split at hb
        . rcases af.alive b o' hb with h2 | ⟨_, h2⟩
          . rw [xM] at h2
            split at h2
            . obtain ⟨o2, ho2⟩ : ∃ o, h.get b = some o := by cases hh : h.get b with | none => exact absurd hh h2 | some o => exact ⟨o, rfl⟩
              exact Nat.lt_of_lt_of_le (F.wf b o2 ho2) hn
            . exact absurd rfl h2
          . exact h2
        . exact Nat.lt_of_lt_of_le (F.wf b o' hb) hn
end
end Go.Ai
set_option linter.unusedVariables false
namespace Go.Ai
noncomputable section
variable {P : Program} {cls : List Nat}
theorem xq {α : Type} {A A1 A2 : List α} {y r : α} (e : A ++ [y] = A1 ++ r :: A2) : (A2 = [] /\ A1 = A /\ r = y) \/ ∃ A3, A2 = A3 ++ [y] /\ A = A1 ++ r :: A3 := by
  rcases List.eq_nil_or_concat A2 with h | ⟨A3, z, h⟩
  . subst h
    have := List.append_inj' e rfl
    simp at this
    exact .inl ⟨rfl, this.1.symm, this.2.symm⟩
  . subst h
    rw [List.concat_eq_append] at *
    have e2 : A ++ [y] = (A1 ++ r :: A3) ++ [z] := by rw [e]; simp
    have := List.append_inj' e2 rfl
    simp at this
    exact .inr ⟨A3, by rw [this.2], this.1⟩
theorem JK {rec : XG} (S : Sound P rec) (hF : Frames rec) (hC : uA P cls = true) {ops : Array Oper} {s0 : Env} {h0 : za} : ∀ (l : List Oper) (i : Nat) (ms : List Nat) (recs : List zfb) (s : Env) (h : za) {s' : Env} {h' : za},
    ops.toList.drop i = l -> i <= ops.size -> V0 ops ms -> ms.length = i -> wI P ops s0 h0 (recs.map (·.r)).reverse i s h -> (∀ x, x ∈ recs -> FOk x) -> qF ops l i ms (recs.map fun x => (x.r.j, x.r.o)) = true -> Y0 P cls rec ops l i ms recs s h = some (s', h') ->
    ∃ A, wI P ops s0 h0 A ops.size s' h'
  | [], i, ms, recs, s, h, s', h', hl, hle, hm, hml, F, hok, hst, he => by
    simp only [Y0, Option.some.injEq, Prod.mk.injEq] at he
    obtain ⟨rfl, rfl⟩ := he
    have : i = ops.size := by
      have := congrArg List.length hl
      simp at this
      omega
    subst this
    exact ⟨_, F⟩
  | o :: os, i, ms, recs, s, h, s', h', hl, hle, hm, hml, F, hok, hst, he => by
    have ho : ops[i]? = some o := by
      have := congrArg (fun l => l[0]?) hl
      simp only [List.getElem?_drop, List.getElem?_cons_zero] at this
      simpa using this
    have hlt : i < ops.size := by
      rcases Nat.lt_or_ge i ops.size with h | h
      . exact h
      . rw [Array.getElem?_eq_none h] at ho; cases ho
    have hl' : ops.toList.drop (i + 1) = os := by rw [<- List.tail_drop, hl]; rfl
    simp only [Y0] at he
    simp only [qF, Bool.and_eq_true] at hst
    obtain ⟨⟨hedge, hslots⟩, hst⟩ := hst
    split at he
    case h_2 => cases he
    rename_i y h1 hop
    obtain ⟨hind, he⟩ := zl he
    split at he
    case h_2 => cases he
    rename_i s1 hp
    have hput : ∀ d, o.dst = some d -> d < s.size := by
      intro d hd
      rw [hd] at hp
      simp only [Env.put] at hp
      obtain ⟨hb, _⟩ := zl hp
      simpa [Nat.blt_eq] using hb
    obtain ⟨hj, hyo, hfok, htold, hheap, hro, hnx, hyn, hwf⟩ := zhn S hF hC F ho hput hop
    have hs1 : ∀ t, s1.get t = if o.dst = some t then y.r.v else s.get t := by
      intro t
      cases hd : o.dst with
      | none => rw [hd] at hp; simp only [Env.put, Option.some.injEq] at hp; subst hp; simp
      | some d =>
        rw [hd] at hp
        simp only [Env.put] at hp
        obtain ⟨_, hp⟩ := zl hp
        simp only [Option.some.injEq] at hp
        subst hp
        rw [Env.zP]
        by_cases e : t = d
        . subst e; simp
        . rw [if_neg e, if_neg (by simp only [Option.some.injEq]; exact fun h => e h.symm)]
    have hs1s : s1.size = s.size := by
      cases hd : o.dst with
      | none => rw [hd] at hp; simp only [Env.put, Option.some.injEq] at hp; subst hp; rfl
      | some d =>
        rw [hd] at hp
        simp only [Env.put] at hp
        obtain ⟨_, hp⟩ := zl hp
        simp only [Option.some.injEq] at hp
        subst hp; rfl
    have hrev : (List.map (·.r) (y :: recs)).reverse = (recs.map (·.r)).reverse ++ [y.r] := by simp
    refine JK S hF hC os (i + 1) (ms ++ [yq ms o]) (y :: recs) s1 h1 hl' hlt (kV hm hml ho) (by simp [hml]) ?_ (fun x hx => ?_) (by simpa [hj, hyo] using hst) he
    . rw [hrev]
      refine ⟨?_, ?_, hs1s.trans F.size, ?_, hro.trans F.ro, Nat.le_trans F.next hnx, ?_, hwf, ?_, ?_, ?_⟩
      . rw [List.map_append, F.js, List.range_succ]; simp [hj]
      . intro t
        rw [hs1, Xw, hyo, F.env]
      . intro b
        rw [hheap, WU, F.heap]
      . intro x hx
        rcases List.mem_append.1 hx with hx | hx
        . exact Nat.le_trans (F.nA x hx) hnx
        . simp only [List.mem_singleton] at hx; subst hx; exact hyn
      . intro A1 r A2 e
        rcases xq e with ⟨_, rfl, rfl⟩ | ⟨A3, _, e3⟩
        . exact htold
        . exact F.told A1 r A3 e3
      . intro A1 r A2 e ed hed hb
        rcases xq e with ⟨_, rfl, rfl⟩ | ⟨A3, _, e3⟩
        . rw [hyo] at hed
          simp only [List.all_eq_true, Bool.or_eq_true, Bool.not_eq_true', Nat.blt_eq] at hedge
          rcases hedge ed (by simpa using hed) with h2 | h2
          . rw [hb] at h2; cases h2
          . have : ed.on ∈ (recs.map (·.r)).reverse.map (·.j) := by rw [F.js]; exact List.mem_range.2 h2
            obtain ⟨x, hx, hxj⟩ := List.mem_map.1 this
            exact ⟨x, hx, hxj⟩
        . exact F.Wh A1 r A3 e3 ed hed hb
      . intro A1 x A2 z A3 e
        have e' : (recs.map (·.r)).reverse ++ [y.r] = (A1 ++ x :: A2) ++ z :: A3 := by rw [e]; simp
        rcases xq e' with ⟨_, e1, rfl⟩ | ⟨A4, _, e3⟩
        . have hxm : x ∈ (recs.map (·.r)).reverse := by rw [<- e1]; simp
          rw [List.mem_reverse, List.mem_map] at hxm
          obtain ⟨fx, hfx, rfl⟩ := hxm
          simp only [List.all_eq_true, Bool.or_eq_true] at hind hslots
          rcases hslots (fx.r.j, fx.r.o) (List.mem_map.2 ⟨fx, hfx, rfl⟩) with h2 | h2
          . rw [hj]; exact .inl (wu hm ho h2)
          . rw [<- hyo] at h2
            rcases hind with h3 | h3
            . exact .inr (zgC (hok fx hfx) hfok h2 (.inl h3))
            . rcases h3 fx hfx with h4 | h4
              . exact .inr (zgC (hok fx hfx) hfok h2 (.inr h4))
              . rw [hj]; exact .inl (wu hm ho h4)
        . exact F.apart A1 x A2 z A4 (by rw [e3]; simp)
    . rcases List.mem_cons.1 hx with rfl | hx
      . exact hfok
      . exact hok x hx
theorem zeK {rec : XG} (S : Sound P rec) (hF : Frames rec) (hC : uA P cls = true) (hmix : P.follows .mixedOrders = true) {rd : Option Nat} {id : Nat} {ops : Array Oper} {s s' : Env} {h h' : za}
    (hst : qF ops ops.toList 0 [] [] = true) (he : Y0 P cls rec ops ops.toList 0 [] [] s h = some (s', h')) : T P rd (.region id ops true) s h (fun e1 s1 h1 => e1 = .normal /\ s1 = s' /\ h1 = h') := by
  intro ρ w tm ds hr
  have F0 : wI P ops s h ([] : List yR) 0 s h := ⟨rfl, fun t => rfl, rfl, fun b => rfl, rfl, Nat.le_refl _, fun x hx => (by cases hx), fun b o hb => hr.dom b o hb,
    fun A1 r A2 e => by simp at e, fun A1 r A2 e => by simp at e, fun A1 x A2 y A3 e => by simp at e⟩
  obtain ⟨A, F⟩ := JK S hF hC ops.toList 0 [] [] s h rfl (Nat.zero_le _) (fun k q hq => by simp at hq) rfl F0 (fun x hx => (by cases hx)) hst he
  have V : Valid P ops s h A := ⟨by rw [F.js]; exact List.nodup_range, fun i hi => by
      have : i ∈ A.map (·.j) := by rw [F.js]; exact List.mem_range.2 hi
      obtain ⟨r, hr, hj⟩ := List.mem_map.1 this
      exact ⟨r, hr, hj⟩, F.told, F.Wh, F.apart⟩
  exact jW hmix V F.env F.size F.heap F.ro F.next F.nA ⟨rfl, rfl, rfl⟩ ρ w tm ds hr
theorem ziH {rec : XG} (hF : Frames rec) {g : FuncId} {args : List Value} {h h' : za} {v : Value} (he : zhy cls rec g args h = some (v, h')) : AF h h' := by
  unfold zhy at he
  split at he
  . split at he
    . rename_i hrec
      simp only [Option.some.injEq, Prod.mk.injEq] at he
      obtain ⟨_, rfl⟩ := he
      exact hF _ _ _ _ hrec
    . cases he
  . split at he
    . obtain ⟨_, he⟩ := zl he
      simp only [Option.some.injEq, Prod.mk.injEq] at he
      obtain ⟨_, rfl⟩ := he
      exact .refl _
    . cases he
  . split at he
    . rename_i hrec
      simp only [Option.some.injEq, Prod.mk.injEq] at he
      obtain ⟨_, rfl⟩ := he
      exact .wO (hF _ _ _ _ hrec).lock.1
    . cases he
  . cases he
theorem zhx {rec : XG} (hF : Frames rec) {L : Nat} {args : List Value} {h h' : za} {v : Value} (he : zbh rec L args h = some (v, h')) : AF h h' := by
  unfold zbh at he
  split at he
  case h_2 => cases he
  rename_i A hg
  split at he
  case h_2 => cases he
  split at he
  case h_2 => cases he
  rename_i s1 h1 hrec
  split at he
  case h_2 => cases he
  rename_i A1 g1
  obtain ⟨_, he⟩ := zl he
  split at he
  case h_2 => cases he
  rename_i e s2 h2 hrec2
  split at he
  case h_2 => cases he
  rename_i A2 g2
  obtain ⟨_, he⟩ := zl he
  simp only [Option.some.injEq, Prod.mk.injEq] at he
  obtain ⟨rfl, rfl⟩ := he
  exact (((hF _ _ _ _ hrec).trans (.Uw g1 _)).trans (hF _ _ _ _ hrec2)).trans (.Uw g2 _)
theorem zg3 {rec : XG} (hF : Frames rec) {rd : Option Nat} {f : Option Value} {params : Array Tmp} {as bd : Code} {s : Env} {h h' : za} {e : Ex} (he : Jt cls rec rd f params as bd s h = some (e, h')) : AF h h' := by
  unfold Jt at he
  split at he
  case h_2 => cases he
  obtain ⟨_, he⟩ := zl he
  split at he
  case h_2 => cases he
  rename_i v h1 hrec
  split at he
  case h_2 => cases he
  rename_i A hA
  obtain ⟨_, he⟩ := zl he
  split at he
  case h_2 => cases he
  simp only [Option.some.injEq, Prod.mk.injEq] at he
  obtain ⟨_, rfl⟩ := he
  exact ((AF.push _ _).trans (hF _ _ _ _ hrec)).trans (.Uw hA _)
theorem zfj {rec : XG} (hF : Frames rec) {s : Env} {o : Oper} {h h' : za} {v : Value} (he : evalOp P cls rec s o h = some (v, h')) : AF h h' := by
  unfold evalOp at he
  split at he
  . split at he
    . rename_i g fa fc vs _ _
      cases hk : Nat.beq (cls.getD g 0) 0 with
      | true =>
        rw [hk] at he
        simp only [cond_true] at he
        exact (uQ he).af
      | false =>
        rw [hk] at he
        simp only [cond_false] at he
        exact ziH hF he
    . obtain ⟨_, he⟩ := zl he
      exact zhx hF he
    . cases he
  . exact (uu he).1
theorem VX {rec : XG} (hF : Frames rec) {ops : Array Oper} : ∀ (l : List Oper) {s s' : Env} {h h' : za}, Xe P cls rec ops l s h = some (s', h') -> AF h h'
  | [], s, s', h, h', he => by
    simp only [Xe, Option.some.injEq, Prod.mk.injEq] at he
    obtain ⟨_, rfl⟩ := he
    exact .refl _
  | o :: os, s, s', h, h', he => by
    simp only [Xe] at he
    cases hw : zZ ops s o with
    | false =>
      rw [hw] at he
      simp only [cond_false] at he
      split at he
      . exact VX hF os he
      . cases he
    | true =>
      rw [hw] at he
      simp only [cond_true] at he
      split at he
      . rename_i hev
        split at he
        . exact (zfj hF hev).trans (VX hF os he)
        . cases he
      . cases he
theorem zhf {h g : za} {l : List Nat} (hn : h.next <= g.next) (hl : ∀ b, b ∈ l -> ∀ o, g.get b = some o -> h.get b ≠ none \/ (h.next <= b /\ b < g.next)) : AF h (h.znx g l) := ⟨hn, rfl, fun b o hb => by
  rw [YD] at hb
  split at hb
  . rename_i hm; exact hl b hm o hb
  . exact .inl (by rw [hb]; simp)⟩
theorem zgk {rec : XG} (hF : Frames rec) {ops : Array Oper} {recs : List zfb} {mask i : Nat} {o : Oper} {os : List Oper} {s : Env} {h h1 : za} {y : zfb} (he : zaE P cls rec ops recs mask i os o s h = some (y, h1)) : AF h h1 := by
  unfold zaE at he
  cases hw : zZ ops s o with
  | false =>
    rw [hw] at he
    simp only [cond_false, Option.some.injEq, Prod.mk.injEq] at he
    obtain ⟨_, rfl⟩ := he
    exact .refl _
  | true =>
    rw [hw] at he
    simp only [cond_true] at he
    split at he
    . split at he
      case h_2 => cases he
      split at he
      . split at he
        case h_2 => cases he
        rename_i hrec
        simp only [Option.some.injEq, Prod.mk.injEq] at he
        obtain ⟨_, rfl⟩ := he
        have af := hF _ _ _ _ hrec
        refine ⟨af.next, af.ro, fun b o' hb => ?_⟩
        rw [XX] at hb
        split at hb
        . exact .inl (by rw [hb]; simp)
        . rcases af.alive b o' hb with h2 | h2
          . rw [uc] at h2
            split at h2
            . exact absurd rfl h2
            . exact .inl h2
          . exact .inr h2
      . split at he
        case h_2 => cases he
        obtain ⟨_, he⟩ := zl he
        simp only [Option.some.injEq, Prod.mk.injEq] at he
        obtain ⟨_, rfl⟩ := he
        exact .refl _
      . split at he
        case h_2 => cases he
        rename_i hrec
        simp only [Option.some.injEq, Prod.mk.injEq] at he
        obtain ⟨_, rfl⟩ := he
        have := (hF _ _ _ _ hrec).lock.1
        exact .wO this
      . split at he
        case h_2 => cases he
        rename_i v g' hop
        simp only [Option.some.injEq, Prod.mk.injEq] at he
        obtain ⟨_, rfl⟩ := he
        have af := (uQ hop).af
        refine zhf af.next (fun b _ o' hb => ?_)
        rcases af.alive b o' hb with h2 | h2
        . rw [xM] at h2
          split at h2
          . exact .inl h2
          . exact absurd rfl h2
        . exact .inr h2
    . split at he
      case h_2 => cases he
      rename_i v g' hop
      simp only [Option.some.injEq, Prod.mk.injEq] at he
      obtain ⟨_, rfl⟩ := he
      have af := (uu hop).1
      refine zhf af.next (fun b _ o' hb => ?_)
      rcases af.alive b o' hb with h2 | h2
      . rw [xM] at h2
        split at h2
        . exact .inl h2
        . exact absurd rfl h2
      . exact .inr h2
theorem zbg {rec : XG} (hF : Frames rec) {ops : Array Oper} : ∀ (l : List Oper) (i : Nat) (ms : List Nat) (recs : List zfb) {s s' : Env} {h h' : za}, Y0 P cls rec ops l i ms recs s h = some (s', h') -> AF h h'
  | [], i, ms, recs, s, s', h, h', he => by
    simp only [Y0, Option.some.injEq, Prod.mk.injEq] at he
    obtain ⟨_, rfl⟩ := he
    exact .refl _
  | o :: os, i, ms, recs, s, s', h, h', he => by
    simp only [Y0] at he
    split at he
    case h_2 => cases he
    rename_i y h1 hop
    obtain ⟨_, he⟩ := zl he
    split at he
    case h_2 => cases he
    exact (zgk hF hop).trans (zbg hF os _ _ _ he)
theorem zb5 {rec : XG} (hF : Frames rec) : Frames (body P cls rec) := by
  intro t h o h' he
  cases t with
  | call f args =>
    simp only [body] at he
    split at he
    case h_1 => cases he
    split at he
    case h_1 => cases he
    split at he
    . rename_i hrec
      split at he
      . simp only [Option.some.injEq, Prod.mk.injEq] at he; obtain ⟨_, rfl⟩ := he; exact hF _ _ _ _ hrec
      . cases he
    . rename_i hrec
      split at he
      . simp only [Option.some.injEq, Prod.mk.injEq] at he; obtain ⟨_, rfl⟩ := he; exact hF _ _ _ _ hrec
      . cases he
    . cases he
  | code rd c s =>
    cases c <;> simp only [body] at he
    case skip => simp only [Option.some.injEq, Prod.mk.injEq] at he; obtain ⟨_, rfl⟩ := he; exact .refl _
    case label => simp only [Option.some.injEq, Prod.mk.injEq] at he; obtain ⟨_, rfl⟩ := he; exact .refl _
    case exit => simp only [Option.some.injEq, Prod.mk.injEq] at he; obtain ⟨_, rfl⟩ := he; exact .refl _
    case ret => simp only [Option.some.injEq, Prod.mk.injEq] at he; obtain ⟨_, rfl⟩ := he; exact .refl _
    case region id ops draw =>
      cases draw with
      | true =>
        simp only [cond_true] at he
        obtain ⟨_, he⟩ := zl he
        split at he
        . rename_i hd
          simp only [Option.some.injEq, Prod.mk.injEq] at he; obtain ⟨_, rfl⟩ := he
          exact zbg hF _ _ _ _ hd
        . cases he
      | false =>
        simp only [cond_false] at he
        split at he
        . rename_i hd
          simp only [Option.some.injEq, Prod.mk.injEq] at he; obtain ⟨_, rfl⟩ := he
          exact VX hF _ hd
        . cases he
    case seq a b =>
      split at he
      . rename_i hrec; exact (hF _ _ _ _ hrec).trans (hF _ _ _ _ he)
      . exact hF _ _ _ _ he
    case cond x a b =>
      split at he
      . exact hF _ _ _ _ he
      . exact hF _ _ _ _ he
      . cases he
    case block id a =>
      split at he
      . rename_i id' s1 h1 hrec
        cases hb : Nat.beq id' id with
        | true => rw [hb] at he; simp only [cond_true, Option.some.injEq, Prod.mk.injEq] at he; obtain ⟨_, rfl⟩ := he; exact hF _ _ _ _ hrec
        | false => rw [hb] at he; simp only [cond_false, Option.some.injEq, Prod.mk.injEq] at he; obtain ⟨_, rfl⟩ := he; exact hF _ _ _ _ hrec
      . exact hF _ _ _ _ he
    case scope a => exact hF _ _ _ _ he
    case loop a =>
      split at he
      . rename_i hrec; exact (hF _ _ _ _ hrec).trans (hF _ _ _ _ he)
      . exact hF _ _ _ _ he
    case rangeFunc f params as bd =>
      split at he
      . rename_i hr
        simp only [Option.some.injEq, Prod.mk.injEq] at he
        obtain ⟨_, rfl⟩ := he
        exact zg3 hF hr
      . cases he
    all_goals cases he
theorem zeE {rec : XG} (S : Sound P rec) (hF : Frames rec) (hC : uA P cls = true) (hmix : P.follows .mixedOrders = true) : Sound P (body P cls rec) := by
  refine ⟨?_, ?_, ?_, ?_⟩
  . intro rd c s h e s' h' he
    cases c <;> simp only [body] at he
    case skip => simp only [Option.some.injEq, Prod.mk.injEq, Out.ex.injEq] at he; obtain ⟨⟨rfl, rfl⟩, rfl⟩ := he; exact zjH ⟨rfl, rfl, rfl⟩
    case label => simp only [Option.some.injEq, Prod.mk.injEq, Out.ex.injEq] at he; obtain ⟨⟨rfl, rfl⟩, rfl⟩ := he; exact zgR ⟨rfl, rfl, rfl⟩
    case exit => simp only [Option.some.injEq, Prod.mk.injEq, Out.ex.injEq] at he; obtain ⟨⟨rfl, rfl⟩, rfl⟩ := he; exact zjz ⟨rfl, rfl, rfl⟩
    case ret => simp only [Option.some.injEq, Prod.mk.injEq, Out.ex.injEq] at he; obtain ⟨⟨rfl, rfl⟩, rfl⟩ := he; exact zmf ⟨rfl, rfl, rfl⟩
    case region id ops draw =>
      cases draw with
      | true =>
        simp only [cond_true] at he
        obtain ⟨hst, he⟩ := zl he
        split at he
        . rename_i hd
          simp only [Option.some.injEq, Prod.mk.injEq, Out.ex.injEq] at he
          obtain ⟨⟨rfl, rfl⟩, rfl⟩ := he
          exact zeK S hF hC hmix hst hd
        . cases he
      | false =>
        simp only [cond_false] at he
        split at he
        . rename_i hd
          simp only [Option.some.injEq, Prod.mk.injEq, Out.ex.injEq] at he
          obtain ⟨⟨rfl, rfl⟩, rfl⟩ := he
          refine zcl ?_
          have := jM S hC ops.toList 0 rfl hd
          rw [Array.length_toList, <- List.range_eq_range'] at this
          intro ρ w tm ds hr hs b k cs
          obtain ⟨s1, h1, ρ1, w1, tm1, ⟨q1, q2⟩, r⟩ := this ρ w tm ds hr hs b k cs
          exact ⟨s1, h1, ρ1, w1, tm1, ⟨rfl, q1, q2⟩, r⟩
        . cases he
    case seq a b =>
      refine ziB ?_
      split at he
      . rename_i s1 h1 hrec
        refine (S.code _ _ _ _ _ _ _ hrec).mono ?_
        rintro e1 s2 h2 ⟨rfl, rfl, rfl⟩
        exact S.code _ _ _ _ _ _ _ he
      . rename_i hne
        refine (S.code _ _ _ _ _ _ _ he).mono ?_
        rintro e1 s2 h2 ⟨rfl, rfl, rfl⟩
        cases e1 with
        | normal => exact (hne _ _ he).elim
        | exit id => exact ⟨rfl, rfl, rfl⟩
        | ret => exact ⟨rfl, rfl, rfl⟩
    case cond x a b =>
      split at he
      . rename_i hx; exact zcB hx (by rw [if_pos rfl]; exact S.code _ _ _ _ _ _ _ he)
      . rename_i hx; exact zcB hx (by rw [if_neg (by decide)]; exact S.code _ _ _ _ _ _ _ he)
      . cases he
    case block id a =>
      refine Uf ?_
      split at he
      . rename_i id' s1 h1 hrec
        refine (S.code _ _ _ _ _ _ _ hrec).mono ?_
        rintro e1 s2 h2 ⟨rfl, rfl, rfl⟩
        cases hb : Nat.beq id' id with
        | true =>
          rw [hb] at he
          simp only [cond_true, Option.some.injEq, Prod.mk.injEq, Out.ex.injEq] at he
          obtain ⟨⟨rfl, rfl⟩, rfl⟩ := he
          rw [Nat.eq_of_beq_eq_true hb, if_pos rfl]
          exact ⟨rfl, rfl, rfl⟩
        | false =>
          rw [hb] at he
          simp only [cond_false, Option.some.injEq, Prod.mk.injEq, Out.ex.injEq] at he
          obtain ⟨⟨rfl, rfl⟩, rfl⟩ := he
          rw [if_neg (by
            intro hc
            cases hc
            rw [Nat.beq_refl] at hb; cases hb)]
          exact ⟨rfl, rfl, rfl⟩
      . rename_i hne
        refine (S.code _ _ _ _ _ _ _ he).mono ?_
        rintro e1 s2 h2 ⟨rfl, rfl, rfl⟩
        cases e1 with
        | normal => rw [if_neg (by simp)]; exact ⟨rfl, rfl, rfl⟩
        | exit id' => exact (hne _ _ _ he).elim
        | ret => rw [if_neg (by simp)]; exact ⟨rfl, rfl, rfl⟩
    case scope a => exact zhH (S.code _ _ _ _ _ _ _ he)
    case loop a =>
      refine kY ?_
      split at he
      . rename_i s1 h1 hrec
        refine (S.code _ _ _ _ _ _ _ hrec).mono ?_
        rintro e1 s2 h2 ⟨rfl, rfl, rfl⟩
        exact S.code _ _ _ _ _ _ _ he
      . rename_i hne
        refine (S.code _ _ _ _ _ _ _ he).mono ?_
        rintro e1 s2 h2 ⟨rfl, rfl, rfl⟩
        cases e1 with
        | normal => exact (hne _ _ he).elim
        | exit id => exact ⟨rfl, rfl, rfl⟩
        | ret => exact ⟨rfl, rfl, rfl⟩
    case rangeFunc f params as bd =>
      split at he
      . rename_i hr
        simp only [Option.some.injEq, Prod.mk.injEq, Out.ex.injEq] at he
        obtain ⟨⟨rfl, rfl⟩, rfl⟩ := he
        exact JL S hC hr
      . cases he
    all_goals cases he
  . intro f args h v h' he
    simp only [body] at he
    split at he
    case h_1 => cases he
    rename_i fn hfn
    split at he
    case h_1 => cases he
    rename_i c hc
    have fin : ∀ e s1 h1, (e = .normal \/ e = .ret) -> rec (.code none c (Env.enter args fn.ntmps)) h = some (.ex e s1, h1) -> (match wj P s1 h1 fn.results.toList with | some vs => some (Out.val (ux vs), h1) | none => none) = some (.val v, h') ->
        TC P f args h (fun v1 h1 => v1 = v /\ h1 = h') := by
      intro e s1 h1 hee hrec hres
      split at hres
      . rename_i vs hvs
        simp only [Option.some.injEq, Prod.mk.injEq, Out.val.injEq] at hres
        obtain ⟨rfl, rfl⟩ := hres
        refine zhk hfn hc ((S.code _ _ _ _ _ _ _ hrec).mono ?_)
        rintro e1 s2 h2 ⟨rfl, rfl, rfl⟩
        exact ⟨hee, vs, hvs, rfl, rfl⟩
      . cases hres
    split at he
    . rename_i s1 h1 hrec; exact fin _ s1 h1 (.inl rfl) hrec he
    . rename_i s1 h1 hrec; exact fin _ s1 h1 (.inr rfl) hrec he
    . cases he
  . intro rd c s h o h' he
    cases c <;> simp only [body] at he
    case skip => simp only [Option.some.injEq, Prod.mk.injEq] at he; obtain ⟨rfl, _⟩ := he; exact ⟨_, _, rfl⟩
    case label => simp only [Option.some.injEq, Prod.mk.injEq] at he; obtain ⟨rfl, _⟩ := he; exact ⟨_, _, rfl⟩
    case exit => simp only [Option.some.injEq, Prod.mk.injEq] at he; obtain ⟨rfl, _⟩ := he; exact ⟨_, _, rfl⟩
    case ret => simp only [Option.some.injEq, Prod.mk.injEq] at he; obtain ⟨rfl, _⟩ := he; exact ⟨_, _, rfl⟩
    case region id ops draw =>
      cases draw with
      | true =>
        simp only [cond_true] at he
        obtain ⟨_, he⟩ := zl he
        split at he
        . simp only [Option.some.injEq, Prod.mk.injEq] at he; obtain ⟨rfl, _⟩ := he; exact ⟨_, _, rfl⟩
        . cases he
      | false =>
        simp only [cond_false] at he
        split at he
        . simp only [Option.some.injEq, Prod.mk.injEq] at he; obtain ⟨rfl, _⟩ := he; exact ⟨_, _, rfl⟩
        . cases he
    case seq a b =>
      split at he
      . exact S.kind _ _ _ _ _ _ he
      . exact S.kind _ _ _ _ _ _ he
    case cond x a b =>
      split at he
      . exact S.kind _ _ _ _ _ _ he
      . exact S.kind _ _ _ _ _ _ he
      . cases he
    case block id a =>
      split at he
      . rename_i id' s1 h1 hrec
        cases hb : Nat.beq id' id with
        | true => rw [hb] at he; simp only [cond_true, Option.some.injEq, Prod.mk.injEq] at he; obtain ⟨rfl, _⟩ := he; exact ⟨_, _, rfl⟩
        | false => rw [hb] at he; simp only [cond_false, Option.some.injEq, Prod.mk.injEq] at he; obtain ⟨rfl, _⟩ := he; exact ⟨_, _, rfl⟩
      . exact S.kind _ _ _ _ _ _ he
    case scope a => exact S.kind _ _ _ _ _ _ he
    case loop a =>
      split at he
      . exact S.kind _ _ _ _ _ _ he
      . exact S.kind _ _ _ _ _ _ he
    case rangeFunc f params as bd =>
      split at he
      . simp only [Option.some.injEq, Prod.mk.injEq] at he; obtain ⟨rfl, _⟩ := he; exact ⟨_, _, rfl⟩
      . cases he
    all_goals cases he
  . intro f args h o h' he
    simp only [body] at he
    split at he
    case h_1 => cases he
    split at he
    case h_1 => cases he
    split at he
    . split at he
      . simp only [Option.some.injEq, Prod.mk.injEq] at he; obtain ⟨rfl, _⟩ := he; exact ⟨_, rfl⟩
      . cases he
    . split at he
      . simp only [Option.some.injEq, Prod.mk.injEq] at he; obtain ⟨rfl, _⟩ := he; exact ⟨_, rfl⟩
      . cases he
    . cases he
theorem zcq (hC : uA P cls = true) (hmix : P.follows .mixedOrders = true) : ∀ n, Sound P (run P cls n) /\ Frames (run P cls n)
  | 0 => ⟨⟨fun rd c s h e s' h' he => (by cases he), fun f args h v h' he => (by cases he), fun rd c s h o h' he => (by cases he), fun f args h o h' he => (by cases he)⟩, fun t h o h' he => (by cases he)⟩
  | n + 1 => by
    obtain ⟨S, F⟩ := zcq hC hmix n
    exact ⟨zeE S F hC hmix, zb5 F⟩
theorem zfN (hC : uA P cls = true) (hmix : P.follows .mixedOrders = true) {n : Nat} {f : FuncId} {args : List Value} {h h' : za} {v : Value} (he : run P cls n (.call f args) h = some (.val v, h')) : TC P f args h (fun v1 h1 => v1 = v /\ h1 = h') :=
  (zcq hC hmix n).1.call _ _ _ _ _ he
def zdQ (n : Nat) (tabs : List (Nat × List Value)) : za := ⟨tabs.foldl (fun t x => t.set x.1 (some (.tab x.2))) .e, n, n⟩
theorem XH {n : Nat} {tabs : List (Nat × List Value)} {b : Nat} {o : wB} (h : (zdQ n tabs).get b = some o) : ∃ c, (b, c) ∈ tabs /\ o = .tab c := by
  have key : ∀ (l : List (Nat × List Value)) (t : Tr wB), (l.foldl (fun t x => t.set x.1 (some (.tab x.2))) t).get b = some o -> (∃ c, (b, c) ∈ l /\ o = .tab c) \/ t.get b = some o := by
    intro l
    induction l with
    | nil => intro t h; exact .inr h
    | cons x l ih =>
      intro t h
      rw [List.foldl_cons] at h
      rcases ih _ h with ⟨c, h1, h2⟩ | h1
      . exact .inl ⟨c, by simp [h1], h2⟩
      . rw [Tr.zP] at h1
        split at h1
        . rename_i e
          simp only [Option.some.injEq] at h1
          subst e
          exact .inl ⟨x.2, by simp, h1.symm⟩
        . exact .inr h1
  rcases key tabs .e h with h1 | h1
  . exact h1
  . cases h1
def zcs (w : World) (g : Nat) (c : List Value) : Prop := ∃ cs t fz, w.heap[g]? = some (.cells cs t fz) /\ ∀ (i : Nat) x, c[i]? = some x -> cs[i]? = some x
theorem zeW (P : Program) (w : World) (n : Nat) (tabs : List (Nat × List Value)) (hn : P.globals.size <= n) (hg : ∀ x, x ∈ tabs -> x.1 < n /\ x.2.all flat = true /\ zcs w x.1 x.2) :
    Rel P ⟨n, fun g => some ⟨g, 0, (match w.heap[g]? with | some (.cells cs _ _) => cs.size | _ => 0), 0⟩⟩ (zdQ n tabs) w := by
  refine ⟨rfl, Nat.le_refl _, fun b o h => ?_, fun b o h => ?_, fun b1 b2 o1 o2 p1 p2 h1 h2 m1 m2 e => ?_, hn, fun b pl _ h => ?_⟩
  . obtain ⟨c, h1, _⟩ := XH h
    exact (hg _ h1).1
  . obtain ⟨c, h1, rfl⟩ := XH h
    obtain ⟨_, h2, cs, t, fz, h3, h4⟩ := hg _ h1
    refine ⟨_, rfl, t, cs, fz, h3, by simp only [h3], ⟨rfl, Nat.zero_mod _⟩, ?_, fun e => (by cases e), fun i x hx => ⟨x, by simpa using h4 i x hx, ?_⟩⟩
    . show 0 + c.length <= cs.size
      rcases Nat.lt_or_ge cs.size c.length with hl | hl
      . have h5 := h4 cs.size _ (List.getElem?_eq_getElem hl)
        simp at h5
      . omega
    . simp only [List.all_eq_true] at h2
      exact .of_flat _ (h2 x (List.mem_of_getElem? hx))
  . simp only [Option.some.injEq] at m1 m2
    subst m1 m2
    exact e
  . simp only [Option.some.injEq] at h
    subst h
    exact ⟨rfl, rfl⟩
theorem zgv {ρ : Ren} {v v' : Value} (hv : zec v = true) (hvr : z9 ρ v v') : v' = v := by
  cases v with
  | tuple a =>
    cases hvr with
    | tuple ha hr =>
      simp only [zec, List.all_eq_true] at hv
      congr 1
      apply Array.ext'
      refine QN (by simpa using ha) (fun i x y hx hy => ?_)
      exact vE (hr i x y (by simpa using hx) (by simpa using hy)) (hv x (List.mem_of_getElem? hx))
  | _ => exact vE hvr hv
end
end Go.Ai
namespace Go.Ai
noncomputable section
open Go.ChangeShapes Go.WideShapes Go.ChangeAt Go.RowKit
variable {P : Program} {H : Type} {enc : TypeId × Value -> H}
theorem post_of_below {f : Func} {s : ChangeSpec} {apart fresh handsOn again : Bool} {W W' : World} {args : Array Value} {v : Value} {ds gs : List (DataW H)} {before pa pv : List MemPlace}
    (hW : DataW.Whole enc P f.params.toList s.vars apart W args.toList ds gs before)
    (hres : ∀ (b : Nat) (sp : Nat -> Bool) (hd : Bool), DataW.TrodAll enc P W' b sp hd f.resultTypes.toList (v.resultList f.resultTypes.size) (s.fn H (ds ++ gs)).results [])
    (hargs : ∀ sp : Nat -> Bool, (∀ p ∈ before, sp p.block = true) -> DataW.TrodAll enc P W' 0 sp true f.params.toList args.toList (s.fn H (ds ++ gs)).args pa)
    (hvars : ∀ sp : Nat -> Bool, (∀ p ∈ before, sp p.block = true) -> DataW.TrodVars enc P W' sp s.vars (s.fn H (ds ++ gs)).vars pv)
    (hps : before = pa ++ pv) (hb : Below W.heap.size W W')
    (hok : ∀ (j : Nat) (t : TypeId) (r : Value), f.resultTypes[j]? = some t -> (v.resultList f.resultTypes.size)[j]? = some r -> Value.okWide P W' .any 0 t r) :
    s.post enc P f apart fresh handsOn again W args v W' := by
  have hold : ∀ p ∈ before, (fun b => decide (b < W.heap.size)) p.block = true := fun p hp => by simpa using hW.lt p hp
  refine ⟨ds, gs, before, [], pa, pv, hW, hres _ _ _, hargs _ hold, hvars _ hold, hb.frame _, fun _ => ?_⟩
  have hlt : ∀ p ∈ before, p.block < W.heap.size := fun p hp => hW.lt p hp
  obtain ⟨_, _, _, _, _, hz, hn⟩ := hW
  refine ⟨hok, _, _, ([] ++ pa) ++ pv, ⟨[] ++ pa, pv, trodAll_append (hargs _ (fun _ _ => rfl)) (hres _ _ _), hvars _ (fun _ _ => rfl), rfl, ?_, ?_⟩, ?_⟩
  . intro b off hp
    have hp' : MemPlace.cell b off ∈ before := by rw [hps]; simpa using hp
    rw [hb.frozen (p := ⟨b, off, none⟩) (hlt _ hp')]
    exact hz b off hp'
  . intro ha
    have := hn ha
    rw [hps] at this
    simpa using this
  . intro p hp _
    rw [hps]
    simpa using hp
def zn5 : Option (Out × za) -> Bool
  | some (.val (.bool b), _) => b
  | _ => false
theorem zkp {x : Option (Out × za)} (h : zn5 x = true) : ∃ h', x = some (.val (.bool true), h') := by
  unfold zn5 at h
  split at h
  . subst h; exact ⟨_, rfl⟩
  . cases h
end
end Go.Ai
set_option linter.unusedVariables false
namespace Go.Ai
noncomputable section
variable {P : Program} {cls : List Nat}
structure Sub (h H : za) : Prop where
  next : H.next = h.next
  ro : H.ro = h.ro
  get : ∀ b o, H.get b = some o -> h.get b = some o
theorem Rel.sub {ρ : Ren} {h H : za} {w : World} (hr : Rel P ρ h w) (s : Sub h H) : Rel P ρ H w :=
  ⟨hr.next.trans s.next.symm, by rw [s.ro, s.next]; exact hr.ro, fun b o hb => by rw [s.next]; exact hr.dom b o (s.get b o hb), fun b o hb => by rw [s.ro]; exact hr.ok b o (s.get b o hb),
    fun b1 b2 o1 o2 p1 p2 h1 h2 => hr.inj b1 b2 o1 o2 p1 p2 (s.get _ _ h1) (s.get _ _ h2), by rw [s.ro]; exact hr.gro, hr.Yt⟩
theorem zdP.sub {ρ : Ren} {h H : za} (s : Sub h H) {c : Nat} (hm : zdP ρ H c) : zdP ρ h c := by
  obtain ⟨b, o, pl, hg, hro, hm, e⟩ := hm
  exact ⟨b, o, pl, s.get b o hg, by rw [<- s.ro]; exact hro, hm, e⟩
theorem Step.sub {ρ ρ' : Ren} {h H h' : za} {w w' : World} (s : Sub h H) (st : Step P ρ H w ρ' h' w') : Step P ρ h w ρ' h' w' :=
  ⟨st.le, st.rel, st.ro.trans s.ro, st.os, st.tape, st.output, st.size, fun c hc hn => st.frame c hc (fun hm => hn (hm.sub s)), fun c hc hm => (st.img c hc hm).sub s⟩
def seen (k : Nat) (bs : List Nat) : Option (Out × za) -> Option (List Value × List (Option wB) × Nat × Nat × Nat)
  | some (.ex .normal s, h) => some ((List.range k).map s.get, bs.map h.get, s.size, h.next, h.ro)
  | _ => none
end
end Go.Ai
set_option linter.unusedVariables false
namespace Go.Ai
noncomputable section
variable {P : Program} {cls : List Nat}
end
end Go.Ai
