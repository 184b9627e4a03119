/-
  A REGION THAT DRAWS ITS ORDER, 1: an operation by itself; the same in every frame that agrees on what it looks at.
-/
import Derived.Test.YtpilbfkinpbnoaaAiCall
import Derived.Orders
set_option linter.unusedVariables false
namespace Go.Ai
noncomputable section
variable {P : Program}

theorem aevs_congr {s s' : Env} : ∀ {xs : List Operand}, (∀ x, x ∈ xs → aev s x = aev s' x) → aevs s xs = aevs s' xs
  | [], _ => rfl
  | x :: xs, h => by simp only [aevs]; rw [h x (by simp), aevs_congr (fun y hy => h y (by simp [hy]))]
theorem aparts_congr {s s' : Env} : ∀ {ps : List (Nat × Operand)}, (∀ x, x ∈ ps → aev s x.2 = aev s' x.2) → aparts s ps = aparts s' ps
  | [], _ => rfl
  | (i, x) :: ps, h => by simp only [aparts]; rw [h (i, x) (by simp), aparts_congr (fun y hy => h y (by simp [hy]))]
theorem aop_congr {s s' : Env} {o : Oper} {g : AHeap} (h : ∀ x, x ∈ o.op.operands → aev s x = aev s' x) : aop P s o g = aop P s' o g := by
  obtain ⟨dst, op, type, pos, after, guard⟩ := o
  have one : ∀ x, x ∈ op.operands → aev s x = aev s' x := h
  have opt : ∀ x : Option Operand, (∀ y, x = some y → y ∈ op.operands) → aopt s x = aopt s' x := by
    intro x hx
    cases x with
    | none => rfl
    | some y => simp only [aopt]; rw [one y (hx y rfl)]
  unfold aop
  cases op <;> simp only [] <;> first
    | rfl
    | (rw [one _ (by simp [Op.operands])]; done)
    | (rw [one _ (by simp [Op.operands]), one _ (by simp [Op.operands])]; done)
    | skip
  case pick c a b => rw [one c (by simp [Op.operands]), one a (by simp [Op.operands]), one b (by simp [Op.operands])]
  case build t parts => rw [aparts_congr (fun x hx => one _ (by simp only [Op.operands, List.mem_toArray, List.mem_map]; exact ⟨x, hx, rfl⟩))]
  case buildSlice t n parts => rw [aparts_congr (fun x hx => one _ (by simp only [Op.operands, List.mem_toArray, List.mem_map]; exact ⟨x, hx, rfl⟩))]
  case makeFunc fn first captured =>
    cases fn <;> simp only []
    rw [aevs_congr (s := s) (s' := s') (xs := first.toList) (fun x hx => one x (by simp [Op.operands]; exact .inl (by simpa using hx))), aevs_congr (s := s) (s' := s') (xs := captured.toList) (fun x hx => one x (by simp [Op.operands]; exact .inr (by simpa using hx)))]
  case slice t x lo hi mx =>
    cases mx <;> simp only []
    rw [one x (by simp [Op.operands]), opt lo (fun y e => by subst e; simp [Op.operands]), opt hi (fun y e => by subst e; simp [Op.operands])]
  case makeMap t r => cases r <;> rfl
  case mapUpdate t m k x => rw [one m (by simp [Op.operands]), one k (by simp [Op.operands]), one x (by simp [Op.operands])]
  case call c =>
    obtain ⟨callee, args, ts⟩ := c
    cases callee <;> simp only []
    rw [aevs_congr (s := s) (s' := s') (fun x hx => one x (by simp [Op.operands, Call.operands]; simpa using hx))]

/-- A frame of which some slots alone are kept. -/
def Env.only (s : Env) (l : List Nat) : Env := { t := l.foldl (fun t i => t.set i (some (s.get i))) .e, size := s.size }
theorem Env.get_only (s : Env) (l : List Nat) (i : Nat) : (s.only l).get i = if i ∈ l then s.get i else undef := by
  have key : ∀ (l : List Nat) (t : Tr Value), (l.foldl (fun t i => t.set i (some (s.get i))) t).get i = if i ∈ l then some (s.get i) else t.get i := by
    intro l
    induction l with
    | nil => intro t; simp
    | cons j l ih =>
      intro t
      rw [List.foldl_cons, ih, Tr.get_set]
      by_cases hi : i ∈ l
      · simp [hi]
      · by_cases e : i = j
        · subst e; simp [hi]
        · simp [hi, e]
  have := key l .e
  simp only [Env.get_eq, Env.only] at this ⊢
  rw [this]
  split <;> simp

theorem aev_of_looks {s s' : Env} {ops : Array Oper} {o : Oper} (h : ∀ t, t ∈ o.looksAt ops → s.get t = s'.get t) : ∀ x, x ∈ o.op.operands → aev s x = aev s' x := by
  intro x hx
  cases x with
  | tmp t =>
    simp only [aev]
    rw [h t (by simp only [Oper.looksAt, List.mem_append, List.mem_filterMap]; exact .inl ⟨.tmp t, by simpa using hx, rfl⟩)]
  | _ => rfl
theorem eval_of_looks {tm tm' : Array Value} {ds : List Deferred} {ops : Array Oper} {o : Oper} (h : ∀ t, t ∈ o.looksAt ops → tm.getD t undef = tm'.getD t undef) : ∀ x, x ∈ o.op.operands → Act.eval ⟨tm, ds⟩ x = Act.eval ⟨tm', ds⟩ x := by
  intro x hx
  cases x with
  | tmp t => exact h t (by simp only [Oper.looksAt, List.mem_append, List.mem_filterMap]; exact .inl ⟨.tmp t, by simpa using hx, rfl⟩)
  | _ => rfl
theorem awanted_congr {s s' : Env} {ops : Array Oper} {o : Oper} (h : ∀ t, t ∈ o.looksAt ops → s.get t = s'.get t) : awanted ops s o = awanted ops s' o := by
  unfold awanted
  split
  · rfl
  · rename_i j want e
    split
    · rfl
    · rename_i d hd
      rw [h d (by simp only [Oper.looksAt, List.mem_append]; right; rw [e]; simp [hd])]

/-- What an operation of a region comes to, on abstract heaps. -/
def OpSem (P : Program) (ops : Array Oper) (s : Env) (o : Oper) (g : AHeap) (v : Value) (g' : AHeap) : Prop :=
  (awanted ops s o = false ∧ v = undef ∧ g' = g) ∨
  (awanted ops s o = true ∧ (aop P s o g = some (v, g') ∨
    (∃ f cargs ts fid fa fc vs, o.op = .call { callee := .value f, args := cargs, argTypes := ts } ∧ aev s f = some (.func (.func fid) fa fc) ∧ aevs s cargs.toList = some vs ∧ callable P fid = true ∧
      TC P fid (fa.toList ++ vs ++ fc.toList) g (fun v1 h1 => v1 = v ∧ h1 = g')) ∨
    (∃ f cargs ts fid fa fc vs, o.op = .call { callee := .value f, args := cargs, argTypes := ts } ∧ aev s f = some (.func (.func fid) fa fc) ∧ aevs s cargs.toList = some vs ∧ aext P fid (fa.toList ++ vs ++ fc.toList) g = some (v, g'))))
theorem OpSem.congr {ops : Array Oper} {s s' : Env} {o : Oper} {g g' : AHeap} {v : Value} (hs : OpSem P ops s o g v g') (h : ∀ t, t ∈ o.looksAt ops → s.get t = s'.get t) : OpSem P ops s' o g v g' := by
  have e1 := aev_of_looks h
  unfold OpSem at *
  rw [← awanted_congr h]
  rcases hs with hs | ⟨hw, hs | ⟨f, cargs, ts, fid, fa, fc, vs, h1, h2, h3, h4, h5⟩ | ⟨f, cargs, ts, fid, fa, fc, vs, h1, h2, h3, h4⟩⟩
  · exact .inl hs
  · exact .inr ⟨hw, .inl (by rw [← aop_congr e1]; exact hs)⟩
  · refine .inr ⟨hw, .inr (.inl ⟨f, cargs, ts, fid, fa, fc, vs, h1, ?_, ?_, h4, h5⟩)⟩
    · rw [← e1 f (by rw [h1]; simp [Op.operands, Call.operands])]; exact h2
    · rw [← aevs_congr (s := s) (s' := s') (xs := cargs.toList) (fun x hx => e1 x (by rw [h1]; simp only [Op.operands, Call.operands]; simp; right; simpa using hx))]; exact h3
  · refine .inr ⟨hw, .inr (.inr ⟨f, cargs, ts, fid, fa, fc, vs, h1, ?_, ?_, h4⟩)⟩
    · rw [← e1 f (by rw [h1]; simp [Op.operands, Call.operands])]; exact h2
    · rw [← aevs_congr (s := s) (s' := s') (xs := cargs.toList) (fun x hx => e1 x (by rw [h1]; simp only [Op.operands, Call.operands]; simp; right; simpa using hx))]; exact h3

/-- The machine's step, or steps, for it. -/
theorem opSem_steps {ops : Array Oper} {s : Env} {o : Oper} {g g' : AHeap} {v : Value} {j : Nat} {ρ : Ren} {w : World} {tm : Array Value} (ho : ops[j]? = some o) (hsem : OpSem P ops s o g v g') (hr : Rel P ρ g w)
    (hsz : s.size = tm.size) (hl : ∀ t, t ∈ o.looksAt ops → VRel ρ (s.get t) (tm.getD t undef)) (ds : List Deferred) (rest : List Nat) (b : Frame) (k : List Item) (cs : List Frame) :
    ∃ v' w' ρ', Step P ρ g w ρ' g' w' ∧ VRel ρ' v v' ∧
      Steps P (lone (fat b tm ds (.inRegion ops (j :: rest) :: k)) cs w) (lone (fat b (putTm tm o.dst v') ds (.inRegion ops rest :: k)) cs w') := by
  let L := o.looksAt ops
  let s2 := s.only L
  let tm2 : Array Value := (Array.range tm.size).map fun t => if t ∈ L then tm.getD t undef else undef
  have hg2 : ∀ t, s2.get t = if t ∈ L then s.get t else undef := Env.get_only s L
  have ht2 : ∀ t, t ∈ L → tm2.getD t undef = tm.getD t undef := by
    intro t ht
    simp only [tm2, Array.getD_eq_getD_getElem?, Array.getElem?_map]
    by_cases hlt : t < tm.size
    · rw [Array.getElem?_range, if_pos hlt]; simp [ht]
    · rw [Array.getElem?_range, if_neg hlt]; simp [Array.getElem?_eq_none (Nat.le_of_not_lt hlt)]
  have ht2' : ∀ t, t ∉ L → tm2.getD t undef = undef := by
    intro t ht
    simp only [tm2, Array.getD_eq_getD_getElem?, Array.getElem?_map]
    by_cases hlt : t < tm.size
    · rw [Array.getElem?_range, if_pos hlt]; simp [ht]
    · rw [Array.getElem?_range, if_neg hlt]; rfl
  have hs2 : EnvRel ρ s2 tm2 := by
    refine ⟨by show s.size = _; simp [tm2, hsz], fun t => ?_⟩
    rw [hg2]
    by_cases ht : t ∈ L
    · rw [if_pos ht, ht2 t ht]; exact hl t ht
    · rw [if_neg ht, ht2' t ht]; exact .of_plain ρ rfl
  have hsem2 : OpSem P ops s2 o g v g' := hsem.congr (fun t ht => by rw [hg2, if_pos ht])
  have hwant : Region.wanted o (yielded ops tm) = awanted ops s2 o := by
    rw [← awanted_eq hs2 ops o]
    unfold Region.wanted
    cases hgd : o.guard with
    | none => rfl
    | some gw =>
      obtain ⟨q, want⟩ := gw
      simp only []
      have : yielded ops tm q = yielded ops tm2 q := by
        unfold yielded
        cases hd : (ops[q]?).bind (·.dst) with
        | none => rfl
        | some d =>
          have hdl : d ∈ L := by simp only [L, Oper.looksAt, List.mem_append]; right; rw [hgd]; simp [hd]
          simp only [Option.bind_some]
          have e := ht2 d hdl
          simp only [Array.getD_eq_getD_getElem?] at e
          have esz : tm2.size = tm.size := by simp [tm2]
          by_cases hlt : d < tm.size
          · rw [Array.getElem?_eq_getElem hlt, Array.getElem?_eq_getElem (esz ▸ hlt)] at e ⊢
            simp only [Option.getD_some] at e
            rw [e]
          · rw [Array.getElem?_eq_none (Nat.le_of_not_lt hlt), Array.getElem?_eq_none (by rw [esz]; exact Nat.le_of_not_lt hlt)]
      rw [this]
  rcases hsem2 with ⟨hw, rfl, rfl⟩ | ⟨hw, hs | ⟨f, cargs, ts, fid, fa, fc, vs, h1, h2, h3, h4, h5⟩ | ⟨f, cargs, ts, fid, fa, fc, vs, h1, h2, h3, h4⟩⟩
  · refine ⟨undef, w, ρ, .refl hr, .of_plain ρ rfl, .one ?_⟩
    rw [fstep_op_skip (by rw [ho]; exact hwant.trans hw), fat_finish, ho]
    rfl
  · obtain ⟨n, w1, ρ1, v', e, hn, st, hv⟩ := aop_sound (a := ⟨tm2, []⟩) hs hr hs2
    refine ⟨v', w1, ρ1, st, hv, .one ?_⟩
    have hnd := isDefer_of_aop hs
    have hnsel : ∀ cs' b', o.op ≠ .select cs' b' := by intro cs' b' e; unfold aop at hs; rw [e] at hs; cases hs
    have e' : (execOp (Act.eval ⟨tm, ds⟩) o).run P w = .ok n w1 := by
      rw [← e]
      congr 1
      refine execOp_congr o hnsel (fun x hx => ?_)
      exact (eval_of_looks (ds := ds) (fun t ht => (ht2 t ht).symm) x hx).trans (by cases x <;> rfl)
    have hfin : (fat b tm ds (.inRegion ops (j :: rest) :: k)).finish v' = fat b (putTm tm o.dst v') ds (.inRegion ops rest :: k) := by rw [fat_finish, ho]; rfl
    rw [← hfin]
    rcases hn with rfl | ⟨rfl, rfl⟩
    · exact fstep_op_value ho (hwant.trans hw) hnd e'
    · exact fstep_op_done ho (hwant.trans hw) hnd e'
  · have e1 := aev_sound (a := ⟨tm2, []⟩) hs2 h2
    have e2 := aevs_sound (a := ⟨tm2, []⟩) hs2 h3
    have hlook : ∀ (ds : List Deferred) x, x ∈ o.op.operands → Act.eval ⟨tm2, []⟩ x = Act.eval ⟨tm, ds⟩ x := fun ds x hx =>
      (show Act.eval ⟨tm2, []⟩ x = Act.eval ⟨tm2, ds⟩ x by cases x <;> rfl).trans (eval_of_looks (ds := ds) (fun t ht => ht2 t ht) x hx)
    generalize hfv : Act.eval ⟨tm2, []⟩ f = fv at e1
    cases e1 with
    | func ha hcs q1 q2 =>
      rename_i fa' fc'
      let full := fa'.toList ++ cargs.toList.map (Act.eval ⟨tm2, []⟩) ++ fc'.toList
      have hfull : VList ρ (fa.toList ++ vs ++ fc.toList) full :=
        (VList.append ⟨by simpa using ha, fun i x y hx hy => q1 i x y (by simpa using hx) (by simpa using hy)⟩ e2).append ⟨by simpa using hcs, fun i x y hx hy => q2 i x y (by simpa using hx) (by simpa using hy)⟩
      have hrun : (execOp (Act.eval ⟨tm, ds⟩) o).run P w = .ok (.enter fid full.toArray) w := by
        have hnsel : ∀ cs' b', o.op ≠ .select cs' b' := by intro cs' b' e; rw [h1] at e; cases e
        rw [← execOp_congr o hnsel (hlook ds)]
        have hargs' : fa' ++ cargs.map (Act.eval ⟨tm2, []⟩) ++ fc' = full.toArray := by apply Array.ext'; simp [full]
        simp only [execOp, h1, resolve, hfv, Deferred.ofValue, Sem.run_bind, Sem.run_pure, Result.andThen_ok, invoke, callFunc, run_program, hargs']
        unfold callable at h4
        cases hfn : P.funcs[fid]? with
        | none => rw [hfn] at h4; cases h4
        | some fn =>
          rw [hfn] at h4
          simp only [Bool.and_eq_true, Bool.not_eq_true'] at h4
          simp only [h4.2, Bool.false_eq_true, if_false]
          rw [if_neg (by cases hb : fn.body <;> simp_all)]
          rfl
      obtain ⟨e, w1, fr, ⟨v0, v', h', ρ', rfl, ⟨rfl, rfl⟩, st, hv⟩, hcomes, _, hleave⟩ := h5 ρ w full hr hfull (fat b tm ds (.inRegion ops (j :: rest) :: k) :: cs)
      refine ⟨v', w1, ρ', st, hv, .head (fstep_op_enter ho (hwant.trans hw) (by rw [h1]; rfl) hrun) (Steps.trans hcomes (.one ?_))⟩
      rw [step_leave_returned hleave, fat_finish, ho]
      rfl

  · obtain ⟨n, w1, ρ1, v', e, hn, st, hv⟩ := aext_ok (a := ⟨tm2, []⟩) h1 h2 h3 h4 hr hs2
    refine ⟨v', w1, ρ1, st, hv, .one ?_⟩
    have hnd : isDefer o.op = false := by rw [h1]; rfl
    have hnsel : ∀ cs' b', o.op ≠ .select cs' b' := by intro cs' b' e; rw [h1] at e; cases e
    have e' : (execOp (Act.eval ⟨tm, ds⟩) o).run P w = .ok n w1 := by
      rw [← e]
      congr 1
      refine execOp_congr o hnsel (fun x hx => ?_)
      exact (eval_of_looks (ds := ds) (fun t ht => (ht2 t ht).symm) x hx).trans (by cases x <;> rfl)
    have hfin : (fat b tm ds (.inRegion ops (j :: rest) :: k)).finish v' = fat b (putTm tm o.dst v') ds (.inRegion ops rest :: k) := by rw [fat_finish, ho]; rfl
    rw [← hfin]
    rcases hn with rfl | ⟨rfl, rfl⟩
    · exact fstep_op_value ho (hwant.trans hw) hnd e'
    · exact fstep_op_done ho (hwant.trans hw) hnd e'

end
end Go.Ai
