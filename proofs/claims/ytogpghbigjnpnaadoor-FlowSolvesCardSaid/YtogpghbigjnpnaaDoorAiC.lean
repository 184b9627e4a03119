/-
  A REGION THAT DRAWS ITS ORDER, 1: an operation by itself; the same in every frame that agrees on what it looks at.
-/
import Derived.Test.YtogpghbigjnpnaaDoorAiB
import Derived.Orders
set_option linter.unusedVariables false
namespace Go.Ai
noncomputable section
variable {P : Program}

theorem aevs_congr {s s' : Env} : ∀ {xs : List Operand}, (∀ x, x ∈ xs → aev s x = aev s' x) → aevs s xs = aevs s' xs
  | [], _ => rfl
  | x :: xs, h => by simp only [aevs]; rw [h x (by simp), aevs_congr (fun y hy => h y (by simp [hy]))]
theorem aparts_congr {s s' : Env} : ∀ {ps : List (Nat × Operand)}, (∀ x, x ∈ ps → aev s x.2 = aev s' x.2) → aparts s ps = aparts s' ps
  | [], _ => rfl
  | (i, x) :: ps, h => by simp only [aparts]; rw [h (i, x) (by simp), aparts_congr (fun y hy => h y (by simp [hy]))]
theorem aop_congr {s s' : Env} {o : Oper} {g : AHeap} (h : ∀ x, x ∈ o.op.operands → aev s x = aev s' x) : aop P s o g = aop P s' o g := by
  obtain ⟨dst, op, type, pos, after, guard⟩ := o
  have one : ∀ x, x ∈ op.operands → aev s x = aev s' x := h
  have opt : ∀ x : Option Operand, (∀ y, x = some y → y ∈ op.operands) → aopt s x = aopt s' x := by
    intro x hx
    cases x with
    | none => rfl
    | some y => simp only [aopt]; rw [one y (hx y rfl)]
  unfold aop
  cases op <;> simp only [] <;> first
    | rfl
    | (rw [one _ (by simp [Op.operands])]; done)
    | (rw [one _ (by simp [Op.operands]), one _ (by simp [Op.operands])]; done)
    | skip
  case pick c a b => rw [one c (by simp [Op.operands]), one a (by simp [Op.operands]), one b (by simp [Op.operands])]
  case build t parts => rw [aparts_congr (fun x hx => one _ (by simp only [Op.operands, List.mem_toArray, List.mem_map]; exact ⟨x, hx, rfl⟩))]
  case buildSlice t n parts => rw [aparts_congr (fun x hx => one _ (by simp only [Op.operands, List.mem_toArray, List.mem_map]; exact ⟨x, hx, rfl⟩))]
  case makeFunc fn first captured =>
    cases fn <;> simp only []
    rw [aevs_congr (s := s) (s' := s') (xs := first.toList) (fun x hx => one x (by simp [Op.operands]; exact .inl (by simpa using hx))), aevs_congr (s := s) (s' := s') (xs := captured.toList) (fun x hx => one x (by simp [Op.operands]; exact .inr (by simpa using hx)))]
  case slice t x lo hi mx =>
    cases mx <;> simp only []
    rw [one x (by simp [Op.operands]), opt lo (fun y e => by subst e; simp [Op.operands]), opt hi (fun y e => by subst e; simp [Op.operands])]
  case makeMap t r => cases r <;> rfl
  case mapUpdate t m k x => rw [one m (by simp [Op.operands]), one k (by simp [Op.operands]), one x (by simp [Op.operands])]
  case call c =>
    obtain ⟨callee, args, ts⟩ := c
    cases callee <;> simp only []
    rw [aevs_congr (s := s) (s' := s') (fun x hx => one x (by simp [Op.operands, Call.operands]; simpa using hx))]

/-- A frame of which some slots alone are kept. -/
def Env.only (s : Env) (l : List Nat) : Env := { t := l.foldl (fun t i => t.set i (some (s.get i))) .e, size := s.size }
theorem Env.get_only (s : Env) (l : List Nat) (i : Nat) : (s.only l).get i = if i ∈ l then s.get i else undef := by
  have key : ∀ (l : List Nat) (t : Tr Value), (l.foldl (fun t i => t.set i (some (s.get i))) t).get i = if i ∈ l then some (s.get i) else t.get i := by
    intro l
    induction l with
    | nil => intro t; simp
    | cons j l ih =>
      intro t
      rw [List.foldl_cons, ih, Tr.get_set]
      by_cases hi : i ∈ l
      · simp [hi]
      · by_cases e : i = j
        · subst e; simp [hi]
        · simp [hi, e]
  have := key l .e
  simp only [Env.get_eq, Env.only] at this ⊢
  rw [this]
  split <;> simp

theorem aev_of_looks {s s' : Env} {ops : Array Oper} {o : Oper} (h : ∀ t, t ∈ o.looksAt ops → s.get t = s'.get t) : ∀ x, x ∈ o.op.operands → aev s x = aev s' x := by
  intro x hx
  cases x with
  | tmp t =>
    simp only [aev]
    rw [h t (by simp only [Oper.looksAt, List.mem_append, List.mem_filterMap]; exact .inl ⟨.tmp t, by simpa using hx, rfl⟩)]
  | _ => rfl
theorem eval_of_looks {tm tm' : Array Value} {ds : List Deferred} {ops : Array Oper} {o : Oper} (h : ∀ t, t ∈ o.looksAt ops → tm.getD t undef = tm'.getD t undef) : ∀ x, x ∈ o.op.operands → Act.eval ⟨tm, ds⟩ x = Act.eval ⟨tm', ds⟩ x := by
  intro x hx
  cases x with
  | tmp t => exact h t (by simp only [Oper.looksAt, List.mem_append, List.mem_filterMap]; exact .inl ⟨.tmp t, by simpa using hx, rfl⟩)
  | _ => rfl
theorem awanted_congr {s s' : Env} {ops : Array Oper} {o : Oper} (h : ∀ t, t ∈ o.looksAt ops → s.get t = s'.get t) : awanted ops s o = awanted ops s' o := by
  unfold awanted
  split
  · rfl
  · rename_i j want e
    split
    · rfl
    · rename_i d hd
      rw [h d (by simp only [Oper.looksAt, List.mem_append]; right; rw [e]; simp [hd])]

/-- What an operation of a region comes to, on abstract heaps. -/
def OpSem (P : Program) (ops : Array Oper) (s : Env) (o : Oper) (g : AHeap) (v : Value) (g' : AHeap) : Prop :=
  (awanted ops s o = false ∧ v = undef ∧ g' = g) ∨
  (awanted ops s o = true ∧ (aop P s o g = some (v, g') ∨
    (∃ f cargs ts fid fa fc vs, o.op = .call { callee := .value f, args := cargs, argTypes := ts } ∧ aev s f = some (.func (.func fid) fa fc) ∧ aevs s cargs.toList = some vs ∧ callable P fid = true ∧
      TC P fid (fa.toList ++ vs ++ fc.toList) g (fun v1 h1 => v1 = v ∧ h1 = g')) ∨
    (∃ f cargs ts fid fa fc vs, o.op = .call { callee := .value f, args := cargs, argTypes := ts } ∧ aev s f = some (.func (.func fid) fa fc) ∧ aevs s cargs.toList = some vs ∧ aext P fid (fa.toList ++ vs ++ fc.toList) g = some (v, g'))))
theorem OpSem.congr {ops : Array Oper} {s s' : Env} {o : Oper} {g g' : AHeap} {v : Value} (hs : OpSem P ops s o g v g') (h : ∀ t, t ∈ o.looksAt ops → s.get t = s'.get t) : OpSem P ops s' o g v g' := by
  have e1 := aev_of_looks h
  unfold OpSem at *
  rw [← awanted_congr h]
  rcases hs with hs | ⟨hw, hs | ⟨f, cargs, ts, fid, fa, fc, vs, h1, h2, h3, h4, h5⟩ | ⟨f, cargs, ts, fid, fa, fc, vs, h1, h2, h3, h4⟩⟩
  · exact .inl hs
  · exact .inr ⟨hw, .inl (by rw [← aop_congr e1]; exact hs)⟩
  · refine .inr ⟨hw, .inr (.inl ⟨f, cargs, ts, fid, fa, fc, vs, h1, ?_, ?_, h4, h5⟩)⟩
    · rw [← e1 f (by rw [h1]; simp [Op.operands, Call.operands])]; exact h2
    · rw [← aevs_congr (s := s) (s' := s') (xs := cargs.toList) (fun x hx => e1 x (by rw [h1]; simp only [Op.operands, Call.operands]; simp; right; simpa using hx))]; exact h3
  · refine .inr ⟨hw, .inr (.inr ⟨f, cargs, ts, fid, fa, fc, vs, h1, ?_, ?_, h4⟩)⟩
    · rw [← e1 f (by rw [h1]; simp [Op.operands, Call.operands])]; exact h2
    · rw [← aevs_congr (s := s) (s' := s') (xs := cargs.toList) (fun x hx => e1 x (by rw [h1]; simp only [Op.operands, Call.operands]; simp; right; simpa using hx))]; exact h3

/-- The machine's step, or steps, for it. -/
theorem opSem_steps {ops : Array Oper} {s : Env} {o : Oper} {g g' : AHeap} {v : Value} {j : Nat} {ρ : Ren} {w : World} {tm : Array Value} (ho : ops[j]? = some o) (hsem : OpSem P ops s o g v g') (hr : Rel P ρ g w)
    (hsz : s.size = tm.size) (hl : ∀ t, t ∈ o.looksAt ops → VRel ρ (s.get t) (tm.getD t undef)) (ds : List Deferred) (rest : List Nat) (b : Frame) (k : List Item) (cs : List Frame) :
    ∃ v' w' ρ', Step P ρ g w ρ' g' w' ∧ VRel ρ' v v' ∧
      Steps P (lone (fat b tm ds (.inRegion ops (j :: rest) :: k)) cs w) (lone (fat b (putTm tm o.dst v') ds (.inRegion ops rest :: k)) cs w') := by
  let L := o.looksAt ops
  let s2 := s.only L
  let tm2 : Array Value := (Array.range tm.size).map fun t => if t ∈ L then tm.getD t undef else undef
  have hg2 : ∀ t, s2.get t = if t ∈ L then s.get t else undef := Env.get_only s L
  have ht2 : ∀ t, t ∈ L → tm2.getD t undef = tm.getD t undef := by
    intro t ht
    simp only [tm2, Array.getD_eq_getD_getElem?, Array.getElem?_map]
    by_cases hlt : t < tm.size
    · rw [Array.getElem?_range, if_pos hlt]; simp [ht]
    · rw [Array.getElem?_range, if_neg hlt]; simp [Array.getElem?_eq_none (Nat.le_of_not_lt hlt)]
  have ht2' : ∀ t, t ∉ L → tm2.getD t undef = undef := by
    intro t ht
    simp only [tm2, Array.getD_eq_getD_getElem?, Array.getElem?_map]
    by_cases hlt : t < tm.size
    · rw [Array.getElem?_range, if_pos hlt]; simp [ht]
    · rw [Array.getElem?_range, if_neg hlt]; rfl
  have hs2 : EnvRel ρ s2 tm2 := by
    refine ⟨by show s.size = _; simp [tm2, hsz], fun t => ?_⟩
    rw [hg2]
    by_cases ht : t ∈ L
    · rw [if_pos ht, ht2 t ht]; exact hl t ht
    · rw [if_neg ht, ht2' t ht]; exact .of_plain ρ rfl
  have hsem2 : OpSem P ops s2 o g v g' := hsem.congr (fun t ht => by rw [hg2, if_pos ht])
  have hwant : Region.wanted o (yielded ops tm) = awanted ops s2 o := by
    rw [← awanted_eq hs2 ops o]
    unfold Region.wanted
    cases hgd : o.guard with
    | none => rfl
    | some gw =>
      obtain ⟨q, want⟩ := gw
      simp only []
      have : yielded ops tm q = yielded ops tm2 q := by
        unfold yielded
        cases hd : (ops[q]?).bind (·.dst) with
        | none => rfl
        | some d =>
          have hdl : d ∈ L := by simp only [L, Oper.looksAt, List.mem_append]; right; rw [hgd]; simp [hd]
          simp only [Option.bind_some]
          have e := ht2 d hdl
          simp only [Array.getD_eq_getD_getElem?] at e
          have esz : tm2.size = tm.size := by simp [tm2]
          by_cases hlt : d < tm.size
          · rw [Array.getElem?_eq_getElem hlt, Array.getElem?_eq_getElem (esz ▸ hlt)] at e ⊢
            simp only [Option.getD_some] at e
            rw [e]
          · rw [Array.getElem?_eq_none (Nat.le_of_not_lt hlt), Array.getElem?_eq_none (by rw [esz]; exact Nat.le_of_not_lt hlt)]
      rw [this]
  rcases hsem2 with ⟨hw, rfl, rfl⟩ | ⟨hw, hs | ⟨f, cargs, ts, fid, fa, fc, vs, h1, h2, h3, h4, h5⟩ | ⟨f, cargs, ts, fid, fa, fc, vs, h1, h2, h3, h4⟩⟩
  · refine ⟨undef, w, ρ, .refl hr, .of_plain ρ rfl, .one ?_⟩
    rw [fstep_op_skip (by rw [ho]; exact hwant.trans hw), fat_finish, ho]
    rfl
  · obtain ⟨n, w1, ρ1, v', e, hn, st, hv⟩ := aop_sound (a := ⟨tm2, []⟩) hs hr hs2
    refine ⟨v', w1, ρ1, st, hv, .one ?_⟩
    have hnd := isDefer_of_aop hs
    have hnsel : ∀ cs' b', o.op ≠ .select cs' b' := by intro cs' b' e; unfold aop at hs; rw [e] at hs; cases hs
    have e' : (execOp (Act.eval ⟨tm, ds⟩) o).run P w = .ok n w1 := by
      rw [← e]
      congr 1
      refine execOp_congr o hnsel (fun x hx => ?_)
      exact (eval_of_looks (ds := ds) (fun t ht => (ht2 t ht).symm) x hx).trans (by cases x <;> rfl)
    have hfin : (fat b tm ds (.inRegion ops (j :: rest) :: k)).finish v' = fat b (putTm tm o.dst v') ds (.inRegion ops rest :: k) := by rw [fat_finish, ho]; rfl
    rw [← hfin]
    rcases hn with rfl | ⟨rfl, rfl⟩
    · exact fstep_op_value ho (hwant.trans hw) hnd e'
    · exact fstep_op_done ho (hwant.trans hw) hnd e'
  · have e1 := aev_sound (a := ⟨tm2, []⟩) hs2 h2
    have e2 := aevs_sound (a := ⟨tm2, []⟩) hs2 h3
    have hlook : ∀ (ds : List Deferred) x, x ∈ o.op.operands → Act.eval ⟨tm2, []⟩ x = Act.eval ⟨tm, ds⟩ x := fun ds x hx =>
      (show Act.eval ⟨tm2, []⟩ x = Act.eval ⟨tm2, ds⟩ x by cases x <;> rfl).trans (eval_of_looks (ds := ds) (fun t ht => ht2 t ht) x hx)
    generalize hfv : Act.eval ⟨tm2, []⟩ f = fv at e1
    cases e1 with
    | func ha hcs q1 q2 =>
      rename_i fa' fc'
      let full := fa'.toList ++ cargs.toList.map (Act.eval ⟨tm2, []⟩) ++ fc'.toList
      have hfull : VList ρ (fa.toList ++ vs ++ fc.toList) full :=
        (VList.append ⟨by simpa using ha, fun i x y hx hy => q1 i x y (by simpa using hx) (by simpa using hy)⟩ e2).append ⟨by simpa using hcs, fun i x y hx hy => q2 i x y (by simpa using hx) (by simpa using hy)⟩
      have hrun : (execOp (Act.eval ⟨tm, ds⟩) o).run P w = .ok (.enter fid full.toArray) w := by
        have hnsel : ∀ cs' b', o.op ≠ .select cs' b' := by intro cs' b' e; rw [h1] at e; cases e
        rw [← execOp_congr o hnsel (hlook ds)]
        have hargs' : fa' ++ cargs.map (Act.eval ⟨tm2, []⟩) ++ fc' = full.toArray := by apply Array.ext'; simp [full]
        simp only [execOp, h1, resolve, hfv, Deferred.ofValue, Sem.run_bind, Sem.run_pure, Result.andThen_ok, invoke, callFunc, run_program, hargs']
        unfold callable at h4
        cases hfn : P.funcs[fid]? with
        | none => rw [hfn] at h4; cases h4
        | some fn =>
          rw [hfn] at h4
          simp only [Bool.and_eq_true, Bool.not_eq_true'] at h4
          simp only [h4.2, Bool.false_eq_true, if_false]
          rw [if_neg (by cases hb : fn.body <;> simp_all)]
          rfl
      obtain ⟨e, w1, fr, ⟨v0, v', h', ρ', rfl, ⟨rfl, rfl⟩, st, hv⟩, hcomes, _, hleave⟩ := h5 ρ w full hr hfull (fat b tm ds (.inRegion ops (j :: rest) :: k) :: cs)
      refine ⟨v', w1, ρ', st, hv, .head (fstep_op_enter ho (hwant.trans hw) (by rw [h1]; rfl) hrun) (Steps.trans hcomes (.one ?_))⟩
      rw [step_leave_returned hleave, fat_finish, ho]
      rfl

  · obtain ⟨n, w1, ρ1, v', e, hn, st, hv⟩ := aext_ok (a := ⟨tm2, []⟩) h1 h2 h3 h4 hr hs2
    refine ⟨v', w1, ρ1, st, hv, .one ?_⟩
    have hnd : isDefer o.op = false := by rw [h1]; rfl
    have hnsel : ∀ cs' b', o.op ≠ .select cs' b' := by intro cs' b' e; rw [h1] at e; cases e
    have e' : (execOp (Act.eval ⟨tm, ds⟩) o).run P w = .ok n w1 := by
      rw [← e]
      congr 1
      refine execOp_congr o hnsel (fun x hx => ?_)
      exact (eval_of_looks (ds := ds) (fun t ht => (ht2 t ht).symm) x hx).trans (by cases x <;> rfl)
    have hfin : (fat b tm ds (.inRegion ops (j :: rest) :: k)).finish v' = fat b (putTm tm o.dst v') ds (.inRegion ops rest :: k) := by rw [fat_finish, ho]; rfl
    rw [← hfin]
    rcases hn with rfl | ⟨rfl, rfl⟩
    · exact fstep_op_value ho (hwant.trans hw) hnd e'
    · exact fstep_op_done ho (hwant.trans hw) hnd e'

end
end Go.Ai
set_option linter.unusedVariables false
namespace Go.Ai
noncomputable section
variable {P : Program}

/-! ### Renamings with fewer, and with more, blocks -/
def Ren.cut (ρ : Ren) (n : Nat) : Ren := { ρ with next := n }
theorem VRel.ext {ρ ρ' : Ren} (hn : ρ.next ≤ ρ'.next) (hm : ∀ b pl, b < ρ.next → ρ.m b = some pl → ρ'.m b = some pl) {v v' : Value} (h : VRel ρ v v') : VRel ρ' v v' := by
  induction h with
  | odd h => exact .odd h
  | bool b => exact .bool b
  | int k n => exact .int k n
  | float k n => exact .float k n
  | string s => exact .string s
  | ptrNil => exact .ptrNil
  | ptr hb hm0 => exact .ptr (Nat.lt_of_lt_of_le hb hn) (hm _ _ hb hm0)
  | glob => exact .glob
  | sliceNil c => exact .sliceNil c
  | slice hb hm0 hl hc => exact .slice (Nat.lt_of_lt_of_le hb hn) (hm _ _ hb hm0) hl hc
  | sliceOut hb hc => exact .sliceOut (Nat.lt_of_lt_of_le hb hn) hc
  | nilFunc => exact .nilFunc
  | nilIface => exact .nilIface
  | mapNil => exact .mapNil
  | map hb hm0 => exact .map (Nat.lt_of_lt_of_le hb hn) (hm _ _ hb hm0)
  | yield hb hm0 => exact .yield (Nat.lt_of_lt_of_le hb hn) (hm _ _ hb hm0)
  | iface _ ih => exact .iface ih
  | func ha hc _ _ ih ih' => exact .func ha hc ih ih'
  | agg ha _ ih => exact .agg ha ih
  | tuple ha _ ih => exact .tuple ha ih
theorem VRel.down {ρ ρ2 : Ren} (hm : ∀ b, b < ρ.next → ρ2.m b = ρ.m b) {v v' : Value} (h : VRel ρ v v') : ∀ {u : Value}, VRel ρ2 v u → VRel ρ v u := by
  induction h with
  | odd h => intro u hu; cases hu with | odd h2 => exact .odd h2
  | bool b => intro u hu; cases hu; exact .bool b
  | int k n => intro u hu; cases hu; exact .int k n
  | float k n => intro u hu; cases hu; exact .float k n
  | string s => intro u hu; cases hu; exact .string s
  | ptrNil => intro u hu; cases hu; exact .ptrNil
  | ptr hb hm0 => intro u hu; cases hu with | ptr hb2 hm2 => exact .ptr hb ((hm _ hb).symm.trans hm2)
  | glob => intro u hu; cases hu; exact .glob
  | sliceNil c => intro u hu; cases hu; exact .sliceNil c
  | slice hb hm0 hl hc =>
    intro u hu
    cases hu with
    | slice hb2 hm2 hl2 hc2 => exact .slice hb ((hm _ hb).symm.trans hm2) hl2 hc2
    | sliceOut hb2 hc2 => exact .sliceOut hb hc2
  | sliceOut hb hc =>
    intro u hu
    cases hu with
    | slice hb2 hm2 hl2 hc2 => exact .slice hb ((hm _ hb).symm.trans hm2) hl2 hc2
    | sliceOut hb2 hc2 => exact .sliceOut hb hc2
  | nilFunc => intro u hu; cases hu; exact .nilFunc
  | nilIface => intro u hu; cases hu; exact .nilIface
  | mapNil => intro u hu; cases hu; exact .mapNil
  | map hb hm0 => intro u hu; cases hu with | map hb2 hm2 => exact .map hb ((hm _ hb).symm.trans hm2)
  | yield hb hm0 => intro u hu; cases hu with | yield hb2 hm2 => exact .yield hb ((hm _ hb).symm.trans hm2)
  | iface _ ih => intro u hu; cases hu with | iface h2 => exact .iface (ih h2)
  | func ha hc h1 h2 ih ih' =>
    rename_i f a c a' c'
    intro u hu
    cases hu with
    | func ha2 hc2 k1 k2 =>
      refine .func ha2 hc2 (fun i x y hx hy => ?_) (fun i x y hx hy => ?_)
      · obtain ⟨z, hz⟩ : ∃ z, a'[i]? = some z := by
          have hlt : i < a.size := by
            rcases Nat.lt_or_ge i a.size with h | h
            · exact h
            · rw [Array.getElem?_eq_none h] at hx; cases hx
          exact ⟨_, Array.getElem?_eq_getElem (ha ▸ hlt)⟩
        exact ih i x z hx hz (k1 i x y hx hy)
      · obtain ⟨z, hz⟩ : ∃ z, c'[i]? = some z := by
          have hlt : i < c.size := by
            rcases Nat.lt_or_ge i c.size with h | h
            · exact h
            · rw [Array.getElem?_eq_none h] at hx; cases hx
          exact ⟨_, Array.getElem?_eq_getElem (hc ▸ hlt)⟩
        exact ih' i x z hx hz (k2 i x y hx hy)
  | agg ha h1 ih =>
    rename_i a a'
    intro u hu
    cases hu with
    | agg ha2 k1 =>
      refine .agg ha2 (fun i x y hx hy => ?_)
      obtain ⟨z, hz⟩ : ∃ z, a'[i]? = some z := by
        have hlt : i < a.size := by
          rcases Nat.lt_or_ge i a.size with h | h
          · exact h
          · rw [Array.getElem?_eq_none h] at hx; cases hx
        exact ⟨_, Array.getElem?_eq_getElem (ha ▸ hlt)⟩
      exact ih i x z hx hz (k1 i x y hx hy)
  | tuple ha h1 ih =>
    rename_i a a'
    intro u hu
    cases hu with
    | tuple ha2 k1 =>
      refine .tuple ha2 (fun i x y hx hy => ?_)
      obtain ⟨z, hz⟩ : ∃ z, a'[i]? = some z := by
        have hlt : i < a.size := by
          rcases Nat.lt_or_ge i a.size with h | h
          · exact h
          · rw [Array.getElem?_eq_none h] at hx; cases hx
        exact ⟨_, Array.getElem?_eq_getElem (ha ▸ hlt)⟩
      exact ih i x z hx hz (k1 i x y hx hy)
theorem CellsOk.ext {ρ ρ' : Ren} (hn : ρ.next ≤ ρ'.next) (hm : ∀ b pl, b < ρ.next → ρ.m b = some pl → ρ'.m b = some pl) {wr : Bool} {c : List Value} {t : TypeId} {pl : Place} {w : World} (hc : CellsOk P ρ wr c t pl w) : CellsOk P ρ' wr c t pl w := by
  obtain ⟨cs, fz, h1, h2, h3, h4, h5, h6⟩ := hc
  exact ⟨cs, fz, h1, h2, h3, h4, h5, fun i x hx => by obtain ⟨y, hy, hv⟩ := h6 i x hx; exact ⟨y, hy, hv.ext hn hm⟩⟩
theorem CellsOk.down {ρ ρ2 : Ren} (hm : ∀ b, b < ρ.next → ρ2.m b = ρ.m b) {wr wr2 : Bool} {c : List Value} {t : TypeId} {pl : Place} {w w2 : World} (h : CellsOk P ρ wr c t pl w) (h2 : CellsOk P ρ2 wr2 c t pl w2) : CellsOk P ρ wr2 c t pl w2 := by
  obtain ⟨cs, fz, a1, a2, a3, a4, a5, a6⟩ := h
  obtain ⟨cs2, fz2, b1, b2, b3, b4, b5, b6⟩ := h2
  exact ⟨cs2, fz2, b1, b2, b3, b4, b5, fun i x hx => by
    obtain ⟨y, hy, hv⟩ := a6 i x hx
    obtain ⟨y2, hy2, hv2⟩ := b6 i x hx
    exact ⟨y2, hy2, hv.down hm hv2⟩⟩

theorem ObjOk.ext {ρ ρ' : Ren} (hn : ρ.next ≤ ρ'.next) (hm : ∀ b pl, b < ρ.next → ρ.m b = some pl → ρ'.m b = some pl) {wr : Bool} {o : AObj} {pl : Place} {w : World} (hc : ObjOk P ρ wr o pl w) : ObjOk P ρ' wr o pl w := by
  cases o with
  | cells c t => exact CellsOk.ext hn hm hc
  | map es q => obtain ⟨ms, h1, h2, h3⟩ := hc; exact ⟨ms, h1, h2, fun i x m hx hm0 => ⟨(h3 i x m hx hm0).1.ext hn hm, (h3 i x m hx hm0).2.1.ext hn hm, (h3 i x m hx hm0).2.2⟩⟩
  | iter m a b c => obtain ⟨m', h1, h0, h2⟩ := hc; exact ⟨m', h1, h0, h2.ext hn hm⟩
  | tab c => obtain ⟨t, h1⟩ := hc; exact ⟨t, CellsOk.ext hn hm h1⟩
  | siter s pos => exact hc
  | loop l => obtain ⟨tm, d, fn, h1, h2⟩ := hc; exact ⟨tm, d, fn, h1, h2.size, fun i => (h2.get i).ext hn hm⟩
theorem ObjOk.down {ρ ρ2 : Ren} (hm : ∀ b, b < ρ.next → ρ2.m b = ρ.m b) {wr wr2 : Bool} {o : AObj} {pl : Place} {w w2 : World} (h : ObjOk P ρ wr o pl w) (h2 : ObjOk P ρ2 wr2 o pl w2) : ObjOk P ρ wr2 o pl w2 := by
  cases o with
  | cells c t => exact CellsOk.down hm h h2
  | iter m a b c =>
    obtain ⟨m1, a1, _, a2⟩ := h
    obtain ⟨m2, b1, b0, b2⟩ := h2
    exact ⟨m2, b1, b0, a2.down hm b2⟩
  | siter s pos => exact h2
  | tab c =>
    obtain ⟨t, cs, fz, a1, a2, a3, a4, a5, a6⟩ := h
    obtain ⟨t2, cs2, fz2, b1, b2, b3, b4, b5, b6⟩ := h2
    exact ⟨t2, cs2, fz2, b1, b2, b3, b4, b5, fun i x hx => by
      obtain ⟨y, hy, hv⟩ := a6 i x hx
      obtain ⟨y2, hy2, hv2⟩ := b6 i x hx
      exact ⟨y2, hy2, hv.down hm hv2⟩⟩
  | map es q =>
    obtain ⟨ms, a1, a2, a3⟩ := h
    obtain ⟨ms2, b1, b2, b3⟩ := h2
    refine ⟨ms2, b1, b2, fun i x m hx hm0 => ?_⟩
    obtain ⟨z, hz⟩ : ∃ z, ms[i]? = some z := by
      have hlt : i < ms.size := by
        rcases Nat.lt_or_ge i es.length with h | h
        · omega
        · rw [List.getElem?_eq_none h] at hx; cases hx
      exact ⟨_, Array.getElem?_eq_getElem hlt⟩
    exact ⟨(a3 i x z hx hz).1.down hm (b3 i x m hx hm0).1, (a3 i x z hx hz).2.1.down hm (b3 i x m hx hm0).2.1, (b3 i x m hx hm0).2.2⟩
  | loop l =>
    obtain ⟨tm, d, fn, a1, a2⟩ := h
    obtain ⟨tm2, d2, fn2, b1, b2⟩ := h2
    exact ⟨tm2, d2, fn2, b1, b2.size, fun i => (a2.get i).down hm (b2.get i)⟩
theorem ObjOk.cutup {ρ : Ren} {n m : Nat} (h : n ≤ m) {wr : Bool} {o : AObj} {pl : Place} {w : World} (hc : ObjOk P (ρ.cut n) wr o pl w) : ObjOk P (ρ.cut m) wr o pl w := ObjOk.ext (ρ := ρ.cut n) (ρ' := ρ.cut m) h (fun _ _ _ h => h) hc
theorem ObjOk.cutext {ρ ρ' : Ren} {n : Nat} (hm : ∀ b pl, ρ.m b = some pl → ρ'.m b = some pl) {wr : Bool} {o : AObj} {pl : Place} {w : World} (hc : ObjOk P (ρ.cut n) wr o pl w) : ObjOk P (ρ'.cut n) wr o pl w := ObjOk.ext (ρ := ρ.cut n) (ρ' := ρ'.cut n) (Nat.le_refl _) (fun b pl _ h => hm b pl h) hc
theorem VRel.cutup {ρ : Ren} {n m : Nat} (h : n ≤ m) {v v' : Value} (hv : VRel (ρ.cut n) v v') : VRel (ρ.cut m) v v' := VRel.ext (ρ := ρ.cut n) (ρ' := ρ.cut m) h (fun _ _ _ h => h) hv
theorem CellsOk.cutup {ρ : Ren} {n m : Nat} (h : n ≤ m) {wr : Bool} {c : List Value} {t : TypeId} {pl : Place} {w : World} (hc : CellsOk P (ρ.cut n) wr c t pl w) : CellsOk P (ρ.cut m) wr c t pl w := CellsOk.ext (ρ := ρ.cut n) (ρ' := ρ.cut m) h (fun _ _ _ h => h) hc
theorem VRel.cutext {ρ ρ' : Ren} {n : Nat} (hm : ∀ b pl, ρ.m b = some pl → ρ'.m b = some pl) {v v' : Value} (hv : VRel (ρ.cut n) v v') : VRel (ρ'.cut n) v v' := VRel.ext (ρ := ρ.cut n) (ρ' := ρ'.cut n) (Nat.le_refl _) (fun b pl _ h => hm b pl h) hv
theorem CellsOk.cutext {ρ ρ' : Ren} {n : Nat} (hm : ∀ b pl, ρ.m b = some pl → ρ'.m b = some pl) {wr : Bool} {c : List Value} {t : TypeId} {pl : Place} {w : World} (hc : CellsOk P (ρ.cut n) wr c t pl w) : CellsOk P (ρ'.cut n) wr c t pl w := CellsOk.ext (ρ := ρ.cut n) (ρ' := ρ'.cut n) (Nat.le_refl _) (fun b pl _ h => hm b pl h) hc
/-! ### One order, told -/
/-- An operation of the order that is told: what it came to, the frame and the heap that it was told on, the blocks that it may look at, those that it touches. -/
structure DRec where
  j : Nat
  o : Oper
  v : Value
  s : Env
  g : AHeap
  g' : AHeap
  rd : Nat → Bool
  tc : Nat → Bool
def lastR (T : List DRec) (p : DRec → Bool) : Option DRec := (T.filter p).getLast?
def wrs (t : Nat) (r : DRec) : Bool := decide (r.o.dst = some t)
def envV (T : List DRec) (s0 : Env) (t : Nat) : Value := match lastR T (wrs t) with | some r => r.v | none => s0.get t
def envN (T : List DRec) (n0 : Nat) (t : Nat) : Nat := match lastR T (wrs t) with | some r => r.g'.next | none => n0
def hpV (T : List DRec) (h0 : AHeap) (b : Nat) : Option AObj := match lastR T (fun r => r.tc b) with | some r => r.g'.get b | none => h0.get b
def hpN (T : List DRec) (n0 : Nat) (b : Nat) : Nat := match lastR T (fun r => r.tc b) with | some r => r.g'.next | none => n0

/-- Must operation i come before operation j? -/
inductive Prec (ops : Array Oper) : Nat → Nat → Prop
  | one {j : Nat} {o : Oper} {e : Edge} (ho : ops[j]? = some o) (he : e ∈ o.after) (hb : Region.binds .any e = true) : Prec ops e.on j
  | more {i j : Nat} {o : Oper} {e : Edge} (ho : ops[j]? = some o) (he : e ∈ o.after) (hb : Region.binds .any e = true) (h : Prec ops i e.on) : Prec ops i j

/-- Two operations that may come in either order (x is told before y). -/
structure Free (ops : Array Oper) (x y : DRec) : Prop where
  d1 : ∀ d, x.o.dst = some d → d ∉ y.o.looksAt ops ∧ y.o.dst ≠ some d
  d2 : ∀ d, y.o.dst = some d → d ∉ x.o.looksAt ops
  b1 : ∀ b, x.tc b = true → y.rd b = false ∧ y.tc b = false
  b2 : ∀ b, y.tc b = true → x.rd b = false

structure Told (P : Program) (ops : Array Oper) (s0 : Env) (h0 : AHeap) (A : List DRec) (r : DRec) : Prop where
  op : ops[r.j]? = some r.o
  env : ∀ t, r.s.get t = envV A s0 t
  size : r.s.size = s0.size
  heap : ∀ b, r.g.get b = if r.rd b = true then hpV A h0 b else none
  ro : r.g.ro = h0.ro
  n0 : h0.next ≤ r.g.next
  nA : ∀ x, x ∈ A → x.g'.next ≤ r.g.next
  n1 : r.g.next ≤ r.g'.next
  sem : OpSem P ops r.s r.o r.g r.v r.g'
  put : ∀ d, r.o.dst = some d → d < s0.size
  tc1 : ∀ b, r.tc b = true → r.rd b = true ∨ (r.g.next ≤ b ∧ b < r.g'.next)
  tc2 : ∀ b, r.tc b = false → r.g'.get b = r.g.get b
  tc3 : ∀ b o, r.tc b = true → b < r.g.next → r.g'.get b = some o → r.g.get b ≠ none

structure Valid (P : Program) (ops : Array Oper) (s0 : Env) (h0 : AHeap) (tr : List DRec) : Prop where
  nodup : (tr.map (·.j)).Nodup
  all : ∀ i, i < ops.size → ∃ r, r ∈ tr ∧ r.j = i
  told : ∀ A r B, tr = A ++ r :: B → Told P ops s0 h0 A r
  edges : ∀ A r B, tr = A ++ r :: B → ∀ e, e ∈ r.o.after → Region.binds .any e = true → ∃ x, x ∈ A ∧ x.j = e.on
  apart : ∀ A x B y C, tr = A ++ x :: (B ++ y :: C) → Prec ops x.j y.j ∨ Free ops x y

theorem Valid.prec {ops : Array Oper} {s0 : Env} {h0 : AHeap} {tr : List DRec} (V : Valid P ops s0 h0 tr) {i j : Nat} (h : Prec ops i j) : ∀ A r B, tr = A ++ r :: B → r.j = j → ∃ x, x ∈ A ∧ x.j = i := by
  induction h with
  | one ho he hb =>
    intro A r B e hj
    subst hj
    have := (V.told A r B e).op
    rw [ho] at this
    cases this
    exact V.edges A r B e _ he hb
  | more ho he hb _ ih =>
    intro A r B e hj
    subst hj
    have := (V.told A r B e).op
    rw [ho] at this
    cases this
    obtain ⟨x, hx, hxj⟩ := V.edges A r B e _ he hb
    obtain ⟨A1, A2, rfl⟩ := List.append_of_mem hx
    obtain ⟨y, hy, hyi⟩ := ih A1 x (A2 ++ r :: B) (by simp [e]) hxj
    exact ⟨y, by simp [hy], hyi⟩

theorem mem_j_unique {tr A B : List DRec} {r x : DRec} (hn : (tr.map (·.j)).Nodup) (e : tr = A ++ r :: B) (hx : x ∈ A ∨ x ∈ B) : x.j ≠ r.j := by
  subst e
  rw [List.map_append, List.map_cons] at hn
  have h1 := List.nodup_append.1 hn
  intro ej
  rcases hx with hx | hx
  · exact h1.2.2 x.j (List.mem_map_of_mem hx) r.j (by simp) ej
  · have := (List.nodup_cons.1 h1.2.1).1
    exact this (ej ▸ List.mem_map_of_mem hx)

/-- What of a kind has come to pass when an operation r comes: what is told before r, where all of that kind are held in order with r. -/
theorem around {ops : Array Oper} {s0 : Env} {h0 : AHeap} {tr : List DRec} (V : Valid P ops s0 h0 tr) {S : Nat → Bool} (hdown : ∀ i j, Prec ops i j → S j = true → S i = true) {A B : List DRec} {r : DRec} (e : tr = A ++ r :: B)
    (hready : ∀ i, Prec ops i r.j → S i = true) (hnot : S r.j = false) {p : DRec → Bool} (hp : ∀ x, (x ∈ A → p x = true → Prec ops x.j r.j) ∧ (x ∈ B → p x = true → Prec ops r.j x.j)) :
    (A.filter (fun x => S x.j)).filter p = A.filter p ∧ (B.filter (fun x => S x.j)).filter p = [] := by
  constructor
  · rw [List.filter_filter]
    apply List.filter_congr
    intro x hx
    cases hpx : p x with
    | false => simp
    | true => rw [hready _ ((hp x).1 hx hpx)]; rfl
  · rw [List.filter_filter, List.filter_eq_nil_iff]
    intro x hx hc
    simp only [Bool.and_eq_true] at hc
    have := hdown _ _ ((hp x).2 hx hc.1) hc.2
    rw [hnot] at this
    cases this

/-- Where they touch one another they are in order. -/
theorem Valid.order {ops : Array Oper} {s0 : Env} {h0 : AHeap} {tr A B : List DRec} {r : DRec} (V : Valid P ops s0 h0 tr) (e : tr = A ++ r :: B) {p : DRec → Bool} (hA : ∀ x, Free ops x r → p x = false) (hB : ∀ x, Free ops r x → p x = false) :
    ∀ x, (x ∈ A → p x = true → Prec ops x.j r.j) ∧ (x ∈ B → p x = true → Prec ops r.j x.j) := by
  intro x
  constructor
  · intro hx hpx
    obtain ⟨A1, A2, rfl⟩ := List.append_of_mem hx
    rcases V.apart A1 x A2 r B (by simp [e]) with h | h
    · exact h
    · rw [hA x h] at hpx; cases hpx
  · intro hx hpx
    obtain ⟨B1, B2, rfl⟩ := List.append_of_mem hx
    rcases V.apart A r B1 x B2 e with h | h
    · exact h
    · rw [hB x h] at hpx; cases hpx

end
end Go.Ai
set_option linter.unusedVariables false
namespace Go.Ai
noncomputable section
variable {P : Program}

structure DInv (P : Program) (tr : List DRec) (s0 : Env) (h0 : AHeap) (N : Nat) (ρ0 : Ren) (w0 : World) (S : Nat → Bool) (ρ : Ren) (w : World) (tm : Array Value) : Prop where
  next : ρ.next = N
  old : ∀ b, b < h0.next → ρ.m b = ρ0.m b
  size : s0.size = tm.size
  env : ∀ t, VRel (ρ.cut (envN (tr.filter fun r => S r.j) h0.next t)) (envV (tr.filter fun r => S r.j) s0 t) (tm.getD t undef)
  heap : ∀ b o, hpV (tr.filter fun r => S r.j) h0 b = some o → b < hpN (tr.filter fun r => S r.j) h0.next b ∧
    ∃ pl, ρ.m b = some pl ∧ ObjOk P (ρ.cut (hpN (tr.filter fun r => S r.j) h0.next b)) (decide (h0.ro ≤ b)) o pl w
  inj : ∀ b1 b2 o1 o2 p1 p2, hpV (tr.filter fun r => S r.j) h0 b1 = some o1 → hpV (tr.filter fun r => S r.j) h0 b2 = some o2 → ρ.m b1 = some p1 → ρ.m b2 = some p2 → p1.c = p2.c → b1 = b2
  fresh : ∀ x, x ∈ tr → S x.j = false → ∀ b, x.g.next ≤ b → b < x.g'.next → ρ.m b = none
  os : w.os = w0.os
  tape : w.tape = w0.tape
  output : w.output = w0.output
  wsize : w0.heap.size ≤ w.heap.size
  frame : ∀ c, c < w0.heap.size → ¬ Mine ρ0 h0 c → w.heap[c]? = w0.heap[c]?
  img : ∀ b o pl, hpV (tr.filter fun r => S r.j) h0 b = some o → h0.ro ≤ b → ρ.m b = some pl → pl.c < w0.heap.size → Mine ρ0 h0 pl.c
  gro : P.globals.size ≤ h0.ro
  gl : ∀ b pl, b < P.globals.size → ρ.m b = some pl → pl.c = b ∧ pl.base = 0

/-- 'S' and one more. -/
def addS (S : Nat → Bool) (j : Nat) : Nat → Bool := fun i => S i || decide (i = j)

section
variable {ops : Array Oper} {s0 : Env} {h0 : AHeap} {tr A B : List DRec} {r : DRec} {S : Nat → Bool}
theorem filter_split (e : tr = A ++ r :: B) (hnot : S r.j = false) : tr.filter (fun x => S x.j) = A.filter (fun x => S x.j) ++ B.filter (fun x => S x.j) := by
  subst e; simp [hnot]
theorem filter_add (V : Valid P ops s0 h0 tr) (e : tr = A ++ r :: B) : tr.filter (fun x => addS S r.j x.j) = A.filter (fun x => S x.j) ++ r :: B.filter (fun x => S x.j) := by
  have hA : A.filter (fun x => addS S r.j x.j) = A.filter (fun x => S x.j) := List.filter_congr fun x hx => by simp [addS, mem_j_unique V.nodup e (.inl hx)]
  have hB : B.filter (fun x => addS S r.j x.j) = B.filter (fun x => S x.j) := List.filter_congr fun x hx => by simp [addS, mem_j_unique V.nodup e (.inr hx)]
  rw [e, List.filter_append, List.filter_cons, hA, hB, if_pos (by simp [addS])]

/-- Where those of a kind are in order with r: before it, what has come to pass of that kind is what was told before; after it, r is the last. -/
theorem last_before (V : Valid P ops s0 h0 tr) (hdown : ∀ i j, Prec ops i j → S j = true → S i = true) (e : tr = A ++ r :: B) (hready : ∀ i, Prec ops i r.j → S i = true) (hnot : S r.j = false) {p : DRec → Bool}
    (hA : ∀ x, Free ops x r → p x = false) (hB : ∀ x, Free ops r x → p x = false) : lastR (tr.filter fun x => S x.j) p = lastR A p := by
  obtain ⟨h1, h2⟩ := around V hdown e hready hnot (V.order e hA hB)
  rw [lastR, filter_split e hnot, List.filter_append, h1, h2, List.append_nil]; rfl
theorem last_after (V : Valid P ops s0 h0 tr) (hdown : ∀ i j, Prec ops i j → S j = true → S i = true) (e : tr = A ++ r :: B) (hready : ∀ i, Prec ops i r.j → S i = true) (hnot : S r.j = false) {p : DRec → Bool} (hr : p r = true)
    (hA : ∀ x, Free ops x r → p x = false) (hB : ∀ x, Free ops r x → p x = false) : lastR (tr.filter fun x => addS S r.j x.j) p = some r := by
  obtain ⟨h1, h2⟩ := around V hdown e hready hnot (V.order e hA hB)
  rw [lastR, filter_add V e, List.filter_append, List.filter_cons, if_pos hr, h1, h2]
  simp
theorem last_other (V : Valid P ops s0 h0 tr) (e : tr = A ++ r :: B) (hnot : S r.j = false) {p : DRec → Bool} (hr : p r = false) : lastR (tr.filter fun x => addS S r.j x.j) p = lastR (tr.filter fun x => S x.j) p := by
  rw [lastR, lastR, filter_add V e, filter_split e hnot, List.filter_append, List.filter_cons, hr, if_neg (by simp), List.filter_append]

theorem lastR_mem {T : List DRec} {p : DRec → Bool} {x : DRec} (h : lastR T p = some x) : x ∈ T ∧ p x = true := by
  have := List.mem_of_getLast? h
  exact List.mem_filter.1 this

/-- One operation more. -/
theorem draw_step (hro0 : h0.ro ≤ h0.next) (V : Valid P ops s0 h0 tr) (hdown : ∀ i j, Prec ops i j → S j = true → S i = true) (e : tr = A ++ r :: B) (hready : ∀ i, Prec ops i r.j → S i = true) (hnot : S r.j = false)
    {N : Nat} (hN : ∀ x, x ∈ tr → x.g'.next ≤ N) {ρ0 ρ : Ren} {w0 w : World} {tm : Array Value} (I : DInv P tr s0 h0 N ρ0 w0 S ρ w tm) (ds : List Deferred) (rest : List Nat) (b : Frame) (k : List Item) (cs : List Frame) :
    ∃ ρ' w' tm', DInv P tr s0 h0 N ρ0 w0 (addS S r.j) ρ' w' tm' ∧ Steps P (lone (fat b tm ds (.inRegion ops (r.j :: rest) :: k)) cs w) (lone (fat b tm' ds (.inRegion ops rest :: k)) cs w') := by
  have D := V.told A r B e
  have hrm : r ∈ tr := by rw [e]; simp
  -- what r looks at has come to pass just as it was told
  have lookEnv : ∀ t, t ∈ r.o.looksAt ops → lastR (tr.filter fun x => S x.j) (wrs t) = lastR A (wrs t) := fun t ht =>
    last_before V hdown e hready hnot (fun x hx => by
      cases hw : wrs t x with
      | false => rfl
      | true => exact absurd ht (hx.d1 t (of_decide_eq_true hw)).1) (fun x hx => by
      cases hw : wrs t x with
      | false => rfl
      | true => exact absurd ht (hx.d2 t (of_decide_eq_true hw)))
  have lookHeap : ∀ bb, r.rd bb = true → lastR (tr.filter fun x => S x.j) (fun x => x.tc bb) = lastR A (fun x => x.tc bb) := fun bb hb =>
    last_before V hdown e hready hnot (fun x hx => by
      cases hw : x.tc bb with
      | false => rfl
      | true => have := (hx.b1 bb hw).1; rw [hb] at this; cases this) (fun x hx => by
      cases hw : x.tc bb with
      | false => rfl
      | true => have := hx.b2 bb hw; rw [hb] at this; cases this)
  have hpVeq : ∀ bb, r.rd bb = true → hpV (tr.filter fun x => S x.j) h0 bb = r.g.get bb := fun bb hb => by
    rw [D.heap, if_pos hb]; simp only [hpV, lookHeap bb hb]
  have hpNle : ∀ bb, r.rd bb = true → hpN (tr.filter fun x => S x.j) h0.next bb ≤ r.g.next := fun bb hb => by
    simp only [hpN, lookHeap bb hb]
    split
    · rename_i x hx; exact D.nA x (lastR_mem hx).1
    · exact D.n0
  have galive : ∀ bb o, r.g.get bb = some o → r.rd bb = true ∧ hpV (tr.filter fun x => S x.j) h0 bb = some o := fun bb o hg => by
    rw [D.heap] at hg
    cases hb : r.rd bb with
    | false => rw [hb] at hg; simp at hg
    | true => exact ⟨rfl, by rw [hpVeq bb hb, D.heap]; exact hg⟩
  let ρr := ρ.cut r.g.next
  have hrel : Rel P ρr r.g w := by
    refine ⟨rfl, ?_, ?_, ?_, ?_, by rw [D.ro]; exact I.gro, I.gl⟩
    · have h1 := D.ro; have h2 := D.n0
      show r.g.ro ≤ r.g.next
      omega
    · intro bb o hg
      obtain ⟨h1, h2⟩ := galive bb o hg
      exact Nat.lt_of_lt_of_le (I.heap bb o h2).1 (hpNle bb h1)
    · intro bb o hg
      obtain ⟨h1, h2⟩ := galive bb _ hg
      obtain ⟨_, pl, hp, hc⟩ := I.heap bb o h2
      refine ⟨pl, hp, ?_⟩
      rw [D.ro]
      exact hc.cutup (hpNle bb h1)
    · intro b1 b2 o1 o2 p1 p2 g1 g2
      exact I.inj b1 b2 o1 o2 p1 p2 (galive b1 o1 g1).2 (galive b2 o2 g2).2
  have hlook : ∀ t, t ∈ r.o.looksAt ops → VRel ρr (r.s.get t) (tm.getD t undef) := by
    intro t ht
    have h1 := I.env t
    have e1 : envV (tr.filter fun x => S x.j) s0 t = r.s.get t := by rw [D.env t]; simp only [envV, lookEnv t ht]
    have e2 : envN (tr.filter fun x => S x.j) h0.next t ≤ r.g.next := by
      simp only [envN, lookEnv t ht]
      split
      · rename_i x hx; exact D.nA x (lastR_mem hx).1
      · exact D.n0
    rw [e1] at h1
    exact h1.cutup e2
  obtain ⟨v', w', ρq, st, hv, sx⟩ := opSem_steps D.op D.sem hrel (D.size.trans I.size) hlook ds rest b k cs
  let ρ' : Ren := { next := N, m := fun bb => if r.g.next ≤ bb ∧ bb < r.g'.next then ρq.m bb else ρ.m bb }
  have qnext : ρq.next = r.g'.next := st.rel.next
  have qlow : ∀ bb, bb < r.g.next → ρq.m bb = ρ.m bb := fun bb hb => st.le.2 bb hb
  have pq : ∀ bb, bb < r.g'.next → ρ'.m bb = ρq.m bb := by
    intro bb hb
    by_cases hl : r.g.next ≤ bb
    · exact if_pos ⟨hl, hb⟩
    · rw [show ρ'.m bb = ρ.m bb from if_neg (by omega), qlow bb (by omega)]
  have rfresh := I.fresh r hrm hnot
  have pext : ∀ bb pl, ρ.m bb = some pl → ρ'.m bb = some pl := by
    intro bb pl hm
    rw [show ρ'.m bb = ρ.m bb from if_neg (by
      rintro ⟨h1, h2⟩
      rw [rfresh bb h1 h2] at hm; cases hm)]
    exact hm
  have hn1N : r.g'.next ≤ N := hN r hrm
  -- the parts of the world after r
  have notMine : ∀ bb o pl, hpV (tr.filter fun x => S x.j) h0 bb = some o → ρ.m bb = some pl → r.rd bb = false → ¬ Mine ρr r.g pl.c := by
    rintro bb o pl hg hm hb ⟨b1, o1, p1, g1, _, m1, e1⟩
    obtain ⟨k1, k2⟩ := galive b1 o1 g1
    have := I.inj b1 bb o1 o p1 pl k2 hg m1 hm e1
    subst this
    rw [hb] at k1; cases k1
  have hpVnew : ∀ bb, hpV (tr.filter fun x => addS S r.j x.j) h0 bb = if r.tc bb = true then r.g'.get bb else hpV (tr.filter fun x => S x.j) h0 bb := by
    intro bb
    cases ht : r.tc bb with
    | true =>
      rw [if_pos rfl]
      simp only [hpV]
      rw [last_after V hdown e hready hnot ht (fun x hx => by
        cases hw : x.tc bb with
        | false => rfl
        | true => have := (hx.b1 bb hw).2; rw [ht] at this; cases this) (fun x hx => by
        cases hw : x.tc bb with
        | false => rfl
        | true => have := (hx.b1 bb ht).2; rw [hw] at this; cases this)]
    | false =>
      rw [if_neg (by simp)]
      simp only [hpV]
      rw [last_other V e hnot (p := fun x => x.tc bb) ht]
  have hpNnew : ∀ bb, hpN (tr.filter fun x => addS S r.j x.j) h0.next bb = if r.tc bb = true then r.g'.next else hpN (tr.filter fun x => S x.j) h0.next bb := by
    intro bb
    cases ht : r.tc bb with
    | true =>
      rw [if_pos rfl]
      simp only [hpN]
      rw [last_after V hdown e hready hnot ht (fun x hx => by
        cases hw : x.tc bb with
        | false => rfl
        | true => have := (hx.b1 bb hw).2; rw [ht] at this; cases this) (fun x hx => by
        cases hw : x.tc bb with
        | false => rfl
        | true => have := (hx.b1 bb ht).2; rw [hw] at this; cases this)]
    | false =>
      rw [if_neg (by simp)]
      simp only [hpN]
      rw [last_other V e hnot (p := fun x => x.tc bb) ht]
  -- each block that is there behind r: touched, or as it was
  have cases' : ∀ bb o, hpV (tr.filter fun x => addS S r.j x.j) h0 bb = some o → (r.tc bb = true ∧ r.g'.get bb = some o) ∨ (r.tc bb = false ∧ hpV (tr.filter fun x => S x.j) h0 bb = some o) := by
    intro bb o h
    rw [hpVnew] at h
    cases ht : r.tc bb with
    | true => rw [ht, if_pos rfl] at h; exact .inl ⟨rfl, h⟩
    | false => rw [ht, if_neg (by simp)] at h; exact .inr ⟨rfl, h⟩
  refine ⟨ρ', w', putTm tm r.o.dst v', ⟨rfl, ?_, ?_, ?_, ?_, ?_, ?_, st.os.trans I.os, st.tape.trans I.tape, st.output.trans I.output, Nat.le_trans I.wsize st.size, ?_, ?_, I.gro, fun b pl hb hm => I.gl b pl hb (by
    rw [show ρ'.m b = ρ.m b from if_neg (by have := D.n0; have := I.gro; omega)] at hm; exact hm)⟩, sx⟩
  · intro bb hb
    rw [show ρ'.m bb = ρ.m bb from if_neg (by have := D.n0; omega)]
    exact I.old bb hb
  · cases r.o.dst with
    | none => exact I.size
    | some d => simp only [putTm, Array.size_setIfInBounds]; exact I.size
  · -- the slots
    intro t
    by_cases ht : r.o.dst = some t
    · have e1 : lastR (tr.filter fun x => addS S r.j x.j) (wrs t) = some r := last_after V hdown e hready hnot (p := wrs t) (by simp [wrs, ht]) (fun x hx => by
        cases hw : wrs t x with
        | false => rfl
        | true => exact absurd ht (hx.d1 t (of_decide_eq_true hw)).2) (fun x hx => by
        cases hw : wrs t x with
        | false => rfl
        | true => exact absurd (of_decide_eq_true hw) (hx.d1 t ht).2)
      simp only [envV, envN, e1]
      have e2 : (putTm tm r.o.dst v').getD t undef = v' := by
        have hlt : t < tm.size := by rw [← I.size]; exact D.put t ht
        rw [ht]; simp [putTm, Array.getD_eq_getD_getElem?, hlt]
      rw [e2]
      refine hv.ext (by show ρq.next ≤ r.g'.next; rw [qnext]; exact Nat.le_refl _) (fun bb pl hb hm => ?_)
      show ρ'.m bb = some pl
      rw [pq bb (by rw [← qnext]; exact hb)]; exact hm
    · have e1 : lastR (tr.filter fun x => addS S r.j x.j) (wrs t) = lastR (tr.filter fun x => S x.j) (wrs t) := last_other V e hnot (p := wrs t) (by simp [wrs, ht])
      have e2 : (putTm tm r.o.dst v').getD t undef = tm.getD t undef := by
        cases hd : r.o.dst with
        | none => rfl
        | some d =>
          have : d ≠ t := fun h => ht (by rw [hd, h])
          simp [putTm, Array.getD_eq_getD_getElem?, this]
      have h1 := I.env t
      simp only [envV, envN] at h1 ⊢
      rw [e1, e2]
      exact h1.cutext (ρ' := ρ') pext
  · -- the blocks
    intro bb o hg
    rcases cases' bb _ hg with ⟨ht, hg'⟩ | ⟨ht, hg'⟩
    · rw [hpNnew, if_pos ht]
      obtain ⟨pl, hp, hc⟩ := st.rel.ok bb o hg'
      have hlt := st.rel.dom bb _ hg'
      refine ⟨hlt, pl, by rw [pq bb hlt]; exact hp, ?_⟩
      have hro : r.g'.ro = h0.ro := st.ro.trans D.ro
      rw [hro] at hc
      exact hc.ext (by show ρq.next ≤ r.g'.next; rw [qnext]; exact Nat.le_refl _) (fun b2 p2 hb hm => by show ρ'.m b2 = some p2; rw [pq b2 (by rw [← qnext]; exact hb)]; exact hm)
    · rw [hpNnew, ht, if_neg (by simp)]
      obtain ⟨hlt, pl, hp, hc⟩ := I.heap bb o hg'
      refine ⟨hlt, pl, pext bb pl hp, ?_⟩
      have hdone : ObjOk P (ρ.cut (hpN (tr.filter fun x => S x.j) h0.next bb)) (decide (h0.ro ≤ bb)) o pl w' := by
        cases hb : r.rd bb with
        | true =>
          have hgg : r.g'.get bb = some o := by rw [D.tc2 bb ht, ← hpVeq bb hb]; exact hg'
          obtain ⟨p2, hp2, hc2⟩ := st.rel.ok bb o hgg
          have hbl : bb < r.g.next := Nat.lt_of_lt_of_le hlt (hpNle bb hb)
          rw [qlow bb hbl, hp] at hp2
          cases hp2
          have hro : r.g'.ro = h0.ro := st.ro.trans D.ro
          rw [hro] at hc2
          exact ObjOk.down (ρ := ρ.cut (hpN (tr.filter fun x => S x.j) h0.next bb)) (ρ2 := ρq) (fun b2 hb2 => qlow b2 (Nat.lt_of_lt_of_le hb2 (hpNle bb hb))) hc hc2
        | false => exact hc.other (st.frame pl.c hc.lt (notMine bb _ pl hg' hp hb))
      exact hdone.cutext (ρ' := ρ') pext
  · -- apart they stay
    have key : ∀ b1 b2 o1 o2 p1 p2, r.tc b1 = true → r.g'.get b1 = some o1 → r.tc b2 = false → hpV (tr.filter fun x => S x.j) h0 b2 = some o2 → ρ'.m b1 = some p1 → ρ'.m b2 = some p2 → p1.c = p2.c → b1 = b2 := by
      intro b1 b2 o1 o2 p1 p2 t1 g1 t2 g2 m1 m2 ec
      obtain ⟨hlt2, q2, hq2, hc2⟩ := I.heap b2 o2 g2
      rw [pext b2 q2 hq2] at m2
      cases m2
      have hl1 := st.rel.dom b1 o1 g1
      rw [pq b1 hl1] at m1
      cases hb2 : r.rd b2 with
      | true =>
        have hgg : r.g'.get b2 = some o2 := by rw [D.tc2 b2 t2, ← hpVeq b2 hb2]; exact g2
        have hbl : b2 < r.g.next := Nat.lt_of_lt_of_le hlt2 (hpNle b2 hb2)
        exact st.rel.inj b1 b2 o1 _ p1 p2 g1 hgg m1 (by rw [qlow b2 hbl]; exact hq2) ec
      | false =>
        by_cases hw : h0.ro ≤ b1
        · have hM : Mine ρq r.g' p1.c := ⟨b1, o1, p1, g1, by rw [st.ro, D.ro]; exact hw, m1, rfl⟩
          have hlt : p1.c < w.heap.size := by rw [ec]; exact hc2.lt
          have := st.img p1.c hlt hM
          rw [ec] at this
          exact absurd this (notMine b2 _ p2 g2 hq2 hb2)
        · have hb1 : b1 < r.g.next := by have := D.n0; omega
          have hne := D.tc3 b1 o1 t1 hb1 g1
          obtain ⟨o1', ho1'⟩ : ∃ o, r.g.get b1 = some o := by cases hh : r.g.get b1 with | none => exact absurd hh hne | some o => exact ⟨o, rfl⟩
          rw [qlow b1 hb1] at m1
          exact I.inj b1 b2 o1' _ p1 p2 (galive b1 o1' ho1').2 g2 m1 hq2 ec
    intro b1 b2 o1 o2 p1 p2 g1 g2 m1 m2 ec
    rcases cases' b1 o1 g1 with ⟨t1, k1⟩ | ⟨t1, k1⟩ <;> rcases cases' b2 o2 g2 with ⟨t2, k2⟩ | ⟨t2, k2⟩
    · have l1 := st.rel.dom b1 o1 k1
      have l2 := st.rel.dom b2 o2 k2
      rw [pq b1 l1] at m1; rw [pq b2 l2] at m2
      exact st.rel.inj b1 b2 o1 o2 p1 p2 k1 k2 m1 m2 ec
    · exact key b1 b2 o1 o2 p1 p2 t1 k1 t2 k2 m1 m2 ec
    · exact (key b2 b1 o2 o1 p2 p1 t2 k2 t1 k1 m2 m1 ec.symm).symm
    · obtain ⟨_, q1, hq1, _⟩ := I.heap b1 o1 k1
      obtain ⟨_, q2, hq2, _⟩ := I.heap b2 o2 k2
      rw [pext b1 q1 hq1] at m1; rw [pext b2 q2 hq2] at m2
      cases m1; cases m2
      exact I.inj b1 b2 _ _ p1 p2 k1 k2 hq1 hq2 ec
  · -- what is not laid yet
    intro x hx hS bb h1 h2
    simp only [addS, Bool.or_eq_false_iff, decide_eq_false_iff_not] at hS
    have h3 := I.fresh x hx hS.1 bb h1 h2
    have hne : x ≠ r := fun h => hS.2 (by rw [h])
    have hdis : ¬ (r.g.next ≤ bb ∧ bb < r.g'.next) := by
      rw [e] at hx
      rcases List.mem_append.1 hx with hxA | hxB
      · have := D.nA x hxA; omega
      · rcases List.mem_cons.1 hxB with hxr | hxB
        · exact absurd hxr hne
        · obtain ⟨B1, B2, rfl⟩ := List.append_of_mem hxB
          have := (V.told (A ++ r :: B1) x B2 (by simp [e])).nA r (by simp)
          omega
    rw [show ρ'.m bb = ρ.m bb from if_neg hdis]
    exact h3
  · intro c hc hn
    rw [st.frame c (Nat.lt_of_lt_of_le hc I.wsize) (by
      rintro ⟨b1, o1, p1, g1, hro1, m1, rfl⟩
      exact hn (I.img b1 o1 p1 (galive b1 o1 g1).2 (by rw [← D.ro]; exact hro1) m1 hc))]
    exact I.frame c hc hn
  · intro bb o pl hg hro hm hc
    rcases cases' bb o hg with ⟨ht, hg'⟩ | ⟨ht, hg'⟩
    · rw [pq bb (st.rel.dom bb o hg')] at hm
      obtain ⟨b1, o1, p1, g1, hro1, m1, e1⟩ := st.img pl.c (Nat.lt_of_lt_of_le hc I.wsize) ⟨bb, o, pl, hg', by rw [st.ro, D.ro]; exact hro, hm, rfl⟩
      rw [← e1]
      exact I.img b1 o1 p1 (galive b1 o1 g1).2 (by rw [← D.ro]; exact hro1) m1 (by rw [e1]; exact hc)
    · obtain ⟨_, q, hq, _⟩ := I.heap bb o hg'
      rw [pext bb q hq] at hm
      cases hm
      exact I.img bb _ pl hg' hro hq hc
end

end
end Go.Ai
set_option linter.unusedVariables false
namespace Go.Ai
noncomputable section
variable {P : Program}

section
variable {ops : Array Oper} {s0 : Env} {h0 : AHeap} {tr : List DRec}
theorem ready_mem {listed : Array Bool} {i : Nat} (h : i ∈ Region.ready .any ops listed) : i < ops.size ∧ listed.getD i true = false ∧ ∀ o, ops[i]? = some o → ∀ e, e ∈ o.after → Region.binds .any e = true → listed.getD e.on false = true := by
  simp only [Region.ready, List.mem_filter, List.mem_range, Bool.and_eq_true, Bool.not_eq_true'] at h
  refine ⟨h.1, h.2.1, fun o ho e he hb => ?_⟩
  have := h.2.2
  rw [ho] at this
  simp only [Option.map_some, Option.getD_some, Array.all_eq_true_iff_forall_mem, Bool.or_eq_true, Bool.not_eq_true'] at this
  rcases this e he with h1 | h1
  · rw [hb] at h1; cases h1
  · exact h1
theorem ready_of {listed : Array Bool} {i : Nat} (hi : i < ops.size) (hl : listed.getD i true = false) (h : ∀ o, ops[i]? = some o → ∀ e, e ∈ o.after → Region.binds .any e = true → listed.getD e.on false = true) : i ∈ Region.ready .any ops listed := by
  simp only [Region.ready, List.mem_filter, List.mem_range, Bool.and_eq_true, Bool.not_eq_true']
  refine ⟨hi, hl, ?_⟩
  rw [Array.getElem?_eq_getElem hi]
  simp only [Option.map_some, Option.getD_some, Array.all_eq_true_iff_forall_mem, Bool.or_eq_true, Bool.not_eq_true']
  intro e he
  cases hb : Region.binds .any e with
  | false => exact .inl rfl
  | true => exact .inr (h _ (Array.getElem?_eq_getElem hi) e he hb)

theorem draw_go (hro0 : h0.ro ≤ h0.next) (V : Valid P ops s0 h0 tr) {N : Nat} (hN : ∀ x, x ∈ tr → x.g'.next ≤ N) {ρ0 : Ren} {w0 : World} (ds : List Deferred) (b : Frame) (k : List Item) (cs : List Frame) :
    ∀ (fuel t : Nat) (listed : Array Bool) (ρ : Ren) (w : World) (tm : Array Value), listed.size = ops.size → ((List.range ops.size).filter fun i => !listed.getD i false).length ≤ fuel →
      (∀ i j, Prec ops i j → listed.getD j false = true → listed.getD i false = true) → DInv P tr s0 h0 N ρ0 w0 (fun j => listed.getD j false) ρ w tm →
      ∃ S ρ' w' tm', (∀ r, r ∈ tr → S r.j = true) ∧ DInv P tr s0 h0 N ρ0 w0 S ρ' w' tm' ∧
        Steps P (lone (fat b tm ds (.inRegion ops (Region.linearise.go .any ops fuel t listed []) :: k)) cs w) (lone (fat b tm' ds (.inRegion ops [] :: k)) cs w') := by
  intro fuel
  induction fuel with
  | zero =>
    intro t listed ρ w tm hsz hcount hdown I
    refine ⟨_, ρ, w, tm, ?_, I, .refl P _⟩
    intro r hr
    have hnil := List.eq_nil_of_length_eq_zero (Nat.le_zero.1 hcount)
    obtain ⟨A, B, e⟩ := List.append_of_mem hr
    have hop := (V.told A r B e).op
    have hlt : r.j < ops.size := by
      rcases Nat.lt_or_ge r.j ops.size with h | h
      · exact h
      · rw [Array.getElem?_eq_none h] at hop; cases hop
    cases hl : listed.getD r.j false with
    | true => rfl
    | false =>
      have : r.j ∈ (List.range ops.size).filter fun i => !listed.getD i false := List.mem_filter.2 ⟨List.mem_range.2 hlt, by rw [hl]; rfl⟩
      rw [hnil] at this; cases this
  | succ fuel ih =>
    intro t listed ρ w tm hsz hcount hdown I
    simp only [Region.linearise.go]
    change ∃ S ρ' w' tm', (∀ r, r ∈ tr → S r.j = true) ∧ DInv P tr s0 h0 N ρ0 w0 S ρ' w' tm' ∧ Steps P (lone (fat b tm ds (.inRegion ops (match (Region.ready .any ops listed)[t % (Region.ready .any ops listed).length]? with
      | some i => Region.linearise.go .any ops fuel (t / (Region.ready .any ops listed).length) (listed.setIfInBounds i true) [i]
      | none => [].reverse) :: k)) cs w) _
    have getTF : ∀ i, i < ops.size → listed.getD i true = listed.getD i false := by
      intro i hi
      simp [Array.getD_eq_getD_getElem?, Array.getElem?_eq_getElem (hsz ▸ hi)]
    by_cases hall : ∀ r, r ∈ tr → listed.getD r.j false = true
    · -- nothing is left
      have hnone : Region.ready .any ops listed = [] := by
        rw [List.eq_nil_iff_forall_not_mem]
        intro i hi
        obtain ⟨h1, h2, _⟩ := ready_mem hi
        obtain ⟨r, hr, hrj⟩ := V.all i h1
        have := hall r hr
        rw [hrj, ← getTF i h1, h2] at this
        cases this
      rw [hnone]
      exact ⟨_, ρ, w, tm, hall, I, .refl P _⟩
    · -- the first that is told and has not come is ready
      have hex : ∃ i, i ∈ Region.ready .any ops listed := by
        have : ∃ A r B, tr = A ++ r :: B ∧ listed.getD r.j false = false ∧ ∀ x, x ∈ A → listed.getD x.j false = true := by
          clear ih I hN V
          induction tr with
          | nil => exact absurd (fun r hr => by cases hr) hall
          | cons x tr iht =>
            cases hx : listed.getD x.j false with
            | false => exact ⟨[], x, tr, rfl, hx, fun y hy => by cases hy⟩
            | true =>
              obtain ⟨A, r, B, e, h1, h2⟩ := iht (fun h => hall (fun r hr => by rcases List.mem_cons.1 hr with rfl | hr; exact hx; exact h r hr))
              exact ⟨x :: A, r, B, by rw [e]; rfl, h1, fun y hy => by rcases List.mem_cons.1 hy with rfl | hy; exact hx; exact h2 y hy⟩
        obtain ⟨A, r, B, e, h1, h2⟩ := this
        have hop := (V.told A r B e).op
        have hlt : r.j < ops.size := by
          rcases Nat.lt_or_ge r.j ops.size with h | h
          · exact h
          · rw [Array.getElem?_eq_none h] at hop; cases hop
        refine ⟨r.j, ready_of hlt (by rw [getTF _ hlt]; exact h1) (fun o ho ed hed hb => ?_)⟩
        rw [hop] at ho
        cases ho
        obtain ⟨x, hx, hxe⟩ := V.edges A r B e ed hed hb
        rw [← hxe]; exact h2 x hx
      cases hi : (Region.ready .any ops listed)[t % (Region.ready .any ops listed).length]? with
      | none =>
        obtain ⟨i, hmem⟩ := hex
        have hpos : 0 < (Region.ready .any ops listed).length := List.length_pos_of_mem hmem
        rw [List.getElem?_eq_getElem (Nat.mod_lt _ hpos)] at hi
        cases hi
      | some i =>
        simp only []
        rw [linearise_go_acc, List.reverse_singleton, List.singleton_append]
        obtain ⟨hlt, hl, hed⟩ := ready_mem (List.mem_of_getElem? hi)
        obtain ⟨r, hr, hrj⟩ := V.all i hlt
        obtain ⟨A, B, e⟩ := List.append_of_mem hr
        subst hrj
        have hop := (V.told A r B e).op
        have hready : ∀ q, Prec ops q r.j → listed.getD q false = true := by
          intro q hq
          cases hq with
          | one ho he hb => exact hed _ ho _ he hb
          | more ho he hb hp => exact hdown _ _ hp (hed _ ho _ he hb)
        have hnot : listed.getD r.j false = false := by rw [← getTF _ hlt]; exact hl
        obtain ⟨ρ1, w1, tm1, I1, sx⟩ := draw_step hro0 V hdown e hready hnot hN I ds (Region.linearise.go .any ops fuel (t / (Region.ready .any ops listed).length) (listed.setIfInBounds r.j true) []) b k cs
        have hadd : (fun j => (listed.setIfInBounds r.j true).getD j false) = addS (fun j => listed.getD j false) r.j := by
          funext j
          simp only [addS, Array.getD_eq_getD_getElem?, Array.getElem?_setIfInBounds]
          by_cases ej : r.j = j
          · subst ej
            rw [if_pos rfl, if_pos (by omega)]; simp
          · rw [if_neg ej]
            have : decide (j = r.j) = false := decide_eq_false (fun h => ej h.symm)
            rw [this, Bool.or_false]
        rw [← hadd] at I1
        have hcnt : ((List.range ops.size).filter fun i => !(listed.setIfInBounds r.j true).getD i false).length ≤ fuel := by
          have hmem : r.j ∈ (List.range ops.size).filter fun i => !listed.getD i false := List.mem_filter.2 ⟨List.mem_range.2 hlt, by rw [hnot]; rfl⟩
          have hsub : (List.range ops.size).filter (fun i => !(listed.setIfInBounds r.j true).getD i false) = ((List.range ops.size).filter fun i => !listed.getD i false).filter (fun i => decide (i ≠ r.j)) := by
            rw [List.filter_filter]
            apply List.filter_congr
            intro i _
            have := congrFun hadd i
            simp only [addS] at this
            rw [this]
            by_cases ei : i = r.j <;> simp [ei]
          rw [hsub]
          have hlen : ∀ (l : List Nat), r.j ∈ l → (l.filter fun i => decide (i ≠ r.j)).length < l.length := by
            intro l hl
            apply List.length_filter_lt_length_iff_exists.2
            exact ⟨r.j, hl, by simp⟩
          have := hlen _ hmem
          omega
        have hdn : ∀ q j, Prec ops q j → (listed.setIfInBounds r.j true).getD j false = true → (listed.setIfInBounds r.j true).getD q false = true := by
          intro q j hq hj
          have h1 := congrFun hadd j
          have h2 := congrFun hadd q
          rw [h1] at hj
          rw [h2]
          simp only [addS, Bool.or_eq_true, decide_eq_true_eq] at hj ⊢
          rcases hj with hj | rfl
          · exact .inl (hdown q j hq hj)
          · exact .inl (hready q hq)
        obtain ⟨S, ρ2, w2, tm2, hS, I2, sx2⟩ := ih (t / (Region.ready .any ops listed).length) (listed.setIfInBounds r.j true) ρ1 w1 tm1 (by simpa using hsz) hcnt hdn I1
        exact ⟨S, ρ2, w2, tm2, hS, I2, sx.trans sx2⟩

/-- The frame and the heap behind the order that is told. -/
theorem T_regionDraw (hmix : P.follows .mixedOrders = true) {id : Nat} {rd : Option Nat} {Q : Ex → Env → AHeap → Prop} (V : Valid P ops s0 h0 tr) {sf : Env} {hf : AHeap} (hs : ∀ t, sf.get t = envV tr s0 t) (hsz : sf.size = s0.size)
    (hh : ∀ b, hf.get b = hpV tr h0 b) (hro : hf.ro = h0.ro) (hn : h0.next ≤ hf.next) (hN : ∀ x, x ∈ tr → x.g'.next ≤ hf.next) (hq : Q .normal sf hf) : T P rd (.region id ops true) s0 h0 Q := by
  intro ρ w tm ds hr hse b hb k cs
  let w1 : World := { w with drawn := w.drawn + 1 }
  let ρ1 : Ren := { next := hf.next, m := fun bb => if bb < h0.next then ρ.m bb else none }
  have hm1 : ∀ bb pl, bb < ρ.next → ρ.m bb = some pl → ρ1.m bb = some pl := fun bb pl hb hm => by
    rw [show ρ1.m bb = ρ.m bb from if_pos (by rw [← hr.next]; exact hb)]; exact hm
  have hnil : tr.filter (fun r => (Array.replicate ops.size false).getD r.j false) = [] := by
    rw [List.filter_eq_nil_iff]
    intro r _ h
    simp only [Array.getD_eq_getD_getElem?, Array.getElem?_replicate] at h
    split at h <;> simp at h
  have I : DInv P tr s0 h0 hf.next ρ w (fun j => (Array.replicate ops.size false).getD j false) ρ1 w1 tm := by
    refine ⟨rfl, fun bb hb => if_pos hb, hse.size, ?_, ?_, ?_, ?_, rfl, rfl, rfl, Nat.le_refl _, fun _ _ _ => rfl, ?_, hr.gro, fun bb pl hb hm => hr.glob bb pl hb (by
      rw [show ρ1.m bb = ρ.m bb from if_pos (Nat.lt_of_lt_of_le hb (Nat.le_trans hr.gro hr.ro))] at hm; exact hm)⟩
    · intro t
      rw [hnil]
      exact (hse.get t).ext (ρ' := ρ1.cut h0.next) (by rw [hr.next]; exact Nat.le_refl _) hm1
    · intro bb o hg
      rw [hnil] at hg ⊢
      have hb := hr.dom bb _ hg
      obtain ⟨pl, hp, hc⟩ := hr.ok bb o hg
      refine ⟨hb, pl, hm1 bb pl (by rw [hr.next]; exact hb) hp, ?_⟩
      exact ObjOk.other (ObjOk.ext (ρ := ρ) (ρ' := ρ1.cut h0.next) (by rw [hr.next]; exact Nat.le_refl _) hm1 hc) rfl
    · intro b1 b2 o1 o2 p1 p2 g1 g2 m1 m2 e
      rw [hnil] at g1 g2
      have l1 := hr.dom b1 o1 g1
      have l2 := hr.dom b2 o2 g2
      rw [show ρ1.m b1 = ρ.m b1 from if_pos l1] at m1
      rw [show ρ1.m b2 = ρ.m b2 from if_pos l2] at m2
      exact hr.inj b1 b2 o1 o2 p1 p2 g1 g2 m1 m2 e
    · intro x hx _ bb h1 h2
      obtain ⟨A, B, e⟩ := List.append_of_mem hx
      have := (V.told A x B e).n0
      exact if_neg (by omega)
    · intro bb o pl hg hro' hm hc
      rw [hnil] at hg
      have l := hr.dom bb o hg
      rw [show ρ1.m bb = ρ.m bb from if_pos l] at hm
      exact ⟨bb, o, pl, hg, hro', hm, rfl⟩
  have hcount : ((List.range ops.size).filter fun i => !(Array.replicate ops.size false).getD i false).length ≤ ops.size := by
    have := List.length_filter_le (fun i => !(Array.replicate ops.size false).getD i false) (List.range ops.size)
    simpa using this
  obtain ⟨S, ρ2, w2, tm2, hS, I2, sx⟩ := draw_go hr.ro V hN ds b k cs ops.size (w.tape w.drawn (.order b.fn id)) (Array.replicate ops.size false) ρ1 w1 tm (by simp) hcount (fun i j _ hj => by
    simp only [Array.getD_eq_getD_getElem?, Array.getElem?_replicate] at hj
    split at hj <;> simp at hj) I
  have hfull : tr.filter (fun r => S r.j) = tr := List.filter_eq_self.2 hS
  have lastn : ∀ (p : DRec → Bool) x, lastR tr p = some x → x.g'.next ≤ hf.next := fun p x hx => hN x (lastR_mem hx).1
  have hcut : ρ2 = ρ2.cut hf.next := by have := I2.next; cases ρ2; simp only at this; subst this; rfl
  have hrel : Rel P ρ2 hf w2 := by
    refine ⟨I2.next, by rw [hro]; exact Nat.le_trans hr.ro hn, ?_, ?_, ?_, by rw [hro]; exact hr.gro, I2.gl⟩
    · intro bb o hg
      rw [hh] at hg
      have := (I2.heap bb o (by rw [hfull]; exact hg)).1
      rw [hfull] at this
      refine Nat.lt_of_lt_of_le this ?_
      simp only [hpN]
      split
      · rename_i x hx; exact lastn _ x hx
      · exact hn
    · intro bb o hg
      rw [hh] at hg
      obtain ⟨_, pl, hp, hc⟩ := I2.heap bb o (by rw [hfull]; exact hg)
      refine ⟨pl, hp, ?_⟩
      rw [hro]
      rw [hfull] at hc
      rw [hcut]
      refine ObjOk.cutup ?_ hc
      simp only [hpN]
      split
      · rename_i x hx; exact lastn _ x hx
      · exact hn
    · intro b1 b2 o1 o2 p1 p2 g1 g2
      rw [hh] at g1 g2
      exact I2.inj b1 b2 o1 o2 p1 p2 (by rw [hfull]; exact g1) (by rw [hfull]; exact g2)
  refine ⟨.normal, sf, hf, ρ2, w2, tm2, ds, hq, ⟨⟨by rw [I2.next, hr.next]; exact hn, fun bb hb => I2.old bb (by rw [← hr.next]; exact hb)⟩, hrel, hro, I2.os, I2.tape, I2.output, I2.wsize, I2.frame, ?_⟩, ⟨hsz.trans I2.size, fun t => ?_⟩, .refl _ _ _, ?_⟩
  · rintro c hc ⟨bb, o, pl, hg, hrb, hm, rfl⟩
    rw [hh] at hg
    exact I2.img bb o pl (by rw [hfull]; exact hg) (by rw [← hro]; exact hrb) hm hc
  · have := I2.env t
    rw [hfull] at this
    rw [hs t]
    rw [hcut]
    refine VRel.cutup ?_ this
    simp only [envN]
    split
    · rename_i x hx; exact lastn _ x hx
    · exact hn
  · refine .head fstep_region_draw ?_
    have : Region.schedule (P.follows .mixedOrders) ops (w.tape w.drawn (.order b.fn id)) = Region.linearise .any ops (w.tape w.drawn (.order b.fn id)) := by
      simp only [Region.schedule, hmix, Bool.true_or, if_true]
    rw [this]
    exact sx.trans (.one fstep_region_end)
end

end
end Go.Ai
set_option linter.unusedVariables false
namespace Go.Ai
noncomputable section

inductive Task where
  | code (rd : Option Nat) (c : Code) (s : Env)
  | call (f : FuncId) (args : List Value)
inductive Out where
  | ex (e : Ex) (s : Env)
  | val (v : Value)
abbrev Runs := Task → AHeap → Option (Out × AHeap)

/-- The blocks of another heap that are new there. -/
def graft (h h2 : AHeap) : AHeap := @AHeap.rec (fun _ => AHeap) (fun t n r => @AHeap.rec (fun _ => AHeap) (fun t2 n2 _ => ⟨(List.range' n (n2 - n)).foldl (fun t b => t.set b (t2.get b)) t, n2, r⟩) h2) h
/-- A call by the function's kind: 1: any; 2: it writes nothing that was there, and its answer names no block; 3: it writes nothing that was there. -/
def callF (cls : List Nat) (rec : Runs) (g : FuncId) (args : List Value) (h : AHeap) : Option (Value × AHeap) :=
  match cls.getD g 0 with
  | 1 => (match rec (.call g args) h with
    | some (.val v, h') => some (v, h')
    | _ => none)
  | 2 => (match rec (.call g args) h.lock with
    | some (.val v, _) => cond (scal v) (some (v, h)) none
    | _ => none)
  | 3 => (match rec (.call g args) h.lock with
    | some (.val v, h2) => some (v, graft h h2)
    | _ => none)
  | _ => none
def isNorm : Ex → Bool
  | .normal => true
  | _ => false
def isReady : LoopState → Bool
  | .ready => true
  | _ => false
def notBusy : LoopState → Bool
  | .busy => false
  | _ => true
/-- A round of a loop over a function. -/
def roundF (rec : Runs) (L : Nat) (args : List Value) (h : AHeap) : Option (Value × AHeap) :=
  match h.get L with
  | some (.loop A) => (match roundEnv A.params.toList args A.s with
    | some s0 => (match rec (.code (some L) A.assign s0) h with
      | some (.ex .normal s1, h1) => (match h1.get L with
        | some (.loop A1) => cond (isReady A1.state && Nat.ble h1.ro L)
            (match rec (.code (some L) A.body s1) (h1.set L (some (.loop { A1 with state := .busy }))) with
              | some (.ex e _, h2) => (match h2.get L with
                | some (.loop A2) => cond (Nat.ble h2.ro L) (some (.bool (isNorm e), h2.set L (some (.loop (A2.left e))))) none
                | _ => none)
              | _ => none) none
        | _ => none)
      | _ => none)
    | none => none)
  | _ => none
def exOf : Option Code → Option Ex
  | none => some .normal
  | some .ret => some .ret
  | some (.exit id) => some (.exit id)
  | _ => none
/-- A loop over a function. -/
def rangeF (cls : List Nat) (rec : Runs) (rd : Option Nat) (f : Option Value) (params : Array Tmp) (as bd : Code) (s : Env) (h : AHeap) : Option (Ex × AHeap) :=
  match f with
  | some (.func (.func g) fa fc) => cond (Nat.beq (cls.getD g 0) 1 && (match rd with
      | none => true
      | some L0 => (match h.get L0 with
        | some (.loop _) => true
        | _ => false)))
      (match rec (.call g (fa.toList ++ [.func (.yield h.next) #[] #[]] ++ fc.toList)) (h.push (.loop { state := .ready, pending := none, s := s, params := params, assign := as, body := bd })) with
        | some (.val _, h1) => (match h1.get h.next with
          | some (.loop A) => cond (notBusy A.state && Nat.ble h1.ro h.next)
              (match exOf A.pending with
                | some e => some (e, h1.set h.next none)
                | none => none) none
          | _ => none)
        | _ => none) none
  | _ => none
def evalOp (P : Program) (cls : List Nat) (rec : Runs) (s : Env) (o : Oper) (h : AHeap) : Option (Value × AHeap) :=
  match o.op with
  | .call { callee := .value f, args, argTypes } => (match aev s f, aevs s args.toList with
    | some (.func (.func g) fa fc), some vs => cond (Nat.beq (cls.getD g 0) 0) (aext P g (fa.toList ++ vs ++ fc.toList) h) (callF cls rec g (fa.toList ++ vs ++ fc.toList) h)
    | some (.func (.yield L) fa fc), some vs => cond (Nat.beq fa.size 0 && Nat.beq fc.size 0) (roundF rec L vs h) none
    | _, _ => none)
  | _ => aop P s o h

/-! ### A region in its order -/
def runOps (P : Program) (cls : List Nat) (rec : Runs) (ops : Array Oper) : List Oper → Env → AHeap → Option (Env × AHeap)
  | [], s, h => some (s, h)
  | o :: os, s, h =>
    cond (awanted ops s o)
      (match evalOp P cls rec s o h with
        | some (v, h1) => (match s.put o.dst v with
          | some s1 => runOps P cls rec ops os s1 h1
          | none => none)
        | none => none)
      (match s.put o.dst undef with
        | some s1 => runOps P cls rec ops os s1 h
        | none => none)

/-! ### A region that draws its order -/
/-- What is kept of an operation: DRec, the blocks that it touches as a list ('all': more than the list tells), and the blocks that it looks at as a list (if 'ex'). -/
structure FRec where
  r : DRec
  tcl : List Nat
  all : Bool
  light : Bool
  rdl : List Nat
  ex : Bool
def maskOf (ms : List Nat) (o : Oper) : Nat := o.after.toList.foldl (fun m e => cond (Region.binds .any e) (m ||| (1 <<< e.on) ||| ms.getD e.on 0) m) 0
/-- The slots that an operation looks at. -/
def looksOf (ops : Array Oper) (o : Oper) : List Nat := o.looksAt ops
/-- Two operations that write no slot that the other looks at or writes. -/
def slotsFree (ops : Array Oper) (x y : Oper) : Bool :=
  (match x.dst with
    | none => true
    | some d => !(y.looksAt ops).contains d && !(decide (y.dst = some d))) &&
  (match y.dst with
    | none => true
    | some d => !(x.looksAt ops).contains d)
def heapFree (x y : FRec) : Bool :=
  cond x.all (y.light || (y.ex && !y.all && y.rdl.all (fun b => !x.r.tc b) && y.tcl.all (fun b => !x.r.tc b))) (x.tcl.all fun b => !y.r.rd b && !y.r.tc b) &&
  cond y.all (x.light || (x.ex && x.rdl.all fun b => !y.r.tc b)) (y.tcl.all fun b => !x.r.rd b)
/-- What is asked of a region's text alone: its edges lead back; what no edge orders shares no slot. -/
def statGo (ops : Array Oper) : List Oper → Nat → List Nat → List (Nat × Oper) → Bool
  | [], _, _, _ => true
  | o :: os, i, ms, prev =>
    (o.after.toList.all fun e => !(Region.binds .any e) || Nat.blt e.on i) && (prev.all fun x => (maskOf ms o).testBit x.1 || slotsFree ops x.2 o) && statGo ops os (i + 1) (ms ++ [maskOf ms o]) ((i, o) :: prev)
/-- The blocks that a value names by itself. -/
def blkOf : Value → List Nat
  | .pointer (some a) => [a.block]
  | .slice (some a) _ _ => [a.block]
  | .map (some b) => [b]
  | _ => []
def needsHeap : Op → Bool
  | .call { callee := .builtin .cap, .. } | .call { callee := .builtin .min, .. } | .call { callee := .builtin .max, .. } | .call { callee := .builtin .unsafeSliceData, .. } => false
  | .move _ | .assign _ | .pick _ _ _ | .alloc _ | .box _ _ | .build _ _ | .nilCheck _ | .binOp _ _ _ _ _ | .unOp _ _ _ | .makeInterface _ _ | .makeFunc _ _ _ | .fieldAddr _ _ _ | .field _ _ _ | .indexAddr _ _ _ | .index _ _ _ | .extract _ _ => false
  | _ => true
/-- A block, and the map that it is an iterator over. -/
def behindIter (h : AHeap) (b : Nat) : List Nat :=
  match h.get b with
  | some (.iter (some m) _ _ _) => [b, m]
  | _ => [b]
def opBlks (s : Env) (o : Oper) (h : AHeap) : List Nat := cond (needsHeap o.op) ((o.op.operands.toList.flatMap fun x => (match aev s x with | some v => blkOf v | none => [])).flatMap (behindIter h)) []
/-- Some blocks of a heap alone. -/
def AHeap.pick (h : AHeap) (l : List Nat) : AHeap := @AHeap.rec (fun _ => AHeap) (fun t0 n r => ⟨l.foldl (fun t b => t.set b (t0.get b)) .e, n, r⟩) h
/-- A heap without some blocks. -/
def AHeap.hide (h : AHeap) (l : List Nat) : AHeap := @AHeap.rec (fun _ => AHeap) (fun t0 n r => ⟨l.foldl (fun t b => t.set b none) t0, n, r⟩) h
/-- One heap's blocks, where a list names them, put into another. -/
def AHeap.mend (h g : AHeap) (l : List Nat) : AHeap := @AHeap.rec (fun _ => AHeap) (fun t0 _ r => @AHeap.rec (fun _ => AHeap) (fun t1 n _ => ⟨l.foldl (fun t b => t.set b (t1.get b)) t0, n, r⟩) g) h
/-- A heap with blocks of another one put back. -/
def AHeap.unhide (h' h : AHeap) (l : List Nat) : AHeap := @AHeap.rec (fun _ => AHeap) (fun t0 n r => ⟨l.foldl (fun t b => t.set b (h.get b)) t0, n, r⟩) h'
/-- The blocks that later operations name, those aside that come behind in every order. -/
def aheadOf (s : Env) (dsts : List Nat) : List Oper → Nat → Nat → List Nat
  | [], _, _ => []
  | o :: os, j, desc => cond (o.after.toList.any fun e => Region.binds .any e && desc.testBit e.on)
      (aheadOf s dsts os (j + 1) (desc ||| (1 <<< j)))
      ((cond (needsHeap o.op) (o.op.operands.toList.flatMap fun x => (match x with
        | .tmp t => cond (dsts.contains t) [] (blkOf (s.get t))
        | _ => [])) []) ++ aheadOf s dsts os (j + 1) desc)
def quietB : Builtin → Bool
  | .len | .cap | .min | .max | .unsafeSliceData => true
  | _ => false
def isWrite : Op → Bool
  | .call { callee := .builtin b, .. } => !quietB b
  | .store _ _ _ => true
  | .mapUpdate _ _ _ _ => true
  | .next _ _ => true
  | .call _ => true
  | _ => false
/-- The operation, with what it may look at and what it touches, and the heap behind it. -/
def drawOp (P : Program) (cls : List Nat) (rec : Runs) (ops : Array Oper) (recs : List FRec) (mask i : Nat) (os : List Oper) (o : Oper) (s : Env) (h : AHeap) : Option (FRec × AHeap) :=
  cond (awanted ops s o)
    (match o.op with
      | .call { callee := .value f, args, argTypes } => (match aev s f, aevs s args.toList with
        | some (.func (.func g) fa fc), some vs =>
          (match cls.getD g 0 with
            | 1 =>
              let hid := ((recs.flatMap fun x => cond (mask.testBit x.r.j) [] (x.tcl ++ x.rdl)) ++ aheadOf s ((o :: os).filterMap (·.dst)) os (i + 1) (1 <<< i)).filter fun b => Nat.blt b h.next
              (match rec (.call g (fa.toList ++ vs ++ fc.toList)) (h.hide hid) with
                | some (.val v, h') => some (⟨⟨i, o, v, s, h.hide hid, h', fun b => Nat.blt b h.next && !hid.contains b, fun b => Nat.blt b h'.next && !hid.contains b⟩, [], true, false, [], false⟩, h'.unhide h hid)
                | _ => none)
            | 2 =>
              let hid := recs.flatMap fun x => cond (mask.testBit x.r.j) [] x.tcl
              (match rec (.call g (fa.toList ++ vs ++ fc.toList)) (h.hide hid).lock with
                | some (.val v, _) => cond (scal v) (some (⟨⟨i, o, v, s, h.hide hid, h.hide hid, fun b => Nat.blt b h.next && !hid.contains b, fun _ => false⟩, [], false, false, [], false⟩, h)) none
                | _ => none)
            | 3 =>
              let hid := recs.flatMap fun x => cond (mask.testBit x.r.j) [] x.tcl
              (match rec (.call g (fa.toList ++ vs ++ fc.toList)) (h.hide hid).lock with
                | some (.val v, h2) =>
                  let new := List.range' h.next (h2.next - h.next)
                  some (⟨⟨i, o, v, s, h.hide hid, graft (h.hide hid) h2, fun b => Nat.blt b h.next && !hid.contains b, fun b => new.contains b⟩, new, false, false, [], false⟩, graft h h2)
                | _ => none)
            | _ => (match aext P g (fa.toList ++ vs ++ fc.toList) (h.pick []) with
              | some (v, g') =>
                let new := List.range' h.next (g'.next - h.next)
                some (⟨⟨i, o, v, s, h.pick [], g', fun _ => false, fun b => new.contains b⟩, new, false, new.isEmpty, [], true⟩, h.mend g' new)
              | none => none))
        | _, _ => none)
      | _ =>
        let bs := opBlks s o h
        (match aop P s o (h.pick bs) with
          | some (v, g') =>
            let new := List.range' h.next (g'.next - h.next)
            let tcl := cond (isWrite o.op) (bs ++ new) new
            some (⟨⟨i, o, v, s, h.pick bs, g', fun b => bs.contains b, fun b => tcl.contains b⟩, tcl, false, bs.isEmpty && tcl.isEmpty, bs, true⟩, h.mend g' tcl)
          | none => none))
    (some (⟨⟨i, o, undef, s, h.pick [], h.pick [], fun _ => false, fun _ => false⟩, [], false, true, [], true⟩, h))
def drawGo (P : Program) (cls : List Nat) (rec : Runs) (ops : Array Oper) : List Oper → Nat → List Nat → List FRec → Env → AHeap → Option (Env × AHeap)
  | [], _, _, _, s, h => some (s, h)
  | o :: os, i, ms, recs, s, h =>
    (match drawOp P cls rec ops recs (maskOf ms o) i os o s h with
      | some (y, h1) => cond (y.light || recs.all fun x => heapFree x y || (maskOf ms o).testBit x.r.j)
          (match s.put o.dst y.r.v with
            | some s1 => drawGo P cls rec ops os (i + 1) (ms ++ [maskOf ms o]) (y :: recs) s1 h1
            | none => none) none
      | none => none)

/-! ### Code -/
def body (P : Program) (cls : List Nat) (rec : Runs) : Task → AHeap → Option (Out × AHeap)
  | .call f args, h => (match P.funcs[f]? with
    | none => none
    | some fn => (match fn.body with
      | none => none
      | some c => (match rec (.code none c (Env.enter args fn.ntmps)) h with
        | some (.ex .normal s1, h1) => (match aresults P s1 h1 fn.results.toList with
          | some vs => some (.val (aresult vs), h1)
          | none => none)
        | some (.ex .ret s1, h1) => (match aresults P s1 h1 fn.results.toList with
          | some vs => some (.val (aresult vs), h1)
          | none => none)
        | _ => none)))
  | .code rd c s, h => (match c with
    | .skip => some (.ex .normal s, h)
    | .label _ => some (.ex .normal s, h)
    | .exit id => some (.ex (.exit id) s, h)
    | .ret => some (.ex .ret s, h)
    | .seq a b => (match rec (.code rd a s) h with
      | some (.ex .normal s1, h1) => rec (.code rd b s1) h1
      | r => r)
    | .cond x a b => (match aev s x with
      | some (.bool true) => rec (.code rd a s) h
      | some (.bool false) => rec (.code rd b s) h
      | _ => none)
    | .block id a => (match rec (.code rd a s) h with
      | some (.ex (.exit id') s1, h1) => cond (Nat.beq id' id) (some (.ex .normal s1, h1)) (some (.ex (.exit id') s1, h1))
      | r => r)
    | .scope a => rec (.code rd a s) h
    | .loop a => (match rec (.code rd a s) h with
      | some (.ex .normal s1, h1) => rec (.code rd (.loop a) s1) h1
      | r => r)
    | .region _ ops draw => cond draw
        (cond (statGo ops ops.toList 0 [] []) (match drawGo P cls rec ops ops.toList 0 [] [] s h with
          | some (s1, h1) => some (.ex .normal s1, h1)
          | none => none) none)
        (match runOps P cls rec ops ops.toList s h with
          | some (s1, h1) => some (.ex .normal s1, h1)
          | none => none)
    | .rangeFunc f params as bd => (match rangeF cls rec rd (aev s f) params as bd s h with
      | some (e, h1) => some (.ex e s, h1)
      | none => none)
    | _ => none)
/-- The interpreter. -/
def run (P : Program) (cls : List Nat) (n : Nat) : Runs := Nat.rec (fun _ _ => none) (fun _ rec => body P cls rec) n
theorem run_zero (P : Program) (cls : List Nat) (t : Task) (h : AHeap) : run P cls 0 t h = none := rfl
theorem run_succ (P : Program) (cls : List Nat) (n : Nat) (t : Task) (h : AHeap) : run P cls (n + 1) t h = body P cls (run P cls n) t h := rfl

end
end Go.Ai
set_option linter.unusedVariables false
namespace Go.Ai
noncomputable section
variable {P : Program} {cls : List Nat}

/-! ### Heaps picked, hidden, mended -/
theorem foldl_set_get {α : Type} (f : Nat → Option α) (j : Nat) : ∀ (l : List Nat) (t : Tr α), (l.foldl (fun t b => t.set b (f b)) t).get j = if j ∈ l then f j else t.get j
  | [], t => by simp
  | b :: l, t => by
    rw [List.foldl_cons, foldl_set_get f j l, Tr.get_set]
    by_cases h : j ∈ l
    · simp [h]
    · by_cases e : j = b
      · subst e; simp [h]
      · simp [h, e]
theorem get_pick (h : AHeap) (l : List Nat) (b : Nat) : (h.pick l).get b = if b ∈ l then h.get b else none := by
  show (l.foldl (fun t b => t.set b (h.get b)) Tr.e).get b = _
  rw [foldl_set_get]; rfl
theorem get_hide (h : AHeap) (l : List Nat) (b : Nat) : (h.hide l).get b = if b ∈ l then none else h.get b := by
  show (l.foldl (fun t b => t.set b none) h.t).get b = _
  rw [foldl_set_get (fun _ => none)]; rfl
theorem get_mend (h g : AHeap) (l : List Nat) (b : Nat) : (h.mend g l).get b = if b ∈ l then g.get b else h.get b := by
  show (l.foldl (fun t b => t.set b (g.get b)) h.t).get b = _
  rw [foldl_set_get]; rfl
theorem get_unhide (h' h : AHeap) (l : List Nat) (b : Nat) : (h'.unhide h l).get b = if b ∈ l then h.get b else h'.get b := by
  show (l.foldl (fun t b => t.set b (h.get b)) h'.t).get b = _
  rw [foldl_set_get]; rfl
theorem mem_new {a c b : Nat} : b ∈ List.range' a (c - a) ↔ a ≤ b ∧ b < c := by
  rw [List.mem_range'_1]; omega
theorem get_graft (h h2 : AHeap) (b : Nat) : (graft h h2).get b = if h.next ≤ b ∧ b < h2.next then h2.get b else h.get b := by
  show ((List.range' h.next (h2.next - h.next)).foldl (fun t b => t.set b (h2.get b)) h.t).get b = _
  rw [foldl_set_get]
  by_cases hb : h.next ≤ b ∧ b < h2.next
  · rw [if_pos (mem_new.2 hb), if_pos hb]
  · rw [if_neg (fun hm => hb (mem_new.1 hm)), if_neg hb]; rfl

/-- A call that writes nothing of what there is: its new blocks are laid beside. -/
theorem TC.fresh {f : FuncId} {args : List Value} {h h2 : AHeap} {v : Value} (ht : TC P f args h.lock (fun v1 h1 => v1 = v ∧ h1 = h2)) : TC P f args h (fun v1 h1 => v1 = v ∧ h1 = graft h h2) := by
  intro ρ w cargs hr hv
  refine (ht ρ w cargs hr.lock hv).mono fun e w' => ?_
  rintro ⟨v1, v', h', ρ', e1, ⟨rfl, rfl⟩, st, hvv⟩
  have nomine : ∀ c, ¬ Mine ρ h.lock c := by
    rintro c ⟨b, o, pl, hg, hro, _⟩
    have h1 : h.next ≤ b := hro
    have h2 := hr.dom b o hg
    omega
  have hsame : ∀ c, c < w.heap.size → w'.heap[c]? = w.heap[c]? := fun c hc => st.frame c hc (nomine c)
  have hn : h.next ≤ h'.next := by have := st.le.1; rw [hr.next, st.rel.next] at this; exact this
  have hold : ∀ b, b < h.next → ρ'.m b = ρ.m b := fun b hb => st.le.2 b (by rw [hr.next]; exact hb)
  have cases' : ∀ b o, (graft h h').get b = some o → (h.next ≤ b ∧ b < h'.next ∧ h'.get b = some o) ∨ (b < h.next ∧ h.get b = some o) := by
    intro b o hg
    rw [get_graft] at hg
    split at hg
    · rename_i hb; exact .inl ⟨hb.1, hb.2, hg⟩
    · exact .inr ⟨hr.dom b o hg, hg⟩
  refine ⟨v1, v', graft h h', ρ', e1, ⟨rfl, rfl⟩, ⟨st.le, ⟨st.rel.next, Nat.le_trans hr.ro hn, ?_, ?_, ?_, hr.gro, st.rel.glob⟩, rfl, st.os, st.tape, st.output, st.size, fun c hc _ => hsame c hc, ?_⟩, hvv⟩
  · intro b o hg
    rcases cases' b o hg with ⟨_, h2, _⟩ | ⟨h1, _⟩
    · exact h2
    · exact Nat.lt_of_lt_of_le h1 hn
  · intro b o hg
    rcases cases' b _ hg with ⟨h1, h2, h3⟩ | ⟨h1, h3⟩
    · obtain ⟨pl, hp, hc⟩ := st.rel.ok b o h3
      refine ⟨pl, hp, hc.weak (fun _ => ?_)⟩
      rw [st.ro]; exact decide_eq_true h1
    · obtain ⟨pl, hp, hc⟩ := hr.ok b o h3
      exact ⟨pl, (hold b h1).trans hp, (hc.mono st.le).other (hsame _ hc.lt)⟩
  · have key : ∀ b1 b2 o1 o2 p1 p2, h.next ≤ b1 → h'.get b1 = some o1 → b2 < h.next → h.get b2 = some o2 → ρ'.m b1 = some p1 → ρ'.m b2 = some p2 → p1.c = p2.c → False := by
      intro b1 b2 o1 o2 p1 p2 l1 g1 l2 g2 m1 m2 ec
      obtain ⟨pl, hp, hc⟩ := hr.ok b2 o2 g2
      rw [hold b2 l2, hp] at m2
      cases m2
      have := st.img p1.c (by rw [ec]; exact hc.lt) ⟨b1, o1, p1, g1, by rw [st.ro]; exact l1, m1, rfl⟩
      exact nomine _ this
    intro b1 b2 o1 o2 p1 p2 g1 g2 m1 m2 ec
    rcases cases' b1 o1 g1 with ⟨l1, _, k1⟩ | ⟨l1, k1⟩ <;> rcases cases' b2 o2 g2 with ⟨l2, _, k2⟩ | ⟨l2, k2⟩
    · exact st.rel.inj b1 b2 o1 o2 p1 p2 k1 k2 m1 m2 ec
    · exact (key b1 b2 o1 o2 p1 p2 l1 k1 l2 k2 m1 m2 ec).elim
    · exact (key b2 b1 o2 o1 p2 p1 l2 k2 l1 k1 m2 m1 ec.symm).elim
    · rw [hold b1 l1] at m1; rw [hold b2 l2] at m2
      exact hr.inj b1 b2 o1 o2 p1 p2 k1 k2 m1 m2 ec
  · rintro c hc ⟨b, o, pl, hg, hro, hm, rfl⟩
    rcases cases' b o hg with ⟨l1, _, k1⟩ | ⟨l1, k1⟩
    · exact (nomine _ (st.img pl.c hc ⟨b, o, pl, k1, by rw [st.ro]; exact l1, hm, rfl⟩)).elim
    · rw [hold b l1] at hm; exact ⟨b, o, pl, k1, hro, hm, rfl⟩

/-! ### What a run says -/
def callsOk (P : Program) (cls : List Nat) : Bool := (List.range cls.length).all fun g => Nat.beq (cls.getD g 0) 0 || callable P g
theorem callable_of {g : FuncId} {k : Nat} (hC : callsOk P cls = true) (h : cls.getD g 0 = k + 1) : callable P g = true := by
  simp only [callsOk, List.all_eq_true, List.mem_range, Bool.or_eq_true] at hC
  have hg : g < cls.length := by
    rcases Nat.lt_or_ge g cls.length with h1 | h1
    · exact h1
    · rw [List.getD_eq_getElem?_getD, List.getElem?_eq_none h1] at h; cases h
  rcases hC g hg with h1 | h1
  · rw [h] at h1; cases h1
  · exact h1

structure Sound (P : Program) (rec : Runs) : Prop where
  code : ∀ rd c s h e s' h', rec (.code rd c s) h = some (.ex e s', h') → T P rd c s h (fun e1 s1 h1 => e1 = e ∧ s1 = s' ∧ h1 = h')
  call : ∀ f args h v h', rec (.call f args) h = some (.val v, h') → TC P f args h (fun v1 h1 => v1 = v ∧ h1 = h')
  kind : ∀ rd c s h o h', rec (.code rd c s) h = some (o, h') → ∃ e s', o = .ex e s'
  kindc : ∀ f args h o h', rec (.call f args) h = some (o, h') → ∃ v, o = .val v

theorem callF_sound {rec : Runs} (S : Sound P rec) (hC : callsOk P cls = true) {g : FuncId} {args : List Value} {h h' : AHeap} {v : Value} (he : callF cls rec g args h = some (v, h')) :
    callable P g = true ∧ TC P g args h (fun v1 h1 => v1 = v ∧ h1 = h') := by
  unfold callF at he
  split at he
  · rename_i hk
    refine ⟨callable_of hC hk, ?_⟩
    split at he
    · rename_i v1 h1 hrec
      simp only [Option.some.injEq, Prod.mk.injEq] at he
      obtain ⟨rfl, rfl⟩ := he
      exact S.call _ _ _ _ _ hrec
    · cases he
  · rename_i hk
    refine ⟨callable_of hC hk, ?_⟩
    split at he
    · rename_i v1 h1 hrec
      obtain ⟨hsc, he⟩ := cond_some he
      simp only [Option.some.injEq, Prod.mk.injEq] at he
      obtain ⟨rfl, rfl⟩ := he
      refine ((S.call _ _ _ _ _ hrec).quiet (fun v2 h2 q => by rw [q.1]; exact hsc)).mono ?_
      rintro v2 h2 ⟨⟨h3, q1, q2⟩, rfl⟩
      exact ⟨q1, rfl⟩
    · cases he
  · rename_i hk
    refine ⟨callable_of hC hk, ?_⟩
    split at he
    · rename_i v1 h2 hrec
      simp only [Option.some.injEq, Prod.mk.injEq] at he
      obtain ⟨rfl, rfl⟩ := he
      exact (S.call _ _ _ _ _ hrec).fresh
    · cases he
  · cases he

theorem roundF_sound {rec : Runs} (S : Sound P rec) {L : Nat} {args : List Value} {h h' : AHeap} {v : Value} (he : roundF rec L args h = some (v, h')) : TY P L args h (fun v1 h1 => v1 = v ∧ h1 = h') := by
  unfold roundF at he
  split at he
  case h_2 => cases he
  rename_i A hg
  split at he
  case h_2 => cases he
  rename_i s0 hs0
  split at he
  case h_2 => cases he
  rename_i s1 h1 hrec
  split at he
  case h_2 => cases he
  rename_i A1 g1
  obtain ⟨hc, he⟩ := cond_some he
  simp only [Bool.and_eq_true] at hc
  split at he
  case h_2 => cases he
  rename_i e s2 h2 hrec2
  split at he
  case h_2 => cases he
  rename_i A2 g2
  obtain ⟨hro, he⟩ := cond_some he
  simp only [Option.some.injEq, Prod.mk.injEq] at he
  obtain ⟨rfl, rfl⟩ := he
  refine TY_of_T hg hs0 ((S.code _ _ _ _ _ _ _ hrec).mono ?_)
  rintro e1 s3 h3 ⟨rfl, rfl, rfl⟩
  refine ⟨rfl, A1, g1, ?_, Nat.le_of_ble_eq_true hc.2, (S.code _ _ _ _ _ _ _ hrec2).mono ?_⟩
  · cases hst : A1.state <;> first | rfl | (rw [hst] at hc; cases hc.1)
  · rintro e1 s3 h3 ⟨rfl, rfl, rfl⟩
    refine ⟨A2, g2, Nat.le_of_ble_eq_true hro, ?_, rfl⟩
    cases e1 <;> rfl
theorem jumpOf_exOf {p : Option Code} {e : Ex} (h : exOf p = some e) : jumpOf e = p := by
  unfold exOf at h
  split at h <;> first | (simp only [Option.some.injEq] at h; subst h; rfl) | cases h
theorem rangeF_sound {rec : Runs} (S : Sound P rec) (hC : callsOk P cls = true) {rd : Option Nat} {f : Operand} {params : Array Tmp} {as bd : Code} {s : Env} {h h' : AHeap} {e : Ex} (he : rangeF cls rec rd (aev s f) params as bd s h = some (e, h')) :
    T P rd (.rangeFunc f params as bd) s h (fun e1 s1 h1 => e1 = e ∧ s1 = s ∧ h1 = h') := by
  unfold rangeF at he
  split at he
  case h_2 => cases he
  rename_i g fa fc hf
  obtain ⟨hc, he⟩ := cond_some he
  simp only [Bool.and_eq_true] at hc
  split at he
  case h_2 => cases he
  rename_i v h1 hrec
  split at he
  case h_2 => cases he
  rename_i A hA
  obtain ⟨hb, he⟩ := cond_some he
  simp only [Bool.and_eq_true] at hb
  split at he
  case h_2 => cases he
  rename_i e1 hex
  simp only [Option.some.injEq, Prod.mk.injEq] at he
  obtain ⟨rfl, rfl⟩ := he
  refine T_rangeFunc hf (callable_of (k := 0) hC (Nat.eq_of_beq_eq_true hc.1)) ?_ ((S.call _ _ _ _ _ hrec).mono ?_)
  · rintro L rfl
    have := hc.2
    simp only at this
    split at this
    · rename_i A0 g0; exact ⟨A0, g0⟩
    · cases this
  · rintro v1 h2 ⟨rfl, rfl⟩
    refine ⟨A, hA, ?_, Nat.le_of_ble_eq_true hb.2, e1, jumpOf_exOf hex, rfl, rfl, rfl⟩
    cases hst : A.state <;> first | rfl | (rw [hst] at hb; cases hb.1)

theorem runOps_sound {rec : Runs} (S : Sound P rec) (hC : callsOk P cls = true) {ops : Array Oper} : ∀ (l : List Oper) (i : Nat) {s s' : Env} {h h' : AHeap}, ops.toList.drop i = l → runOps P cls rec ops l s h = some (s', h') →
    TO P ops (List.range' i l.length) s h (fun s1 h1 => s1 = s' ∧ h1 = h')
  | [], i, s, s', h, h', hl, he => by
    simp only [runOps, Option.some.injEq, Prod.mk.injEq] at he
    exact TO_nil ⟨he.1, he.2⟩
  | o :: os, i, s, s', h, h', hl, he => by
    have ho : ops[i]? = some o := by
      have := congrArg (fun l => l[0]?) hl
      simp only [List.getElem?_drop, List.getElem?_cons_zero] at this
      simpa using this
    have hl' : ops.toList.drop (i + 1) = os := by rw [← List.tail_drop, hl]; rfl
    rw [List.length_cons, List.range'_succ]
    simp only [runOps] at he
    cases hw : awanted ops s o with
    | false =>
      rw [hw] at he
      simp only [cond_false] at he
      split at he
      · rename_i s1 hp
        exact TO_skip ho hw hp (runOps_sound S hC os (i + 1) hl' he)
      · cases he
    | true =>
      rw [hw] at he
      simp only [cond_true] at he
      split at he
      · rename_i v h1 hev
        split at he
        · rename_i s1 hp
          have hrest := runOps_sound S hC os (i + 1) hl' he
          unfold evalOp at hev
          split at hev
          · rename_i f args ts hop
            split at hev
            · rename_i g fa fc vs hf hargs
              cases hk : Nat.beq (cls.getD g 0) 0 with
              | true =>
                rw [hk] at hev
                simp only [cond_true] at hev
                exact TO_ok ho hw (by rw [hop]; rfl) (fun ρ w a hr hs => aext_ok hop hf hargs hev hr hs) hp hrest
              | false =>
                rw [hk] at hev
                simp only [cond_false] at hev
                obtain ⟨h1c, h2c⟩ := callF_sound S hC hev
                exact TO_call ho hw hop hf hargs h1c h2c (by rintro v2 h2 ⟨rfl, rfl⟩; exact ⟨s1, hp, hrest⟩)
            · rename_i L fa fc vs hf hargs
              obtain ⟨hz, hev⟩ := cond_some hev
              simp only [Bool.and_eq_true] at hz
              obtain rfl := arr_nil hz.1
              obtain rfl := arr_nil hz.2
              exact TO_yield ho hw hop hf hargs (roundF_sound S hev) (by rintro v2 h2 ⟨rfl, rfl⟩; exact ⟨s1, hp, hrest⟩)
            · cases hev
          · exact TO_op ho hw hev hp hrest
        · cases he
      · cases he

end
end Go.Ai
set_option linter.unusedVariables false
namespace Go.Ai
noncomputable section
variable {P : Program} {cls : List Nat}

structure AF (h h' : AHeap) : Prop where
  next : h.next ≤ h'.next
  ro : h'.ro = h.ro
  alive : ∀ b o, h'.get b = some o → h.get b ≠ none ∨ (h.next ≤ b ∧ b < h'.next)
theorem AF.refl (h : AHeap) : AF h h := ⟨Nat.le_refl _, rfl, fun b o hb => .inl (by rw [hb]; simp)⟩
theorem AF.trans {a b c : AHeap} (h : AF a b) (k : AF b c) : AF a c := by
  refine ⟨Nat.le_trans h.next k.next, k.ro.trans h.ro, fun x o hx => ?_⟩
  rcases k.alive x o hx with h1 | ⟨h1, h2⟩
  · obtain ⟨o', ho'⟩ : ∃ o, b.get x = some o := by cases hh : b.get x with | none => exact absurd hh h1 | some o => exact ⟨o, rfl⟩
    rcases h.alive x o' ho' with h2 | ⟨h2, h3⟩
    · exact .inl h2
    · exact .inr ⟨h2, Nat.lt_of_lt_of_le h3 k.next⟩
  · exact .inr ⟨Nat.le_trans h.next h1, h2⟩
theorem AF.push (h : AHeap) (o : AObj) : AF h (h.push o) := ⟨Nat.le_succ _, rfl, fun b o' hb => by
  rw [AHeap.get_push] at hb
  split at hb
  · rename_i e; subst e; exact .inr ⟨Nat.le_refl _, Nat.lt_succ_self _⟩
  · exact .inl (by rw [hb]; simp)⟩
theorem AF.setOld {h : AHeap} {b : Nat} {o : AObj} (hb : h.get b = some o) (x : Option AObj) : AF h (h.set b x) := ⟨Nat.le_refl _, rfl, fun c o' hc => by
  rw [AHeap.get_set] at hc
  split at hc
  · rename_i e; subst e; exact .inl (by rw [hb]; simp)
  · exact .inl (by rw [hc]; simp)⟩

theorem asplice_af {h h' : AHeap} {b off : Nat} {new : List Value} (he : asplice h b off new = some h') : AF h h' := by
  unfold asplice at he
  cases hz : Nat.beq new.length 0 with
  | true => rw [hz] at he; simp only [cond_true, Option.some.injEq] at he; subst he; exact .refl _
  | false =>
    rw [hz] at he
    simp only [cond_false] at he
    split at he
    · rename_i hg
      obtain ⟨_, he⟩ := cond_some he
      simp only [Option.some.injEq] at he
      subst he
      exact .setOld hg _
    · cases he
theorem astore_af {t : TypeId} {a v : Value} {h h' : AHeap} (he : astore P t a v h = some h') : AF h h' := by
  unfold astore at he
  split at he
  · split at he
    · cases he
    · rename_i hg
      split at he
      · cases he
      · obtain ⟨_, he⟩ := cond_some he
        simp only [Option.some.injEq] at he
        subst he
        exact .setOld hg _
    · cases he
  · cases he
theorem aappend_af {sT xT : TypeId} {s x v : Value} {h h' : AHeap} (he : aappend P sT xT s x h = some (v, h')) : AF h h' := by
  unfold aappend at he
  split at he
  case h_2 => cases he
  rename_i elem xd n _ _ _
  split at he
  case h_2 => cases he
  split at he
  case h_2 => cases he
  obtain ⟨_, he⟩ := cond_some he
  unfold aappend2 at he
  split at he
  · cases hz : Nat.beq n 0 with
    | true => rw [hz] at he; simp only [cond_true, Option.some.injEq, Prod.mk.injEq] at he; obtain ⟨_, rfl⟩ := he; exact .refl _
    | false =>
      rw [hz] at he
      obtain ⟨_, he⟩ := cond_some (show cond _ _ none = _ from he)
      simp only [Option.some.injEq, Prod.mk.injEq] at he
      obtain ⟨_, rfl⟩ := he
      exact .push _ _
  · cases hz : Nat.beq n 0 with
    | true => rw [hz] at he; simp only [cond_true, Option.some.injEq, Prod.mk.injEq] at he; obtain ⟨_, rfl⟩ := he; exact .refl _
    | false =>
      rw [hz] at he
      simp only [cond_false] at he
      split at he
      · rename_i hg
        obtain ⟨_, he⟩ := cond_some he
        simp only [Option.some.injEq, Prod.mk.injEq] at he
        obtain ⟨_, rfl⟩ := he
        exact (AF.setOld hg none).trans (.push _ _)
      · cases he
  · cases he
theorem acopy_af {t : TypeId} {d x v : Value} {h h' : AHeap} (he : acopy P t d x h = some (v, h')) : AF h h' := by
  unfold acopy at he
  split at he
  case h_2 => cases he
  split at he
  case h_1 => cases he
  split at he
  case h_1 => cases he
  split at he
  · simp only [Option.some.injEq, Prod.mk.injEq] at he; obtain ⟨_, rfl⟩ := he; exact .refl _
  · simp only [Option.map_eq_some_iff, Prod.mk.injEq] at he
    obtain ⟨h2, hs, _, rfl⟩ := he
    exact asplice_af hs
  · cases he
theorem aclear_af {t : TypeId} {x : Value} {h h' : AHeap} (he : aclear P t x h = some h') : AF h h' := by
  unfold aclear at he
  split at he
  case h_2 => cases he
  rename_i n _ _
  cases hz : Nat.beq n 0 with
  | true => rw [hz] at he; simp only [cond_true, Option.some.injEq] at he; subst he; exact .refl _
  | false =>
    rw [hz] at he
    simp only [cond_false] at he
    split at he
    case h_2 => cases he
    obtain ⟨_, he⟩ := cond_some he
    exact asplice_af he
theorem amapUpdate_af {t : TypeId} {x k v : Value} {h h' : AHeap} (he : amapUpdate P t x k v h = some h') : AF h h' := by
  unfold amapUpdate at he
  split at he
  case h_2 => cases he
  split at he
  case h_2 => cases he
  rename_i hg
  split at he
  case h_2 => cases he
  obtain ⟨_, he⟩ := cond_some he
  split at he
  · split at he
    · obtain ⟨_, he⟩ := cond_some he
      simp only [Option.some.injEq] at he; subst he; exact .setOld hg _
    · cases he
  · simp only [Option.some.injEq] at he; subst he; exact .setOld hg _
  · cases he
theorem amapDelete_af {t : TypeId} {x k : Value} {h h' : AHeap} (he : amapDelete P t x k h = some h') : AF h h' := by
  unfold amapDelete at he
  split at he
  case h_2 => cases he
  split at he
  case h_2 => cases he
  rename_i hg
  split at he
  case h_2 => cases he
  obtain ⟨_, he⟩ := cond_some he
  split at he
  · simp only [Option.some.injEq] at he; subst he; exact .setOld hg _
  · simp only [Option.some.injEq] at he; subst he; exact .refl _
  · cases he
theorem anext_af {x v : Value} {str : Bool} {h h' : AHeap} (he : anext P x str h = some (v, h')) : AF h h' := by
  unfold anext at he
  split at he
  case h_2 => cases he
  split at he
  · rename_i s pos hg
    obtain ⟨_, he⟩ := cond_some he
    cases hb : Nat.blt pos s.size <;> rw [hb] at he <;> simp only [cond_true, cond_false, Option.some.injEq, Prod.mk.injEq] at he <;> obtain ⟨_, rfl⟩ := he
    · exact .refl _
    · exact .setOld hg _
  · simp only [Option.some.injEq, Prod.mk.injEq] at he; obtain ⟨_, rfl⟩ := he; exact .refl _
  · rename_i hg
    split at he
    case h_2 => cases he
    obtain ⟨_, he⟩ := cond_some he
    split at he
    · simp only [Option.some.injEq, Prod.mk.injEq] at he; obtain ⟨_, rfl⟩ := he; exact .refl _
    · obtain ⟨_, he⟩ := cond_some he
      simp only [Option.some.injEq, Prod.mk.injEq] at he; obtain ⟨_, rfl⟩ := he; exact .setOld hg _
    · cases he
  · cases he
/-- An operation that does not write leaves the heap, or lays a block. -/
def Still (h h' : AHeap) : Prop := h' = h ∨ ∃ o, h' = h.push o
theorem Still.af {h h' : AHeap} (s : Still h h') : AF h h' := by
  rcases s with rfl | ⟨o, rfl⟩
  · exact .refl _
  · exact .push _ _
theorem amake_still {t : TypeId} {l c v : Value} {h h' : AHeap} (he : amake P t l c h = some (v, h')) : Still h h' := by
  unfold amake at he
  split at he
  case h_2 => cases he
  split at he
  case h_1 => cases he
  split at he
  case h_1 => cases he
  obtain ⟨_, he⟩ := cond_some he
  simp only [Option.some.injEq, Prod.mk.injEq] at he
  obtain ⟨_, rfl⟩ := he
  exact .inr ⟨_, rfl⟩
theorem aconv0_still {src dst : TypeId} {x v : Value} {h h' : AHeap} (he : aconv0 P src dst x h = some (v, h')) : Still h h' := by
  unfold aconv0 at he
  split at he
  · simp only [Option.some.injEq, Prod.mk.injEq] at he; obtain ⟨_, rfl⟩ := he; exact .inl rfl
  · split at he
    · split at he
      · simp only [Option.some.injEq, Prod.mk.injEq] at he; obtain ⟨_, rfl⟩ := he; exact .inr ⟨_, rfl⟩
      · cases he
    · split at he
      · simp only [Option.map_eq_some_iff, Prod.mk.injEq] at he; obtain ⟨_, _, _, rfl⟩ := he; exact .inl rfl
      · cases he
    · cases he
theorem aconv_still {src dst : TypeId} {x v : Value} {h h' : AHeap} (he : aconv P src dst x h = some (v, h')) : Still h h' := by
  unfold aconv at he
  split at he
  · rename_i r hc
    simp only [Option.some.injEq] at he
    subst he
    exact aconv0_still hc
  · simp only [Option.map_eq_some_iff, Prod.mk.injEq] at he; obtain ⟨_, _, _, rfl⟩ := he; exact .inl rfl
theorem aus_af {pt : TypeId} {p v : Value} {n : Int} {h h' : AHeap} (he : aus P pt p n h = some (v, h')) : AF h h' := by
  unfold aus at he
  split at he
  · obtain ⟨_, he⟩ := cond_some he
    simp only [Option.some.injEq, Prod.mk.injEq] at he; obtain ⟨_, rfl⟩ := he; exact .refl _
  · cases hn : decide (n = 0) with
    | true => rw [hn] at he; simp only [cond_true, Option.some.injEq, Prod.mk.injEq] at he; obtain ⟨_, rfl⟩ := he; exact .refl _
    | false =>
      rw [hn] at he
      simp only [cond_false] at he
      split at he
      case h_2 => cases he
      rename_i hg
      split at he
      case h_2 => cases he
      obtain ⟨_, he⟩ := cond_some he
      simp only [Option.some.injEq, Prod.mk.injEq] at he; obtain ⟨_, rfl⟩ := he; exact .setOld hg _
  · cases he
theorem abuildSlice_still {t : TypeId} {n : Nat} {ps : List (Nat × Value)} {v : Value} {h h' : AHeap} (he : abuildSlice P t n ps h = some (v, h')) : Still h h' := by
  unfold abuildSlice at he
  split at he
  case h_2 => cases he
  split at he
  case h_2 => cases he
  obtain ⟨_, he⟩ := cond_some he
  split at he
  case h_2 => cases he
  obtain ⟨_, he⟩ := cond_some he
  simp only [Option.some.injEq, Prod.mk.injEq] at he
  obtain ⟨_, rfl⟩ := he
  exact .inr ⟨_, rfl⟩
theorem one_still {x : Option Value} {v : Value} {h h' : AHeap} (he : one h x = some (v, h')) : Still h h' := .inl (one_some he).2
theorem abuiltin_af {b : Builtin} {ts : List TypeId} {r : TypeId} {vs : List Value} {v : Value} {h h' : AHeap} (he : abuiltin P b ts r vs h = some (v, h')) : AF h h' := by
  unfold abuiltin at he
  split at he
  · exact aappend_af he
  · exact acopy_af he
  · simp only [Option.map_eq_some_iff, Prod.mk.injEq] at he; obtain ⟨_, _, _, rfl⟩ := he; exact .refl _
  · simp only [Option.map_eq_some_iff, Prod.mk.injEq] at he; obtain ⟨_, hc, _, rfl⟩ := he; exact aclear_af hc
  · obtain ⟨_, he⟩ := cond_some he; simp only [Option.map_eq_some_iff, Prod.mk.injEq] at he; obtain ⟨_, _, _, rfl⟩ := he; exact .refl _
  · obtain ⟨_, he⟩ := cond_some he; simp only [Option.map_eq_some_iff, Prod.mk.injEq] at he; obtain ⟨_, _, _, rfl⟩ := he; exact .refl _
  · simp only [Option.map_eq_some_iff, Prod.mk.injEq] at he; obtain ⟨_, hc, _, rfl⟩ := he; exact amapDelete_af hc
  · simp only [Option.map_eq_some_iff, Prod.mk.injEq] at he; obtain ⟨_, _, _, rfl⟩ := he; exact .refl _
  · simp only [Option.map_eq_some_iff, Prod.mk.injEq] at he; obtain ⟨_, _, _, rfl⟩ := he; exact .refl _
  · exact aus_af he
  · cases he

theorem arange_still {t : TypeId} {x v : Value} {h h' : AHeap} (he : arange P t x h = some (v, h')) : Still h h' := by
  unfold arange at he
  split at he
  · simp only [Option.some.injEq, Prod.mk.injEq] at he; obtain ⟨_, rfl⟩ := he; exact .inr ⟨_, rfl⟩
  · simp only [Option.some.injEq, Prod.mk.injEq] at he; obtain ⟨_, rfl⟩ := he; exact .inr ⟨_, rfl⟩
  · split at he
    · simp only [Option.some.injEq, Prod.mk.injEq] at he; obtain ⟨_, rfl⟩ := he; exact .inr ⟨_, rfl⟩
    · cases he
  · cases he
theorem abuiltin_quiet {b : Builtin} {ts : List TypeId} {r : TypeId} {vs : List Value} {v : Value} {h h' : AHeap} (hq : quietB b = true) (he : abuiltin P b ts r vs h = some (v, h')) : h' = h := by
  unfold abuiltin at he
  split at he <;> first
    | (simp [quietB] at hq; done)
    | (simp only [Option.map_eq_some_iff, Prod.mk.injEq] at he; obtain ⟨_, _, _, rfl⟩ := he; rfl)
    | (obtain ⟨_, he⟩ := cond_some he; simp only [Option.map_eq_some_iff, Prod.mk.injEq] at he; obtain ⟨_, _, _, rfl⟩ := he; rfl)
    | cases he
theorem aext_still {g : FuncId} {args : List Value} {v : Value} {h h' : AHeap} (he : aext P g args h = some (v, h')) : Still h h' := by
  unfold aext at he
  split at he
  · rename_i r hn
    simp only [Option.some.injEq] at he
    subst he
    unfold noEsc at hn
    split at hn
    case h_2 => cases hn
    obtain ⟨_, hn⟩ := cond_some hn
    split at hn
    case h_2 => cases hn
    simp only [Option.some.injEq, Prod.mk.injEq] at hn
    obtain ⟨_, rfl⟩ := hn
    exact .inl rfl
  · unfold mkNoZero at he
    split at he
    case h_2 => cases he
    obtain ⟨_, he⟩ := cond_some he
    split at he
    case h_2 => cases he
    split at he
    case h_2 => cases he
    obtain ⟨_, he⟩ := cond_some he
    simp only [Option.some.injEq, Prod.mk.injEq] at he
    obtain ⟨_, rfl⟩ := he
    exact .inr ⟨_, rfl⟩
theorem aop_parts {s : Env} {o : Oper} {v : Value} {h h' : AHeap} (he : aop P s o h = some (v, h')) : AF h h' ∧ (isWrite o.op = false → Still h h') := by
  unfold aop at he
  split at he <;> rename_i hop
  · have := one_still he; exact ⟨this.af, fun _ => this⟩
  · have := one_still he; exact ⟨this.af, fun _ => this⟩
  · split at he
    · have := one_still he; exact ⟨this.af, fun _ => this⟩
    · have := one_still he; exact ⟨this.af, fun _ => this⟩
    · cases he
  · split at he
    · simp only [Option.some.injEq, newb, Prod.mk.injEq] at he; obtain ⟨_, rfl⟩ := he; exact ⟨.push _ _, fun _ => .inr ⟨_, rfl⟩⟩
    · cases he
  · split at he
    · simp only [Option.some.injEq, newb, Prod.mk.injEq] at he; obtain ⟨_, rfl⟩ := he; exact ⟨.push _ _, fun _ => .inr ⟨_, rfl⟩⟩
    · cases he
  · split at he
    · have := one_still he; exact ⟨this.af, fun _ => this⟩
    · cases he
  · split at he
    · have := abuildSlice_still he; exact ⟨this.af, fun _ => this⟩
    · cases he
  · split at he
    · have := one_still he; exact ⟨this.af, fun _ => this⟩
    · cases he
  · split at he
    · split at he
      · rename_i hs
        simp only [Option.some.injEq, Prod.mk.injEq] at he
        obtain ⟨_, rfl⟩ := he
        exact ⟨astore_af hs, fun hw => by rw [hop] at hw; cases hw⟩
      · cases he
    · cases he
  · split at he
    · simp only [Option.some.injEq, Prod.mk.injEq] at he; obtain ⟨_, rfl⟩ := he; exact ⟨.refl _, fun _ => .inl rfl⟩
    · simp only [Option.some.injEq, Prod.mk.injEq] at he; obtain ⟨_, rfl⟩ := he; exact ⟨.refl _, fun _ => .inl rfl⟩
    · cases he
  · split at he
    · have := one_still he; exact ⟨this.af, fun _ => this⟩
    · cases he
  · split at he
    · obtain ⟨_, he⟩ := cond_some he; have := one_still he; exact ⟨this.af, fun _ => this⟩
    · cases he
  · split at he
    · have := aconv_still he; exact ⟨this.af, fun _ => this⟩
    · cases he
  · split at he
    · split at he
      · simp only [Option.some.injEq, Prod.mk.injEq] at he; obtain ⟨_, rfl⟩ := he; exact ⟨.refl _, fun _ => .inl rfl⟩
      · cases he
    · cases he
  · split at he
    · simp only [Option.some.injEq, Prod.mk.injEq] at he; obtain ⟨_, rfl⟩ := he; exact ⟨.refl _, fun _ => .inl rfl⟩
    · cases he
  · split at he
    · have := amake_still he; exact ⟨this.af, fun _ => this⟩
    · cases he
  · split at he
    · split at he
      · simp only [Option.some.injEq, Prod.mk.injEq] at he; obtain ⟨_, rfl⟩ := he; exact ⟨.refl _, fun _ => .inl rfl⟩
      · cases he
    · have := one_still he; exact ⟨this.af, fun _ => this⟩
    · cases he
  · split at he
    · have := one_still he; exact ⟨this.af, fun _ => this⟩
    · cases he
  · split at he
    · split at he
      · split at he
        · have := one_still he; exact ⟨this.af, fun _ => this⟩
        · cases he
      · cases he
    · cases he
  · split at he
    · have := one_still he; exact ⟨this.af, fun _ => this⟩
    · cases he
  · split at he
    · obtain ⟨_, he⟩ := cond_some he; have := one_still he; exact ⟨this.af, fun _ => this⟩
    · cases he
  · split at he
    · have := one_still he; exact ⟨this.af, fun _ => this⟩
    · cases he
  · split at he
    · refine ⟨abuiltin_af he, fun hw => ?_⟩
      rw [hop] at hw
      simp only [isWrite, Bool.not_eq_false'] at hw
      exact .inl (abuiltin_quiet hw he)
    · cases he
  · simp only [Option.some.injEq, amakeMap, Prod.mk.injEq] at he; obtain ⟨_, rfl⟩ := he; exact ⟨.push _ _, fun _ => .inr ⟨_, rfl⟩⟩
  · split at he
    · have := one_still he; exact ⟨this.af, fun _ => this⟩
    · cases he
  · split at he
    · split at he
      · rename_i hu
        simp only [Option.some.injEq, Prod.mk.injEq] at he
        obtain ⟨_, rfl⟩ := he
        exact ⟨amapUpdate_af hu, fun hw => by rw [hop] at hw; cases hw⟩
      · cases he
    · cases he
  · split at he
    · have := arange_still he; exact ⟨this.af, fun _ => this⟩
    · cases he
  · split at he
    · exact ⟨anext_af he, fun hw => by rw [hop] at hw; cases hw⟩
    · cases he
  · split at he
    · have := one_still he; exact ⟨this.af, fun _ => this⟩
    · cases he
  · cases he

end
end Go.Ai
set_option linter.unusedVariables false
namespace Go.Ai
noncomputable section
variable {P : Program} {cls : List Nat}

/-- What every run does to a heap's blocks. -/
def Frames (rec : Runs) : Prop := ∀ t h o h', rec t h = some (o, h') → AF h h'
def WF (h : AHeap) : Prop := ∀ b o, h.get b = some o → b < h.next
theorem WF.af {h h' : AHeap} (w : WF h) (a : AF h h') : WF h' := by
  intro b o hb
  rcases a.alive b o hb with h1 | ⟨_, h2⟩
  · obtain ⟨o', ho'⟩ : ∃ o, h.get b = some o := by cases hh : h.get b with | none => exact absurd hh h1 | some o => exact ⟨o, rfl⟩
    exact Nat.lt_of_lt_of_le (w b o' ho') a.next
  · exact h2
theorem AF.lock {h h' : AHeap} (a : AF h.lock h') : h.next ≤ h'.next ∧ ∀ b o, h'.get b = some o → h.get b ≠ none ∨ (h.next ≤ b ∧ b < h'.next) := ⟨a.next, a.alive⟩
theorem AF.graft {h h2 : AHeap} (hn : h.next ≤ h2.next) : AF h (graft h h2) := ⟨hn, rfl, fun b o hb => by
  rw [get_graft] at hb
  split at hb
  · rename_i hc; exact .inr hc
  · exact .inl (by rw [hb]; simp)⟩

/-! ### The masks -/
def MaskOk (ops : Array Oper) (ms : List Nat) : Prop := ∀ k q, (ms.getD k 0).testBit q = true → Prec ops q k
theorem maskOf_ok {ops : Array Oper} {ms : List Nat} (hm : MaskOk ops ms) {i : Nat} {o : Oper} (ho : ops[i]? = some o) {q : Nat} (h : (maskOf ms o).testBit q = true) : Prec ops q i := by
  have key : ∀ (l : List Edge) (m : Nat), (∀ e, e ∈ l → e ∈ o.after) → (l.foldl (fun m e => cond (Region.binds .any e) (m ||| (1 <<< e.on) ||| ms.getD e.on 0) m) m).testBit q = true → m.testBit q = true ∨ Prec ops q i := by
    intro l
    induction l with
    | nil => intro m _ h; exact .inl h
    | cons e l ih =>
      intro m hl h
      rw [List.foldl_cons] at h
      rcases ih _ (fun x hx => hl x (by simp [hx])) h with h1 | h1
      · cases hb : Region.binds .any e with
        | false => rw [hb] at h1; exact .inl h1
        | true =>
          rw [hb] at h1
          simp only [cond_true, Nat.testBit_or, Bool.or_eq_true] at h1
          rcases h1 with (h1 | h1) | h1
          · exact .inl h1
          · rw [Nat.testBit_shiftLeft] at h1
            simp only [Bool.and_eq_true, decide_eq_true_eq, Nat.testBit_one_eq_true_iff_self_eq_zero] at h1
            have : q = e.on := by omega
            subst this
            exact .inr (.one ho (hl e (by simp)) hb)
          · exact .inr (.more ho (hl e (by simp)) hb (hm _ _ h1))
      · exact .inr h1
  rcases key o.after.toList 0 (fun e he => by simpa using he) h with h1 | h1
  · simp at h1
  · exact h1
theorem maskOk_snoc {ops : Array Oper} {ms : List Nat} (hm : MaskOk ops ms) {i : Nat} (hl : ms.length = i) {o : Oper} (ho : ops[i]? = some o) : MaskOk ops (ms ++ [maskOf ms o]) := by
  intro k q h
  rcases Nat.lt_trichotomy k i with hk | hk | hk
  · rw [List.getD_eq_getElem?_getD, List.getElem?_append_left (by omega), ← List.getD_eq_getElem?_getD] at h
    exact hm k q h
  · subst hk
    rw [List.getD_eq_getElem?_getD, List.getElem?_append_right (by omega), hl] at h
    simp at h
    exact maskOf_ok hm ho h
  · rw [List.getD_eq_getElem?_getD, List.getElem?_eq_none (by simp; omega)] at h
    simp at h

/-! ### A record more -/
theorem lastR_snoc (A : List DRec) (r : DRec) (p : DRec → Bool) : lastR (A ++ [r]) p = if p r = true then some r else lastR A p := by
  simp only [lastR, List.filter_append, List.filter_cons, List.filter_nil]
  by_cases h : p r = true
  · simp [h]
  · simp [h]
theorem envV_snoc (A : List DRec) (r : DRec) (s0 : Env) (t : Nat) : envV (A ++ [r]) s0 t = if r.o.dst = some t then r.v else envV A s0 t := by
  simp only [envV, lastR_snoc, wrs, decide_eq_true_eq]
  by_cases h : r.o.dst = some t <;> simp [h]
theorem hpV_snoc (A : List DRec) (r : DRec) (h0 : AHeap) (b : Nat) : hpV (A ++ [r]) h0 b = if r.tc b = true then r.g'.get b else hpV A h0 b := by
  simp only [hpV, lastR_snoc]
  by_cases h : r.tc b = true <;> simp [h]

/-- What a record's lists say. -/
structure FOk (y : FRec) : Prop where
  tc : y.all = false → ∀ b, y.r.tc b = true ↔ b ∈ y.tcl
  lt : ∀ b, y.all = true → y.r.tc b = true → True
  light : y.light = true → (∀ b, y.r.rd b = false) ∧ ∀ b, y.r.tc b = false
  ex : y.ex = true → ∀ b, y.r.rd b = true → b ∈ y.rdl
theorem free_of {ops : Array Oper} {x y : FRec} (hx : FOk x) (hy : FOk y) (hs : slotsFree ops x.r.o y.r.o = true) (h : y.light = true ∨ heapFree x y = true) : Free ops x.r y.r := by
  simp only [slotsFree, Bool.and_eq_true] at hs
  obtain ⟨h1, h2⟩ := hs
  have hd1 : ∀ d, x.r.o.dst = some d → d ∉ y.r.o.looksAt ops ∧ y.r.o.dst ≠ some d := by
    intro d hd
    rw [hd] at h1
    simp only [Bool.and_eq_true, Bool.not_eq_true', decide_eq_false_iff_not, List.contains_eq_mem] at h1
    exact ⟨h1.1, h1.2⟩
  have hd2 : ∀ d, y.r.o.dst = some d → d ∉ x.r.o.looksAt ops := by
    intro d hd
    rw [hd] at h2
    simp only [Bool.not_eq_true', decide_eq_false_iff_not, List.contains_eq_mem] at h2
    exact h2
  rcases h with hl | h
  · obtain ⟨l1, l2⟩ := hy.light hl
    exact ⟨hd1, hd2, fun b _ => ⟨l1 b, l2 b⟩, fun b hb => by rw [l2 b] at hb; cases hb⟩
  simp only [heapFree, Bool.and_eq_true] at h
  obtain ⟨h3, h4⟩ := h
  refine ⟨hd1, hd2, ?_, ?_⟩
  · intro b hb
    cases ha : x.all with
    | true =>
      rw [ha] at h3
      simp only [cond_true, Bool.or_eq_true, Bool.and_eq_true, Bool.not_eq_true', List.all_eq_true] at h3
      rcases h3 with h3 | ⟨⟨⟨h3, h5⟩, h6⟩, h7⟩
      · exact ⟨(hy.light h3).1 b, (hy.light h3).2 b⟩
      · refine ⟨?_, ?_⟩
        · cases hr : y.r.rd b with
          | false => rfl
          | true => have := h6 b (hy.ex h3 b hr); rw [hb] at this; cases this
        · cases hr : y.r.tc b with
          | false => rfl
          | true => have := h7 b ((hy.tc h5 b).1 hr); rw [hb] at this; cases this
    | false =>
      rw [ha] at h3
      simp only [cond_false, List.all_eq_true, Bool.and_eq_true, Bool.not_eq_true'] at h3
      exact h3 b ((hx.tc ha b).1 hb)
  · intro b hb
    cases ha : y.all with
    | true =>
      rw [ha] at h4
      simp only [cond_true, Bool.or_eq_true, Bool.and_eq_true, Bool.not_eq_true', List.all_eq_true] at h4
      rcases h4 with h4 | ⟨h4, h5⟩
      · exact (hx.light h4).1 b
      · cases hr : x.r.rd b with
        | false => rfl
        | true => have := h5 b (hx.ex h4 b hr); rw [hb] at this; cases this
    | false =>
      rw [ha] at h4
      simp only [cond_false, List.all_eq_true, Bool.not_eq_true'] at h4
      exact h4 b ((hy.tc ha b).1 hb)

/-- What is so before an operation, and with it behind. -/
structure Sofar (P : Program) (ops : Array Oper) (s0 : Env) (h0 : AHeap) (A : List DRec) (i : Nat) (s : Env) (h : AHeap) : Prop where
  js : A.map (·.j) = List.range i
  env : ∀ t, s.get t = envV A s0 t
  size : s.size = s0.size
  heap : ∀ b, h.get b = hpV A h0 b
  ro : h.ro = h0.ro
  next : h0.next ≤ h.next
  nA : ∀ x, x ∈ A → x.g'.next ≤ h.next
  wf : WF h
  told : ∀ A1 r A2, A = A1 ++ r :: A2 → Told P ops s0 h0 A1 r
  edges : ∀ A1 r A2, A = A1 ++ r :: A2 → ∀ e, e ∈ r.o.after → Region.binds .any e = true → ∃ x, x ∈ A1 ∧ x.j = e.on
  apart : ∀ A1 x A2 y A3, A = A1 ++ x :: (A2 ++ y :: A3) → Prec ops x.j y.j ∨ Free ops x y

/-- The operation's record fits, and what stands behind it. -/
theorem drawOp_ok {rec : Runs} (S : Sound P rec) (hF : Frames rec) (hC : callsOk P cls = true) {ops : Array Oper} {s0 : Env} {h0 : AHeap} {A : List DRec} {recs : List FRec} {i mask : Nat} {o : Oper} {os : List Oper} {s : Env} {h h1 : AHeap} {y : FRec}
    (F : Sofar P ops s0 h0 A i s h) (ho : ops[i]? = some o) (hput : ∀ d, o.dst = some d → d < s.size) (he : drawOp P cls rec ops recs mask i os o s h = some (y, h1)) :
    y.r.j = i ∧ y.r.o = o ∧ FOk y ∧ Told P ops s0 h0 A y.r ∧ (∀ b, h1.get b = if y.r.tc b = true then y.r.g'.get b else h.get b) ∧ h1.ro = h.ro ∧ h.next ≤ h1.next ∧ y.r.g'.next ≤ h1.next ∧ WF h1 := by
  unfold drawOp at he
  cases hw : awanted ops s o with
  | false =>
    rw [hw] at he
    simp only [cond_false, Option.some.injEq, Prod.mk.injEq] at he
    obtain ⟨rfl, rfl⟩ := he
    refine ⟨rfl, rfl, ⟨fun _ b => by simp, fun _ _ _ => trivial, fun _ => ⟨fun _ => rfl, fun _ => rfl⟩, fun _ b hb => (by cases hb)⟩, ⟨ho, F.env, F.size, fun b => by rw [get_pick]; simp, F.ro, F.next, F.nA, Nat.le_refl _, .inl ⟨hw, rfl, rfl⟩, fun d hd => by rw [← F.size]; exact hput d hd, fun b hb => (by cases hb), fun b _ => rfl, fun b o' hb => (by cases hb)⟩, fun b => by simp, rfl, Nat.le_refl _, Nat.le_refl _, F.wf⟩
  | true =>
    rw [hw] at he
    simp only [cond_true] at he
    split at he
    · -- a call
      rename_i f args ts hop
      split at he
      case h_2 => cases he
      rename_i g fa fc vs hf hargs
      split at he
      · -- any
        rename_i hk
        have hlt : ∀ b, b ∈ (((recs.flatMap fun x => cond (mask.testBit x.r.j) [] (x.tcl ++ x.rdl)) ++ aheadOf s ((o :: os).filterMap (·.dst)) os (i + 1) (1 <<< i)).filter fun b => Nat.blt b h.next) → b < h.next := fun b hb => by
          simpa [Nat.blt_eq] using (List.mem_filter.1 hb).2
        generalize (((recs.flatMap fun x => cond (mask.testBit x.r.j) [] (x.tcl ++ x.rdl)) ++ aheadOf s ((o :: os).filterMap (·.dst)) os (i + 1) (1 <<< i)).filter fun b => Nat.blt b h.next) = hid at *
        split at he
        case h_2 => cases he
        rename_i v h' hrec
        simp only [Option.some.injEq, Prod.mk.injEq] at he
        obtain ⟨rfl, rfl⟩ := he
        have af := hF _ _ _ _ hrec
        have hwfh : WF (h.hide hid) := fun b o' hb => by
          rw [get_hide] at hb
          split at hb
          · cases hb
          · exact F.wf b o' hb
        have hwf := hwfh.af af
        have hn : h.next ≤ h'.next := af.next
        have hgone : ∀ b, b ∈ hid → h'.get b = none := by
          intro b hb
          cases hh : h'.get b with
          | none => rfl
          | some o' =>
            rcases af.alive b o' hh with h2 | ⟨h2, _⟩
            · rw [get_hide, if_pos hb] at h2; exact absurd rfl h2
            · have : h.next ≤ b := h2
              have := hlt b hb; omega
        have hbeyond : ∀ b, ¬ b < h'.next → h'.get b = none ∧ h.get b = none := by
          intro b hb
          refine ⟨?_, ?_⟩
          · cases hh : h'.get b with | none => rfl | some o' => exact absurd (hwf b o' hh) hb
          · cases hh : h.get b with | none => rfl | some o' => exact absurd (Nat.lt_of_lt_of_le (F.wf b o' hh) hn) hb
        refine ⟨rfl, rfl, ⟨fun ha => (by cases ha), fun _ _ _ => trivial, fun hl => (by cases hl), fun hl => (by cases hl)⟩, ⟨ho, F.env, F.size, fun b => ?_, F.ro, F.next, F.nA, hn, .inr ⟨hw, .inr (.inl ⟨f, args, ts, g, fa, fc, vs, hop, hf, hargs, callable_of hC hk, S.call _ _ _ _ _ hrec⟩)⟩, fun d hd => by rw [← F.size]; exact hput d hd, fun b hb => ?_, fun b hb => ?_, fun b o' _ hlt2 hb => ?_⟩, fun b => ?_, af.ro, hn, Nat.le_refl _, ?_⟩
        · rw [get_hide]
          simp only [Bool.and_eq_true, Nat.blt_eq, Bool.not_eq_true', List.contains_eq_mem, decide_eq_false_iff_not]
          by_cases hm : b ∈ hid
          · rw [if_pos hm, if_neg (fun hc => hc.2 hm)]
          · rw [if_neg hm]
            by_cases hb : b < h.next
            · rw [if_pos ⟨hb, hm⟩]; exact F.heap b
            · rw [if_neg (fun hc => hb hc.1)]
              cases hh : h.get b with
              | none => rfl
              | some o' => exact absurd (F.wf b o' hh) hb
        · simp only [Bool.and_eq_true, Nat.blt_eq, Bool.not_eq_true', List.contains_eq_mem, decide_eq_false_iff_not] at hb ⊢
          by_cases hb2 : b < h.next
          · exact .inl ⟨hb2, hb.2⟩
          · exact .inr ⟨Nat.le_of_not_lt hb2, hb.1⟩
        · show h'.get b = (h.hide hid).get b
          rw [get_hide]
          by_cases hm : b ∈ hid
          · rw [if_pos hm, hgone b hm]
          · rw [if_neg hm]
            have hb' : ¬ b < h'.next := by
              intro hc
              have h3 : (Nat.blt b h'.next && !hid.contains b) = true := by simpa [Nat.blt_eq] using ⟨hc, hm⟩
              exact Bool.false_ne_true ((show (Nat.blt b h'.next && !hid.contains b) = false from hb).symm.trans h3)
            rw [(hbeyond b hb').1, (hbeyond b hb').2]
        · rcases af.alive b o' hb with h2 | ⟨h2, _⟩
          · exact h2
          · exact absurd hlt2 (by show ¬ b < (h.hide hid).next; omega)
        · rw [get_unhide]
          simp only [Bool.and_eq_true, Nat.blt_eq, Bool.not_eq_true', List.contains_eq_mem, decide_eq_false_iff_not]
          by_cases hm : b ∈ hid
          · rw [if_pos hm, if_neg (fun hc => hc.2 hm)]
          · rw [if_neg hm]
            by_cases hb : b < h'.next
            · rw [if_pos ⟨hb, hm⟩]
            · rw [if_neg (fun hc => hb hc.1), (hbeyond b hb).1, (hbeyond b hb).2]
        · intro b o' hb
          rw [get_unhide] at hb
          show b < h'.next
          split at hb
          · exact Nat.lt_of_lt_of_le (F.wf b o' hb) hn
          · exact hwf b o' hb
      · -- quiet
        rename_i hk
        split at he
        case h_2 => cases he
        rename_i v h2 hrec
        obtain ⟨hsc, he⟩ := cond_some he
        simp only [Option.some.injEq, Prod.mk.injEq] at he
        obtain ⟨rfl, rfl⟩ := he
        generalize (recs.flatMap fun x => cond (mask.testBit x.r.j) [] x.tcl) = hid at *
        have hq : TC P g (fa.toList ++ vs ++ fc.toList) (h.hide hid) (fun v1 h1 => v1 = v ∧ h1 = h.hide hid) :=
          ((S.call _ _ _ _ _ hrec).quiet (fun v2 h2 q => by rw [q.1]; exact hsc)).mono (by rintro v2 h3 ⟨⟨h4, q1, q2⟩, rfl⟩; exact ⟨q1, rfl⟩)
        refine ⟨rfl, rfl, ⟨fun _ b => by simp, fun _ _ _ => trivial, fun hl => (by cases hl), fun hl => (by cases hl)⟩, ⟨ho, F.env, F.size, fun b => ?_, F.ro, F.next, F.nA, Nat.le_refl _, .inr ⟨hw, .inr (.inl ⟨f, args, ts, g, fa, fc, vs, hop, hf, hargs, callable_of hC hk, hq⟩)⟩, fun d hd => by rw [← F.size]; exact hput d hd, fun b hb => (by cases hb), fun b _ => rfl, fun b o' hb => (by cases hb)⟩, fun b => by simp, rfl, Nat.le_refl _, Nat.le_refl _, F.wf⟩
        rw [get_hide]
        simp only [Bool.and_eq_true, Nat.blt_eq, Bool.not_eq_true', List.contains_eq_mem, decide_eq_false_iff_not]
        by_cases hm : b ∈ hid
        · rw [if_pos hm, if_neg (fun hc => hc.2 hm)]
        · rw [if_neg hm]
          by_cases hb : b < h.next
          · rw [if_pos ⟨hb, hm⟩]; exact F.heap b
          · rw [if_neg (fun hc => hb hc.1)]
            cases hh : h.get b with
            | none => rfl
            | some o' => exact absurd (F.wf b o' hh) hb
      · -- it lays blocks
        rename_i hk
        split at he
        case h_2 => cases he
        rename_i v h2 hrec
        simp only [Option.some.injEq, Prod.mk.injEq] at he
        obtain ⟨rfl, rfl⟩ := he
        generalize (recs.flatMap fun x => cond (mask.testBit x.r.j) [] x.tcl) = hid at *
        have af := (hF _ _ _ _ hrec).lock
        have hn : h.next ≤ h2.next := af.1
        refine ⟨rfl, rfl, ⟨fun _ b => by simp, fun _ _ _ => trivial, fun hl => (by cases hl), fun hl => (by cases hl)⟩, ⟨ho, F.env, F.size, fun b => ?_, F.ro, F.next, F.nA, hn, .inr ⟨hw, .inr (.inl ⟨f, args, ts, g, fa, fc, vs, hop, hf, hargs, callable_of hC hk, (S.call _ _ _ _ _ hrec).fresh⟩)⟩, fun d hd => by rw [← F.size]; exact hput d hd, fun b hb => ?_, fun b hb => ?_, fun b o' hb hlt _ => ?_⟩, fun b => ?_, rfl, hn, Nat.le_refl _, F.wf.af (.graft hn)⟩
        · rw [get_hide]
          simp only [Bool.and_eq_true, Nat.blt_eq, Bool.not_eq_true', List.contains_eq_mem, decide_eq_false_iff_not]
          by_cases hm : b ∈ hid
          · rw [if_pos hm, if_neg (fun hc => hc.2 hm)]
          · rw [if_neg hm]
            by_cases hb : b < h.next
            · rw [if_pos ⟨hb, hm⟩]; exact F.heap b
            · rw [if_neg (fun hc => hb hc.1)]
              cases hh : h.get b with
              | none => rfl
              | some o' => exact absurd (F.wf b o' hh) hb
        · simp only [List.contains_eq_mem, decide_eq_true_eq, mem_new] at hb
          exact .inr hb
        · simp only [List.contains_eq_mem, decide_eq_false_iff_not, mem_new] at hb
          simp only [get_graft]
          rw [if_neg (show ¬((h.hide hid).next ≤ b ∧ b < h2.next) from hb)]
        · simp only [List.contains_eq_mem, decide_eq_true_eq, mem_new] at hb
          exact absurd hlt (by show ¬ b < h.next; omega)
        · simp only [List.contains_eq_mem, decide_eq_true_eq, mem_new, get_graft]
          by_cases hb : h.next ≤ b ∧ b < h2.next
          · rw [if_pos hb, if_pos hb, if_pos (show (h.hide hid).next ≤ b ∧ b < h2.next from hb)]
          · rw [if_neg hb, if_neg hb]
      · -- a function without a body
        split at he
        case h_2 => cases he
        rename_i v g' hop2
        simp only [Option.some.injEq, Prod.mk.injEq] at he
        obtain ⟨rfl, rfl⟩ := he
        have still := aext_still hop2
        have af := still.af
        have hn : h.next ≤ g'.next := af.next
        have hro : g'.ro = h.ro := af.ro
        refine ⟨rfl, rfl, ⟨fun _ b => by simp, fun _ _ _ => trivial, fun hl => ?_, fun _ b hb => (by cases hb)⟩, ⟨ho, F.env, F.size, fun b => by rw [get_pick]; simp, F.ro, F.next, F.nA, hn, .inr ⟨hw, .inr (.inr ⟨f, args, ts, g, fa, fc, vs, hop, hf, hargs, hop2⟩)⟩, fun d hd => by rw [← F.size]; exact hput d hd, fun b hb => ?_, fun b hb => ?_, fun b o' hb hlt hg => ?_⟩, fun b => ?_, rfl, hn, Nat.le_refl _, ?_⟩
        · simp only [List.isEmpty_iff] at hl
          refine ⟨fun b => rfl, fun b => ?_⟩
          show (List.range' h.next (g'.next - h.next)).contains b = false
          rw [hl]; rfl
        · simp only [List.contains_eq_mem, decide_eq_true_eq, mem_new] at hb
          exact .inr hb
        · simp only [List.contains_eq_mem, decide_eq_false_iff_not, mem_new] at hb
          rcases still with e | ⟨ob, e⟩
          · rw [e]
          · rw [e, AHeap.get_push]
            split
            · rename_i eb
              exact absurd ⟨by rw [eb]; exact Nat.le_refl _, by rw [eb, e]; exact Nat.lt_succ_self _⟩ hb
            · rfl
        · simp only [List.contains_eq_mem, decide_eq_true_eq, mem_new] at hb
          exact absurd hlt (by show ¬ b < h.next; omega)
        · rw [get_mend]
          simp only [List.contains_eq_mem, decide_eq_true_eq]
        · intro b o' hb
          rw [get_mend] at hb
          split at hb
          · rename_i hm
            exact (mem_new.1 hm).2
          · exact Nat.lt_of_lt_of_le (F.wf b o' hb) hn
    · -- an operation by itself
      rename_i hnc
      split at he
      case h_2 => cases he
      rename_i v g' hop
      simp only [Option.some.injEq, Prod.mk.injEq] at he
      obtain ⟨rfl, rfl⟩ := he
      obtain ⟨af, still⟩ := aop_parts hop
      generalize hbs : opBlks s o h = bs at *
      have hn : h.next ≤ g'.next := af.next
      have hmemtc : ∀ b, b ∈ (cond (isWrite o.op) (bs ++ List.range' h.next (g'.next - h.next)) (List.range' h.next (g'.next - h.next))) ↔ (isWrite o.op = true ∧ b ∈ bs) ∨ (h.next ≤ b ∧ b < g'.next) := by
        intro b
        cases isWrite o.op with
        | true => simp only [cond_true, List.mem_append, mem_new, true_and]
        | false => simp only [cond_false, mem_new, Bool.false_eq_true, false_and, false_or]
      generalize htcl : (cond (isWrite o.op) (bs ++ List.range' h.next (g'.next - h.next)) (List.range' h.next (g'.next - h.next))) = tcl at *
      have hnew : ∀ b, ¬ (h.next ≤ b ∧ b < g'.next) → b ∉ bs ∨ isWrite o.op = false → g'.get b = (h.pick bs).get b := by
        intro b hb hor
        cases hwr : isWrite o.op with
        | false =>
          rcases still hwr with e | ⟨ob, e⟩
          · rw [e]
          · rw [e, AHeap.get_push]
            split
            · rename_i eb
              exact absurd ⟨by rw [eb]; exact Nat.le_refl _, by rw [eb, e]; exact Nat.lt_succ_self _⟩ hb
            · rfl
        | true =>
          rcases hor with hor | hor
          · have e0 : (h.pick bs).get b = none := by rw [get_pick, if_neg hor]
            rw [e0]
            cases hh : g'.get b with
            | none => rfl
            | some o' =>
              rcases af.alive b o' hh with h2 | h2
              · exact absurd e0 h2
              · exact absurd h2 hb
          · rw [hwr] at hor; cases hor
      have hro : g'.ro = h.ro := af.ro
      refine ⟨rfl, rfl, ⟨fun _ b => by simp, fun _ _ _ => trivial, fun hl => ?_, fun _ b hb => by simpa using hb⟩, ⟨ho, F.env, F.size, fun b => ?_, F.ro, F.next, F.nA, hn, .inr ⟨hw, .inl hop⟩, fun d hd => by rw [← F.size]; exact hput d hd, fun b hb => ?_, fun b hb => ?_, fun b o' hb hlt hg => ?_⟩, fun b => ?_, rfl, hn, Nat.le_refl _, ?_⟩
      · simp only [Bool.and_eq_true, List.isEmpty_iff] at hl
        obtain ⟨e1, e2⟩ := hl
        subst e1 e2
        exact ⟨fun b => rfl, fun b => rfl⟩
      · rw [get_pick]
        simp only [List.contains_eq_mem, decide_eq_true_eq]
        split
        · exact F.heap b
        · rfl
      · simp only [List.contains_eq_mem, decide_eq_true_eq] at hb ⊢
        rcases (hmemtc b).1 hb with h2 | h2
        · exact .inl h2.2
        · exact .inr h2
      · simp only [List.contains_eq_mem, decide_eq_false_iff_not] at hb
        have hb2 := fun hc => hb ((hmemtc b).2 hc)
        refine hnew b (fun hc => hb2 (.inr hc)) ?_
        cases hwr : isWrite o.op with
        | false => exact .inr rfl
        | true => exact .inl (fun hc => hb2 (.inl ⟨hwr, hc⟩))
      · rcases af.alive b o' hg with h2 | ⟨h2, _⟩
        · exact h2
        · exact absurd hlt (by show ¬ b < (h.pick bs).next; omega)
      · rw [get_mend]
        simp only [List.contains_eq_mem, decide_eq_true_eq]
      · intro b o' hb
        rw [get_mend] at hb
        split at hb
        · rcases af.alive b o' hb with h2 | ⟨_, h2⟩
          · rw [get_pick] at h2
            split at h2
            · obtain ⟨o2, ho2⟩ : ∃ o, h.get b = some o := by cases hh : h.get b with | none => exact absurd hh h2 | some o => exact ⟨o, rfl⟩
              exact Nat.lt_of_lt_of_le (F.wf b o2 ho2) hn
            · exact absurd rfl h2
          · exact h2
        · exact Nat.lt_of_lt_of_le (F.wf b o' hb) hn

end
end Go.Ai
set_option linter.unusedVariables false
namespace Go.Ai
noncomputable section
variable {P : Program} {cls : List Nat}

theorem snoc_split {α : Type} {A A1 A2 : List α} {y r : α} (e : A ++ [y] = A1 ++ r :: A2) : (A2 = [] ∧ A1 = A ∧ r = y) ∨ ∃ A3, A2 = A3 ++ [y] ∧ A = A1 ++ r :: A3 := by
  rcases List.eq_nil_or_concat A2 with h | ⟨A3, z, h⟩
  · subst h
    have := List.append_inj' e rfl
    simp at this
    exact .inl ⟨rfl, this.1.symm, this.2.symm⟩
  · subst h
    rw [List.concat_eq_append] at *
    have e2 : A ++ [y] = (A1 ++ r :: A3) ++ [z] := by rw [e]; simp
    have := List.append_inj' e2 rfl
    simp at this
    exact .inr ⟨A3, by rw [this.2], this.1⟩

theorem drawGo_ok {rec : Runs} (S : Sound P rec) (hF : Frames rec) (hC : callsOk P cls = true) {ops : Array Oper} {s0 : Env} {h0 : AHeap} : ∀ (l : List Oper) (i : Nat) (ms : List Nat) (recs : List FRec) (s : Env) (h : AHeap) {s' : Env} {h' : AHeap},
    ops.toList.drop i = l → i ≤ ops.size → MaskOk ops ms → ms.length = i → Sofar P ops s0 h0 (recs.map (·.r)).reverse i s h → (∀ x, x ∈ recs → FOk x) → statGo ops l i ms (recs.map fun x => (x.r.j, x.r.o)) = true → drawGo P cls rec ops l i ms recs s h = some (s', h') →
    ∃ A, Sofar P ops s0 h0 A ops.size s' h'
  | [], i, ms, recs, s, h, s', h', hl, hle, hm, hml, F, hok, hst, he => by
    simp only [drawGo, Option.some.injEq, Prod.mk.injEq] at he
    obtain ⟨rfl, rfl⟩ := he
    have : i = ops.size := by
      have := congrArg List.length hl
      simp at this
      omega
    subst this
    exact ⟨_, F⟩
  | o :: os, i, ms, recs, s, h, s', h', hl, hle, hm, hml, F, hok, hst, he => by
    have ho : ops[i]? = some o := by
      have := congrArg (fun l => l[0]?) hl
      simp only [List.getElem?_drop, List.getElem?_cons_zero] at this
      simpa using this
    have hlt : i < ops.size := by
      rcases Nat.lt_or_ge i ops.size with h | h
      · exact h
      · rw [Array.getElem?_eq_none h] at ho; cases ho
    have hl' : ops.toList.drop (i + 1) = os := by rw [← List.tail_drop, hl]; rfl
    simp only [drawGo] at he
    simp only [statGo, Bool.and_eq_true] at hst
    obtain ⟨⟨hedge, hslots⟩, hst⟩ := hst
    split at he
    case h_2 => cases he
    rename_i y h1 hop
    obtain ⟨hind, he⟩ := cond_some he
    split at he
    case h_2 => cases he
    rename_i s1 hp
    -- the slot is there
    have hput : ∀ d, o.dst = some d → d < s.size := by
      intro d hd
      rw [hd] at hp
      simp only [Env.put] at hp
      obtain ⟨hb, _⟩ := cond_some hp
      simpa [Nat.blt_eq] using hb
    obtain ⟨hj, hyo, hfok, htold, hheap, hro, hnx, hyn, hwf⟩ := drawOp_ok S hF hC F ho hput hop
    have hs1 : ∀ t, s1.get t = if o.dst = some t then y.r.v else s.get t := by
      intro t
      cases hd : o.dst with
      | none => rw [hd] at hp; simp only [Env.put, Option.some.injEq] at hp; subst hp; simp
      | some d =>
        rw [hd] at hp
        simp only [Env.put] at hp
        obtain ⟨_, hp⟩ := cond_some hp
        simp only [Option.some.injEq] at hp
        subst hp
        rw [Env.get_set]
        by_cases e : t = d
        · subst e; simp
        · rw [if_neg e, if_neg (by simp only [Option.some.injEq]; exact fun h => e h.symm)]
    have hs1s : s1.size = s.size := by
      cases hd : o.dst with
      | none => rw [hd] at hp; simp only [Env.put, Option.some.injEq] at hp; subst hp; rfl
      | some d =>
        rw [hd] at hp
        simp only [Env.put] at hp
        obtain ⟨_, hp⟩ := cond_some hp
        simp only [Option.some.injEq] at hp
        subst hp; rfl
    have hrev : (List.map (·.r) (y :: recs)).reverse = (recs.map (·.r)).reverse ++ [y.r] := by simp
    refine drawGo_ok S hF hC os (i + 1) (ms ++ [maskOf ms o]) (y :: recs) s1 h1 hl' hlt (maskOk_snoc hm hml ho) (by simp [hml]) ?_ (fun x hx => ?_) (by simpa [hj, hyo] using hst) he
    · rw [hrev]
      refine ⟨?_, ?_, hs1s.trans F.size, ?_, hro.trans F.ro, Nat.le_trans F.next hnx, ?_, hwf, ?_, ?_, ?_⟩
      · rw [List.map_append, F.js, List.range_succ]; simp [hj]
      · intro t
        rw [hs1, envV_snoc, hyo, F.env]
      · intro b
        rw [hheap, hpV_snoc, F.heap]
      · intro x hx
        rcases List.mem_append.1 hx with hx | hx
        · exact Nat.le_trans (F.nA x hx) hnx
        · simp only [List.mem_singleton] at hx; subst hx; exact hyn
      · intro A1 r A2 e
        rcases snoc_split e with ⟨_, rfl, rfl⟩ | ⟨A3, _, e3⟩
        · exact htold
        · exact F.told A1 r A3 e3
      · intro A1 r A2 e ed hed hb
        rcases snoc_split e with ⟨_, rfl, rfl⟩ | ⟨A3, _, e3⟩
        · rw [hyo] at hed
          simp only [List.all_eq_true, Bool.or_eq_true, Bool.not_eq_true', Nat.blt_eq] at hedge
          rcases hedge ed (by simpa using hed) with h2 | h2
          · rw [hb] at h2; cases h2
          · have : ed.on ∈ (recs.map (·.r)).reverse.map (·.j) := by rw [F.js]; exact List.mem_range.2 h2
            obtain ⟨x, hx, hxj⟩ := List.mem_map.1 this
            exact ⟨x, hx, hxj⟩
        · exact F.edges A1 r A3 e3 ed hed hb
      · intro A1 x A2 z A3 e
        have e' : (recs.map (·.r)).reverse ++ [y.r] = (A1 ++ x :: A2) ++ z :: A3 := by rw [e]; simp
        rcases snoc_split e' with ⟨_, e1, rfl⟩ | ⟨A4, _, e3⟩
        · have hxm : x ∈ (recs.map (·.r)).reverse := by rw [← e1]; simp
          rw [List.mem_reverse, List.mem_map] at hxm
          obtain ⟨fx, hfx, rfl⟩ := hxm
          simp only [List.all_eq_true, Bool.or_eq_true] at hind hslots
          rcases hslots (fx.r.j, fx.r.o) (List.mem_map.2 ⟨fx, hfx, rfl⟩) with h2 | h2
          · rw [hj]; exact .inl (maskOf_ok hm ho h2)
          · rw [← hyo] at h2
            rcases hind with h3 | h3
            · exact .inr (free_of (hok fx hfx) hfok h2 (.inl h3))
            · rcases h3 fx hfx with h4 | h4
              · exact .inr (free_of (hok fx hfx) hfok h2 (.inr h4))
              · rw [hj]; exact .inl (maskOf_ok hm ho h4)
        · exact F.apart A1 x A2 z A4 (by rw [e3]; simp)
    · rcases List.mem_cons.1 hx with rfl | hx
      · exact hfok
      · exact hok x hx

theorem draw_sound {rec : Runs} (S : Sound P rec) (hF : Frames rec) (hC : callsOk P cls = true) (hmix : P.follows .mixedOrders = true) {rd : Option Nat} {id : Nat} {ops : Array Oper} {s s' : Env} {h h' : AHeap}
    (hst : statGo ops ops.toList 0 [] [] = true) (he : drawGo P cls rec ops ops.toList 0 [] [] s h = some (s', h')) : T P rd (.region id ops true) s h (fun e1 s1 h1 => e1 = .normal ∧ s1 = s' ∧ h1 = h') := by
  intro ρ w tm ds hr
  have F0 : Sofar P ops s h ([] : List DRec) 0 s h := ⟨rfl, fun t => rfl, rfl, fun b => rfl, rfl, Nat.le_refl _, fun x hx => (by cases hx), fun b o hb => hr.dom b o hb,
    fun A1 r A2 e => by simp at e, fun A1 r A2 e => by simp at e, fun A1 x A2 y A3 e => by simp at e⟩
  obtain ⟨A, F⟩ := drawGo_ok S hF hC ops.toList 0 [] [] s h rfl (Nat.zero_le _) (fun k q hq => by simp at hq) rfl F0 (fun x hx => (by cases hx)) hst he
  have V : Valid P ops s h A := ⟨by rw [F.js]; exact List.nodup_range, fun i hi => by
      have : i ∈ A.map (·.j) := by rw [F.js]; exact List.mem_range.2 hi
      obtain ⟨r, hr, hj⟩ := List.mem_map.1 this
      exact ⟨r, hr, hj⟩, F.told, F.edges, F.apart⟩
  exact T_regionDraw hmix V F.env F.size F.heap F.ro F.next F.nA ⟨rfl, rfl, rfl⟩ ρ w tm ds hr

/-! ### Frames -/
theorem callF_af {rec : Runs} (hF : Frames rec) {g : FuncId} {args : List Value} {h h' : AHeap} {v : Value} (he : callF cls rec g args h = some (v, h')) : AF h h' := by
  unfold callF at he
  split at he
  · split at he
    · rename_i hrec
      simp only [Option.some.injEq, Prod.mk.injEq] at he
      obtain ⟨_, rfl⟩ := he
      exact hF _ _ _ _ hrec
    · cases he
  · split at he
    · obtain ⟨_, he⟩ := cond_some he
      simp only [Option.some.injEq, Prod.mk.injEq] at he
      obtain ⟨_, rfl⟩ := he
      exact .refl _
    · cases he
  · split at he
    · rename_i hrec
      simp only [Option.some.injEq, Prod.mk.injEq] at he
      obtain ⟨_, rfl⟩ := he
      exact .graft (hF _ _ _ _ hrec).lock.1
    · cases he
  · cases he
theorem roundF_af {rec : Runs} (hF : Frames rec) {L : Nat} {args : List Value} {h h' : AHeap} {v : Value} (he : roundF rec L args h = some (v, h')) : AF h h' := by
  unfold roundF at he
  split at he
  case h_2 => cases he
  rename_i A hg
  split at he
  case h_2 => cases he
  split at he
  case h_2 => cases he
  rename_i s1 h1 hrec
  split at he
  case h_2 => cases he
  rename_i A1 g1
  obtain ⟨_, he⟩ := cond_some he
  split at he
  case h_2 => cases he
  rename_i e s2 h2 hrec2
  split at he
  case h_2 => cases he
  rename_i A2 g2
  obtain ⟨_, he⟩ := cond_some he
  simp only [Option.some.injEq, Prod.mk.injEq] at he
  obtain ⟨rfl, rfl⟩ := he
  exact (((hF _ _ _ _ hrec).trans (.setOld g1 _)).trans (hF _ _ _ _ hrec2)).trans (.setOld g2 _)
theorem rangeF_af {rec : Runs} (hF : Frames rec) {rd : Option Nat} {f : Option Value} {params : Array Tmp} {as bd : Code} {s : Env} {h h' : AHeap} {e : Ex} (he : rangeF cls rec rd f params as bd s h = some (e, h')) : AF h h' := by
  unfold rangeF at he
  split at he
  case h_2 => cases he
  obtain ⟨_, he⟩ := cond_some he
  split at he
  case h_2 => cases he
  rename_i v h1 hrec
  split at he
  case h_2 => cases he
  rename_i A hA
  obtain ⟨_, he⟩ := cond_some he
  split at he
  case h_2 => cases he
  simp only [Option.some.injEq, Prod.mk.injEq] at he
  obtain ⟨_, rfl⟩ := he
  exact ((AF.push _ _).trans (hF _ _ _ _ hrec)).trans (.setOld hA _)
theorem evalOp_af {rec : Runs} (hF : Frames rec) {s : Env} {o : Oper} {h h' : AHeap} {v : Value} (he : evalOp P cls rec s o h = some (v, h')) : AF h h' := by
  unfold evalOp at he
  split at he
  · split at he
    · rename_i g fa fc vs _ _
      cases hk : Nat.beq (cls.getD g 0) 0 with
      | true =>
        rw [hk] at he
        simp only [cond_true] at he
        exact (aext_still he).af
      | false =>
        rw [hk] at he
        simp only [cond_false] at he
        exact callF_af hF he
    · obtain ⟨_, he⟩ := cond_some he
      exact roundF_af hF he
    · cases he
  · exact (aop_parts he).1
theorem runOps_af {rec : Runs} (hF : Frames rec) {ops : Array Oper} : ∀ (l : List Oper) {s s' : Env} {h h' : AHeap}, runOps P cls rec ops l s h = some (s', h') → AF h h'
  | [], s, s', h, h', he => by
    simp only [runOps, Option.some.injEq, Prod.mk.injEq] at he
    obtain ⟨_, rfl⟩ := he
    exact .refl _
  | o :: os, s, s', h, h', he => by
    simp only [runOps] at he
    cases hw : awanted ops s o with
    | false =>
      rw [hw] at he
      simp only [cond_false] at he
      split at he
      · exact runOps_af hF os he
      · cases he
    | true =>
      rw [hw] at he
      simp only [cond_true] at he
      split at he
      · rename_i hev
        split at he
        · exact (evalOp_af hF hev).trans (runOps_af hF os he)
        · cases he
      · cases he
theorem af_mend {h g : AHeap} {l : List Nat} (hn : h.next ≤ g.next) (hl : ∀ b, b ∈ l → ∀ o, g.get b = some o → h.get b ≠ none ∨ (h.next ≤ b ∧ b < g.next)) : AF h (h.mend g l) := ⟨hn, rfl, fun b o hb => by
  rw [get_mend] at hb
  split at hb
  · rename_i hm; exact hl b hm o hb
  · exact .inl (by rw [hb]; simp)⟩
theorem drawOp_af {rec : Runs} (hF : Frames rec) {ops : Array Oper} {recs : List FRec} {mask i : Nat} {o : Oper} {os : List Oper} {s : Env} {h h1 : AHeap} {y : FRec} (he : drawOp P cls rec ops recs mask i os o s h = some (y, h1)) : AF h h1 := by
  unfold drawOp at he
  cases hw : awanted ops s o with
  | false =>
    rw [hw] at he
    simp only [cond_false, Option.some.injEq, Prod.mk.injEq] at he
    obtain ⟨_, rfl⟩ := he
    exact .refl _
  | true =>
    rw [hw] at he
    simp only [cond_true] at he
    split at he
    · split at he
      case h_2 => cases he
      split at he
      · split at he
        case h_2 => cases he
        rename_i hrec
        simp only [Option.some.injEq, Prod.mk.injEq] at he
        obtain ⟨_, rfl⟩ := he
        have af := hF _ _ _ _ hrec
        refine ⟨af.next, af.ro, fun b o' hb => ?_⟩
        rw [get_unhide] at hb
        split at hb
        · exact .inl (by rw [hb]; simp)
        · rcases af.alive b o' hb with h2 | h2
          · rw [get_hide] at h2
            split at h2
            · exact absurd rfl h2
            · exact .inl h2
          · exact .inr h2
      · split at he
        case h_2 => cases he
        obtain ⟨_, he⟩ := cond_some he
        simp only [Option.some.injEq, Prod.mk.injEq] at he
        obtain ⟨_, rfl⟩ := he
        exact .refl _
      · split at he
        case h_2 => cases he
        rename_i hrec
        simp only [Option.some.injEq, Prod.mk.injEq] at he
        obtain ⟨_, rfl⟩ := he
        have := (hF _ _ _ _ hrec).lock.1
        exact .graft this
      · split at he
        case h_2 => cases he
        rename_i v g' hop
        simp only [Option.some.injEq, Prod.mk.injEq] at he
        obtain ⟨_, rfl⟩ := he
        have af := (aext_still hop).af
        refine af_mend af.next (fun b _ o' hb => ?_)
        rcases af.alive b o' hb with h2 | h2
        · rw [get_pick] at h2
          split at h2
          · exact .inl h2
          · exact absurd rfl h2
        · exact .inr h2
    · split at he
      case h_2 => cases he
      rename_i v g' hop
      simp only [Option.some.injEq, Prod.mk.injEq] at he
      obtain ⟨_, rfl⟩ := he
      have af := (aop_parts hop).1
      refine af_mend af.next (fun b _ o' hb => ?_)
      rcases af.alive b o' hb with h2 | h2
      · rw [get_pick] at h2
        split at h2
        · exact .inl h2
        · exact absurd rfl h2
      · exact .inr h2
theorem drawGo_af {rec : Runs} (hF : Frames rec) {ops : Array Oper} : ∀ (l : List Oper) (i : Nat) (ms : List Nat) (recs : List FRec) {s s' : Env} {h h' : AHeap}, drawGo P cls rec ops l i ms recs s h = some (s', h') → AF h h'
  | [], i, ms, recs, s, s', h, h', he => by
    simp only [drawGo, Option.some.injEq, Prod.mk.injEq] at he
    obtain ⟨_, rfl⟩ := he
    exact .refl _
  | o :: os, i, ms, recs, s, s', h, h', he => by
    simp only [drawGo] at he
    split at he
    case h_2 => cases he
    rename_i y h1 hop
    obtain ⟨_, he⟩ := cond_some he
    split at he
    case h_2 => cases he
    exact (drawOp_af hF hop).trans (drawGo_af hF os _ _ _ he)

theorem body_frames {rec : Runs} (hF : Frames rec) : Frames (body P cls rec) := by
  intro t h o h' he
  cases t with
  | call f args =>
    simp only [body] at he
    split at he
    case h_1 => cases he
    split at he
    case h_1 => cases he
    split at he
    · rename_i hrec
      split at he
      · simp only [Option.some.injEq, Prod.mk.injEq] at he; obtain ⟨_, rfl⟩ := he; exact hF _ _ _ _ hrec
      · cases he
    · rename_i hrec
      split at he
      · simp only [Option.some.injEq, Prod.mk.injEq] at he; obtain ⟨_, rfl⟩ := he; exact hF _ _ _ _ hrec
      · cases he
    · cases he
  | code rd c s =>
    cases c <;> simp only [body] at he
    case skip => simp only [Option.some.injEq, Prod.mk.injEq] at he; obtain ⟨_, rfl⟩ := he; exact .refl _
    case label => simp only [Option.some.injEq, Prod.mk.injEq] at he; obtain ⟨_, rfl⟩ := he; exact .refl _
    case exit => simp only [Option.some.injEq, Prod.mk.injEq] at he; obtain ⟨_, rfl⟩ := he; exact .refl _
    case ret => simp only [Option.some.injEq, Prod.mk.injEq] at he; obtain ⟨_, rfl⟩ := he; exact .refl _
    case region id ops draw =>
      cases draw with
      | true =>
        simp only [cond_true] at he
        obtain ⟨_, he⟩ := cond_some he
        split at he
        · rename_i hd
          simp only [Option.some.injEq, Prod.mk.injEq] at he; obtain ⟨_, rfl⟩ := he
          exact drawGo_af hF _ _ _ _ hd
        · cases he
      | false =>
        simp only [cond_false] at he
        split at he
        · rename_i hd
          simp only [Option.some.injEq, Prod.mk.injEq] at he; obtain ⟨_, rfl⟩ := he
          exact runOps_af hF _ hd
        · cases he
    case seq a b =>
      split at he
      · rename_i hrec; exact (hF _ _ _ _ hrec).trans (hF _ _ _ _ he)
      · exact hF _ _ _ _ he
    case cond x a b =>
      split at he
      · exact hF _ _ _ _ he
      · exact hF _ _ _ _ he
      · cases he
    case block id a =>
      split at he
      · rename_i id' s1 h1 hrec
        cases hb : Nat.beq id' id with
        | true => rw [hb] at he; simp only [cond_true, Option.some.injEq, Prod.mk.injEq] at he; obtain ⟨_, rfl⟩ := he; exact hF _ _ _ _ hrec
        | false => rw [hb] at he; simp only [cond_false, Option.some.injEq, Prod.mk.injEq] at he; obtain ⟨_, rfl⟩ := he; exact hF _ _ _ _ hrec
      · exact hF _ _ _ _ he
    case scope a => exact hF _ _ _ _ he
    case loop a =>
      split at he
      · rename_i hrec; exact (hF _ _ _ _ hrec).trans (hF _ _ _ _ he)
      · exact hF _ _ _ _ he
    case rangeFunc f params as bd =>
      split at he
      · rename_i hr
        simp only [Option.some.injEq, Prod.mk.injEq] at he
        obtain ⟨_, rfl⟩ := he
        exact rangeF_af hF hr
      · cases he
    all_goals cases he

theorem body_sound {rec : Runs} (S : Sound P rec) (hF : Frames rec) (hC : callsOk P cls = true) (hmix : P.follows .mixedOrders = true) : Sound P (body P cls rec) := by
  refine ⟨?_, ?_, ?_, ?_⟩
  · intro rd c s h e s' h' he
    cases c <;> simp only [body] at he
    case skip => simp only [Option.some.injEq, Prod.mk.injEq, Out.ex.injEq] at he; obtain ⟨⟨rfl, rfl⟩, rfl⟩ := he; exact T_skip ⟨rfl, rfl, rfl⟩
    case label => simp only [Option.some.injEq, Prod.mk.injEq, Out.ex.injEq] at he; obtain ⟨⟨rfl, rfl⟩, rfl⟩ := he; exact T_label ⟨rfl, rfl, rfl⟩
    case exit => simp only [Option.some.injEq, Prod.mk.injEq, Out.ex.injEq] at he; obtain ⟨⟨rfl, rfl⟩, rfl⟩ := he; exact T_exit ⟨rfl, rfl, rfl⟩
    case ret => simp only [Option.some.injEq, Prod.mk.injEq, Out.ex.injEq] at he; obtain ⟨⟨rfl, rfl⟩, rfl⟩ := he; exact T_ret ⟨rfl, rfl, rfl⟩
    case region id ops draw =>
      cases draw with
      | true =>
        simp only [cond_true] at he
        obtain ⟨hst, he⟩ := cond_some he
        split at he
        · rename_i hd
          simp only [Option.some.injEq, Prod.mk.injEq, Out.ex.injEq] at he
          obtain ⟨⟨rfl, rfl⟩, rfl⟩ := he
          exact draw_sound S hF hC hmix hst hd
        · cases he
      | false =>
        simp only [cond_false] at he
        split at he
        · rename_i hd
          simp only [Option.some.injEq, Prod.mk.injEq, Out.ex.injEq] at he
          obtain ⟨⟨rfl, rfl⟩, rfl⟩ := he
          refine T_region ?_
          have := runOps_sound S hC ops.toList 0 rfl hd
          rw [Array.length_toList, ← List.range_eq_range'] at this
          intro ρ w tm ds hr hs b k cs
          obtain ⟨s1, h1, ρ1, w1, tm1, ⟨q1, q2⟩, r⟩ := this ρ w tm ds hr hs b k cs
          exact ⟨s1, h1, ρ1, w1, tm1, ⟨rfl, q1, q2⟩, r⟩
        · cases he
    case seq a b =>
      refine T_seq ?_
      split at he
      · rename_i s1 h1 hrec
        refine (S.code _ _ _ _ _ _ _ hrec).mono ?_
        rintro e1 s2 h2 ⟨rfl, rfl, rfl⟩
        exact S.code _ _ _ _ _ _ _ he
      · rename_i hne
        refine (S.code _ _ _ _ _ _ _ he).mono ?_
        rintro e1 s2 h2 ⟨rfl, rfl, rfl⟩
        cases e1 with
        | normal => exact (hne _ _ he).elim
        | exit id => exact ⟨rfl, rfl, rfl⟩
        | ret => exact ⟨rfl, rfl, rfl⟩
    case cond x a b =>
      split at he
      · rename_i hx; exact T_cond hx (by rw [if_pos rfl]; exact S.code _ _ _ _ _ _ _ he)
      · rename_i hx; exact T_cond hx (by rw [if_neg (by decide)]; exact S.code _ _ _ _ _ _ _ he)
      · cases he
    case block id a =>
      refine T_block ?_
      split at he
      · rename_i id' s1 h1 hrec
        refine (S.code _ _ _ _ _ _ _ hrec).mono ?_
        rintro e1 s2 h2 ⟨rfl, rfl, rfl⟩
        cases hb : Nat.beq id' id with
        | true =>
          rw [hb] at he
          simp only [cond_true, Option.some.injEq, Prod.mk.injEq, Out.ex.injEq] at he
          obtain ⟨⟨rfl, rfl⟩, rfl⟩ := he
          rw [Nat.eq_of_beq_eq_true hb, if_pos rfl]
          exact ⟨rfl, rfl, rfl⟩
        | false =>
          rw [hb] at he
          simp only [cond_false, Option.some.injEq, Prod.mk.injEq, Out.ex.injEq] at he
          obtain ⟨⟨rfl, rfl⟩, rfl⟩ := he
          rw [if_neg (by
            intro hc
            cases hc
            rw [Nat.beq_refl] at hb; cases hb)]
          exact ⟨rfl, rfl, rfl⟩
      · rename_i hne
        refine (S.code _ _ _ _ _ _ _ he).mono ?_
        rintro e1 s2 h2 ⟨rfl, rfl, rfl⟩
        cases e1 with
        | normal => rw [if_neg (by simp)]; exact ⟨rfl, rfl, rfl⟩
        | exit id' => exact (hne _ _ _ he).elim
        | ret => rw [if_neg (by simp)]; exact ⟨rfl, rfl, rfl⟩
    case scope a => exact T_scope (S.code _ _ _ _ _ _ _ he)
    case loop a =>
      refine T_loop_step ?_
      split at he
      · rename_i s1 h1 hrec
        refine (S.code _ _ _ _ _ _ _ hrec).mono ?_
        rintro e1 s2 h2 ⟨rfl, rfl, rfl⟩
        exact S.code _ _ _ _ _ _ _ he
      · rename_i hne
        refine (S.code _ _ _ _ _ _ _ he).mono ?_
        rintro e1 s2 h2 ⟨rfl, rfl, rfl⟩
        cases e1 with
        | normal => exact (hne _ _ he).elim
        | exit id => exact ⟨rfl, rfl, rfl⟩
        | ret => exact ⟨rfl, rfl, rfl⟩
    case rangeFunc f params as bd =>
      split at he
      · rename_i hr
        simp only [Option.some.injEq, Prod.mk.injEq, Out.ex.injEq] at he
        obtain ⟨⟨rfl, rfl⟩, rfl⟩ := he
        exact rangeF_sound S hC hr
      · cases he
    all_goals cases he
  · intro f args h v h' he
    simp only [body] at he
    split at he
    case h_1 => cases he
    rename_i fn hfn
    split at he
    case h_1 => cases he
    rename_i c hc
    have fin : ∀ e s1 h1, (e = .normal ∨ e = .ret) → rec (.code none c (Env.enter args fn.ntmps)) h = some (.ex e s1, h1) → (match aresults P s1 h1 fn.results.toList with | some vs => some (Out.val (aresult vs), h1) | none => none) = some (.val v, h') →
        TC P f args h (fun v1 h1 => v1 = v ∧ h1 = h') := by
      intro e s1 h1 hee hrec hres
      split at hres
      · rename_i vs hvs
        simp only [Option.some.injEq, Prod.mk.injEq, Out.val.injEq] at hres
        obtain ⟨rfl, rfl⟩ := hres
        refine TC_of_T hfn hc ((S.code _ _ _ _ _ _ _ hrec).mono ?_)
        rintro e1 s2 h2 ⟨rfl, rfl, rfl⟩
        exact ⟨hee, vs, hvs, rfl, rfl⟩
      · cases hres
    split at he
    · rename_i s1 h1 hrec; exact fin _ s1 h1 (.inl rfl) hrec he
    · rename_i s1 h1 hrec; exact fin _ s1 h1 (.inr rfl) hrec he
    · cases he
  · intro rd c s h o h' he
    cases c <;> simp only [body] at he
    case skip => simp only [Option.some.injEq, Prod.mk.injEq] at he; obtain ⟨rfl, _⟩ := he; exact ⟨_, _, rfl⟩
    case label => simp only [Option.some.injEq, Prod.mk.injEq] at he; obtain ⟨rfl, _⟩ := he; exact ⟨_, _, rfl⟩
    case exit => simp only [Option.some.injEq, Prod.mk.injEq] at he; obtain ⟨rfl, _⟩ := he; exact ⟨_, _, rfl⟩
    case ret => simp only [Option.some.injEq, Prod.mk.injEq] at he; obtain ⟨rfl, _⟩ := he; exact ⟨_, _, rfl⟩
    case region id ops draw =>
      cases draw with
      | true =>
        simp only [cond_true] at he
        obtain ⟨_, he⟩ := cond_some he
        split at he
        · simp only [Option.some.injEq, Prod.mk.injEq] at he; obtain ⟨rfl, _⟩ := he; exact ⟨_, _, rfl⟩
        · cases he
      | false =>
        simp only [cond_false] at he
        split at he
        · simp only [Option.some.injEq, Prod.mk.injEq] at he; obtain ⟨rfl, _⟩ := he; exact ⟨_, _, rfl⟩
        · cases he
    case seq a b =>
      split at he
      · exact S.kind _ _ _ _ _ _ he
      · exact S.kind _ _ _ _ _ _ he
    case cond x a b =>
      split at he
      · exact S.kind _ _ _ _ _ _ he
      · exact S.kind _ _ _ _ _ _ he
      · cases he
    case block id a =>
      split at he
      · rename_i id' s1 h1 hrec
        cases hb : Nat.beq id' id with
        | true => rw [hb] at he; simp only [cond_true, Option.some.injEq, Prod.mk.injEq] at he; obtain ⟨rfl, _⟩ := he; exact ⟨_, _, rfl⟩
        | false => rw [hb] at he; simp only [cond_false, Option.some.injEq, Prod.mk.injEq] at he; obtain ⟨rfl, _⟩ := he; exact ⟨_, _, rfl⟩
      · exact S.kind _ _ _ _ _ _ he
    case scope a => exact S.kind _ _ _ _ _ _ he
    case loop a =>
      split at he
      · exact S.kind _ _ _ _ _ _ he
      · exact S.kind _ _ _ _ _ _ he
    case rangeFunc f params as bd =>
      split at he
      · simp only [Option.some.injEq, Prod.mk.injEq] at he; obtain ⟨rfl, _⟩ := he; exact ⟨_, _, rfl⟩
      · cases he
    all_goals cases he
  · intro f args h o h' he
    simp only [body] at he
    split at he
    case h_1 => cases he
    split at he
    case h_1 => cases he
    split at he
    · split at he
      · simp only [Option.some.injEq, Prod.mk.injEq] at he; obtain ⟨rfl, _⟩ := he; exact ⟨_, rfl⟩
      · cases he
    · split at he
      · simp only [Option.some.injEq, Prod.mk.injEq] at he; obtain ⟨rfl, _⟩ := he; exact ⟨_, rfl⟩
      · cases he
    · cases he

theorem run_both (hC : callsOk P cls = true) (hmix : P.follows .mixedOrders = true) : ∀ n, Sound P (run P cls n) ∧ Frames (run P cls n)
  | 0 => ⟨⟨fun rd c s h e s' h' he => (by cases he), fun f args h v h' he => (by cases he), fun rd c s h o h' he => (by cases he), fun f args h o h' he => (by cases he)⟩, fun t h o h' he => (by cases he)⟩
  | n + 1 => by
    obtain ⟨S, F⟩ := run_both hC hmix n
    exact ⟨body_sound S F hC hmix, body_frames F⟩
/-- What the interpreter answers of a call, the call does. -/
theorem TC_of_run (hC : callsOk P cls = true) (hmix : P.follows .mixedOrders = true) {n : Nat} {f : FuncId} {args : List Value} {h h' : AHeap} {v : Value} (he : run P cls n (.call f args) h = some (.val v, h')) : TC P f args h (fun v1 h1 => v1 = v ∧ h1 = h') :=
  (run_both hC hmix n).1.call _ _ _ _ _ he

/-! ### From nothing known of the world -/
/-- The heap of which nothing is told. -/
def nowhere (n : Nat) : AHeap := ⟨.e, n, n⟩
/-- The heap of which some tables are told: package-level variables. -/
def tabled (n : Nat) (tabs : List (Nat × List Value)) : AHeap := ⟨tabs.foldl (fun t x => t.set x.1 (some (.tab x.2))) .e, n, n⟩
theorem get_tabled {n : Nat} {tabs : List (Nat × List Value)} {b : Nat} {o : AObj} (h : (tabled n tabs).get b = some o) : ∃ c, (b, c) ∈ tabs ∧ o = .tab c := by
  have key : ∀ (l : List (Nat × List Value)) (t : Tr AObj), (l.foldl (fun t x => t.set x.1 (some (.tab x.2))) t).get b = some o → (∃ c, (b, c) ∈ l ∧ o = .tab c) ∨ t.get b = some o := by
    intro l
    induction l with
    | nil => intro t h; exact .inr h
    | cons x l ih =>
      intro t h
      rw [List.foldl_cons] at h
      rcases ih _ h with ⟨c, h1, h2⟩ | h1
      · exact .inl ⟨c, by simp [h1], h2⟩
      · rw [Tr.get_set] at h1
        split at h1
        · rename_i e
          simp only [Option.some.injEq] at h1
          subst e
          exact .inl ⟨x.2, by simp, h1.symm⟩
        · exact .inr h1
  rcases key tabs .e h with h1 | h1
  · exact h1
  · cases h1
/-- The world holds the table. -/
def HoldsTab (w : World) (g : Nat) (c : List Value) : Prop := ∃ cs t fz, w.heap[g]? = some (.cells cs t fz) ∧ ∀ (i : Nat) x, c[i]? = some x → cs[i]? = some x
theorem rel_tabled (P : Program) (w : World) (n : Nat) (tabs : List (Nat × List Value)) (hn : P.globals.size ≤ n) (hg : ∀ x, x ∈ tabs → x.1 < n ∧ x.2.all flat = true ∧ HoldsTab w x.1 x.2) :
    Rel P ⟨n, fun g => some ⟨g, 0, (match w.heap[g]? with | some (.cells cs _ _) => cs.size | _ => 0), 0⟩⟩ (tabled n tabs) w := by
  refine ⟨rfl, Nat.le_refl _, fun b o h => ?_, fun b o h => ?_, fun b1 b2 o1 o2 p1 p2 h1 h2 m1 m2 e => ?_, hn, fun b pl _ h => ?_⟩
  · obtain ⟨c, h1, _⟩ := get_tabled h
    exact (hg _ h1).1
  · obtain ⟨c, h1, rfl⟩ := get_tabled h
    obtain ⟨_, h2, cs, t, fz, h3, h4⟩ := hg _ h1
    refine ⟨_, rfl, t, cs, fz, h3, by simp only [h3], ⟨rfl, Nat.zero_mod _⟩, ?_, fun e => (by cases e), fun i x hx => ⟨x, by simpa using h4 i x hx, ?_⟩⟩
    · show 0 + c.length ≤ cs.size
      rcases Nat.lt_or_ge cs.size c.length with hl | hl
      · have h5 := h4 cs.size _ (List.getElem?_eq_getElem hl)
        simp at h5
      · omega
    · simp only [List.all_eq_true] at h2
      exact .of_flat _ (h2 x (List.mem_of_getElem? hx))
  · simp only [Option.some.injEq] at m1 m2
    subst m1 m2
    exact e
  · simp only [Option.some.injEq] at h
    subst h
    exact ⟨rfl, rfl⟩

theorem scal_same {ρ : Ren} {v v' : Value} (hv : scal v = true) (hvr : VRel ρ v v') : v' = v := by
  cases v with
  | tuple a =>
    cases hvr with
    | tuple ha hr =>
      simp only [scal, List.all_eq_true] at hv
      congr 1
      apply Array.ext'
      refine list_eq_of (by simpa using ha) (fun i x y hx hy => ?_)
      exact flat_eq (hr i x y (by simpa using hx) (by simpa using hy)) (hv x (List.mem_of_getElem? hx))
  | _ => exact flat_eq hvr hv
/-- What stays of the world. -/
theorem Calls_of_runT (hC : callsOk P cls = true) (hmix : P.follows .mixedOrders = true) {n m : Nat} {tabs : List (Nat × List Value)} {f : FuncId} {h' : AHeap} {v : Value} (hv : scal v = true) (hn : P.globals.size ≤ m) (he : run P cls n (.call f []) (tabled m tabs) = some (.val v, h')) (w : World)
    (hg : ∀ x, x ∈ tabs → x.1 < m ∧ x.2.all flat = true ∧ HoldsTab w x.1 x.2) :
    Calls P f #[] w fun e w' => e = .returned v ∧ RowKit.Below w.heap.size w w' := by
  refine (TC_of_run hC hmix he _ w [] (rel_tabled P w m tabs hn hg) (.nil _)).mono fun e w' => ?_
  rintro ⟨v1, v', h1, ρ', rfl, ⟨rfl, rfl⟩, st, hvr⟩
  refine ⟨by rw [scal_same hv hvr], st.os, st.tape, st.output, st.size, fun k hk => st.frame k hk ?_⟩
  rintro ⟨b, o, pl, hb, hro, _⟩
  obtain ⟨c, hc, _⟩ := get_tabled hb
  have h1 := (hg _ hc).1
  have h2 : m ≤ b := hro
  omega
theorem Calls_of_run (hC : callsOk P cls = true) (hmix : P.follows .mixedOrders = true) {n m : Nat} {f : FuncId} {h' : AHeap} {v : Value} (hv : scal v = true) (hn : P.globals.size ≤ m) (he : run P cls n (.call f []) (nowhere m) = some (.val v, h')) (w : World) :
    Calls P f #[] w fun e w' => e = .returned v ∧ RowKit.Below w.heap.size w w' := Calls_of_runT (tabs := []) hC hmix hv hn he w (fun x hx => by cases hx)

end
end Go.Ai
