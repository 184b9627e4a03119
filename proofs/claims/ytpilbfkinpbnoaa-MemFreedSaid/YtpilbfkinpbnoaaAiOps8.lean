/-
  EACH OPERATION ON AN ABSTRACT HEAP SAYS WHAT THE WORLD's DOES.
-/
import Derived.Test.YtpilbfkinpbnoaaAiOps7
namespace Go.Ai
noncomputable section
variable {P : Program}

/-- What an operation comes to. -/
def OpOk (P : Program) (ρ : Ren) (h : AHeap) (w : World) (s : Sem Next) (v : Value) (h' : AHeap) : Prop :=
  ∃ n w' ρ' v', s.run P w = .ok n w' ∧ (n = .value v' ∨ (n = .skip ∧ v' = undef)) ∧ Step P ρ h w ρ' h' w' ∧ VRel ρ' v v'
theorem OpOk.val {ρ : Ren} {h h' : AHeap} {w : World} {s : Sem Value} {v : Value} (e : ∃ v' w' ρ', s.run P w = .ok v' w' ∧ Step P ρ h w ρ' h' w' ∧ VRel ρ' v v') :
    OpOk P ρ h w (do pure (.value (← s))) v h' := by
  obtain ⟨v', w', ρ', e, st, hv⟩ := e
  exact ⟨.value v', w', ρ', v', by rw [Sem.run_bind, e]; rfl, .inl rfl, st, hv⟩
/-- .. without a turn of the heap. -/
theorem OpOk.still {ρ : Ren} {h : AHeap} {w : World} {s : Sem Value} {v : Value} (hr : Rel P ρ h w) (e : ∃ v', s.run P w = .ok v' w ∧ VRel ρ v v') :
    OpOk P ρ h w (do pure (.value (← s))) v h := by
  obtain ⟨v', e, hv⟩ := e
  exact .val ⟨v', w, ρ, e, .refl hr, hv⟩
theorem OpOk.pure {ρ : Ren} {h : AHeap} {w : World} {v v' : Value} (hr : Rel P ρ h w) (hv : VRel ρ v v') : OpOk P ρ h w (Pure.pure (.value v')) v h :=
  ⟨.value v', w, ρ, v', rfl, .inl rfl, .refl hr, hv⟩
theorem one_some {h h' : AHeap} {x : Option Value} {v : Value} (e : one h x = some (v, h')) : x = some v ∧ h' = h := by
  unfold one at e
  split at e
  · cases e
  · simp only [Option.some.injEq, Prod.mk.injEq] at e; obtain ⟨rfl, rfl⟩ := e; exact ⟨rfl, rfl⟩

theorem pick_sound {ρ : Ren} {h : AHeap} {w : World} {c v : Value} {b : Bool} {va vb : Value} (hr : Rel P ρ h w) (hc : VRel ρ (.bool b) c) (hv : VRel ρ v (if b = true then va else vb)) :
    OpOk P ρ h w (do Pure.pure (.value (if ← asBool c then va else vb))) v h := by
  cases hc
  exact ⟨_, w, ρ, _, by simp only [asBool, Sem.run_bind, Sem.run_pure, Result.andThen_ok], .inl rfl, .refl hr, hv⟩
theorem aindexv_sound {ρ : Ren} {t : TypeId} {a b a' b' v : Value} (hf : (flat a && flat b) = true) (h : fl (srun P (Instr.index t a b)) = some v) (ha : VRel ρ a a') (hb : VRel ρ b b') (w : World) :
    ∃ v', (Instr.index t a' b').run P w = .ok v' w ∧ VRel ρ v v' := by
  simp only [Bool.and_eq_true] at hf
  obtain rfl := flat_eq ha hf.1
  obtain rfl := flat_eq hb hf.2
  obtain ⟨h1, h2⟩ := fl_some h
  exact ⟨v, srun_sound h1 w, .of_flat ρ h2⟩
theorem orel_flat {ρ : Ren} {x x' : Option Value} (h : ORel ρ x x') (hf : oflat x = true) : x' = x := by
  cases x with
  | none => exact h.2 rfl
  | some v => obtain ⟨v', rfl, hv⟩ := h.1 v rfl; rw [flat_eq hv hf]

set_option maxHeartbeats 1000000 in
theorem aop_sound {ρ : Ren} {s : Env} {a : Act} {o : Oper} {h h' : AHeap} {v : Value} {w : World} (he : aop P s o h = some (v, h')) (hr : Rel P ρ h w) (hs : EnvRel ρ s a.tmps) :
    OpOk P ρ h w (execOp a.eval o) v h' := by
  unfold aop at he
  split at he
  · -- move
    rename_i x hop
    obtain ⟨h1, rfl⟩ := one_some he
    simp only [execOp, hop]
    exact .pure hr (aev_sound hs h1)
  · -- assign
    rename_i x hop
    obtain ⟨h1, rfl⟩ := one_some he
    simp only [execOp, hop]
    exact .pure hr (aev_sound hs h1)
  · -- pick
    rename_i c x y hop
    simp only [execOp, hop]
    split at he
    · rename_i hc
      obtain ⟨h1, rfl⟩ := one_some he
      exact pick_sound hr (aev_sound hs hc) (by rw [if_pos rfl]; exact aev_sound hs h1)
    · rename_i hc
      obtain ⟨h1, rfl⟩ := one_some he
      exact pick_sound hr (aev_sound hs hc) (by rw [if_neg (by decide)]; exact aev_sound hs h1)
    · cases he
  · -- box
    rename_i t x hop
    simp only [execOp, hop]
    split at he
    case h_2 => cases he
    rename_i u hu
    simp only [Option.some.injEq, newb, Prod.mk.injEq] at he
    obtain ⟨rfl, rfl⟩ := he
    obtain ⟨a', w', ρ', e, st, hv⟩ := newVar_sound hr (aev_sound hs hu) t
    exact .val ⟨_, w', ρ', by simp only [Instr.box, Sem.run_bind, e, Result.andThen_ok, Sem.run_pure], st, hv⟩
  · -- alloc
    rename_i t hop
    simp only [execOp, hop]
    split at he
    case h_2 => cases he
    rename_i z hz
    simp only [Option.some.injEq, newb, Prod.mk.injEq] at he
    obtain ⟨rfl, rfl⟩ := he
    obtain ⟨z1, z2⟩ := azero_sound (ρ := ρ) hz w
    obtain ⟨a', w', ρ', e, st, hv⟩ := newVar_sound hr z2 t
    exact .val ⟨_, w', ρ', by simp only [Instr.alloc, Sem.run_bind, z1, e, Result.andThen_ok, Sem.run_pure], st, hv⟩
  · -- build
    rename_i t parts hop
    simp only [execOp, hop]
    split at he
    case h_2 => cases he
    rename_i ps hps
    obtain ⟨h1, rfl⟩ := one_some he
    have hp := aparts_sound hs hps
    obtain ⟨v', e, hv⟩ := abuild_sound h1 hp w
    refine .still hr ⟨v', ?_, hv⟩
    rw [← e]
    congr 1
    congr 1
    apply Array.ext'
    simp
  · -- buildSlice
    rename_i t len parts hop
    simp only [execOp, hop]
    split at he
    case h_2 => cases he
    rename_i ps hps
    have hp := aparts_sound hs hps
    obtain ⟨v', w', ρ', e, st, hv⟩ := abuildSlice_sound he hr hp
    refine .val ⟨v', w', ρ', ?_, st, hv⟩
    rw [← e]
    congr 1
    congr 1
    apply Array.ext'
    simp
  · -- load
    rename_i t x hop
    simp only [execOp, hop]
    split at he
    case h_2 => cases he
    rename_i u hu
    obtain ⟨h1, rfl⟩ := one_some he
    exact .still hr (aload_sound h1 hr (aev_sound hs hu))
  · -- store
    rename_i t p x hop
    simp only [execOp, hop]
    split at he
    case h_2 => cases he
    rename_i pv xv hp hx
    split at he
    case h_2 => cases he
    rename_i h2 hst
    simp only [Option.some.injEq, Prod.mk.injEq] at he
    obtain ⟨rfl, rfl⟩ := he
    obtain ⟨w', e, st⟩ := astore_sound hst hr (aev_sound hs hp) (aev_sound hs hx)
    exact ⟨.skip, w', ρ, undef, by rw [Sem.run_bind, e]; rfl, .inr ⟨rfl, rfl⟩, st, .of_plain _ rfl⟩
  · -- nilCheck
    rename_i x hop
    simp only [execOp, hop]
    split at he
    · rename_i p hp
      simp only [Option.some.injEq, Prod.mk.injEq] at he
      obtain ⟨rfl, rfl⟩ := he
      have e := aev_sound hs hp
      generalize a.eval x = xv at e
      cases e with
      | ptr hb hm => exact .pure hr (.ptr hb hm)
      | glob => exact .pure hr .glob
    · rename_i f fa fc hp
      simp only [Option.some.injEq, Prod.mk.injEq] at he
      obtain ⟨rfl, rfl⟩ := he
      have e := aev_sound hs hp
      generalize a.eval x = xv at e
      cases e with
      | func h1 h2 h3 h4 => exact .pure hr (.func h1 h2 h3 h4)
    · cases he
  · -- binOp
    rename_i op t x y yt hop
    simp only [execOp, hop]
    split at he
    case h_2 => cases he
    rename_i xv yv hx hy
    obtain ⟨h1, rfl⟩ := one_some he
    exact .still hr (abin2_sound h1 (aev_sound hs hx) (aev_sound hs hy) w)
  · -- unOp
    rename_i op t x hop
    simp only [execOp, hop]
    split at he
    case h_2 => cases he
    rename_i xv hx
    obtain ⟨hf, he⟩ := cond_some he
    obtain ⟨h1, rfl⟩ := one_some he
    obtain ⟨h2, h3⟩ := fl_some h1
    rw [flat_eq (aev_sound hs hx) hf]
    exact .still hr ⟨v, srun_sound h2 w, .of_flat ρ h3⟩
  · -- convert
    rename_i src dst x hop
    simp only [execOp, hop]
    split at he
    case h_2 => cases he
    rename_i xv hx
    exact .val (aconv_sound he hr (aev_sound hs hx))
  · -- makeInterface
    rename_i t x hop
    simp only [execOp, hop]
    split at he
    case h_2 => cases he
    rename_i xv hx
    split at he
    case h_2 => cases he
    rename_i u hu
    simp only [Option.some.injEq, Prod.mk.injEq] at he
    obtain ⟨rfl, rfl⟩ := he
    refine .still hr ⟨.iface t (a.eval x), ?_, .iface (aev_sound hs hx)⟩
    have := srun_sound hu w
    simp only [Instr.makeInterface, Sem.run_bind] at this ⊢
    cases hun : (underlying t).run P w with
    | halt e w2 => rw [hun] at this; cases this
    | ok d w2 =>
      rw [hun] at this
      simp only [Result.andThen_ok] at this ⊢
      cases d <;> simp_all
  · -- makeFunc
    rename_i f first captured hop
    simp only [execOp, hop]
    split at he
    case h_2 => cases he
    rename_i av cv ha hc
    simp only [Option.some.injEq, Prod.mk.injEq] at he
    obtain ⟨rfl, rfl⟩ := he
    have e1 := aevs_sound hs ha
    have e2 := aevs_sound hs hc
    refine .still hr ⟨.func (.func f) (first.map a.eval) (captured.map a.eval), rfl, .func (by simpa using e1.1) (by simpa using e2.1) (fun i x y hx hy => e1.2 i x y (by simpa using hx) (by simpa using hy)) (fun i x y hx hy => e2.2 i x y (by simpa using hx) (by simpa using hy))⟩
  · -- makeSlice
    rename_i t l c hop
    simp only [execOp, hop]
    split at he
    case h_2 => cases he
    rename_i lv cv hl hc
    exact .val (amake_sound he hr (aev_sound hs hl) (aev_sound hs hc))
  · -- slice
    rename_i t x lo hi hop
    simp only [execOp, hop]
    split at he
    · rename_i str av bv hx ha hb
      split at he
      case h_2 => cases he
      rename_i u hu
      simp only [Option.some.injEq, Prod.mk.injEq] at he
      obtain ⟨rfl, rfl⟩ := he
      obtain ⟨hf, hu⟩ := cond_some hu
      simp only [Bool.and_eq_true] at hf
      obtain ⟨h1, h2⟩ := fl_some hu
      rw [flat_eq (aev_sound hs hx) rfl, orel_flat (aopt_sound hs ha) hf.1, orel_flat (aopt_sound hs hb) hf.2]
      exact .still hr ⟨u, srun_sound h1 w, .of_flat ρ h2⟩
    · rename_i xv av bv _ hx ha hb
      obtain ⟨h1, rfl⟩ := one_some he
      exact .still hr (aslice_sound h1 hr (aev_sound hs hx) (aopt_sound hs ha) (aopt_sound hs hb))
    · cases he
  · -- fieldAddr
    rename_i t x f hop
    simp only [execOp, hop]
    split at he
    case h_2 => cases he
    rename_i xv hx
    obtain ⟨h1, rfl⟩ := one_some he
    exact .still hr (afield_sound h1 (aev_sound hs hx) w)
  · -- field
    rename_i t x f hop
    simp only [execOp, hop]
    split at he
    case h_2 => cases he
    rename_i cs hx
    split at he
    case h_2 => cases he
    rename_i fields hu
    split at he
    case h_2 => cases he
    rename_i fd hfd
    obtain ⟨h1, rfl⟩ := one_some he
    have e := aev_sound hs hx
    generalize a.eval x = xv at e
    cases e with
    | agg h2 h3 =>
      rename_i cs'
      obtain ⟨v', e, hv⟩ := apart_sound (cs' := cs') h1 ⟨by simpa using h2, fun i x y hx hy => h3 i x y (by simpa using hx) (by simpa using hy)⟩ w
      refine .still hr ⟨v', ?_, hv⟩
      simp only [Instr.field, Sem.run_bind, srun_sound hu, Result.andThen_ok, hfd, asAgg, Sem.run_pure, e]
  · -- indexAddr
    rename_i t x i hop
    simp only [execOp, hop]
    split at he
    case h_2 => cases he
    rename_i xv iv hx hi
    obtain ⟨h1, rfl⟩ := one_some he
    exact .still hr (aindex_sound h1 (aev_sound hs hx) (aev_sound hs hi) w)
  · -- index
    rename_i t x i hop
    simp only [execOp, hop]
    split at he
    case h_2 => cases he
    rename_i xv iv hx hi
    obtain ⟨hf, he⟩ := cond_some he
    obtain ⟨h1, rfl⟩ := one_some he
    exact .still hr (aindexv_sound hf h1 (aev_sound hs hx) (aev_sound hs hi) w)
  · -- extract
    rename_i x i hop
    simp only [execOp, hop]
    split at he
    case h_2 => cases he
    rename_i vs hx
    obtain ⟨h1, rfl⟩ := one_some he
    have e := aev_sound hs hx
    generalize a.eval x = xv at e
    cases e with
    | tuple h2 h3 =>
      rename_i vs'
      have hlt : i < vs.size := by
        rcases Nat.lt_or_ge i vs.size with h | h
        · exact h
        · rw [Array.getElem?_eq_none h] at h1; cases h1
      have hy : vs'[i]? = some vs'[i] := Array.getElem?_eq_getElem (h2 ▸ hlt)
      refine .still hr ⟨vs'[i]'(h2 ▸ hlt), ?_, h3 i _ _ h1 hy⟩
      simp only [Instr.extract, hy, Sem.run_pure]
  · -- a builtin
    rename_i b args ts hop
    simp only [execOp, hop]
    split at he
    case h_2 => cases he
    rename_i vs hvs
    have e := aevs_sound hs hvs
    obtain ⟨v', w', ρ', e1, st, hv⟩ := abuiltin_sound (cs := args.map fun | .const _ => true | _ => false) he hr e
    refine ⟨.value v', w', ρ', v', ?_, .inl rfl, st, hv⟩
    simp only [resolve, Sem.run_bind, Sem.run_pure, Result.andThen_ok, invoke]
    rw [← e1]
    congr 2
    apply Array.ext'
    simp
  · -- makeMap
    rename_i t hop
    simp only [execOp, hop]
    simp only [Option.some.injEq] at he
    obtain ⟨v', w', ρ', e, st, hv⟩ := amakeMap_sound hr t
    rw [he] at st hv
    exact .val ⟨v', w', ρ', e, st, hv⟩
  · -- lookup
    rename_i t x k ok hop
    simp only [execOp, hop]
    split at he
    case h_2 => cases he
    rename_i xv kv hx hk
    obtain ⟨h1, rfl⟩ := one_some he
    exact .still hr (alookup_sound h1 hr (aev_sound hs hx) (aev_sound hs hk))
  · -- mapUpdate
    rename_i t m k x hop
    simp only [execOp, hop]
    split at he
    case h_2 => cases he
    rename_i mv kv xv hm hk hx
    split at he
    case h_2 => cases he
    rename_i h2 hu
    simp only [Option.some.injEq, Prod.mk.injEq] at he
    obtain ⟨rfl, rfl⟩ := he
    obtain ⟨w', e, st⟩ := amapUpdate_sound hu hr (aev_sound hs hm) (aev_sound hs hk) (aev_sound hs hx)
    exact ⟨.skip, w', ρ, undef, by simp only [Sem.run_bind, e, Result.andThen_ok, Sem.run_pure], .inr ⟨rfl, rfl⟩, st, .of_plain _ rfl⟩
  · -- range
    rename_i t x hop
    simp only [execOp, hop]
    split at he
    case h_2 => cases he
    rename_i xv hx
    exact .val (arange_sound he hr (aev_sound hs hx))
  · -- next
    rename_i x str hop
    simp only [execOp, hop]
    split at he
    case h_2 => cases he
    rename_i xv hx
    exact .val (anext_sound he hr (aev_sound hs hx))
  · -- entry
    rename_i x hop
    simp only [execOp, hop]
    split at he
    case h_2 => cases he
    rename_i xv hx
    obtain ⟨h1, rfl⟩ := one_some he
    exact .still hr (aentry_sound h1 hr (aev_sound hs hx))
  · cases he

end
end Go.Ai
