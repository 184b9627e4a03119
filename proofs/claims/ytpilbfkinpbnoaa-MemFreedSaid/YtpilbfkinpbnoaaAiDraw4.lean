/-
  A REGION THAT DRAWS ITS ORDER, 4: all of it.
-/
import Derived.Test.YtpilbfkinpbnoaaAiDraw3
set_option linter.unusedVariables false
namespace Go.Ai
noncomputable section
variable {P : Program}

section
variable {ops : Array Oper} {s0 : Env} {h0 : AHeap} {tr : List DRec}
theorem ready_mem {listed : Array Bool} {i : Nat} (h : i ∈ Region.ready .any ops listed) : i < ops.size ∧ listed.getD i true = false ∧ ∀ o, ops[i]? = some o → ∀ e, e ∈ o.after → Region.binds .any e = true → listed.getD e.on false = true := by
  simp only [Region.ready, List.mem_filter, List.mem_range, Bool.and_eq_true, Bool.not_eq_true'] at h
  refine ⟨h.1, h.2.1, fun o ho e he hb => ?_⟩
  have := h.2.2
  rw [ho] at this
  simp only [Option.map_some, Option.getD_some, Array.all_eq_true_iff_forall_mem, Bool.or_eq_true, Bool.not_eq_true'] at this
  rcases this e he with h1 | h1
  · rw [hb] at h1; cases h1
  · exact h1
theorem ready_of {listed : Array Bool} {i : Nat} (hi : i < ops.size) (hl : listed.getD i true = false) (h : ∀ o, ops[i]? = some o → ∀ e, e ∈ o.after → Region.binds .any e = true → listed.getD e.on false = true) : i ∈ Region.ready .any ops listed := by
  simp only [Region.ready, List.mem_filter, List.mem_range, Bool.and_eq_true, Bool.not_eq_true']
  refine ⟨hi, hl, ?_⟩
  rw [Array.getElem?_eq_getElem hi]
  simp only [Option.map_some, Option.getD_some, Array.all_eq_true_iff_forall_mem, Bool.or_eq_true, Bool.not_eq_true']
  intro e he
  cases hb : Region.binds .any e with
  | false => exact .inl rfl
  | true => exact .inr (h _ (Array.getElem?_eq_getElem hi) e he hb)

theorem draw_go (hro0 : h0.ro ≤ h0.next) (V : Valid P ops s0 h0 tr) {N : Nat} (hN : ∀ x, x ∈ tr → x.g'.next ≤ N) {ρ0 : Ren} {w0 : World} (ds : List Deferred) (b : Frame) (k : List Item) (cs : List Frame) :
    ∀ (fuel t : Nat) (listed : Array Bool) (ρ : Ren) (w : World) (tm : Array Value), listed.size = ops.size → ((List.range ops.size).filter fun i => !listed.getD i false).length ≤ fuel →
      (∀ i j, Prec ops i j → listed.getD j false = true → listed.getD i false = true) → DInv P tr s0 h0 N ρ0 w0 (fun j => listed.getD j false) ρ w tm →
      ∃ S ρ' w' tm', (∀ r, r ∈ tr → S r.j = true) ∧ DInv P tr s0 h0 N ρ0 w0 S ρ' w' tm' ∧
        Steps P (lone (fat b tm ds (.inRegion ops (Region.linearise.go .any ops fuel t listed []) :: k)) cs w) (lone (fat b tm' ds (.inRegion ops [] :: k)) cs w') := by
  intro fuel
  induction fuel with
  | zero =>
    intro t listed ρ w tm hsz hcount hdown I
    refine ⟨_, ρ, w, tm, ?_, I, .refl P _⟩
    intro r hr
    have hnil := List.eq_nil_of_length_eq_zero (Nat.le_zero.1 hcount)
    obtain ⟨A, B, e⟩ := List.append_of_mem hr
    have hop := (V.told A r B e).op
    have hlt : r.j < ops.size := by
      rcases Nat.lt_or_ge r.j ops.size with h | h
      · exact h
      · rw [Array.getElem?_eq_none h] at hop; cases hop
    cases hl : listed.getD r.j false with
    | true => rfl
    | false =>
      have : r.j ∈ (List.range ops.size).filter fun i => !listed.getD i false := List.mem_filter.2 ⟨List.mem_range.2 hlt, by rw [hl]; rfl⟩
      rw [hnil] at this; cases this
  | succ fuel ih =>
    intro t listed ρ w tm hsz hcount hdown I
    simp only [Region.linearise.go]
    change ∃ S ρ' w' tm', (∀ r, r ∈ tr → S r.j = true) ∧ DInv P tr s0 h0 N ρ0 w0 S ρ' w' tm' ∧ Steps P (lone (fat b tm ds (.inRegion ops (match (Region.ready .any ops listed)[t % (Region.ready .any ops listed).length]? with
      | some i => Region.linearise.go .any ops fuel (t / (Region.ready .any ops listed).length) (listed.setIfInBounds i true) [i]
      | none => [].reverse) :: k)) cs w) _
    have getTF : ∀ i, i < ops.size → listed.getD i true = listed.getD i false := by
      intro i hi
      simp [Array.getD_eq_getD_getElem?, Array.getElem?_eq_getElem (hsz ▸ hi)]
    by_cases hall : ∀ r, r ∈ tr → listed.getD r.j false = true
    · -- nothing is left
      have hnone : Region.ready .any ops listed = [] := by
        rw [List.eq_nil_iff_forall_not_mem]
        intro i hi
        obtain ⟨h1, h2, _⟩ := ready_mem hi
        obtain ⟨r, hr, hrj⟩ := V.all i h1
        have := hall r hr
        rw [hrj, ← getTF i h1, h2] at this
        cases this
      rw [hnone]
      exact ⟨_, ρ, w, tm, hall, I, .refl P _⟩
    · -- the first that is told and has not come is ready
      have hex : ∃ i, i ∈ Region.ready .any ops listed := by
        have : ∃ A r B, tr = A ++ r :: B ∧ listed.getD r.j false = false ∧ ∀ x, x ∈ A → listed.getD x.j false = true := by
          clear ih I hN V
          induction tr with
          | nil => exact absurd (fun r hr => by cases hr) hall
          | cons x tr iht =>
            cases hx : listed.getD x.j false with
            | false => exact ⟨[], x, tr, rfl, hx, fun y hy => by cases hy⟩
            | true =>
              obtain ⟨A, r, B, e, h1, h2⟩ := iht (fun h => hall (fun r hr => by rcases List.mem_cons.1 hr with rfl | hr; exact hx; exact h r hr))
              exact ⟨x :: A, r, B, by rw [e]; rfl, h1, fun y hy => by rcases List.mem_cons.1 hy with rfl | hy; exact hx; exact h2 y hy⟩
        obtain ⟨A, r, B, e, h1, h2⟩ := this
        have hop := (V.told A r B e).op
        have hlt : r.j < ops.size := by
          rcases Nat.lt_or_ge r.j ops.size with h | h
          · exact h
          · rw [Array.getElem?_eq_none h] at hop; cases hop
        refine ⟨r.j, ready_of hlt (by rw [getTF _ hlt]; exact h1) (fun o ho ed hed hb => ?_)⟩
        rw [hop] at ho
        cases ho
        obtain ⟨x, hx, hxe⟩ := V.edges A r B e ed hed hb
        rw [← hxe]; exact h2 x hx
      cases hi : (Region.ready .any ops listed)[t % (Region.ready .any ops listed).length]? with
      | none =>
        obtain ⟨i, hmem⟩ := hex
        have hpos : 0 < (Region.ready .any ops listed).length := List.length_pos_of_mem hmem
        rw [List.getElem?_eq_getElem (Nat.mod_lt _ hpos)] at hi
        cases hi
      | some i =>
        simp only []
        rw [linearise_go_acc, List.reverse_singleton, List.singleton_append]
        obtain ⟨hlt, hl, hed⟩ := ready_mem (List.mem_of_getElem? hi)
        obtain ⟨r, hr, hrj⟩ := V.all i hlt
        obtain ⟨A, B, e⟩ := List.append_of_mem hr
        subst hrj
        have hop := (V.told A r B e).op
        have hready : ∀ q, Prec ops q r.j → listed.getD q false = true := by
          intro q hq
          cases hq with
          | one ho he hb => exact hed _ ho _ he hb
          | more ho he hb hp => exact hdown _ _ hp (hed _ ho _ he hb)
        have hnot : listed.getD r.j false = false := by rw [← getTF _ hlt]; exact hl
        obtain ⟨ρ1, w1, tm1, I1, sx⟩ := draw_step hro0 V hdown e hready hnot hN I ds (Region.linearise.go .any ops fuel (t / (Region.ready .any ops listed).length) (listed.setIfInBounds r.j true) []) b k cs
        have hadd : (fun j => (listed.setIfInBounds r.j true).getD j false) = addS (fun j => listed.getD j false) r.j := by
          funext j
          simp only [addS, Array.getD_eq_getD_getElem?, Array.getElem?_setIfInBounds]
          by_cases ej : r.j = j
          · subst ej
            rw [if_pos rfl, if_pos (by omega)]; simp
          · rw [if_neg ej]
            have : decide (j = r.j) = false := decide_eq_false (fun h => ej h.symm)
            rw [this, Bool.or_false]
        rw [← hadd] at I1
        have hcnt : ((List.range ops.size).filter fun i => !(listed.setIfInBounds r.j true).getD i false).length ≤ fuel := by
          have hmem : r.j ∈ (List.range ops.size).filter fun i => !listed.getD i false := List.mem_filter.2 ⟨List.mem_range.2 hlt, by rw [hnot]; rfl⟩
          have hsub : (List.range ops.size).filter (fun i => !(listed.setIfInBounds r.j true).getD i false) = ((List.range ops.size).filter fun i => !listed.getD i false).filter (fun i => decide (i ≠ r.j)) := by
            rw [List.filter_filter]
            apply List.filter_congr
            intro i _
            have := congrFun hadd i
            simp only [addS] at this
            rw [this]
            by_cases ei : i = r.j <;> simp [ei]
          rw [hsub]
          have hlen : ∀ (l : List Nat), r.j ∈ l → (l.filter fun i => decide (i ≠ r.j)).length < l.length := by
            intro l hl
            apply List.length_filter_lt_length_iff_exists.2
            exact ⟨r.j, hl, by simp⟩
          have := hlen _ hmem
          omega
        have hdn : ∀ q j, Prec ops q j → (listed.setIfInBounds r.j true).getD j false = true → (listed.setIfInBounds r.j true).getD q false = true := by
          intro q j hq hj
          have h1 := congrFun hadd j
          have h2 := congrFun hadd q
          rw [h1] at hj
          rw [h2]
          simp only [addS, Bool.or_eq_true, decide_eq_true_eq] at hj ⊢
          rcases hj with hj | rfl
          · exact .inl (hdown q j hq hj)
          · exact .inl (hready q hq)
        obtain ⟨S, ρ2, w2, tm2, hS, I2, sx2⟩ := ih (t / (Region.ready .any ops listed).length) (listed.setIfInBounds r.j true) ρ1 w1 tm1 (by simpa using hsz) hcnt hdn I1
        exact ⟨S, ρ2, w2, tm2, hS, I2, sx.trans sx2⟩

/-- The frame and the heap behind the order that is told. -/
theorem T_regionDraw (hmix : P.follows .mixedOrders = true) {id : Nat} {rd : Option Nat} {Q : Ex → Env → AHeap → Prop} (V : Valid P ops s0 h0 tr) {sf : Env} {hf : AHeap} (hs : ∀ t, sf.get t = envV tr s0 t) (hsz : sf.size = s0.size)
    (hh : ∀ b, hf.get b = hpV tr h0 b) (hro : hf.ro = h0.ro) (hn : h0.next ≤ hf.next) (hN : ∀ x, x ∈ tr → x.g'.next ≤ hf.next) (hq : Q .normal sf hf) : T P rd (.region id ops true) s0 h0 Q := by
  intro ρ w tm ds hr hse b hb k cs
  let w1 : World := { w with drawn := w.drawn + 1 }
  let ρ1 : Ren := { next := hf.next, m := fun bb => if bb < h0.next then ρ.m bb else none }
  have hm1 : ∀ bb pl, bb < ρ.next → ρ.m bb = some pl → ρ1.m bb = some pl := fun bb pl hb hm => by
    rw [show ρ1.m bb = ρ.m bb from if_pos (by rw [← hr.next]; exact hb)]; exact hm
  have hnil : tr.filter (fun r => (Array.replicate ops.size false).getD r.j false) = [] := by
    rw [List.filter_eq_nil_iff]
    intro r _ h
    simp only [Array.getD_eq_getD_getElem?, Array.getElem?_replicate] at h
    split at h <;> simp at h
  have I : DInv P tr s0 h0 hf.next ρ w (fun j => (Array.replicate ops.size false).getD j false) ρ1 w1 tm := by
    refine ⟨rfl, fun bb hb => if_pos hb, hse.size, ?_, ?_, ?_, ?_, rfl, rfl, rfl, Nat.le_refl _, fun _ _ _ => rfl, ?_, hr.gro, fun bb pl hb hm => hr.glob bb pl hb (by
      rw [show ρ1.m bb = ρ.m bb from if_pos (Nat.lt_of_lt_of_le hb (Nat.le_trans hr.gro hr.ro))] at hm; exact hm)⟩
    · intro t
      rw [hnil]
      exact (hse.get t).ext (ρ' := ρ1.cut h0.next) (by rw [hr.next]; exact Nat.le_refl _) hm1
    · intro bb o hg
      rw [hnil] at hg ⊢
      have hb := hr.dom bb _ hg
      obtain ⟨pl, hp, hc⟩ := hr.ok bb o hg
      refine ⟨hb, pl, hm1 bb pl (by rw [hr.next]; exact hb) hp, ?_⟩
      exact ObjOk.other (ObjOk.ext (ρ := ρ) (ρ' := ρ1.cut h0.next) (by rw [hr.next]; exact Nat.le_refl _) hm1 hc) rfl
    · intro b1 b2 o1 o2 p1 p2 g1 g2 m1 m2 e
      rw [hnil] at g1 g2
      have l1 := hr.dom b1 o1 g1
      have l2 := hr.dom b2 o2 g2
      rw [show ρ1.m b1 = ρ.m b1 from if_pos l1] at m1
      rw [show ρ1.m b2 = ρ.m b2 from if_pos l2] at m2
      exact hr.inj b1 b2 o1 o2 p1 p2 g1 g2 m1 m2 e
    · intro x hx _ bb h1 h2
      obtain ⟨A, B, e⟩ := List.append_of_mem hx
      have := (V.told A x B e).n0
      exact if_neg (by omega)
    · intro bb o pl hg hro' hm hc
      rw [hnil] at hg
      have l := hr.dom bb o hg
      rw [show ρ1.m bb = ρ.m bb from if_pos l] at hm
      exact ⟨bb, o, pl, hg, hro', hm, rfl⟩
  have hcount : ((List.range ops.size).filter fun i => !(Array.replicate ops.size false).getD i false).length ≤ ops.size := by
    have := List.length_filter_le (fun i => !(Array.replicate ops.size false).getD i false) (List.range ops.size)
    simpa using this
  obtain ⟨S, ρ2, w2, tm2, hS, I2, sx⟩ := draw_go hr.ro V hN ds b k cs ops.size (w.tape w.drawn (.order b.fn id)) (Array.replicate ops.size false) ρ1 w1 tm (by simp) hcount (fun i j _ hj => by
    simp only [Array.getD_eq_getD_getElem?, Array.getElem?_replicate] at hj
    split at hj <;> simp at hj) I
  have hfull : tr.filter (fun r => S r.j) = tr := List.filter_eq_self.2 hS
  have lastn : ∀ (p : DRec → Bool) x, lastR tr p = some x → x.g'.next ≤ hf.next := fun p x hx => hN x (lastR_mem hx).1
  have hcut : ρ2 = ρ2.cut hf.next := by have := I2.next; cases ρ2; simp only at this; subst this; rfl
  have hrel : Rel P ρ2 hf w2 := by
    refine ⟨I2.next, by rw [hro]; exact Nat.le_trans hr.ro hn, ?_, ?_, ?_, by rw [hro]; exact hr.gro, I2.gl⟩
    · intro bb o hg
      rw [hh] at hg
      have := (I2.heap bb o (by rw [hfull]; exact hg)).1
      rw [hfull] at this
      refine Nat.lt_of_lt_of_le this ?_
      simp only [hpN]
      split
      · rename_i x hx; exact lastn _ x hx
      · exact hn
    · intro bb o hg
      rw [hh] at hg
      obtain ⟨_, pl, hp, hc⟩ := I2.heap bb o (by rw [hfull]; exact hg)
      refine ⟨pl, hp, ?_⟩
      rw [hro]
      rw [hfull] at hc
      rw [hcut]
      refine ObjOk.cutup ?_ hc
      simp only [hpN]
      split
      · rename_i x hx; exact lastn _ x hx
      · exact hn
    · intro b1 b2 o1 o2 p1 p2 g1 g2
      rw [hh] at g1 g2
      exact I2.inj b1 b2 o1 o2 p1 p2 (by rw [hfull]; exact g1) (by rw [hfull]; exact g2)
  refine ⟨.normal, sf, hf, ρ2, w2, tm2, ds, hq, ⟨⟨by rw [I2.next, hr.next]; exact hn, fun bb hb => I2.old bb (by rw [← hr.next]; exact hb)⟩, hrel, hro, I2.os, I2.tape, I2.output, I2.wsize, I2.frame, ?_⟩, ⟨hsz.trans I2.size, fun t => ?_⟩, .refl _ _ _, ?_⟩
  · rintro c hc ⟨bb, o, pl, hg, hrb, hm, rfl⟩
    rw [hh] at hg
    exact I2.img bb o pl (by rw [hfull]; exact hg) (by rw [← hro]; exact hrb) hm hc
  · have := I2.env t
    rw [hfull] at this
    rw [hs t]
    rw [hcut]
    refine VRel.cutup ?_ this
    simp only [envN]
    split
    · rename_i x hx; exact lastn _ x hx
    · exact hn
  · refine .head fstep_region_draw ?_
    have : Region.schedule (P.follows .mixedOrders) ops (w.tape w.drawn (.order b.fn id)) = Region.linearise .any ops (w.tape w.drawn (.order b.fn id)) := by
      simp only [Region.schedule, hmix, Bool.true_or, if_true]
    rw [this]
    exact sx.trans (.one fstep_region_end)
end

end
end Go.Ai
