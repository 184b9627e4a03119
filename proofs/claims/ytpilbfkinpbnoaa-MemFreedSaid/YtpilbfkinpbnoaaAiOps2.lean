/-
  THE OPERATIONS, FURTHER: values out of values; new blocks; slices; append, copy, len.
-/
import Derived.Test.YtpilbfkinpbnoaaAiOps
namespace Go.Ai
noncomputable section
variable {P : Program}

/-! ### What is reckoned out of values without addresses -/
def fl (x : Option Value) : Option Value :=
  match x with
  | none => none
  | some v => cond (flat v) (some v) none
theorem fl_some {x : Option Value} {v : Value} (h : fl x = some v) : x = some v ∧ flat v = true := by
  unfold fl at h
  split at h
  · cases h
  · rename_i u
    cases hf : flat u with
    | false => rw [hf] at h; cases h
    | true => rw [hf] at h; simp only [cond_true, Option.some.injEq] at h; subst h; exact ⟨rfl, hf⟩

/-- Comparing with nil. -/
def isNil (P : Program) (t : TypeId) (a b : Value) : Option Bool :=
  match srun P (underlying t), a, b with
  | some (.pointer _), .pointer (some _), .pointer none | some (.pointer _), .pointer none, .pointer (some _) => some false
  | some (.slice _), .slice (some _) _ _, .slice none _ _ | some (.slice _), .slice none _ _, .slice (some _) _ _ => some false
  | some (.func _ _ _), .func _ _ _, .nilFunc | some (.func _ _ _), .nilFunc, .func _ _ _ => some false
  | some (.interface _), .iface _ _, .nilIface | some (.interface _), .nilIface, .iface _ _ => some false
  | _, _, _ => none
def anil (P : Program) (op : BinOp) (t : TypeId) (a b : Value) : Option Value :=
  match op with
  | .eql => (isNil P t a b).map .bool
  | .neq => (isNil P t a b).map fun x => .bool (!x)
  | _ => none
theorem isNil_sound {ρ : Ren} {t : TypeId} {a b a' b' : Value} {r : Bool} (h : isNil P t a b = some r) (ha : VRel ρ a a') (hb : VRel ρ b b') (w : World) :
    (∀ d, (Op.equalIn (d + 1) t a' b').run P w = .ok r w) ∧ (∀ op x y, (eqGuard op t x y a' b').run P w = .ok () w) ∧ (∀ op, op = .eql ∨ op = .neq → binOp op t a' b' = if op = .eql then (do pure (.bool (← Op.equal t a' b'))) else (do pure (.bool (!(← Op.equal t a' b'))))) := by
  unfold isNil at h
  split at h <;> first
    | cases h; done
    | (simp only [Option.some.injEq] at h
       subst h
       rename_i hu
       cases ha <;> cases hb <;>
       (refine ⟨fun d => ?_, fun op x y => ?_, fun op hop => ?_⟩
        · simp [Op.equalIn, srun_sound hu]
        · cases op <;> simp [eqGuard]
        · rcases hop with rfl | rfl <;> rfl))
theorem isNil_eql {ρ : Ren} {t : TypeId} {a b a' b' : Value} {r : Bool} (h : isNil P t a b = some r) (ha : VRel ρ a a') (hb : VRel ρ b b') (w : World) :
    (binOp .eql t a' b').run P w = .ok (.bool r) w := by
  obtain ⟨h1, _, h3⟩ := isNil_sound h ha hb w
  rw [h3 .eql (.inl rfl), if_pos rfl]
  have h1 : (Op.equal t a' b').run P w = .ok r w := h1 9999
  simp only [Sem.run_bind, h1, Result.andThen_ok, Sem.run_pure]
theorem isNil_neq {ρ : Ren} {t : TypeId} {a b a' b' : Value} {r : Bool} (h : isNil P t a b = some r) (ha : VRel ρ a a') (hb : VRel ρ b b') (w : World) :
    (binOp .neq t a' b').run P w = .ok (.bool (!r)) w := by
  obtain ⟨h1, _, h3⟩ := isNil_sound h ha hb w
  rw [h3 .neq (.inr rfl), if_neg (by simp)]
  have h1 : (Op.equal t a' b').run P w = .ok r w := h1 9999
  simp only [Sem.run_bind, h1, Result.andThen_ok, Sem.run_pure]

def abin (P : Program) (op : BinOp) (t : TypeId) (x y : Operand) (a b : Value) : Option Value :=
  cond (flat a && flat b) (fl (srun P (do eqGuard op t x y a b; binOp op t a b))) (anil P op t a b)
theorem abin_sound {ρ : Ren} {op : BinOp} {t : TypeId} {x y : Operand} {a b a' b' v : Value} (h : abin P op t x y a b = some v) (ha : VRel ρ a a') (hb : VRel ρ b b') (w : World) :
    ∃ v', (do eqGuard op t x y a' b'; binOp op t a' b' : Sem Value).run P w = .ok v' w ∧ VRel ρ v v' := by
  unfold abin at h
  cases hf : (flat a && flat b) with
  | true =>
    rw [hf] at h
    simp only [Bool.and_eq_true] at hf
    obtain rfl := flat_eq ha hf.1
    obtain rfl := flat_eq hb hf.2
    obtain ⟨h1, h2⟩ := fl_some h
    exact ⟨v, srun_sound h1 w, .of_flat ρ h2⟩
  | false =>
    rw [hf] at h
    simp only [cond_false] at h
    unfold anil at h
    split at h
    · simp only [Option.map_eq_some_iff] at h
      obtain ⟨r, hr, rfl⟩ := h
      obtain ⟨_, h2, _⟩ := isNil_sound hr ha hb w
      have h3 := isNil_eql hr ha hb w
      exact ⟨.bool r, by simp only [Sem.run_bind, h2, Result.andThen_ok, h3], .bool r⟩
    · simp only [Option.map_eq_some_iff] at h
      obtain ⟨r, hr, rfl⟩ := h
      obtain ⟨_, h2, _⟩ := isNil_sound hr ha hb w
      have h4 := isNil_neq hr ha hb w
      exact ⟨.bool (!r), by simp only [Sem.run_bind, h2, Result.andThen_ok, h4], .bool (!r)⟩
    · cases h

/-! ### Parts put together -/
def fillRel (ρ : Ren) (ps ps' : List (Nat × Value)) : Prop := VList ρ (ps.map (·.2)) (ps'.map (·.2)) ∧ ps.map (·.1) = ps'.map (·.1)
theorem vlist_set {ρ : Ren} {xs ys : List Value} (h : VList ρ xs ys) (i : Nat) {x y : Value} (hv : VRel ρ x y) : VList ρ (xs.set i x) (ys.set i y) := by
  refine ⟨by simp [h.1], fun j a b ha hb => ?_⟩
  by_cases e : i = j
  · subst e
    rcases Nat.lt_or_ge i xs.length with hi | hi
    · rw [List.getElem?_set_self hi] at ha
      rw [List.getElem?_set_self (h.1 ▸ hi)] at hb
      cases ha; cases hb; exact hv
    · rw [List.getElem?_eq_none (by simpa using hi)] at ha; cases ha
  · rw [List.getElem?_set_ne e] at ha hb
    exact h.2 j a b ha hb
theorem foldl_fill {ρ : Ren} (off : Nat) : ∀ (l l' : List (Value × Nat)) (c c' : Array Value), VList ρ (l.map (·.1)) (l'.map (·.1)) → l.map (·.2) = l'.map (·.2) → VList ρ c.toList c'.toList →
    VList ρ (l.foldl (fun cs x => cs.setIfInBounds (off + x.2) x.1) c).toList (l'.foldl (fun cs x => cs.setIfInBounds (off + x.2) x.1) c').toList
  | [], l', c, c', hl, hn, hc => by
    cases l' with
    | nil => exact hc
    | cons x l' => simp at hn
  | x :: l, l', c, c', hl, hn, hc => by
    cases l' with
    | nil => simp at hn
    | cons y l' =>
      simp only [List.map_cons, List.cons.injEq] at hl hn
      obtain ⟨y', ys', e, hv, hr⟩ := hl.cons_inv
      simp only [List.cons.injEq] at e
      obtain ⟨e1, e2⟩ := e
      subst e1 e2
      simp only [List.foldl_cons]
      refine foldl_fill off l l' _ _ hr hn.2 ?_
      rw [Array.toList_setIfInBounds, Array.toList_setIfInBounds, hn.1]
      exact vlist_set hc _ hv
theorem fill_rel {ρ : Ren} {place : Nat → Option (Nat × Nat)} : ∀ (ps ps' : List (Nat × Value)) (c c' : Array Value) (r : Array Value), fillRel ρ ps ps' → VList ρ c.toList c'.toList → Instr.fill place c ps = some r →
    ∃ r', Instr.fill place c' ps' = some r' ∧ VList ρ r.toList r'.toList
  | [], ps', c, c', r, hp, hc, he => by
    have : ps' = [] := by have := hp.2; simp at this; cases ps' <;> simp_all
    subst this
    simp only [Instr.fill, Option.some.injEq] at he
    subst he
    exact ⟨c', rfl, hc⟩
  | (i, v) :: ps, ps', c, c', r, hp, hc, he => by
    cases ps' with
    | nil => have := hp.2; simp at this
    | cons p ps' =>
      obtain ⟨i', v'⟩ := p
      obtain ⟨h1, h2⟩ := hp
      simp only [List.map_cons, List.cons.injEq] at h1 h2
      obtain ⟨rfl, h2⟩ := h2
      obtain ⟨y, ys, e, hv, hr⟩ := h1.cons_inv
      simp only [List.cons.injEq] at e
      obtain ⟨e1, e2⟩ := e
      subst e1 e2
      simp only [Instr.fill] at he ⊢
      cases hpl : place i with
      | none => rw [hpl] at he; cases he
      | some x =>
        obtain ⟨off, size⟩ := x
        rw [hpl] at he
        simp only at he ⊢
        have hcells := hv.cells
        have e1 : v'.cells.size = v.cells.size := by simpa using hcells.1.symm
        have e2 : c'.size = c.size := by simpa using hc.1.symm
        split at he
        · cases he
        · rename_i hcond
          rw [if_neg (by rw [e1, e2]; exact hcond)]
          refine fill_rel ps ps' _ _ r ⟨hr, h2⟩ ?_ he
          rw [← Array.foldl_toList, ← Array.foldl_toList]
          refine foldl_fill off _ _ c c' ?_ ?_ hc
          · simp only [Array.toList_zipIdx]
            have q : ∀ (l : List Value) k, (l.zipIdx k).map (·.1) = l := fun l k => by simp
            rw [q, q]; exact hcells
          · simp only [Array.toList_zipIdx]
            have q : ∀ (l : List Value) k, (l.zipIdx k).map (·.2) = List.range' k l.length := fun l k => by simp
            rw [q, q, hcells.1]

def aparts (s : Env) : List (Nat × Operand) → Option (List (Nat × Value))
  | [] => some []
  | (i, x) :: ps => match aev s x with
    | none => none
    | some v => match aparts s ps with
      | none => none
      | some vs => some ((i, v) :: vs)
theorem aparts_sound {ρ : Ren} {s : Env} {a : Act} (hs : EnvRel ρ s a.tmps) : ∀ {ps : List (Nat × Operand)} {vs : List (Nat × Value)}, aparts s ps = some vs → fillRel ρ vs (ps.map fun x => (x.1, a.eval x.2))
  | [], vs, h => by simp only [aparts, Option.some.injEq] at h; subst h; exact ⟨.nil ρ, rfl⟩
  | (i, x) :: ps, vs, h => by
    simp only [aparts] at h
    split at h
    · cases h
    · rename_i v hv
      split at h
      · cases h
      · rename_i vs' hvs
        simp only [Option.some.injEq] at h
        subst h
        have := aparts_sound hs hvs
        exact ⟨.cons (aev_sound hs hv) this.1, by simp [this.2]⟩

/-- The zero value of a type, as cells. -/
def azero (P : Program) (t : TypeId) : Option Value := fl (srun P (zeroValue t))
theorem azero_sound {ρ : Ren} {t : TypeId} {z : Value} (h : azero P t = some z) (w : World) : (zeroValue t).run P w = .ok z w ∧ VRel ρ z z := by
  obtain ⟨h1, h2⟩ := fl_some h
  exact ⟨srun_sound h1 w, .of_flat ρ h2⟩
def fplaces (P : Program) (fields : Array Field) : Option (Array (Nat × Nat)) := srun P (fields.mapM fun f => do pure (f.offset, ← sizeOf f.type))
def abuild (P : Program) (t : TypeId) (parts : List (Nat × Value)) : Option Value :=
  match azero P t with
  | none => none
  | some z => match srun P (underlying t) with
    | some (.struct fields) => (match fplaces P fields with
      | none => none
      | some places => (Instr.fill (places[·]?) z.cells parts).map .agg)
    | some (.array _ elem) => (match srun P (sizeOf elem) with
      | none => none
      | some n => (Instr.fill (fun i => some (i * n, n)) z.cells parts).map .agg)
    | _ => none
theorem abuild_sound {ρ : Ren} {t : TypeId} {parts parts' : List (Nat × Value)} {v : Value} (h : abuild P t parts = some v) (hp : fillRel ρ parts parts') (w : World) :
    ∃ v', (Instr.build t parts'.toArray).run P w = .ok v' w ∧ VRel ρ v v' := by
  unfold abuild at h
  split at h
  · cases h
  · rename_i z hz
    obtain ⟨e0, hz⟩ := azero_sound (ρ := ρ) hz w
    split at h
    · rename_i fields hu
      split at h
      · cases h
      · rename_i places hpl
        simp only [Option.map_eq_some_iff] at h
        obtain ⟨r, hr, rfl⟩ := h
        obtain ⟨r', hr', hv⟩ := fill_rel _ _ _ _ _ hp hz.cells hr
        refine ⟨.agg r', ?_, .agg (by simpa using hv.1) (fun i x y hx hy => hv.2 i x y (by simpa using hx) (by simpa using hy))⟩
        simp only [Instr.build, Sem.run_bind, e0, Result.andThen_ok, srun_sound hu, srun_sound hpl, hr', Sem.run_pure]
    · rename_i n elem hu
      split at h
      · cases h
      · rename_i n hn
        simp only [Option.map_eq_some_iff] at h
        obtain ⟨r, hr, rfl⟩ := h
        obtain ⟨r', hr', hv⟩ := fill_rel _ _ _ _ _ hp hz.cells hr
        refine ⟨.agg r', ?_, .agg (by simpa using hv.1) (fun i x y hx hy => hv.2 i x y (by simpa using hx) (by simpa using hy))⟩
        simp only [Instr.build, Sem.run_bind, e0, Result.andThen_ok, srun_sound hu, srun_sound hn, hr', Sem.run_pure]
    · cases h

/-! ### New blocks -/
def newb (h : AHeap) (c : List Value) (t : TypeId) : Value × AHeap := (.pointer (some ⟨h.next, 0, none⟩), h.push (.cells c t))
theorem newVar_sound {ρ : Ren} {h : AHeap} {w : World} (hr : Rel P ρ h w) {v v' : Value} (hv : VRel ρ v v') (t : TypeId) :
    ∃ a' w' ρ', (newVar t v').run P w = .ok a' w' ∧ Step P ρ h w ρ' (newb h v.cells.toList t).2 w' ∧ VRel ρ' (newb h v.cells.toList t).1 (.pointer (some a')) := by
  have hc := hv.cells
  obtain ⟨e, st⟩ := run_newRow (t := t) hr (c := v.cells.toList) (cs := v'.cells) (by rw [hc.1, Array.length_toList]; exact Nat.le_refl _) (fun i x hx => by
    obtain ⟨y, hy, hxy⟩ := hc.get hx
    exact ⟨y, by simpa using hy, hxy⟩)
  exact ⟨_, _, _, e, st, .new hr _ rfl⟩
/-- n cells of zeros. -/
def zcells (z : List Value) (n : Nat) : List Value := (List.range n).map fun i => (z[i % z.length]?).getD default
theorem zcells_eq (z : Array Value) (n : Nat) : ((Array.range n).map fun i => z[i % z.size]!) = (zcells z.toList n).toArray := by
  apply Array.ext'
  simp only [Array.toList_map, Array.toList_range, zcells]
  apply List.map_congr_left
  intro i _
  simp [getElem!_def]
  cases z[i % z.size]? <;> rfl
theorem zcells_rel {ρ : Ren} {z : Value} (h : VRel ρ z z) (hd : z.cells.size ≠ 0) (n : Nat) : VList ρ (zcells z.cells.toList n) (zcells z.cells.toList n) := by
  refine ⟨rfl, fun i x y hx hy => ?_⟩
  rw [hx] at hy
  cases hy
  simp only [zcells, List.getElem?_map, Option.map_eq_some_iff] at hx
  obtain ⟨k, _, hk⟩ := hx
  have hlt : k % z.cells.toList.length < z.cells.toList.length := Nat.mod_lt _ (by simp; omega)
  rw [List.getElem?_eq_getElem hlt] at hk
  simp only [Option.getD_some] at hk
  have := h.cells.2 _ _ _ (List.getElem?_eq_getElem hlt) (List.getElem?_eq_getElem hlt)
  rw [hk] at this
  exact this

def amake (P : Program) (t : TypeId) (len cap : Value) (h : AHeap) : Option (Value × AHeap) :=
  match len, cap, srun P (underlying t) with
  | .int _ l, .int _ c, some (.slice elem) => (match srun P (typeInfo elem) with
    | none => none
    | some i => (match azero P elem with
      | none => none
      | some z => cond (decide (IntKind.i64.wrap l = l) && decide (IntKind.i64.wrap c = c) && decide (0 ≤ l) && decide (l ≤ c) && decide (i.bytes * c ≤ 2 ^ 48) && Nat.beq z.cells.size i.size && Nat.blt 0 i.size)
          (some (.slice (some ⟨h.next, 0, none⟩) l.toNat (c.toNat + 2), h.push (.cells (zcells z.cells.toList (c.toNat * i.size)) elem))) none))
  | _, _, _ => none
theorem sizeOf_of_info {t : TypeId} {i : TypeInfo} (h : srun P (typeInfo t) = some i) : P.cellsOf t = i.size ∧ ∀ w, (sizeOf t).run P w = .ok i.size w := by
  have h0 := h
  constructor
  · simp only [typeInfo, program, Sem.bind, bind, srun] at h
    cases hp : P.info? t with
    | none => rw [hp] at h; cases h
    | some j => rw [hp] at h; simp only [pure, srun, Option.some.injEq] at h; subst h; simp [Program.cellsOf, hp]
  · intro w
    simp only [sizeOf, Sem.run_bind, srun_sound h0, Result.andThen_ok, Sem.run_pure]
theorem amake_sound {ρ : Ren} {t : TypeId} {l l' c c' v : Value} {h h' : AHeap} {w : World} (he : amake P t l c h = some (v, h')) (hr : Rel P ρ h w) (hl : VRel ρ l l') (hc : VRel ρ c c') :
    ∃ v' w' ρ', (Instr.makeSlice t l' c').run P w = .ok v' w' ∧ Step P ρ h w ρ' h' w' ∧ VRel ρ' v v' := by
  unfold amake at he
  split at he
  · rename_i kl l kc c elem hu
    cases hl; cases hc
    split at he
    · cases he
    · rename_i i hi
      split at he
      · cases he
      · rename_i z hz
        cases hcond : (decide (IntKind.i64.wrap l = l) && decide (IntKind.i64.wrap c = c) && decide (0 ≤ l) && decide (l ≤ c) && decide (i.bytes * c ≤ 2 ^ 48) && Nat.beq z.cells.size i.size && Nat.blt 0 i.size) with
        | false => rw [hcond] at he; cases he
        | true =>
          rw [hcond] at he
          simp only [cond_true, Option.some.injEq, Prod.mk.injEq] at he
          obtain ⟨rfl, rfl⟩ := he
          simp only [Bool.and_eq_true, decide_eq_true_eq] at hcond
          obtain ⟨⟨⟨⟨⟨⟨w1, w2⟩, p1⟩, p2⟩, p3⟩, zs⟩, sp⟩ := hcond
          have zs := Nat.eq_of_beq_eq_true zs
          have sp : 0 < i.size := by simpa [Nat.blt_eq] using sp
          obtain ⟨e0, hz'⟩ := azero_sound (ρ := ρ) hz w
          obtain ⟨sz1, sz2⟩ := sizeOf_of_info hi
          obtain ⟨e, st⟩ := run_newRow (t := elem) hr (c := zcells z.cells.toList (c.toNat * i.size)) (cs := (Array.range (c.toNat * i.size)).map fun k => z.cells[k % z.cells.size]!)
            (by simp [zcells]) (fun k x hx => by
              rw [zcells_eq]
              obtain ⟨y, hy, hxy⟩ := (zcells_rel hz' (by omega) (c.toNat * i.size)).get hx
              exact ⟨y, by simpa using hy, hxy⟩)
          refine ⟨.slice (some ⟨w.heap.size, 0, none⟩) l.toNat c.toNat, _, _, ?_, st, ?_⟩
          · have b1 : ¬ ((i.bytes : Int) * c > 2 ^ 48) := by omega
            have b2 : ¬ (c < 0) := by omega
            have b3 : ¬ (l < 0) := by omega
            have b4 : ¬ (l > c) := by omega
            simp only [Instr.makeSlice, asInt, asIntOf, Sem.run_bind, Sem.run_pure, Result.andThen_ok, srun_sound hu, srun_sound hi, w1, w2]
            rw [if_neg (by simp [b2, b3, b4]; omega)]
            simp only [Sem.run_bind, run_askRoom, Result.andThen_ok, sz2]
            by_cases hn : c.toNat * i.size = 0
            · rw [if_pos hn]
              have e1 : ((Array.range (c.toNat * i.size)).map fun k => (#[] : Array Value)[k % (#[] : Array Value).size]!) = ((Array.range (c.toNat * i.size)).map fun k => z.cells[k % z.cells.size]!) := by rw [hn]; simp
              simp only [Sem.run_bind, Sem.run_pure, Result.andThen_ok]
              rw [e1, e]
              simp only [Result.andThen_ok]
            · rw [if_neg hn]
              simp only [Sem.run_bind, e0, Sem.run_pure, Result.andThen_ok, e]
          · refine VRel.slice (ρ := ρ.ext _) (b := h.next) (off := 0) (pl := ⟨w.heap.size, 0, _, _⟩) (by show h.next < ρ.next + 1; rw [hr.next]; exact Nat.lt_succ_self _) (by rw [← hr.next]; exact ρ.ext_next _) (by omega) ?_
            intro _
            refine ⟨by simp [sz1], fun k hk => by omega⟩
  · cases he

end
end Go.Ai
