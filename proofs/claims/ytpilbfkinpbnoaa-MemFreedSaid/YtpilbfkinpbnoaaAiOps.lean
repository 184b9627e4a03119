/-
  THE OPERATIONS ON AN ABSTRACT HEAP. None draws anything; each that answers says what the world's does.
-/
import Derived.Test.YtpilbfkinpbnoaaAiMem
import Derived.Laws.Entries
namespace Go.Ai
noncomputable section

/-! ### What reads the program alone -/
def srun {α : Type} (P : Program) : Sem α → Option α
  | .pure a => some a
  | .program k => srun P (k P)
  | _ => none
theorem srun_sound {α : Type} {P : Program} {s : Sem α} {a : α} (h : srun P s = some a) (w : World) : s.run P w = .ok a w := by
  induction s with
  | pure b => simp only [srun, Option.some.injEq] at h; subst h; rfl
  | program k ih => simp only [srun] at h; exact ih P h
  | _ => cases h

/-! ### Values without addresses -/
def flat : Value → Bool
  | .agg a => a.toList.all plain
  | v => plain v
theorem plain_eq {ρ : Ren} {v v' : Value} (h : VRel ρ v v') (hp : plain v = true) : v' = v := by
  cases h with
  | odd h => cases hp
  | bool | int | float | string | ptrNil | nilFunc | nilIface | mapNil => rfl
  | ptr | glob | slice | sliceOut | iface | agg | map | yield => simp [plain] at hp
  | sliceNil c => simp only [plain, Bool.and_eq_true] at hp; obtain rfl := Nat.eq_of_beq_eq_true hp.2; rfl
  | func ha hc _ _ =>
    simp only [plain, Bool.and_eq_true] at hp
    obtain rfl := arr_nil hp.1
    obtain rfl := arr_nil hp.2
    rw [Array.eq_empty_of_size_eq_zero ha.symm, Array.eq_empty_of_size_eq_zero hc.symm]
  | tuple ha _ =>
    obtain rfl := arr_nil hp
    rw [Array.eq_empty_of_size_eq_zero ha.symm]
theorem list_eq_of {xs ys : List Value} (hl : xs.length = ys.length) (h : ∀ (i : Nat) x y, xs[i]? = some x → ys[i]? = some y → y = x) : ys = xs := by
  apply List.ext_getElem? 
  intro i
  rcases Nat.lt_or_ge i xs.length with hi | hi
  · rw [List.getElem?_eq_getElem hi, List.getElem?_eq_getElem (hl ▸ hi)]
    congr 1
    exact h i _ _ (List.getElem?_eq_getElem hi) (List.getElem?_eq_getElem (hl ▸ hi))
  · rw [List.getElem?_eq_none hi, List.getElem?_eq_none (by omega)]
theorem flat_eq {ρ : Ren} {v v' : Value} (h : VRel ρ v v') (hp : flat v = true) : v' = v := by
  cases h with
  | agg ha hv =>
    rename_i a a'
    simp only [flat, List.all_eq_true] at hp
    congr 1
    apply Array.ext'
    refine list_eq_of (by simpa using ha) (fun i x y hx hy => ?_)
    exact plain_eq (hv i x y (by simpa using hx) (by simpa using hy)) (hp x (List.mem_of_getElem? hx))
  | _ => first | rfl | exact plain_eq (ρ := ρ) (by constructor <;> assumption) hp
theorem VRel.of_flat (ρ : Ren) {v : Value} (h : flat v = true) : VRel ρ v v := by
  cases v with
  | agg a =>
    simp only [flat, List.all_eq_true] at h
    exact .agg rfl (fun i x y hx hy => by
      rw [hx] at hy; cases hy
      exact .of_plain ρ (h x (List.mem_of_getElem? (by simpa using hx))))
  | _ => exact .of_plain ρ h

/-! ### Operands -/
def aev (s : Env) : Operand → Option Value
  | .tmp t => some (s.get t)
  | .const v => cond (flat v) (some v) none
  | .global g => some (.pointer (some ⟨g, 0, some 0⟩))
  | .func f => some (.func (.func f) #[] #[])
theorem aev_sound {ρ : Ren} {s : Env} {a : Act} (hs : EnvRel ρ s a.tmps) {x : Operand} {v : Value} (h : aev s x = some v) : VRel ρ v (a.eval x) := by
  cases x with
  | tmp t => simp only [aev, Option.some.injEq] at h; subst h; exact hs.get t
  | const c =>
    simp only [aev] at h
    cases hf : flat c with
    | false => rw [hf] at h; cases h
    | true => rw [hf] at h; simp only [cond_true, Option.some.injEq] at h; subst h; exact .of_flat ρ hf
  | global g => simp only [aev, Option.some.injEq] at h; subst h; exact .glob
  | func f => simp only [aev, Option.some.injEq] at h; subst h; exact .of_plain ρ rfl
def aevs (s : Env) : List Operand → Option (List Value)
  | [] => some []
  | x :: xs => match aev s x with
    | none => none
    | some v => match aevs s xs with
      | none => none
      | some vs => some (v :: vs)
theorem aevs_sound {ρ : Ren} {s : Env} {a : Act} (hs : EnvRel ρ s a.tmps) : ∀ {xs : List Operand} {vs : List Value}, aevs s xs = some vs → VList ρ vs (xs.map a.eval)
  | [], vs, h => by simp only [aevs, Option.some.injEq] at h; subst h; exact .nil ρ
  | x :: xs, vs, h => by
    simp only [aevs] at h
    split at h
    · cases h
    · rename_i v hv
      split at h
      · cases h
      · rename_i vs' hvs
        simp only [Option.some.injEq] at h
        subst h
        exact .cons (aev_sound hs hv) (aevs_sound hs hvs)

/-! ### The parts of a value -/
theorem VRel.cells {ρ : Ren} {v v' : Value} (h : VRel ρ v v') : VList ρ v.cells.toList v'.cells.toList := by
  cases h with
  | agg ha hv => exact ⟨by simpa [Value.cells] using ha, fun i x y hx hy => hv i x y (by simpa [Value.cells] using hx) (by simpa [Value.cells] using hy)⟩
  | odd h => cases v' <;> first | exact .cons (.odd h) (.nil ρ) | cases h
  | _ => exact .cons (by constructor <;> assumption) (.nil ρ)

def apart (P : Program) (t : TypeId) (cs : List Value) (off : Nat) : Option Value :=
  match srun P (isAgg t) with
  | none => none
  | some true => (match srun P (sizeOf t) with
    | none => none
    | some n => some (.agg ((cs.drop off).take n).toArray))
  | some false => cs[off]?
theorem apart_sound {P : Program} {ρ : Ren} {t : TypeId} {cs : List Value} {cs' : Array Value} {off : Nat} {v : Value} (h : apart P t cs off = some v) (hc : VList ρ cs cs'.toList) (w : World) :
    ∃ v', (part t cs' off).run P w = .ok v' w ∧ VRel ρ v v' := by
  simp only [apart] at h
  split at h
  · cases h
  · rename_i hagg
    split at h
    · cases h
    · rename_i n hn
      simp only [Option.some.injEq] at h
      subst h
      refine ⟨_, by simp only [part, Sem.run_bind, srun_sound hagg, Result.andThen_ok, if_true, srun_sound hn, Sem.run_pure]; rfl, ?_⟩
      refine .agg ?_ ?_
      · simp only [List.size_toArray, List.length_take, List.length_drop, Array.size_extract, hc.1, Array.length_toList]; omega
      · intro i x y hx hy
        rw [List.getElem?_toArray] at hx
        rw [Array.getElem?_extract] at hy
        split at hy
        · rename_i hi
          rw [List.getElem?_take_of_lt (by omega), List.getElem?_drop] at hx
          exact hc.2 _ _ _ hx (by simpa using hy)
        · cases hy
  · rename_i hagg
    obtain ⟨y, hy, hxy⟩ := hc.get h
    refine ⟨y, ?_, hxy⟩
    have hy' : cs'[off]? = some y := by simpa using hy
    simp only [part, Sem.run_bind, srun_sound hagg, Result.andThen_ok, Bool.false_eq_true, if_false, hy', Sem.run_pure]

/-! ### Loads and stores -/
def aload (P : Program) (t : TypeId) (a : Value) (h : AHeap) : Option Value :=
  match a with
  | .pointer (some ⟨b, off, none⟩) => (match h.get b with
    | none => none
    | some (.cells c _) => (match srun P (isAgg t) with
      | none => none
      | some true => (match srun P (sizeOf t) with
        | none => none
        | some n => cond (Nat.ble (off + n) c.length) (some (.agg ((c.drop off).take n).toArray)) none)
      | some false => c[off]?)
    | some _ => none)
  | .pointer (some ⟨b, off, some 0⟩) => cond (Nat.blt b P.globals.size) (match h.get b with
    | none => none
    | some (.tab c) => (match srun P (isAgg t) with
      | none => none
      | some true => (match srun P (sizeOf t) with
        | none => none
        | some n => cond (Nat.ble (off + n) c.length) (some (.agg ((c.drop off).take n).toArray)) none)
      | some false => c[off]?)
    | some _ => none) none
  | _ => none
theorem aload_sound {P : Program} {ρ : Ren} {t : TypeId} {a a' : Value} {h : AHeap} {v : Value} {w : World} (he : aload P t a h = some v) (hr : Rel P ρ h w) (ha : VRel ρ a a') :
    ∃ v', (Instr.loadAt t a').run P w = .ok v' w ∧ VRel ρ v v' := by
  unfold aload at he
  split at he
  · rename_i b off
    cases ha with
    | ptr hb hm =>
      rename_i pl
      split at he
      · cases he
      · rename_i c t' hg
        have hc := hr.place hg hm
        split at he
        · cases he
        · rename_i hagg
          split at he
          · cases he
          · rename_i n hn
            cases hle : Nat.ble (off + n) c.length with
            | false => rw [hle] at he; cases he
            | true =>
              rw [hle] at he
              simp only [cond_true, Option.some.injEq] at he
              subst he
              obtain ⟨ys, hys, hv⟩ := run_loadCells_at hc off n (Nat.le_of_ble_eq_true hle)
              refine ⟨.agg ys.toArray, ?_, .agg (by simpa using hv.1) (fun i x y hx hy => hv.2 i x y (by simpa using hx) (by simpa using hy))⟩
              simp only [Instr.loadAt, Instr.sureAddr, loadVar, Sem.run_bind, Sem.run_pure, Result.andThen_ok, srun_sound hagg, if_true, srun_sound hn, hys]
        · rename_i hagg
          obtain ⟨y, hy, hxy⟩ := hc.cell he
          refine ⟨y, ?_, hxy⟩
          simp only [Instr.loadAt, Instr.sureAddr, loadVar, Sem.run_bind, Sem.run_pure, Result.andThen_ok, srun_sound hagg, Bool.false_eq_true, if_false, run_load, hy]
      · cases he
  · rename_i b off
    cases ha with
    | glob =>
      cases hbl : Nat.blt b P.globals.size with
      | false => rw [hbl] at he; cases he
      | true =>
        rw [hbl] at he
        simp only [cond_true] at he
        have hbl : b < P.globals.size := by simpa [Nat.blt_eq] using hbl
        split at he
        · cases he
        · rename_i c hg
          obtain ⟨pl, hm, t', hc⟩ := hr.ok b _ hg
          obtain ⟨q1, q2⟩ := hr.glob b pl hbl hm
          split at he
          · cases he
          · rename_i hagg
            split at he
            · cases he
            · rename_i n hn
              cases hle : Nat.ble (off + n) c.length with
              | false => rw [hle] at he; cases he
              | true =>
                rw [hle] at he
                simp only [cond_true, Option.some.injEq] at he
                subst he
                obtain ⟨ys, hys, hv⟩ := run_loadCells_at hc off n (Nat.le_of_ble_eq_true hle)
                simp only [q1, q2, Nat.zero_add] at hys
                refine ⟨.agg ys.toArray, ?_, .agg (by simpa using hv.1) (fun i x y hx hy => hv.2 i x y (by simpa using hx) (by simpa using hy))⟩
                simp only [Instr.loadAt, Instr.sureAddr, loadVar, Sem.run_bind, Sem.run_pure, Result.andThen_ok, srun_sound hagg, if_true, srun_sound hn, hys]
          · rename_i hagg
            obtain ⟨y, hy, hxy⟩ := hc.cell he
            simp only [q1, q2, Nat.zero_add] at hy
            refine ⟨y, ?_, hxy⟩
            simp only [Instr.loadAt, Instr.sureAddr, loadVar, Sem.run_bind, Sem.run_pure, Result.andThen_ok, srun_sound hagg, Bool.false_eq_true, if_false, run_load, hy]
        · cases he
  · cases he

def astore (P : Program) (t : TypeId) (a v : Value) (h : AHeap) : Option AHeap :=
  match a with
  | .pointer (some ⟨b, off, none⟩) => (match h.get b with
    | none => none
    | some (.cells c t') => (match srun P (sizeOf t) with
      | none => none
      | some n => cond (Nat.beq v.cells.size n && Nat.ble (off + n) c.length && Nat.ble h.ro b && v.cells.toList.all cellOk) (some (h.set b (some (.cells (setMany c off v.cells.toList) t')))) none)
    | some _ => none)
  | _ => none
theorem astore_sound {P : Program} {ρ : Ren} {t : TypeId} {a a' v v' : Value} {h h' : AHeap} {w : World} (he : astore P t a v h = some h') (hr : Rel P ρ h w) (ha : VRel ρ a a') (hv : VRel ρ v v') :
    ∃ w', (Instr.storeAt t a' v').run P w = .ok () w' ∧ Step P ρ h w ρ h' w' := by
  unfold astore at he
  split at he
  · rename_i b off
    cases ha with
    | ptr hb hm =>
      rename_i pl
      split at he
      · cases he
      · rename_i c t' hg
        split at he
        · cases he
        · rename_i n hn
          cases hc : (Nat.beq v.cells.size n && Nat.ble (off + n) c.length && Nat.ble h.ro b && v.cells.toList.all cellOk) with
          | false => rw [hc] at he; cases he
          | true =>
            rw [hc] at he
            simp only [cond_true, Option.some.injEq] at he
            subst he
            simp only [Bool.and_eq_true, List.all_eq_true] at hc
            obtain ⟨⟨⟨h1, h2⟩, h3⟩, h4⟩ := hc
            have h1 := Nat.eq_of_beq_eq_true h1
            have h2 := Nat.le_of_ble_eq_true h2
            have h3 := Nat.le_of_ble_eq_true h3
            have hcells := hv.cells
            have hsz : v'.cells.size = n := by have := hcells.1; simp only [Array.length_toList] at this; omega
            obtain ⟨w', e, st⟩ := run_storeCells (o := off) hm v.cells.toList v'.cells.toList h w c 0 hr hg h3 (by simp only [Array.length_toList]; omega) hcells h4
            refine ⟨w', ?_, st⟩
            simp only [Instr.storeAt, Instr.sureAddr, storeVar, Sem.run_bind, Sem.run_pure, Result.andThen_ok, srun_sound hn, Sem.run_ite, hsz]
            simp only [ne_eq, not_true, if_false]
            exact e
      · cases he
  · cases he

/-! ### Places -/
def afield (P : Program) (s : TypeId) (a : Value) (i : Nat) : Option Value :=
  match a with
  | .pointer (some ⟨b, off, none⟩) => (match srun P (underlying s) with
    | some (.struct fields) => (match fields[i]? with
      | none => none
      | some f => (match srun P (sizeOf f.type) with
        | none => none
        | some n => cond (Nat.beq n 0) none (some (.pointer (some ⟨b, off + f.offset, none⟩)))))
    | _ => none)
  | .pointer (some ⟨b, off, some 0⟩) => (match srun P (underlying s) with
    | some (.struct fields) => (match fields[i]? with
      | none => none
      | some f => (match srun P (sizeOf f.type) with
        | none => none
        | some n => cond (Nat.beq n 0) none (some (.pointer (some ⟨b, off + f.offset, some 0⟩)))))
    | _ => none)
  | _ => none
theorem afield_sound {P : Program} {ρ : Ren} {s : TypeId} {a a' v : Value} {i : Nat} (he : afield P s a i = some v) (ha : VRel ρ a a') (w : World) :
    ∃ v', (Instr.fieldAt s a' i).run P w = .ok v' w ∧ VRel ρ v v' := by
  unfold afield at he
  split at he
  · rename_i b off
    cases ha with
    | ptr hb hm =>
      rename_i pl
      split at he
      · rename_i fields hu
        split at he
        · cases he
        · rename_i f hf
          split at he
          · cases he
          · rename_i n hn
            cases hz : Nat.beq n 0 with
            | true => rw [hz] at he; cases he
            | false =>
              rw [hz] at he
              simp only [cond_false, Option.some.injEq] at he
              subst he
              have hne : n ≠ 0 := by intro e; subst e; simp at hz
              refine ⟨.pointer (some ⟨pl.c, pl.base + (off + f.offset), none⟩), ?_, .ptr hb hm⟩
              simp only [Instr.fieldAt, Instr.sureAddr, fieldPlace, Sem.run_bind, Sem.run_pure, Result.andThen_ok, srun_sound hu, hf, srun_sound hn, Sem.run_ite, if_neg hne, addr_add, Nat.add_assoc]
      · cases he
  · rename_i b off
    cases ha with
    | glob =>
      split at he
      · rename_i fields hu
        split at he
        · cases he
        · rename_i f hf
          split at he
          · cases he
          · rename_i n hn
            cases hz : Nat.beq n 0 with
            | true => rw [hz] at he; cases he
            | false =>
              rw [hz] at he
              simp only [cond_false, Option.some.injEq] at he
              subst he
              have hne : n ≠ 0 := by intro e; subst e; simp at hz
              refine ⟨.pointer (some ⟨b, off + f.offset, none⟩), ?_, .glob⟩
              simp only [Instr.fieldAt, Instr.sureAddr, fieldPlace, Sem.run_bind, Sem.run_pure, Result.andThen_ok, srun_sound hu, hf, srun_sound hn, Sem.run_ite, if_neg hne, addr_add]
      · cases he
  · cases he

/-- An index: of an array in memory, or of a slice. -/
def aindex (P : Program) (t : TypeId) (x ix : Value) : Option Value :=
  match ix with
  | .int _ i => (match srun P (underlying t), x with
    | some (.array len elem), .pointer (some ⟨b, off, none⟩) => (match srun P (sizeOf elem) with
      | none => none
      | some n => cond (decide (0 ≤ i) && decide (i < len)) (some (.pointer (some ⟨b, off + i.toNat * n, none⟩))) none)
    | some (.array len elem), .pointer (some ⟨b, off, some 0⟩) => (match srun P (sizeOf elem) with
      | none => none
      | some n => cond (decide (0 ≤ i) && decide (i < len)) (some (.pointer (some ⟨b, off + i.toNat * n, some 0⟩))) none)
    | some (.slice elem), .slice (some ⟨b, off, none⟩) len _ => (match srun P (sizeOf elem) with
      | none => none
      | some n => cond (decide (0 ≤ i) && decide (i < len)) (some (.pointer (some ⟨b, off + i.toNat * n, none⟩))) none)
    | _, _ => none)
  | _ => none
theorem aindex_sound {P : Program} {ρ : Ren} {t : TypeId} {x x' ix ix' v : Value} (he : aindex P t x ix = some v) (hx : VRel ρ x x') (hi : VRel ρ ix ix') (w : World) :
    ∃ v', (Instr.indexAt t x' ix').run P w = .ok v' w ∧ VRel ρ v v' := by
  unfold aindex at he
  split at he
  · rename_i k i
    cases hi
    split at he
    · rename_i hu
      cases hx with
      | ptr hb hm =>
        split at he
        · cases he
        · rename_i n hn
          cases hc : (decide (0 ≤ i) && decide (i < _)) with
          | false => rw [hc] at he; cases he
          | true =>
            rw [hc] at he
            simp only [cond_true, Option.some.injEq] at he
            subst he
            simp only [Bool.and_eq_true, decide_eq_true_eq] at hc
            refine ⟨_, ?_, .ptr hb hm⟩
            simp only [Instr.indexAt, Instr.sureAddr, asIntOf, Sem.run_bind, Sem.run_pure, Result.andThen_ok, srun_sound hu, srun_sound hn, Sem.run_ite, if_pos hc, addr_add, Nat.add_assoc]
    · rename_i hu
      cases hx with
      | glob =>
        split at he
        · cases he
        · rename_i n hn
          cases hc : (decide (0 ≤ i) && decide (i < _)) with
          | false => rw [hc] at he; cases he
          | true =>
            rw [hc] at he
            simp only [cond_true, Option.some.injEq] at he
            subst he
            simp only [Bool.and_eq_true, decide_eq_true_eq] at hc
            refine ⟨_, ?_, .glob⟩
            simp only [Instr.indexAt, Instr.sureAddr, asIntOf, Sem.run_bind, Sem.run_pure, Result.andThen_ok, srun_sound hu, srun_sound hn, Sem.run_ite, if_pos hc, addr_add]
    · rename_i hu
      cases hx with
      | slice hb hm hl hcap =>
        split at he
        · cases he
        · rename_i n hn
          cases hc : (decide (0 ≤ i) && decide (i < _)) with
          | false => rw [hc] at he; cases he
          | true =>
            rw [hc] at he
            simp only [cond_true, Option.some.injEq] at he
            subst he
            simp only [Bool.and_eq_true, decide_eq_true_eq] at hc
            refine ⟨_, ?_, .ptr hb hm⟩
            simp only [Instr.indexAt, asIntOf, Sem.run_bind, Sem.run_pure, Result.andThen_ok, srun_sound hu, srun_sound hn, Sem.run_ite, if_pos hc, addr_add, Nat.add_assoc]
      | sliceOut hb hc =>
        split at he
        · cases he
        · rename_i n hn
          rw [show (decide (0 ≤ i) && decide (i < ((0 : Nat) : Int))) = false by simp] at he
          cases he
    · cases he
  · cases he

end
end Go.Ai
