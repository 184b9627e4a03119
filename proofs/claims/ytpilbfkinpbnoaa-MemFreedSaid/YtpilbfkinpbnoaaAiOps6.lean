/-
  copy, clear, bytes as text, text as bytes, slices made of parts; and all operations but calls together.
-/
import Derived.Test.YtpilbfkinpbnoaaAiOps5
namespace Go.Ai
noncomputable section
variable {P : Program}

/-! ### copy -/
def asplice (h : AHeap) (b off : Nat) (new : List Value) : Option AHeap :=
  cond (Nat.beq new.length 0) (some h) (match h.get b with
    | some (.cells cs t) => cond (Nat.ble h.ro b && Nat.ble (off + new.length) cs.length && new.all cellOk) (some (h.set b (some (.cells (setMany cs off new) t)))) none
    | _ => none)
theorem asplice_sound {ρ : Ren} {h h' : AHeap} {w : World} {b off : Nat} {pl : Place} {new new' : List Value} (he : asplice h b off new = some h') (hr : Rel P ρ h w) (hm : ρ.m b = some pl) (hv : VList ρ new new') :
    ∃ w', (storeCells ⟨pl.c, pl.base + off, none⟩ new').run P w = .ok () w' ∧ Step P ρ h w ρ h' w' := by
  unfold asplice at he
  cases hz : Nat.beq new.length 0 with
  | true =>
    rw [hz] at he
    simp only [cond_true, Option.some.injEq] at he
    subst he
    have : new = [] := List.eq_nil_of_length_eq_zero (Nat.eq_of_beq_eq_true hz)
    subst this
    cases hv.nil_inv
    exact ⟨w, rfl, .refl hr⟩
  | false =>
    rw [hz] at he
    simp only [cond_false] at he
    split at he
    case h_2 => cases he
    rename_i cs t hg
    cases hc : (Nat.ble h.ro b && Nat.ble (off + new.length) cs.length && new.all cellOk) with
    | false => rw [hc] at he; cases he
    | true =>
      rw [hc] at he
      simp only [cond_true, Option.some.injEq] at he
      subst he
      simp only [Bool.and_eq_true, List.all_eq_true] at hc
      exact run_storeCells (o := off) hm new new' h w cs 0 hr hg (Nat.le_of_ble_eq_true hc.1.1) (by have := Nat.le_of_ble_eq_true hc.1.2; omega) hv hc.2

def acopy (P : Program) (dT : TypeId) (d x : Value) (h : AHeap) : Option (Value × AHeap) :=
  match srun P (underlying dT), d, alenv x with
  | some (.slice elem), .slice base dl _, some m => (match srun P (typeInfo elem) with
    | none => none
    | some i => (match firstc h (Nat.min m dl) i.size x with
      | none => none
      | some new => (match base with
        | none => some (goInt (Nat.min m dl), h)
        | some ⟨b, off, none⟩ => (asplice h b off new).map fun h' => (goInt (Nat.min m dl), h')
        | some _ => none)))
  | _, _, _ => none
theorem acopy_sound {ρ : Ren} {dT r : TypeId} {ts : Array TypeId} {d d' x x' v : Value} {h h' : AHeap} {w : World} (he : acopy P dT d x h = some (v, h')) (hr : Rel P ρ h w) (hd : VRel ρ d d') (hx : VRel ρ x x') (hts : ts[0]? = some dT) :
    ∃ v' w', (Builtin.copy_ ts r #[d', x']).run P w = .ok v' w' ∧ Step P ρ h w ρ h' w' ∧ VRel ρ v v' := by
  unfold acopy at he
  split at he
  case h_2 => cases he
  rename_i elem base dl c m hu hm
  split at he
  case h_1 => cases he
  rename_i i hi
  obtain ⟨sz1, sz2⟩ := sizeOf_of_info hi
  split at he
  case h_1 => cases he
  rename_i new hnew
  have hlen := fun w => alenv_sound (P := P) hm hx w
  obtain ⟨new', hnew', vnew⟩ := firstc_sound hnew hr hx (by intro b l cap e; subst e; simp only [alenv, Option.some.injEq] at hm; subst hm; exact Nat.min_le_left _ _)
  cases hd with
  | sliceNil =>
    simp only [Option.some.injEq, Prod.mk.injEq] at he
    obtain ⟨rfl, rfl⟩ := he
    refine ⟨goInt (Nat.min m 0), w, ?_, .refl hr, .int _ _⟩
    simp only [Builtin.copy_, hts]
    simp only [List.getElem?_toArray, List.getElem?_cons_zero, List.getElem?_cons_succ, Sem.run_bind, srun_sound hu, Result.andThen_ok, hlen, sz2, hnew', Sem.run_pure]
  | slice hb hmm hl hc =>
    simp only [Option.map_eq_some_iff, Prod.mk.injEq] at he
    obtain ⟨h2, hsp, rfl, rfl⟩ := he
    obtain ⟨w', e, st⟩ := asplice_sound hsp hr hmm vnew
    refine ⟨_, w', ?_, st, .int _ _⟩
    simp only [Builtin.copy_, hts]
    simp only [List.getElem?_toArray, List.getElem?_cons_zero, List.getElem?_cons_succ, Sem.run_bind, srun_sound hu, Result.andThen_ok, hlen, sz2, hnew', e, Sem.run_pure]
    rfl
  | sliceOut hb hc =>
    simp only [Option.map_eq_some_iff, Prod.mk.injEq] at he
    obtain ⟨h2, hsp, rfl, rfl⟩ := he
    have hmin : Nat.min m 0 = 0 := Nat.min_zero m
    have hnil : new = [] := by
      rw [hmin] at hnew
      cases hx with
      | sliceNil => simp only [firstc, Option.some.injEq] at hnew; exact hnew.symm
      | slice => simp only [firstc, Nat.zero_mul, Nat.beq_refl, cond_true, Option.some.injEq] at hnew; exact hnew.symm
      | sliceOut => simp only [firstc, Nat.zero_mul, Nat.beq_refl, cond_true, Option.some.injEq] at hnew; exact hnew.symm
      | string => simp only [firstc, Option.some.injEq] at hnew; rw [← hnew]; simp
      | _ => cases hm
    subst hnil
    cases vnew.nil_inv
    simp only [asplice, List.length_nil, Nat.beq_refl, cond_true, Option.some.injEq] at hsp
    subst hsp
    refine ⟨goInt (Nat.min m 0), w, ?_, .refl hr, .int _ _⟩
    simp only [Builtin.copy_, hts]
    simp only [List.getElem?_toArray, List.getElem?_cons_zero, List.getElem?_cons_succ, Sem.run_bind, srun_sound hu, Result.andThen_ok, hlen, sz2, hnew', Sem.run_pure, storeCells]

/-! ### clear, of a slice -/
def aclear (P : Program) (t : TypeId) (x : Value) (h : AHeap) : Option AHeap :=
  match srun P (underlying t), x with
  | some (.slice elem), .slice base n _ => cond (Nat.beq n 0) (some h) (match azero P elem, base with
    | some z, some ⟨b, off, none⟩ => cond (Nat.blt 0 z.cells.size) (asplice h b off (zcells z.cells.toList (n * z.cells.size))) none
    | _, _ => none)
  | _, _ => none
theorem aclear_sound {ρ : Ren} {t r : TypeId} {x x' : Value} {h h' : AHeap} {w : World} (he : aclear P t x h = some h') (hr : Rel P ρ h w) (hx : VRel ρ x x') :
    ∃ w', (Builtin.clear_ #[t] r #[x']).run P w = .ok undef w' ∧ Step P ρ h w ρ h' w' := by
  unfold aclear at he
  split at he
  case h_2 => cases he
  rename_i elem base n c hu
  cases hz : Nat.beq n 0 with
  | true =>
    rw [hz] at he
    obtain rfl := Nat.eq_of_beq_eq_true hz
    simp only [cond_true, Option.some.injEq] at he
    subst he
    refine ⟨w, ?_, .refl hr⟩
    cases hx <;> simp [Builtin.clear_, srun_sound hu, undef]
  | false =>
    rw [hz] at he
    simp only [cond_false] at he
    split at he
    case h_2 => cases he
    rename_i z b off hzero
    cases hp : Nat.blt 0 z.cells.size with
    | false => rw [hp] at he; cases he
    | true =>
      rw [hp] at he
      simp only [cond_true] at he
      have hp : 0 < z.cells.size := by simpa [Nat.blt_eq] using hp
      obtain ⟨z1, z2⟩ := azero_sound (ρ := ρ) hzero w
      cases hx with
      | slice hb hm hl hc =>
        obtain ⟨w', e, st⟩ := asplice_sound he hr hm (zcells_rel z2 (by omega) _)
        refine ⟨w', ?_, st⟩
        have hn0 : n ≠ 0 := by intro e; subst e; simp at hz
        obtain ⟨k, rfl⟩ : ∃ k, n = k + 1 := ⟨n - 1, by omega⟩
        simp only [Builtin.clear_]
        simp only [List.getElem?_toArray, List.getElem?_cons_zero, Sem.run_bind, srun_sound hu, Result.andThen_ok, z1, Builtin.zeroCells, zcells_eq, e, Sem.run_pure, undef]
      | sliceOut => simp at hz

/-! ### Bytes as text, text as bytes -/
/-- The bytes of some cells. -/
def bytesOf : List Value → ByteArray → Option ByteArray
  | [], s => some s
  | .int .u8 n :: l, s => bytesOf l (s.push (UInt8.ofNat n.toNat))
  | _ :: _, _ => none
def ab2s (h : AHeap) (x : Value) : Option Value :=
  match x with
  | .slice none _ _ => some (.string .empty)
  | .slice (some ⟨b, off, none⟩) n _ => cond (Nat.beq n 0) (some (.string .empty)) (match h.get b with
    | some (.cells c _) => cond (Nat.ble (off + n) c.length) ((bytesOf ((c.drop off).take n) .empty).map .string) none
    | _ => none)
  | _ => none
theorem bytesOf_run {ρ : Ren} : ∀ (l l' : List Value) (s r : ByteArray), bytesOf l s = some r → VList ρ l l' → ∀ w : World,
    (forIn l' s fun c s => (match c with
      | .int .u8 n => pure (ForInStep.yield (s.push (UInt8.ofNat n.toNat)))
      | _ => (do stuck "bytesToString: byte expected"; pure (ForInStep.yield s)) : Sem (ForInStep ByteArray))).run P w = .ok r w
  | [], l', s, r, h, hv, w => by
    cases hv.nil_inv
    simp only [bytesOf, Option.some.injEq] at h
    subst h; rfl
  | x :: l, l', s, r, h, hv, w => by
    obtain ⟨y, ys, rfl, h1, h2⟩ := hv.cons_inv
    unfold bytesOf at h
    split at h
    · rename_i e; cases e
    · rename_i e
      simp only [List.cons.injEq] at e
      obtain ⟨rfl, rfl⟩ := e
      cases h1
      rw [List.forIn_cons]
      simp only [Sem.run_bind, Sem.run_pure, Result.andThen_ok]
      exact bytesOf_run _ _ _ _ h h2 w
    · cases h
theorem ab2s_sound {ρ : Ren} {h : AHeap} {w : World} {x x' v : Value} (he : ab2s h x = some v) (hr : Rel P ρ h w) (hx : VRel ρ x x') : (Conv.bytesToString x').run P w = .ok v w ∧ VRel ρ v v := by
  unfold ab2s at he
  split at he
  · simp only [Option.some.injEq] at he
    subst he
    cases hx
    exact ⟨rfl, .string _⟩
  · rename_i b off n c
    cases hz : Nat.beq n 0 with
    | true =>
      rw [hz] at he
      obtain rfl := Nat.eq_of_beq_eq_true hz
      simp only [cond_true, Option.some.injEq] at he
      subst he
      refine ⟨?_, .string _⟩
      cases hx <;> (simp only [Conv.bytesToString, loadCells, loadCellsFrom, Sem.run_bind, Sem.run_pure, Result.andThen_ok]; rw [← Array.forIn_toList]; rfl)
    | false =>
      rw [hz] at he
      simp only [cond_false] at he
      split at he
      case h_2 => cases he
      rename_i cs t hg
      cases hle : Nat.ble (off + n) cs.length with
      | false => rw [hle] at he; cases he
      | true =>
        rw [hle] at he
        simp only [cond_true, Option.map_eq_some_iff] at he
        obtain ⟨r, hb, rfl⟩ := he
        refine ⟨?_, .string _⟩
        cases hx with
        | slice hb' hm hl hc =>
          obtain ⟨ys, hys, hv⟩ := run_loadCells_at (hr.place hg hm) off n (Nat.le_of_ble_eq_true hle)
          simp only [Conv.bytesToString, Sem.run_bind, hys, Result.andThen_ok]
          rw [← Array.forIn_toList]
          have := bytesOf_run (P := P) _ _ _ _ hb hv w
          rw [show ys.toArray.toList = ys from rfl]
          exact (congrArg (fun q : Result ByteArray => q.andThen fun a w' => Sem.run P (pure (Value.string a)) w') this)
        | sliceOut => simp at hz
  · cases he

end
end Go.Ai
