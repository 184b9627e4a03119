/-
  SLICES OF SLICES, append, copy, bytes as text.
-/
import Derived.Test.YtpilbfkinpbnoaaAiOps2
namespace Go.Ai
noncomputable section
variable {P : Program}

/-! ### x[lo:hi] -/
def capsub : Nat → Nat → Nat
  | 0, _ => 0
  | 1, _ => 1
  | k + 2, l => (k - l) + 2
/-- An optional bound: an integer, or what stands for it. -/
def abound (x : Option Value) (d : Nat) (most : Nat) : Option Nat :=
  match x with
  | none => some d
  | some (.int _ i) => cond (decide (0 ≤ i) && decide (i ≤ most)) (some i.toNat) none
  | some _ => none
/-- Is a slice's element as wide as its block's? -/
def wide (P : Program) (h : AHeap) (b n : Nat) : Bool :=
  match h.get b with
  | some (.cells _ t) => Nat.beq (P.cellsOf t) n
  | _ => false
def aslice (P : Program) (t : TypeId) (x : Value) (lo hi : Option Value) (h : AHeap) : Option Value :=
  match srun P (underlying t), x with
  | some (.slice elem), .slice base len c => (match srun P (sizeOf elem) with
    | none => none
    | some n => (match abound hi len len with
      | none => none
      | some hh => (match abound lo 0 hh with
        | none => none
        | some l => (match base with
          | none => cond (Nat.beq len 0) (some (.slice none 0 0)) none
          | some ⟨b, off, none⟩ => some (.slice (some ⟨b, off + l * n, none⟩) (hh - l) (cond (wide P h b n) (capsub c l) 0))
          | some _ => none))))
  | some (.array k elem), .pointer (some ⟨b, off, none⟩) => (match srun P (sizeOf elem) with
    | none => none
    | some n => (match abound hi k k with
      | none => none
      | some hh => (match abound lo 0 hh with
        | none => none
        | some l => some (.slice (some ⟨b, off + (if k = l then 0 else l * n), none⟩) (hh - l) 0))))
  | _, _ => none
theorem abound_le {x : Option Value} {d most r : Nat} (h : abound x d most = some r) (hd : d ≤ most) : r ≤ most := by
  unfold abound at h
  split at h
  · simp only [Option.some.injEq] at h; omega
  · rename_i k i
    cases hc : (decide (0 ≤ i) && decide (i ≤ (most : Int))) with
    | false => rw [hc] at h; cases h
    | true =>
      rw [hc] at h
      simp only [cond_true, Option.some.injEq] at h
      simp only [Bool.and_eq_true, decide_eq_true_eq] at hc
      omega
  · cases h
theorem abound_run {ρ : Ren} {x x' : Option Value} {d most r : Nat} (h : abound x d most = some r) (hx : ∀ v, x = some v → ∃ v', x' = some v' ∧ VRel ρ v v') (hn : x = none → x' = none) {y : Nat} (hy : most ≤ y) (code : BoundsCode) (w : World) :
    (match x' with | some v => Instr.sliceBound v y code | none => (pure d : Sem Nat)).run P w = .ok r w := by
  unfold abound at h
  split at h
  · rw [hn rfl]
    simp only [Option.some.injEq] at h
    subst h; rfl
  · rename_i k i
    obtain ⟨v', rfl, hv⟩ := hx _ rfl
    cases hv
    cases hc : (decide (0 ≤ i) && decide (i ≤ (most : Int))) with
    | false => rw [hc] at h; cases h
    | true =>
      rw [hc] at h
      simp only [cond_true, Option.some.injEq] at h
      simp only [Bool.and_eq_true, decide_eq_true_eq] at hc
      subst h
      simp only [Instr.sliceBound, asIntOf, Sem.run_bind, Sem.run_pure, Result.andThen_ok, Sem.run_ite]
      rw [if_pos (by omega)]
  · cases h
/-- What an operand reads as, if there is one. -/
def ORel (ρ : Ren) (x x' : Option Value) : Prop := (∀ v, x = some v → ∃ v', x' = some v' ∧ VRel ρ v v') ∧ (x = none → x' = none)
theorem bounds_run {ρ : Ren} {lo lo' hi hi' : Option Value} {len cap hh l : Nat} (hhi : abound hi len len = some hh) (hlo : abound lo 0 hh = some l) (rl : ORel ρ lo lo') (rh : ORel ρ hi hi') (hl : len ≤ cap) (b : Bool) (w : World) :
    (Instr.sliceBounds b len cap lo' hi' none).run P w = .ok (l, hh, cap) w := by
  have h1 := abound_run (P := P) hhi rh.1 rh.2 hl (if b then .sliceAcap else .sliceAlen) w
  have h2 := abound_run (P := P) hlo rl.1 rl.2 (Nat.le_refl hh) (.sliceB) w
  unfold Instr.sliceBounds
  cases hi' with
  | none =>
    have e1 : len = hh := by simpa using h1
    subst e1
    cases lo' with
    | none => have e2 : 0 = l := by simpa using h2
              subst e2; rfl
    | some v =>
      simp only at h2
      simp only [Sem.run_bind, Sem.run_pure, Result.andThen_ok, Option.isSome_none, Bool.false_eq_true, if_false, h2]
  | some u =>
    simp only at h1
    cases lo' with
    | none => have e2 : 0 = l := by simpa using h2
              subst e2
              simp only [Sem.run_bind, Sem.run_pure, Result.andThen_ok, h1]
    | some v =>
      simp only at h2
      simp only [Sem.run_bind, Sem.run_pure, Result.andThen_ok, Option.isSome_none, Bool.false_eq_true, if_false, h1, h2]
theorem capsub_zero (c l : Nat) (h : capsub c l = 0) : c = 0 := by
  unfold capsub at h; split at h <;> first | rfl | omega
theorem aslice_sound {ρ : Ren} {t : TypeId} {x x' v : Value} {lo lo' hi hi' : Option Value} {h : AHeap} {w : World} (he : aslice P t x lo hi h = some v) (hr : Rel P ρ h w) (hx : VRel ρ x x') (rl : ORel ρ lo lo') (rh : ORel ρ hi hi') :
    ∃ v', (Instr.sliceAt t x' lo' hi' none).run P w = .ok v' w ∧ VRel ρ v v' := by
  unfold aslice at he
  split at he
  · rename_i elem base len c hu
    split at he
    · cases he
    · rename_i n hn
      split at he
      · cases he
      · rename_i hh hhi
        split at he
        · cases he
        · rename_i l hlo
          have h1 := abound_le hhi (Nat.le_refl _)
          have h2 := abound_le hlo (Nat.zero_le _)
          cases hx with
          | sliceNil =>
            simp only [Nat.beq_refl, cond_true, Option.some.injEq] at he
            subst he
            have : hh = 0 := by omega
            subst this
            have : l = 0 := by omega
            subst this
            refine ⟨.slice none 0 0, ?_, .sliceNil 0⟩
            have hb := bounds_run (P := P) hhi hlo rl rh (Nat.le_refl 0) true w
            simp only [Instr.sliceAt, Instr.slice, Sem.run_bind, srun_sound hu, Result.andThen_ok, hb, srun_sound hn, Sem.run_pure, if_true, Nat.sub_self]
          | slice hb hm hl hc =>
            rename_i b off cap pl
            simp only [Option.some.injEq] at he
            subst he
            have hbd := bounds_run (P := P) hhi hlo rl rh hl true w
            have hrun : (Instr.sliceAt t (.slice (some ⟨pl.c, pl.base + off, none⟩) len cap) lo' hi' none).run P w = .ok (.slice (if cap = l then some ⟨pl.c, pl.base + off, none⟩ else some ⟨pl.c, pl.base + off + l * n, none⟩) (hh - l) (cap - l)) w := by
              simp only [Instr.sliceAt, Instr.slice, Sem.run_bind, srun_sound hu, Result.andThen_ok, hbd, srun_sound hn, Sem.run_pure, Option.map_some, addr_add]
            by_cases hcl : cap = l
            · refine ⟨_, hrun, ?_⟩
              rw [if_pos hcl]
              have e1 : hh - l = 0 := by omega
              have e2 : cap - l = 0 := by omega
              rw [e1, e2]
              refine .sliceOut hb ?_
              cases hw : wide P h b n with
              | false => exact Nat.zero_le _
              | true =>
                simp only [cond_true]
                unfold capsub
                split
                · omega
                · omega
                · rename_i k
                  have := (hc (by omega)).2 k rfl
                  omega
            · refine ⟨_, hrun, ?_⟩
              rw [if_neg hcl, Nat.add_assoc]
              refine .slice hb hm (by omega) ?_
              cases hw : wide P h b n with
              | false => intro hne; exact absurd rfl hne
              | true =>
                simp only [cond_true]
                intro hne
                have hc0 : c ≠ 0 := by intro e; subst e; exact hne rfl
                obtain ⟨c1, c2⟩ := hc hc0
                unfold wide at hw
                split at hw
                · rename_i cs tb hg
                  have hw := Nat.eq_of_beq_eq_true hw
                  obtain ⟨cs', fz, _, _, hesz, _⟩ := hr.place hg hm
                  rw [hesz.1, hw] at c1 ⊢
                  refine ⟨?_, ?_⟩
                  · have : l * n + (cap - l) * n = cap * n := by rw [← Nat.add_mul]; congr 1; omega
                    omega
                  · intro k hk
                    unfold capsub at hk
                    split at hk
                    · omega
                    · omega
                    · have := c2 _ rfl
                      omega
                · cases hw
          | sliceOut hb hc =>
            rename_i b off a
            simp only [Option.some.injEq] at he
            subst he
            have : hh = 0 := by omega
            subst this
            have : l = 0 := by omega
            subst this
            refine ⟨.slice (some a) 0 0, ?_, .sliceOut hb ?_⟩
            · have hbd := bounds_run (P := P) hhi hlo rl rh (Nat.le_refl 0) true w
              simp only [Instr.sliceAt, Instr.slice, Sem.run_bind, srun_sound hu, Result.andThen_ok, hbd, srun_sound hn, Sem.run_pure, if_true, Nat.sub_self]
            · cases wide P h b n with
              | false => exact Nat.zero_le _
              | true => simp only [cond_true]; unfold capsub; split <;> omega
  · rename_i k elem b off hu
    cases hx with
    | ptr hb hm =>
      rename_i pl
      split at he
      · cases he
      · rename_i n hn
        split at he
        · cases he
        · rename_i hh hhi
          split at he
          · cases he
          · rename_i l hlo
            simp only [Option.some.injEq] at he
            subst he
            have h1 := abound_le hhi (Nat.le_refl _)
            have h2 := abound_le hlo (Nat.zero_le _)
            have hbd := bounds_run (P := P) hhi hlo rl rh (Nat.le_refl k) false w
            refine ⟨_, by simp only [Instr.sliceAt, Instr.sureAddr, Sem.run_bind, srun_sound hu, Sem.run_pure, Result.andThen_ok, hbd, srun_sound hn]; rfl, ?_⟩
            have : (if k = l then (Addr.mk pl.c (pl.base + off) none) else (Addr.mk pl.c (pl.base + off) none).add (l * n)) = ⟨pl.c, pl.base + (off + (if k = l then 0 else l * n)), none⟩ := by
              split
              · rfl
              · rw [addr_add, Nat.add_assoc]
            rw [this]
            exact .slice hb hm (by omega) (fun hne => absurd rfl hne)
  · cases he

/-! ### len -/
def alen (P : Program) (t : TypeId) (x : Value) : Option Value :=
  match srun P (underlying t), x with
  | some (.slice _), .slice _ n _ => some (goInt n)
  | some .string, .string s => some (goInt s.size)
  | some (.array n _), _ => some (goInt n)
  | _, _ => none
theorem alen_sound {ρ : Ren} {t : TypeId} {x x' v : Value} (he : alen P t x = some v) (hx : VRel ρ x x') (r : TypeId) (w : World) : (Builtin.len_ #[t] r #[x']).run P w = .ok v w ∧ VRel ρ v v := by
  unfold alen at he
  split at he
  · rename_i hu
    simp only [Option.some.injEq] at he
    subst he
    refine ⟨?_, .int _ _⟩
    cases hx <;> simp [Builtin.len_, srun_sound hu]
  · rename_i hu
    simp only [Option.some.injEq] at he
    subst he
    refine ⟨?_, .int _ _⟩
    cases hx; simp [Builtin.len_, srun_sound hu]
  · rename_i hu
    simp only [Option.some.injEq] at he
    subst he
    refine ⟨?_, .int _ _⟩
    simp [Builtin.len_, srun_sound hu]
  · cases he

end
end Go.Ai
