/-
  append and copy on an abstract heap; slices made of parts; bytes as text; and all operations but calls together.
-/
import Derived.Test.YtpilbfkinpbnoaaAiOps4
namespace Go.Ai
noncomputable section
variable {P : Program}

def capafter (c need : Nat) : Nat :=
  match c with
  | k + 2 => cond (Nat.ble need k) (k + 2) 1
  | _ => 1
theorem capafter_exact {c need k : Nat} (h : capafter c need = k + 2) : c = k + 2 ∧ need ≤ k := by
  unfold capafter at h
  split at h
  · rename_i q
    cases hq : Nat.ble need q with
    | true => rw [hq] at h; simp only [cond_true] at h; exact ⟨h, by have := Nat.le_of_ble_eq_true hq; omega⟩
    | false => rw [hq] at h; simp only [cond_false] at h; omega
  · omega
/-- How many bytes a slice may come to by an append. -/
def roomFor (c need bytes : Nat) : Bool := Nat.ble (need * bytes) (cond (Nat.beq c 2) (2 ^ 48) (2 ^ 47))
def aappend2 (h : AHeap) (elem : TypeId) (i : TypeInfo) (n : Nat) (new : List Value) (s : Value) : Option (Value × AHeap) :=
  match s with
  | .slice none 0 0 => cond (Nat.beq n 0) (some (.slice none 0 0, h)) (cond (Nat.ble (n * i.bytes) (2 ^ 48)) (some (.slice (some ⟨h.next, 0, none⟩) n 1, h.push (.cells new elem))) none)
  | .slice (some ⟨b, off, none⟩) len c => cond (Nat.beq n 0) (some (s, h)) (match h.get b with
    | some (.cells cs t) => cond (!(Nat.beq c 0) && Nat.beq t elem && Nat.ble h.ro b && Nat.ble (off + len * i.size) cs.length && (roomFor c (len + n) i.bytes && Nat.beq (off % i.size) 0))
        (some (.slice (some ⟨h.next, 0, none⟩) (len + n) (capafter c (len + n)), (h.set b none).push (.cells (((cs.drop off).take (len * i.size)) ++ new) elem))) none
    | _ => none)
  | _ => none
def aappend (P : Program) (sT xT : TypeId) (s x : Value) (h : AHeap) : Option (Value × AHeap) :=
  match srun P (underlying sT), srun P (underlying xT), alenv x with
  | some (.slice elem), some xd, some n => (match srun P (typeInfo elem), azero P elem with
    | some i, some z => (match firstc h n i.size x with
      | some new => cond (!(isIntD xd) && Nat.blt 0 i.bytes && Nat.beq z.cells.size i.size && new.all cellOk && Nat.beq new.length (n * i.size)) (aappend2 h elem i n new s) none
      | none => none)
    | _, _ => none)
  | _, _, _ => none

theorem Step.ofDrop {ρ : Ren} {h : AHeap} {w : World} (hr : Rel P ρ h w) (b : Nat) : Step P ρ h w ρ (h.set b none) w :=
  ⟨Ren.le_refl _, hr.drop b, rfl, rfl, rfl, rfl, Nat.le_refl _, fun _ _ _ => rfl, fun c _ hm => by
    obtain ⟨x, o, pl, hx, h1, h2, h3⟩ := hm
    rw [AHeap.get_set] at hx
    split at hx
    · cases hx
    · exact ⟨x, o, pl, hx, h1, h2, h3⟩⟩
theorem run_append_none {sT xT elem : TypeId} {r : TypeId} {xd : TypeDesc} {i : TypeInfo} {len cap : Nat} {base : Option Addr} {x' : Value} {w : World}
    (h1 : srun P (underlying sT) = some (.slice elem)) (h2 : srun P (underlying xT) = some xd) (h3 : isIntD xd = false) (hi : srun P (typeInfo elem) = some i)
    (hlen : ∀ w, (Builtin.lenOf x').run P w = .ok 0 w) (hl : len ≤ cap) (hnew : (Builtin.firstCells i.size 0 x').run P w = .ok ([] : List Value).toArray w) :
    (Builtin.append_ #[sT, xT] r #[.slice base len cap, x']).run P w = .ok (.slice base len cap) w := by
  obtain ⟨sz1, sz2⟩ := sizeOf_of_info hi
  simp only [Builtin.append_]
  simp only [List.getElem?_toArray, List.getElem?_cons_zero, List.getElem?_cons_succ, Sem.run_bind, srun_sound h1, Result.andThen_ok, sz2, srun_sound h2, Sem.run_pure]
  rw [if_neg (by cases xd <;> first | exact Bool.false_ne_true | cases h3)]
  simp only [Sem.run_bind, hlen, Result.andThen_ok]
  rw [if_pos (by omega)]
  rw [if_pos (by cases xd <;> first | rfl | cases h3)]
  simp only [Sem.run_bind, hnew, Result.andThen_ok, Nat.add_zero]
  cases base with
  | none => simp only [Sem.run_pure]
  | some a => simp only [storeCells, Sem.run_pure, Result.andThen_ok, Sem.run_bind]

set_option maxHeartbeats 1000000 in
theorem aappend_sound {ρ : Ren} {sT xT r : TypeId} {s s' x x' v : Value} {h h' : AHeap} {w : World} (he : aappend P sT xT s x h = some (v, h')) (hr : Rel P ρ h w) (hs : VRel ρ s s') (hx : VRel ρ x x') :
    ∃ v' w' ρ', (Builtin.append_ #[sT, xT] r #[s', x']).run P w = .ok v' w' ∧ Step P ρ h w ρ' h' w' ∧ VRel ρ' v v' := by
  unfold aappend at he
  split at he
  case h_2 => cases he
  rename_i elem xd n h1 h2 hn
  split at he
  case h_2 => cases he
  rename_i i z hi hz
  split at he
  case h_2 => cases he
  rename_i new hnew
  cases hc : (!(isIntD xd) && Nat.blt 0 i.bytes && Nat.beq z.cells.size i.size && new.all cellOk && Nat.beq new.length (n * i.size)) with
  | false => rw [hc] at he; cases he
  | true =>
    rw [hc] at he
    simp only [cond_true] at he
    simp only [Bool.and_eq_true, Bool.not_eq_true', List.all_eq_true] at hc
    obtain ⟨⟨⟨⟨h3, hb⟩, hzs⟩, hco⟩, hnl⟩ := hc
    have hb : 0 < i.bytes := by simpa [Nat.blt_eq] using hb
    have hzs := Nat.eq_of_beq_eq_true hzs
    have hnl := Nat.eq_of_beq_eq_true hnl
    have hlen : ∀ w, (Builtin.lenOf x').run P w = .ok n w := fun w => alenv_sound hn hx w
    have hnx : ∀ b l cap, x = .slice b l cap → n ≤ l := by intro b l cap e; subst e; simp only [alenv, Option.some.injEq] at hn; omega
    obtain ⟨new', hnew', vnew⟩ := firstc_sound hnew hr hx hnx
    have hnil : n = 0 → (Builtin.firstCells i.size 0 x').run P w = .ok ([] : List Value).toArray w := by
      intro e
      subst e
      have : new' = [] := by have := vnew.1; rw [hnl, Nat.zero_mul] at this; exact List.eq_nil_of_length_eq_zero this.symm
      rw [this] at hnew'; exact hnew'
    have hr1 : Rel P ρ h { w with drawn := w.drawn + 1 } := hr.grow (fun k _ => rfl)
    obtain ⟨new1, hnew1, vnew1⟩ := firstc_sound (w := { w with drawn := w.drawn + 1 }) hnew hr1 hx hnx
    unfold aappend2 at he
    split at he
    · -- the nil slice
      cases hs
      cases hz0 : Nat.beq n 0 with
      | true =>
        obtain rfl := Nat.eq_of_beq_eq_true hz0
        rw [hz0] at he
        simp only [cond_true, Option.some.injEq, Prod.mk.injEq] at he
        obtain ⟨rfl, rfl⟩ := he
        exact ⟨_, w, ρ, run_append_none h1 h2 h3 hi hlen (Nat.le_refl 0) (hnil rfl), .refl hr, .sliceNil 0⟩
      | false =>
        rw [hz0] at he
        have hn0 : 0 < n := by rcases Nat.eq_zero_or_pos n with e | e; · subst e; simp at hz0
                               · exact e
        cases hlim : Nat.ble (n * i.bytes) (2 ^ 48) with
        | false => rw [hlim] at he; cases he
        | true =>
          rw [hlim] at he
          simp only [cond_true, cond_false, Option.some.injEq, Prod.mk.injEq] at he
          obtain ⟨rfl, rfl⟩ := he
          have hlim := Nat.le_of_ble_eq_true hlim
          obtain ⟨cap', w', pl, e1, e2, e3, e4, e5, e6, st⟩ := run_append_grow (r := r) (base := none) (len := 0) (cap := 0) (old := []) (old' := []) hr h1 h2 h3 hi hz hb hzs hlen (by omega)
            (by rw [nextcap_zero _ (by omega)]; simpa using hlim) (by simp [Builtin.firstCells]) hnew1 (.nil ρ) vnew1 (by simp) hnl
          rw [Nat.zero_add] at e1 e2
          refine ⟨_, w', _, e1, st, ?_⟩
          have := VRel.slice (ρ := ρ.ext pl) (b := h.next) (off := 0) (len := n) (c := 1) (cap := cap') (pl := pl) (by show h.next < ρ.next + 1; rw [hr.next]; exact Nat.lt_succ_self _) (by rw [← hr.next]; exact ρ.ext_next _) e2
            (fun _ => ⟨by rw [e4, e5]; simpa using e6, fun k hk => by omega⟩)
          rw [e3, e4] at this
          exact this
    · rename_i b off len c
      cases hz0 : Nat.beq n 0 with
      | true =>
        obtain rfl := Nat.eq_of_beq_eq_true hz0
        rw [hz0] at he
        simp only [cond_true, Option.some.injEq, Prod.mk.injEq] at he
        obtain ⟨rfl, rfl⟩ := he
        cases hs with
        | slice hb' hm' hl' hc' => exact ⟨_, w, ρ, run_append_none h1 h2 h3 hi hlen hl' (hnil rfl), .refl hr, .slice hb' hm' hl' hc'⟩
        | sliceOut hb' hc' => exact ⟨_, w, ρ, run_append_none h1 h2 h3 hi hlen (Nat.le_refl 0) (hnil rfl), .refl hr, .sliceOut hb' hc'⟩
      | false =>
        rw [hz0] at he
        have hn0 : 0 < n := by rcases Nat.eq_zero_or_pos n with e | e; · subst e; simp at hz0
                               · exact e
        simp only [cond_false] at he
        split at he
        case h_2 => cases he
        rename_i cs t hg
        cases hcc : (!(Nat.beq c 0) && Nat.beq t elem && Nat.ble h.ro b && Nat.ble (off + len * i.size) cs.length && (roomFor c (len + n) i.bytes && Nat.beq (off % i.size) 0)) with
        | false => rw [hcc] at he; cases he
        | true =>
          rw [hcc] at he
          simp only [cond_true, Option.some.injEq, Prod.mk.injEq] at he
          obtain ⟨rfl, rfl⟩ := he
          simp only [Bool.and_eq_true, Bool.not_eq_true'] at hcc
          obtain ⟨⟨⟨⟨k1, k2⟩, k3⟩, k4⟩, k5, k6⟩ := hcc
          have k1 : c ≠ 0 := by intro e; subst e; simp at k1
          obtain rfl := Nat.eq_of_beq_eq_true k2
          have k3 := Nat.le_of_ble_eq_true k3
          have k4 := Nat.le_of_ble_eq_true k4
          have hlim : ∀ cap, cap < len + n → (c = 2 → cap = 0) → Builtin.nextslicecap (len + n) cap * i.bytes ≤ 2 ^ 48 := by
            intro cap hcap h2c
            unfold roomFor at k5
            by_cases e2 : c = 2
            · subst e2
              rw [h2c rfl, nextcap_zero _ (by omega)]
              simp only [Nat.beq_refl, cond_true] at k5
              exact Nat.le_of_ble_eq_true k5
            · rw [show Nat.beq c 2 = false from Tr.beq_false e2] at k5
              simp only [cond_false] at k5
              have k5 := Nat.le_of_ble_eq_true k5
              have := nextcap_le (len + n) cap hcap
              calc Builtin.nextslicecap (len + n) cap * i.bytes ≤ (2 * (len + n)) * i.bytes := Nat.mul_le_mul_right _ this
                _ = 2 * ((len + n) * i.bytes) := Nat.mul_assoc _ _ _
                _ ≤ 2 * 2 ^ 47 := Nat.mul_le_mul_left _ k5
                _ = 2 ^ 48 := by decide
          have hdropr := hr.drop b
          cases hs with
          | slice hb' hm' hl' hc' =>
            rename_i cap pl
            obtain ⟨c1, c2⟩ := hc' k1
            obtain ⟨sz1, _⟩ := sizeOf_of_info hi
            have hpl := hr.place hg hm'
            have hesz : pl.esz = i.size := by obtain ⟨_, _, _, _, q, _⟩ := hpl; rw [q.1, sz1]
            by_cases hfit : len + n ≤ cap
            · obtain ⟨w', e1, st⟩ := run_append_in (r := r) hr h1 h2 h3 hi hlen hfit hg hm' k3 hnew' vnew hnl hco (by rw [← hesz]; exact c1) k4 (Nat.eq_of_beq_eq_true k6)
              refine ⟨_, w', _, e1, st, ?_⟩
              have := VRel.slice (ρ := ρ.ext ⟨pl.c, pl.base + off, pl.size, pl.esz⟩) (b := h.next) (off := 0) (len := len + n) (c := capafter c (len + n)) (cap := cap) (pl := ⟨pl.c, pl.base + off, pl.size, pl.esz⟩)
                (by show h.next < ρ.next + 1; rw [hr.next]; exact Nat.lt_succ_self _) (by rw [← hr.next]; exact ρ.ext_next _) hfit
                (fun _ => ⟨by simpa using c1, fun k hk => c2 k (capafter_exact hk).1⟩)
              simpa using this
            · have hfull : (c = 2 → cap = 0) := fun e => c2 0 (by omega)
              obtain ⟨old', hold', vold⟩ := run_loadCells_at (hr1.place hg hm') off (len * i.size) k4
              obtain ⟨cap', w', pl', e1, e2, e3, e4, e5, e6, st⟩ := run_append_grow (r := r) (base := some ⟨pl.c, pl.base + off, none⟩) (len := len) (cap := cap) hdropr h1 h2 h3 hi hz hb hzs hlen (by omega)
                (hlim cap (by omega) hfull) (by simpa only [Builtin.firstCells] using hold') hnew1 vold vnew1 (by simp only [List.length_take, List.length_drop]; omega) hnl
              refine ⟨_, w', _, e1, (Step.ofDrop hr b).trans st, ?_⟩
              have := VRel.slice (ρ := ρ.ext pl') (b := h.next) (off := 0) (len := len + n) (c := capafter c (len + n)) (cap := cap') (pl := pl') (by show h.next < ρ.next + 1; rw [hr.next]; exact Nat.lt_succ_self _) (by rw [← hr.next]; exact ρ.ext_next _) e2
                (fun _ => ⟨by rw [e4, e5]; simpa using e6, fun k hk => by
                  have q := capafter_exact hk
                  have := c2 k q.1
                  omega⟩)
              rw [e3, e4] at this
              exact this
          | sliceOut hb' hc' =>
            obtain ⟨cap', w', pl', e1, e2, e3, e4, e5, e6, st⟩ := run_append_grow (r := r) (base := some _) (len := 0) (cap := 0) (old := (cs.drop off).take (0 * i.size)) (old' := []) hdropr h1 h2 h3 hi hz hb hzs hlen (by omega)
              (hlim 0 (by omega) (fun _ => rfl)) (by simp only [Builtin.firstCells, Nat.zero_mul]; rfl) hnew1 (by simp [VList]) vnew1 (by simp) hnl
            refine ⟨_, w', _, e1, (Step.ofDrop hr b).trans st, ?_⟩
            have := VRel.slice (ρ := ρ.ext pl') (b := h.next) (off := 0) (len := 0 + n) (c := capafter c (0 + n)) (cap := cap') (pl := pl') (by show h.next < ρ.next + 1; rw [hr.next]; exact Nat.lt_succ_self _) (by rw [← hr.next]; exact ρ.ext_next _) e2
              (fun _ => ⟨by rw [e4, e5]; simpa using e6, fun k hk => by
                have q := capafter_exact hk
                omega⟩)
            rw [e3, e4] at this
            exact this
    · cases he

end
end Go.Ai
