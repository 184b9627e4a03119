/-
  append: the old slice's block is a block no more; a new one, numbered anew, holds what it held and what was appended: whether or not the world's was copied.
-/
import Derived.Test.YtpilbfkinpbnoaaAiOps3
namespace Go.Ai
noncomputable section
variable {P : Program}

/-- The cells of the first n elements, each of so many cells. -/
def firstc (h : AHeap) (n size : Nat) : Value → Option (List Value)
  | .slice (some ⟨b, off, none⟩) _ _ => cond (Nat.beq (n * size) 0) (some []) (match h.get b with
    | some (.cells c _) => cond (Nat.ble (off + n * size) c.length) (some ((c.drop off).take (n * size))) none
    | _ => none)
  | .slice none _ _ => some []
  | .string s => some ((s.extract 0 n).data.toList.map fun b => .int .u8 b.toNat)
  | _ => none
def alenv : Value → Option Nat
  | .slice _ n _ => some n
  | .string s => some s.size
  | _ => none
theorem alenv_sound {ρ : Ren} {x x' : Value} {n : Nat} (h : alenv x = some n) (hx : VRel ρ x x') (w : World) : (Builtin.lenOf x').run P w = .ok n w := by
  cases hx with
  | odd _ => cases h
  | _ => simp only [alenv, Option.some.injEq, reduceCtorEq] at h <;> subst h <;> rfl
theorem firstc_sound {ρ : Ren} {h : AHeap} {w : World} {n size : Nat} {x x' : Value} {c : List Value} (he : firstc h n size x = some c) (hr : Rel P ρ h w) (hx : VRel ρ x x') (hn : ∀ b l cap, x = .slice b l cap → n ≤ l) :
    ∃ c' : List Value, (Builtin.firstCells size n x').run P w = .ok c'.toArray w ∧ VList ρ c c' := by
  have hzero : n * size = 0 → ∀ a : Addr, (loadCells a (n * size)).run P w = .ok ([] : List Value).toArray w := by
    intro e a; rw [e]; rfl
  cases hx with
  | sliceNil c0 =>
    simp only [firstc, Option.some.injEq] at he
    subst he
    exact ⟨[], rfl, .nil ρ⟩
  | slice hb hm hl hc =>
    rename_i b off len c0 cap pl
    simp only [firstc] at he
    cases hz : Nat.beq (n * size) 0 with
    | true =>
      rw [hz] at he
      simp only [cond_true, Option.some.injEq] at he
      subst he
      exact ⟨[], by simp only [Builtin.firstCells]; exact hzero (Nat.eq_of_beq_eq_true hz) _, .nil ρ⟩
    | false =>
      rw [hz] at he
      simp only [cond_false] at he
      split at he
      · rename_i cs t hg
        cases hle : Nat.ble (off + n * size) cs.length with
        | false => rw [hle] at he; cases he
        | true =>
          rw [hle] at he
          simp only [cond_true, Option.some.injEq] at he
          subst he
          obtain ⟨ys, hys, hv⟩ := run_loadCells_at (hr.place hg hm) off (n * size) (Nat.le_of_ble_eq_true hle)
          exact ⟨ys, by simpa only [Builtin.firstCells] using hys, hv⟩
      · cases he
  | sliceOut hb hc =>
    rename_i b off c0 a
    have := hn _ _ _ rfl
    have hz : n * size = 0 := by have : n = 0 := by omega
                                 subst this; simp
    simp only [firstc, hz, Nat.beq_refl, cond_true, Option.some.injEq] at he
    subst he
    exact ⟨[], by simp only [Builtin.firstCells]; exact hzero hz _, .nil ρ⟩
  | string s =>
    simp only [firstc, Option.some.injEq] at he
    subst he
    refine ⟨_, ?_, ⟨rfl, fun i x y hx hy => ?_⟩⟩
    · simp only [Builtin.firstCells, Sem.run_pure]
      congr 1
      apply Array.ext'
      simp
    · rw [hx] at hy; cases hy
      simp only [List.getElem?_map, Option.map_eq_some_iff] at hx
      obtain ⟨b, _, rfl⟩ := hx
      exact .int _ _
  | _ => cases he

def isIntD : TypeDesc → Bool
  | .int _ => true
  | _ => false
theorem growBy_le (need : Nat) (hn : 255 ≤ need) : ∀ (r c : Nat), c ≤ 2 * need → Builtin.growBy need r c ≤ 2 * need
  | 0, c, h => h
  | r + 1, c, h => by
    unfold Builtin.growBy
    split
    · exact h
    · exact growBy_le need hn r _ (by omega)
theorem nextcap_le (need cap : Nat) (h : cap < need) : Builtin.nextslicecap need cap ≤ 2 * need := by
  unfold Builtin.nextslicecap
  split
  · omega
  · split
    · omega
    · exact growBy_le need (by omega) 4 cap (by omega)
theorem nextcap_zero (need : Nat) (h : 0 < need) : Builtin.nextslicecap need 0 = need := by
  unfold Builtin.nextslicecap; rw [if_pos (by omega)]

/-- An append that copies. -/
theorem run_append_grow {ρ : Ren} {h : AHeap} {w : World} (hr : Rel P ρ h w) {sT xT elem : TypeId} {r : TypeId} {xd : TypeDesc} {i : TypeInfo} {z : Value} {base : Option Addr} {len cap n : Nat} {x' : Value} {old old' new new' : List Value}
    (h1 : srun P (underlying sT) = some (.slice elem)) (h2 : srun P (underlying xT) = some xd) (h3 : isIntD xd = false) (hi : srun P (typeInfo elem) = some i) (hz : azero P elem = some z)
    (hb : 0 < i.bytes) (hzs : z.cells.size = i.size)
    (hlen : ∀ w, (Builtin.lenOf x').run P w = .ok n w) (hgrow : cap < len + n) (hlim : Builtin.nextslicecap (len + n) cap * i.bytes ≤ 2 ^ 48)
    (hold : (Builtin.firstCells i.size len (.slice base len cap)).run P { w with drawn := w.drawn + 1 } = .ok old'.toArray { w with drawn := w.drawn + 1 }) (hnew : (Builtin.firstCells i.size n x').run P { w with drawn := w.drawn + 1 } = .ok new'.toArray { w with drawn := w.drawn + 1 })
    (vold : VList ρ old old') (vnew : VList ρ new new') (hol : old.length = len * i.size) (hnl : new.length = n * i.size) :
    ∃ cap' w' pl, (Builtin.append_ #[sT, xT] r #[.slice base len cap, x']).run P w = .ok (.slice (some ⟨w.heap.size, 0, none⟩) (len + n) cap') w' ∧ len + n ≤ cap' ∧ pl.c = w.heap.size ∧ pl.base = 0 ∧ pl.esz = i.size ∧ cap' * i.size ≤ pl.size ∧
      Step P ρ h w (ρ.ext pl) (h.push (.cells (old ++ new) elem)) w' := by
  obtain ⟨sz1, sz2⟩ := sizeOf_of_info hi
  obtain ⟨z1, _⟩ := azero_sound (ρ := ρ) hz w
  have z1 : ∀ w, (zeroValue elem).run P w = .ok z w := fun w => (azero_sound (ρ := ρ) hz w).1
  let q : Question := .appendCap (len + n) cap elem
  let newCap := q.cut (w.tape w.drawn q)
  let w1 : World := { w with drawn := w.drawn + 1 }
  have hge : len + n ≤ newCap := by show len + n ≤ (len + n) + _ % _; omega
  let cs : Array Value := old'.toArray ++ new'.toArray ++ Builtin.zeroCells z.cells (newCap - (len + n))
  have hr1 : Rel P ρ h w1 := hr.grow (fun k _ => rfl)
  have hcs : cs.size = newCap * i.size := by
    simp only [cs, Builtin.zeroCells, Array.size_append, List.size_toArray, Array.size_map, Array.size_range, ← vold.1, ← vnew.1, hol, hnl, hzs]
    rw [← Nat.add_mul, ← Nat.add_mul]; congr 1; omega
  have st := Step.push (t := elem) hr1 (c := old ++ new) (cs := cs) (fz := (0, 0)) (w' := { w1 with heap := w1.heap.push (.cells cs elem) }) rfl (fun i _ hi => by simp at hi)
    (by simp only [cs, Array.size_append, List.length_append, List.size_toArray, vold.1, vnew.1]; omega)
    (fun k x hx => by
      obtain ⟨y, hy, hxy⟩ := (vold.append vnew).get hx
      refine ⟨y, ?_, hxy⟩
      have hlt : k < (old' ++ new').length := by
        rcases Nat.lt_or_ge k (old' ++ new').length with h | h
        · exact h
        · rw [List.getElem?_eq_none h] at hy; cases hy
      have : cs = (old' ++ new').toArray ++ Builtin.zeroCells z.cells (newCap - (len + n)) := by
        have e : old'.toArray ++ new'.toArray = (old' ++ new').toArray := by simp
        simp only [cs]; rw [e]
      rw [this, Array.getElem?_append_left (by simpa using hlt)]
      simpa using hy) rfl rfl rfl
  refine ⟨newCap, _, ⟨w.heap.size, 0, cs.size, P.cellsOf elem⟩, ?_, hge, rfl, rfl, sz1, by rw [hcs]; exact Nat.le_refl _, ⟨st.le, st.rel, st.ro, st.os, st.tape, st.output, st.size, st.frame, st.img⟩⟩
  have e1 : ¬ (len + n ≤ cap) := by omega
  simp only [Builtin.append_]
  simp only [List.getElem?_toArray, List.getElem?_cons_zero, List.getElem?_cons_succ, Sem.run_bind, srun_sound h1, Result.andThen_ok, sz2, srun_sound h2, Sem.run_pure]
  rw [if_neg (by cases xd <;> first | exact Bool.false_ne_true | cases h3)]
  simp only [Sem.run_bind, hlen, Result.andThen_ok]
  rw [if_neg e1]
  simp only [Sem.run_bind, srun_sound hi, Result.andThen_ok]
  rw [if_neg (by
    rintro ⟨_, h | h⟩
    · revert h; cases xd <;> first | exact Bool.false_ne_true | cases h3
    · omega)]
  simp only [Sem.run_bind, srun_sound hi, Result.andThen_ok]
  rw [if_neg (by omega)]
  have hq : (choose (.appendCap (len + n) cap elem)).run P w = .ok newCap w1 := by rw [run_choose]; rfl
  simp only [Sem.run_bind, hq, Result.andThen_ok, srun_sound hi, run_askRoom]
  rw [show w1 = { w with drawn := w.drawn + 1 } from rfl, hold]
  simp only [Result.andThen_ok]
  rw [if_pos (by cases xd <;> first | rfl | cases h3)]
  rw [hnew]
  simp only [Result.andThen_ok, z1, Sem.run_pure]
  rfl

/-- An append in place. -/
theorem run_append_in {ρ : Ren} {h : AHeap} {w : World} (hr : Rel P ρ h w) {sT xT elem : TypeId} {r : TypeId} {xd : TypeDesc} {i : TypeInfo} {b off len cap n : Nat} {cs : List Value} {pl : Place} {x' : Value} {new new' : List Value}
    (h1 : srun P (underlying sT) = some (.slice elem)) (h2 : srun P (underlying xT) = some xd) (h3 : isIntD xd = false) (hi : srun P (typeInfo elem) = some i)
    (hlen : ∀ w, (Builtin.lenOf x').run P w = .ok n w) (hfits : len + n ≤ cap) (hg : h.get b = some (.cells cs elem)) (hm : ρ.m b = some pl) (hro : h.ro ≤ b)
    (hnew : (Builtin.firstCells i.size n x').run P w = .ok new'.toArray w) (vnew : VList ρ new new') (hnl : new.length = n * i.size) (hcell : ∀ x ∈ new, cellOk x = true)
    (hroom : pl.base + off + cap * i.size ≤ pl.size) (hhave : off + len * i.size ≤ cs.length) (hoff : off % i.size = 0) :
    ∃ w', (Builtin.append_ #[sT, xT] r #[.slice (some ⟨pl.c, pl.base + off, none⟩) len cap, x']).run P w = .ok (.slice (some ⟨pl.c, pl.base + off, none⟩) (len + n) cap) w' ∧
      Step P ρ h w (ρ.ext ⟨pl.c, pl.base + off, pl.size, pl.esz⟩) ((h.set b none).push (.cells (((cs.drop off).take (len * i.size)) ++ new) elem)) w' := by
  obtain ⟨sz1, sz2⟩ := sizeOf_of_info hi
  obtain ⟨cs', fz, g1, g2, g3, g4, g5, g6⟩ := hr.place hg hm
  -- the abstract block, as long as the world's
  have key : ∀ (vs vs' : List Value) (w0 : World) (cc : Array Value) (j : Nat), w0.heap[pl.c]? = some (.cells cc elem fz) → cc.size = pl.size → pl.base + off + len * i.size + j + vs.length ≤ pl.size → VList ρ vs vs' → (∀ x ∈ vs, cellOk x = true) →
      ∃ w', (storeCells ⟨pl.c, pl.base + off + len * i.size, none⟩ vs' j).run P w0 = .ok () w' ∧ (∃ dd : Array Value, w'.heap[pl.c]? = some (.cells dd elem fz) ∧ dd.size = cc.size ∧
        (∀ k, (k < pl.base + off + len * i.size + j) → dd[k]? = cc[k]?) ∧ (∀ k y, vs'[k]? = some y → dd[pl.base + off + len * i.size + j + k]? = some y)) ∧
        (∀ k, k ≠ pl.c → w'.heap[k]? = w0.heap[k]?) ∧ w'.os = w0.os ∧ w'.tape = w0.tape ∧ w'.output = w0.output ∧ w'.heap.size = w0.heap.size := by
    intro vs
    induction vs with
    | nil =>
      intro vs' w0 cc j hb hsz _ hv _
      cases hv.nil_inv
      exact ⟨w0, rfl, ⟨cc, hb, rfl, fun _ _ => rfl, fun k y hy => by simp at hy⟩, fun _ _ => rfl, rfl, rfl, rfl, rfl⟩
    | cons v vs ih =>
      intro vs' w0 cc j hb hsz hle hv hco
      obtain ⟨v', vs'', rfl, hv1, hv2⟩ := hv.cons_inv
      simp only [List.length_cons] at hle
      let p := pl.base + off + len * i.size + j
      have hp : p < pl.size := by show pl.base + off + len * i.size + j < pl.size; omega
      have hone : v'.oneCell' = true := by have := cellOk_rel hv1; rw [hco v (by simp)] at this; cases v' <;> simp_all [cellOk, Value.oneCell']
      have hcell0 : w0.cell? ⟨pl.c, p, none⟩ = some cc[p]! := by
        simp only [World.cell?, hb]
        simp [getElem!_def, Array.getElem?_eq_getElem (show p < cc.size by omega)]
      have hfr : w0.frozen? ⟨pl.c, p, none⟩ = false := by
        have := g5 (by simpa using hro) p hp
        obtain ⟨lo, hi'⟩ := fz
        simp [World.frozen?, hb] at this ⊢
        exact this
      have e1 : (store ⟨pl.c, p, none⟩ v').run P w0 = .ok () (w0.setCell ⟨pl.c, p, none⟩ v') := by
        rw [run_store _ _ _ _ _ hone, hcell0]; simp [hfr]
      have hb1 : (w0.setCell ⟨pl.c, p, none⟩ v').heap[pl.c]? = some (.cells (cc.setIfInBounds p v') elem fz) := by simp [World.setCell, Array.getElem?_modify, hb]
      obtain ⟨w', e2, ⟨dd, d1, d2, d3, d4⟩, d5, d6, d7, d8, d9⟩ := ih vs'' _ (cc.setIfInBounds p v') (j + 1) hb1 (by simpa using hsz) (by omega) hv2 (fun x hx => hco x (by simp [hx]))
      refine ⟨w', ?_, ⟨dd, d1, by simpa using d2, fun k hk => ?_, fun k y hy => ?_⟩, fun k hk => (d5 k hk).trans (heap_setCell_ne _ _ _ _ hk), d6, d7, d8, d9.trans (size_setCell _ _ _)⟩
      · simp only [storeCells, addr_add, Sem.run_bind]
        rw [show (⟨pl.c, pl.base + off + len * i.size + j, none⟩ : Addr) = ⟨pl.c, p, none⟩ from rfl, e1]
        exact e2
      · rw [d3 k (by omega), Array.getElem?_setIfInBounds, if_neg (by show p ≠ k; omega)]
      · cases k with
        | zero =>
          simp only [List.getElem?_cons_zero, Option.some.injEq] at hy
          subst hy
          rw [Nat.add_zero, d3 _ (by omega), Array.getElem?_setIfInBounds, if_pos rfl, if_pos (by omega)]
        | succ k =>
          have := d4 k y (by simpa using hy)
          rw [show pl.base + off + len * i.size + j + (k + 1) = pl.base + off + len * i.size + (j + 1) + k by omega]
          exact this
  have hfit : pl.base + off + len * i.size + 0 + new.length ≤ pl.size := by
    have : len * i.size + n * i.size ≤ cap * i.size := by rw [← Nat.add_mul]; exact Nat.mul_le_mul_right _ hfits
    omega
  obtain ⟨w', e, ⟨dd, d1, d2, d3, d4⟩, d5, d6, d7, d8, d9⟩ := key new new' w cs' 0 g1 g2 hfit vnew hcell
  refine ⟨w', ?_, ?_⟩
  · simp only [Builtin.append_]
    simp only [List.getElem?_toArray, List.getElem?_cons_zero, List.getElem?_cons_succ, Sem.run_bind, srun_sound h1, Result.andThen_ok, sz2, srun_sound h2, Sem.run_pure]
    rw [if_neg (by cases xd <;> first | exact Bool.false_ne_true | cases h3)]
    simp only [Sem.run_bind, hlen, Result.andThen_ok]
    rw [if_pos hfits]
    rw [if_pos (by cases xd <;> first | rfl | cases h3)]
    simp only [Sem.run_bind, hnew, Result.andThen_ok, addr_add, e, Sem.run_pure]
  · have hr0 := hr.drop b
    have hle := ρ.le_ext ⟨pl.c, pl.base + off, pl.size, pl.esz⟩
    have hr1 : Rel P ρ (h.set b none) w' := ⟨hr0.next, hr0.ro, hr0.dom, fun x ox hx => by
        obtain ⟨p, hp, hc⟩ := hr0.ok x ox hx
        refine ⟨p, hp, hc.other (d5 _ ?_)⟩
        intro ec
        rw [AHeap.get_set] at hx
        split at hx
        · cases hx
        · rename_i ne
          exact ne (hr.inj x b _ _ p pl hx hg hp hm ec), hr0.inj, hr0.gro, hr0.glob⟩
    refine ⟨hle, hr1.push ⟨dd, fz, d1, d2.trans g2, ⟨g3.1, by
      show (pl.base + off) % pl.esz = 0
      rw [Nat.add_mod, g3.2, g3.1, sz1, hoff]; simp⟩, ?_, fun _ => g5 (by simpa using hro), ?_⟩ ?_, rfl, d6, d7, d8, by omega, fun k hk hn => d5 k (fun ec => hn ⟨b, _, pl, hg, hro, hm, ec.symm⟩), ?_⟩
    · simp only [List.length_append, List.length_take, List.length_drop, hnl] at hfit ⊢
      have : len * i.size + n * i.size ≤ cap * i.size := by rw [← Nat.add_mul]; exact Nat.mul_le_mul_right _ hfits
      show pl.base + off + (min (len * i.size) (cs.length - off) + n * i.size) ≤ dd.size
      omega
    · intro k x hx
      rcases Nat.lt_or_ge k (len * i.size) with hk | hk
      · have hk' : k < ((cs.drop off).take (len * i.size)).length := by simp only [List.length_take, List.length_drop]; omega
        rw [List.getElem?_append_left hk', List.getElem?_take_of_lt hk, List.getElem?_drop] at hx
        obtain ⟨y, hy, hxy⟩ := g6 _ _ hx
        exact ⟨y, by rw [show (pl.base + off : Nat) + k = pl.base + (off + k) by omega, d3 _ (by omega)]; exact hy, hxy.mono hle⟩
      · have hl0 : ((cs.drop off).take (len * i.size)).length = len * i.size := by simp only [List.length_take, List.length_drop]; omega
        rw [List.getElem?_append_right (by omega), hl0] at hx
        obtain ⟨y, hy, hxy⟩ := vnew.get hx
        refine ⟨y, ?_, hxy.mono hle⟩
        have := d4 _ _ hy
        rw [show (pl.base + off : Nat) + k = pl.base + off + len * i.size + 0 + (k - len * i.size) by omega]
        exact this
    · intro x o p hx hp ec
      rw [AHeap.get_set] at hx
      split at hx
      · cases hx
      · rename_i ne
        exact ne (hr.inj x b _ _ p pl hx hg hp hm ec)
    · rintro k hk ⟨x, o, p, hx, hrx, hp, hpc⟩
      rw [AHeap.get_push] at hx
      split at hx
      · rename_i ex
        subst ex
        rw [show (h.set b none).next = ρ.next from hr.next.symm, Ren.ext_next] at hp
        cases hp
        exact ⟨b, _, pl, hg, hro, hm, hpc⟩
      · have hlt := hr0.dom x o hx
        have hp' : ρ.m x = some p := by rw [← hp]; exact (hle.2 x (by rw [hr0.next]; exact hlt)).symm
        rw [AHeap.get_set] at hx
        split at hx
        · cases hx
        · exact ⟨x, o, p, hx, hrx, hp', hpc⟩

end
end Go.Ai
