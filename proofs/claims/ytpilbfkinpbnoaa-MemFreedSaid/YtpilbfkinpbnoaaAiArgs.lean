/-
  THE CALLER'S WORLD as an abstract heap: each of its blocks of cells, under its own number; nothing of it to be written. What cannot be told is unknown.
-/
import Derived.Test.YtpilbfkinpbnoaaAiSpec
set_option linter.unusedVariables false
namespace Go.Ai
noncomputable section
variable {P : Program}

/-- A cell of the world's, told where blocks keep their numbers. -/
def absV (n : Nat) : Value → Value
  | .bool b => .bool b
  | .int k i => .int k i
  | .float k i => .float k i
  | .string s => .string s
  | .pointer none => .pointer none
  | .pointer (some ⟨b, off, none⟩) => cond (Nat.blt b n) (.pointer (some ⟨b, off, none⟩)) bot
  | .slice none 0 0 => .slice none 0 0
  | .slice (some _) 0 0 => .slice (some ⟨0, 0, none⟩) 0 0
  | .slice (some ⟨b, off, none⟩) l c => cond (Nat.blt b n && Nat.ble l c) (.slice (some ⟨b, off, none⟩) l 0) bot
  | .nilFunc => .nilFunc
  | .nilIface => .nilIface
  | .map none => .map none
  | _ => bot
def tabT (f : Nat → Option AObj) : Nat → Tr AObj
  | 0 => .e
  | n + 1 => (tabT f n).set n (f n)
theorem get_tabT (f : Nat → Option AObj) (n k : Nat) : (tabT f n).get k = if k < n then f k else none := by
  induction n with
  | zero => simp [tabT]
  | succ n ih =>
    rw [tabT, Tr.get_set, ih]
    by_cases h : k = n
    · subst h; rw [if_pos rfl, if_pos (by omega)]
    · rw [if_neg h]
      by_cases h2 : k < n
      · rw [if_pos h2, if_pos (by omega)]
      · rw [if_neg h2, if_neg (by omega)]
def renW (P : Program) (w : World) : Ren := ⟨max w.heap.size P.globals.size + 1, fun b => match w.heap[b]? with
  | some (.cells cs t _) => some ⟨b, 0, cs.size, P.cellsOf t⟩
  | _ => some ⟨b, 0, 0, 1⟩⟩
theorem renW_at (P : Program) (w : World) (b : Nat) : ∃ pl, (renW P w).m b = some pl ∧ pl.c = b ∧ pl.base = 0 := by
  unfold renW
  simp only
  split
  · exact ⟨_, rfl, rfl, rfl⟩
  · exact ⟨_, rfl, rfl, rfl⟩
theorem absV_rel (P : Program) (w : World) {v : Value} (h : cellOk v = true) : VRel (renW P w) (absV w.heap.size v) v := by
  have un : (∀ b, v ≠ .bool b) → VRel (renW P w) bot v := fun hb => .odd (by
    cases v with
    | bool b => exact absurd rfl (hb b)
    | agg _ => cases h
    | tuple _ => cases h
    | _ => rfl)
  have lt : ∀ {b : Nat}, Nat.blt b w.heap.size = true → b < (renW P w).next := fun {b} hb => by
    have h1 : b < w.heap.size := by simpa [Nat.blt_eq] using hb
    show b < max w.heap.size P.globals.size + 1
    omega
  unfold absV
  split
  · exact .bool _
  · exact .int _ _
  · exact .float _ _
  · exact .string _
  · exact .ptrNil
  · rename_i b off
    cases hb : Nat.blt b w.heap.size with
    | true =>
      obtain ⟨pl, hm, hc, h0⟩ := renW_at P w b
      have := VRel.ptr (ρ := renW P w) (off := off) (lt hb) hm
      rw [hc, h0, Nat.zero_add] at this
      exact this
    | false => exact un (fun b h => by cases h)
  · exact .sliceNil _
  · exact .sliceOut (show 0 < max w.heap.size P.globals.size + 1 by omega) (by decide)
  · rename_i b off l c hne
    cases hb : Nat.blt b w.heap.size && Nat.ble l c with
    | true =>
      obtain ⟨pl, hm, hc, h0⟩ := renW_at P w b
      simp only [Bool.and_eq_true] at hb
      have := VRel.slice (ρ := renW P w) (off := off) (c := 0) (lt hb.1) hm (Nat.le_of_ble_eq_true hb.2) (fun h => absurd rfl h)
      rw [hc, h0, Nat.zero_add] at this
      exact this
    | false => exact un (fun b h => by cases h)
  · exact .nilFunc
  · exact .nilIface
  · exact .mapNil
  · rename_i h1 h2 h3 h4 h5 h6 h7 h8 h9 h10 h11 h12
    exact un (fun b h => h1 b h)
theorem abs_ex (P : Program) (w : World) : ∀ v : Value, ∃ x, VRel (renW P w) x v
  | .agg a => by
    have h : ∀ i : Fin a.size, ∃ x, VRel (renW P w) x a[i] := fun i => abs_ex P w a[i]
    obtain ⟨f, hf⟩ := Classical.axiomOfChoice h
    refine ⟨.agg (Array.ofFn f), .agg (by simp) (fun i x y hx hy => ?_)⟩
    have hi : i < a.size := by
      rcases Nat.lt_or_ge i a.size with q | q
      · exact q
      · rw [Array.getElem?_eq_none q] at hy; cases hy
    rw [Array.getElem?_eq_getElem hi] at hy
    simp only [Option.some.injEq] at hy
    subst hy
    rw [Array.getElem?_eq_getElem (by simpa using hi)] at hx
    simp only [Option.some.injEq, Array.getElem_ofFn] at hx
    subst hx
    exact hf ⟨i, hi⟩
  | .tuple a => by
    have h : ∀ i : Fin a.size, ∃ x, VRel (renW P w) x a[i] := fun i => abs_ex P w a[i]
    obtain ⟨f, hf⟩ := Classical.axiomOfChoice h
    refine ⟨.tuple (Array.ofFn f), .tuple (by simp) (fun i x y hx hy => ?_)⟩
    have hi : i < a.size := by
      rcases Nat.lt_or_ge i a.size with q | q
      · exact q
      · rw [Array.getElem?_eq_none q] at hy; cases hy
    rw [Array.getElem?_eq_getElem hi] at hy
    simp only [Option.some.injEq] at hy
    subst hy
    rw [Array.getElem?_eq_getElem (by simpa using hi)] at hx
    simp only [Option.some.injEq, Array.getElem_ofFn] at hx
    subst hx
    exact hf ⟨i, hi⟩
  | .bool b => ⟨_, .bool b⟩
  | .int _ _ | .float _ _ | .complex _ _ _ | .string _ | .pointer _ | .slice _ _ _ | .map _ | .nilFunc | .func _ _ _ | .nilIface | .iface _ _ | .chan _ => ⟨bot, .odd rfl⟩
termination_by v => SizeOf.sizeOf v
decreasing_by
  all_goals
    have := Array.sizeOf_lt_of_mem (Array.getElem_mem i.2)
    simp only [Value.agg.sizeOf_spec, Value.tuple.sizeOf_spec]
    simp only [Fin.getElem_fin] at this ⊢
    omega
/-- A cell. -/
def absC (P : Program) (w : World) (v : Value) : Value := if cellOk v = true then absV w.heap.size v else Classical.choose (abs_ex P w v)
theorem absC_rel (P : Program) (w : World) (v : Value) : VRel (renW P w) (absC P w v) v := by
  unfold absC
  split
  · rename_i h; exact absV_rel P w h
  · exact Classical.choose_spec (abs_ex P w v)
theorem absC_ok {w : World} {v : Value} (h : cellOk v = true) : absC P w v = absV w.heap.size v := if_pos h
def absO (P : Program) (w : World) (b : Nat) : Option AObj := match w.heap[b]? with
  | some (.cells cs t _) => some (.cells (cs.toList.map (absC P w)) t)
  | _ => none
def absH (P : Program) (w : World) : AHeap := ⟨tabT (absO P w) w.heap.size, max w.heap.size P.globals.size + 1, max w.heap.size P.globals.size + 1⟩
theorem get_absH {w : World} {b : Nat} {o : AObj} (h : (absH P w).get b = some o) : b < w.heap.size ∧ ∃ cs t fz, w.heap[b]? = some (.cells cs t fz) ∧ o = .cells (cs.toList.map (absC P w)) t := by
  have h2 : (tabT (absO P w) w.heap.size).get b = some o := h
  rw [get_tabT] at h2
  split at h2
  case isFalse => cases h2
  rename_i hb
  refine ⟨hb, ?_⟩
  unfold absO at h2
  split at h2
  · rename_i cs t fz hw
    simp only [Option.some.injEq] at h2
    exact ⟨cs, t, fz, hw, h2.symm⟩
  · cases h2
theorem absH_get {w : World} {b : Nat} {cs : Array Value} {t : TypeId} {fz : Nat × Nat} (h : w.heap[b]? = some (.cells cs t fz)) : (absH P w).get b = some (.cells (cs.toList.map (absC P w)) t) := by
  have hb : b < w.heap.size := lt_of_obj h
  show (tabT (absO P w) w.heap.size).get b = _
  rw [get_tabT, if_pos hb]
  unfold absO
  rw [h]
theorem rel_absH (P : Program) (w : World) : Rel P (renW P w) (absH P w) w := by
  refine ⟨rfl, Nat.le_refl _, fun b o h => ?_, fun b o h => ?_, fun b1 b2 o1 o2 p1 p2 _ _ h1 h2 e => ?_, Nat.le_succ_of_le (Nat.le_max_right _ _), fun b pl _ h => ?_⟩
  · have := (get_absH h).1
    show b < max w.heap.size P.globals.size + 1
    omega
  · obtain ⟨hb, cs, t, fz, hw, rfl⟩ := get_absH h
    refine ⟨⟨b, 0, cs.size, P.cellsOf t⟩, by simp only [renW, hw], ?_⟩
    refine ⟨cs, fz, hw, rfl, ⟨rfl, Nat.zero_mod _⟩, by simp, fun hd => ?_, fun i x hx => ?_⟩
    · have hd : max w.heap.size P.globals.size + 1 ≤ b := of_decide_eq_true hd
      omega
    · simp only [List.getElem?_map, Option.map_eq_some_iff] at hx
      obtain ⟨y, hy, rfl⟩ := hx
      exact ⟨y, by simpa using hy, absC_rel P w y⟩
  · obtain ⟨q1, a1, b1, c1⟩ := renW_at P w b1
    obtain ⟨q2, a2, b2, c2⟩ := renW_at P w b2
    rw [h1] at a1; rw [h2] at a2
    cases a1; cases a2
    omega
  · obtain ⟨q1, a1, b1, c1⟩ := renW_at P w b
    rw [h] at a1
    cases a1
    exact ⟨b1, c1⟩
/-- From a call's triple on the caller's world to what the machine does. -/
theorem Calls_of_TCW {f : FuncId} {args vs : List Value} {v : Value} (w : World) (ha : VList (renW P w) args vs) (hv : scal v = true) (ht : TC P f args (absH P w) (fun v1 _ => v1 = v)) :
    Calls P f vs.toArray w fun e w' => e = .returned v ∧ RowKit.Below w.heap.size w w' := by
  refine (ht _ w vs (rel_absH P w) ha).mono fun e w' => ?_
  rintro ⟨v1, v', h1, ρ', rfl, rfl, st, hvr⟩
  refine ⟨by rw [scal_same hv hvr], st.os, st.tape, st.output, st.size, fun k hk => st.frame k hk ?_⟩
  rintro ⟨b, o, pl, hb, hro, _⟩
  have h1 := (get_absH hb).1
  have h2 : max w.heap.size P.globals.size + 1 ≤ b := hro
  omega
end
end Go.Ai
