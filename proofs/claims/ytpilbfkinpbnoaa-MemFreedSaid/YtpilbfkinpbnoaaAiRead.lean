/-
  WHAT THE CALLER'S ARGUMENTS READ AS, told of the abstract heap that stands for the caller's world.
-/
import Derived.Test.YtpilbfkinpbnoaaAiArgs
import Derived.ChangeStays
import Derived.ChangeArms
set_option linter.unusedVariables false
namespace Go.Ai
noncomputable section
variable {P : Program}

/-- Cells that read as a value of a type (no pointers, maps, interfaces: of these nothing is told). -/
def RC (P : Program) (h : AHeap) : Nat → TypeId → List Value → Prop
  | 0, _, _ => False
  | n + 1, t, cs => match P.underlying t with
    | some .bool => ∃ b, cs = [.bool b]
    | some (.int k) => ∃ i, cs = [.int k i] ∧ (Lit.int k i).wf = true
    | some .string => ∃ s : ByteArray, cs = [.string s] ∧ s.size ≤ maxLen
    | some (.slice e) => 0 < P.cellsOf e → cs = [.slice none 0 0] ∨ ∃ b off len, cs = [.slice (some ⟨b, off, none⟩) len 0] ∧ len ≤ maxLen ∧ (0 < len → ∃ c t', h.get b = some (.cells c t') ∧
        ∀ i, i < len → off + i * P.cellsOf e + P.cellsOf e ≤ c.length ∧ RC P h n e ((c.drop (off + i * P.cellsOf e)).take (P.cellsOf e)))
    | some (.struct fs) => cs.length = P.cellsOf t ∧ ∀ f, f ∈ fs → RC P h n f.type ((cs.drop f.offset).take (P.cellsOf f.type))
    | _ => True
def RD (P : Program) (h : AHeap) (t : TypeId) (cs : List Value) : Prop := ∃ n, RC P h n t cs
section
variable {h : AHeap} {t e : TypeId} {cs : List Value} {k : IntKind}
theorem rd_bool (hu : P.underlying t = some .bool) (r : RD P h t cs) : ∃ b, cs = [.bool b] := by
  obtain ⟨n, r⟩ := r
  cases n with
  | zero => exact r.elim
  | succ n => simpa only [RC, hu] using r
theorem rd_int (hu : P.underlying t = some (.int k)) (r : RD P h t cs) : ∃ i, cs = [.int k i] ∧ (Lit.int k i).wf = true := by
  obtain ⟨n, r⟩ := r
  cases n with
  | zero => exact r.elim
  | succ n => simpa only [RC, hu] using r
theorem rd_string (hu : P.underlying t = some .string) (r : RD P h t cs) : ∃ s : ByteArray, cs = [.string s] ∧ s.size ≤ maxLen := by
  obtain ⟨n, r⟩ := r
  cases n with
  | zero => exact r.elim
  | succ n => simpa only [RC, hu] using r
theorem rd_slice (hu : P.underlying t = some (.slice e)) {sz : Nat} (hs : P.cellsOf e = sz) (h0 : 0 < sz) (r : RD P h t cs) : cs = [.slice none 0 0] ∨ ∃ b off len, cs = [.slice (some ⟨b, off, none⟩) len 0] ∧ len ≤ maxLen ∧
    (0 < len → ∃ c t', h.get b = some (.cells c t') ∧ ∀ i, i < len → off + i * sz + sz ≤ c.length ∧ RD P h e ((c.drop (off + i * sz)).take sz)) := by
  subst hs
  obtain ⟨n, r⟩ := r
  cases n with
  | zero => exact r.elim
  | succ n =>
    simp only [RC, hu] at r
    rcases r h0 with r | ⟨b, off, len, e1, e2, e3⟩
    · exact .inl r
    · refine .inr ⟨b, off, len, e1, e2, fun hl => ?_⟩
      obtain ⟨c, t', g, hc⟩ := e3 hl
      exact ⟨c, t', g, fun i hi => ⟨(hc i hi).1, n, (hc i hi).2⟩⟩
theorem rd_struct {fs : Array Field} (hu : P.underlying t = some (.struct fs)) (r : RD P h t cs) : cs.length = P.cellsOf t ∧ ∀ f, f ∈ fs → RD P h f.type ((cs.drop f.offset).take (P.cellsOf f.type)) := by
  obtain ⟨n, r⟩ := r
  cases n with
  | zero => exact r.elim
  | succ n =>
    simp only [RC, hu] at r
    exact ⟨r.1, fun f hf => ⟨n, r.2 f hf⟩⟩
end

section
variable {H : Type} {enc : TypeId × Value → H} {w : World} {held : Bool}
theorem absC_int (k : IntKind) (i : Int) : absC P w (.int k i) = .int k i := by rw [absC_ok rfl]; rfl
theorem absC_bool (b : Bool) : absC P w (.bool b) = .bool b := by rw [absC_ok rfl]; rfl
theorem absC_string (s : ByteArray) : absC P w (.string s) = .string s := by rw [absC_ok rfl]; rfl
theorem absC_nil : absC P w (.slice none 0 0) = .slice none 0 0 := by rw [absC_ok rfl]; rfl
theorem absC_out (a : Addr) : absC P w (.slice (some a) 0 0) = .slice (some ⟨0, 0, none⟩) 0 0 := by rw [absC_ok rfl]; rfl
theorem absC_slice {b off len cap : Nat} (h0 : 0 < cap) (hl : len ≤ cap) (hb : b < w.heap.size) : absC P w (.slice (some ⟨b, off, none⟩) len cap) = .slice (some ⟨b, off, none⟩) len 0 := by
  rw [absC_ok rfl]
  have h1 : (Nat.blt b w.heap.size && Nat.ble len cap) = true := by simp [Nat.blt_eq, hb, hl]
  obtain ⟨c, rfl⟩ : ∃ c, cap = c + 1 := ⟨cap - 1, by omega⟩
  simp only [absV, h1, cond_true]
/-- A run of cells, of a block. -/
theorem cells_at {base : Nat} {a : Addr} {n : Nat} {l : List Value} (h : w.cells? base a n = some l) (h0 : 0 < n) : ∃ cs t fz, w.heap[a.block]? = some (.cells cs t fz) ∧ a.spot = none ∧ a.off + n ≤ cs.size ∧ l = (cs.toList.drop a.off).take n := by
  obtain ⟨_, hl, hc⟩ := World.cells?_some h
  have hat : ∀ i, i < n → ∃ cs t fz, w.heap[a.block]? = some (.cells cs t fz) ∧ (i = 0 → a.spot = none) ∧ cs[a.off + i]? = l[i]? ∧ a.off + i < cs.size := by
    intro i hi
    have h1 := hc i (by omega)
    have hb : (a.add i).block = a.block := by unfold Addr.add; split <;> rfl
    have ho : (a.add i).off = a.off + i := by unfold Addr.add; split <;> simp_all
    unfold World.cell? at h1
    rw [hb, ho] at h1
    have hli : ∃ v, l[i]? = some v := ⟨l[i], List.getElem?_eq_getElem (by omega)⟩
    obtain ⟨v, hv⟩ := hli
    split at h1
    · rename_i cs t fz hw
      refine ⟨cs, t, fz, hw, fun e => ?_, ?_, ?_⟩
      · subst e
        have : a.add 0 = a := by unfold Addr.add; simp
        rw [this] at h1
        cases hs : a.spot with
        | none => rfl
        | some x => rw [hs] at h1; simp at h1; rw [h1] at hv; cases hv
      · split at h1
        · rw [hv] at h1; cases h1
        · exact h1
      · split at h1
        · rw [hv] at h1; cases h1
        · rw [hv] at h1
          rcases Nat.lt_or_ge (a.off + i) cs.size with q | q
          · exact q
          · rw [Array.getElem?_eq_none q] at h1; cases h1
    · rw [hv] at h1; cases h1
  obtain ⟨cs, t, fz, hw, hs, _⟩ := hat 0 h0
  refine ⟨cs, t, fz, hw, hs rfl, ?_, ?_⟩
  · obtain ⟨cs', t', fz', hw', _, _, hlt⟩ := hat (n - 1) (by omega)
    rw [hw] at hw'
    cases hw'
    omega
  · apply List.ext_getElem?
    intro i
    by_cases hi : i < n
    · obtain ⟨cs', t', fz', hw', _, he, _⟩ := hat i hi
      rw [hw] at hw'
      cases hw'
      rw [← he, List.getElem?_take_of_lt hi, List.getElem?_drop]
      simp
    · rw [List.getElem?_eq_none (by omega), List.getElem?_eq_none (by simp; omega)]
theorem rc_of_trod {sp : Nat → Bool} (hsp : ∀ b, sp b = true) : ∀ (n : Nat) (t : TypeId) (cs : List Value) (x : DataW H × List MemPlace), DataW.trod enc P w 0 sp held n t cs = some x → RC P (absH P w) n t (cs.map (absC P w))
  | 0, t, cs, x, h => by simp [DataW.trod] at h
  | n + 1, t, cs, x, h => by
    unfold RC
    split
    · rename_i hu
      obtain ⟨b, rfl, _⟩ := DataW.trod_bool hu h
      exact ⟨b, by simp only [List.map_cons, List.map_nil, absC_bool]⟩
    · rename_i k hu
      obtain ⟨i, rfl, _, hw⟩ := DataW.trod_int hu h
      exact ⟨i, by simp only [List.map_cons, List.map_nil, absC_int], hw⟩
    · rename_i hu
      obtain ⟨s, rfl, _, hw⟩ := DataW.trod_string hu h
      exact ⟨s, by simp only [List.map_cons, List.map_nil, absC_string], hw⟩
    · rename_i e hu
      intro hz
      rcases DataW.trod_slice hu h with ⟨rfl, _⟩ | ⟨a, len, cap, elems, rest, m, hm, rfl, _, _, hl, hmx, hel, hat, hrest, _⟩
      · exact .inl (by simp only [List.map_cons, List.map_nil, absC_nil])
      · cases hm
        right
        have hr := hrest (hsp _)
        -- every place up to the capacity is read
        have all : ∀ i, i < cap → ∃ l y, w.cells? 0 (a.add (i * P.cellsOf e)) (P.cellsOf e) = some l ∧ DataW.trod enc P w 0 sp held n e l = some y := by
          intro i hi
          by_cases h1 : i < len
          · have := hat i h1
            rw [List.getElem?_eq_getElem (by omega)] at this
            simp only [Option.bind_eq_some_iff] at this
            obtain ⟨l, a1, a2⟩ := this
            exact ⟨l, _, a1, a2⟩
          · have := hr.2 (i - len) (by omega)
            rw [List.getElem?_eq_getElem (by omega), show len + (i - len) = i by omega] at this
            simp only [Option.bind_eq_some_iff] at this
            obtain ⟨l, a1, a2⟩ := this
            exact ⟨l, _, a1, a2⟩
        by_cases hcap : cap = 0
        · have hlen : len = 0 := by omega
          subst hcap hlen
          exact ⟨0, 0, 0, by simp only [List.map_cons, List.map_nil, absC_out], Nat.zero_le _, fun q => absurd q (by decide)⟩
        · · obtain ⟨l0, y0, c0, _⟩ := all 0 (by omega)
            have ha0 : a.add (0 * P.cellsOf e) = a := by rw [Nat.zero_mul]; unfold Addr.add; simp
            rw [ha0] at c0
            obtain ⟨cc, t', fz, hw, hs, _, _⟩ := cells_at c0 hz
            have hb : a.block < w.heap.size := lt_of_obj hw
            obtain ⟨ab, ao, as⟩ := a
            simp only at hs hb hw
            subst hs
            refine ⟨ab, ao, len, by simp only [List.map_cons, List.map_nil, absC_slice (Nat.pos_of_ne_zero hcap) hl hb], by omega, fun _ => ⟨_, t', absH_get hw, fun i hi => ?_⟩⟩
            obtain ⟨l, y, c1, c2⟩ := all i (by omega)
            obtain ⟨cc', t2, fz2, hw2, hs2, hle, rfl⟩ := cells_at c1 hz
            have hblk : (Addr.add ⟨ab, ao, none⟩ (i * P.cellsOf e)).block = ab := by unfold Addr.add; split <;> rfl
            have hoff : (Addr.add ⟨ab, ao, none⟩ (i * P.cellsOf e)).off = ao + i * P.cellsOf e := by unfold Addr.add; split <;> simp_all
            rw [hblk, hw] at hw2
            cases hw2
            rw [hoff] at hle c2
            refine ⟨by simpa using hle, ?_⟩
            have := rc_of_trod hsp n e _ _ c2
            rw [List.map_take, List.map_drop] at this
            exact this
    · rename_i fs hu
      obtain ⟨xs, m, hm, _, hl, hlen, hf⟩ := DataW.trod_struct hu h
      cases hm
      refine ⟨by simpa using hl, fun f hfm => ?_⟩
      obtain ⟨i, hi, e⟩ := Array.getElem_of_mem hfm
      have := hf i f (by rw [Array.getElem?_eq_getElem hi, e])
      rw [List.getElem?_eq_getElem (by omega)] at this
      have := rc_of_trod hsp n f.type _ _ this
      rw [List.map_take, List.map_drop] at this
      exact this
    · trivial
end
end
end Go.Ai
