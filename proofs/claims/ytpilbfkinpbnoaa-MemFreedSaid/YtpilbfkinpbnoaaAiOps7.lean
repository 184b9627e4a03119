/-
  ALL OPERATIONS BUT CALLS OF FUNCTIONS, on an abstract heap.
-/
import Derived.Test.YtpilbfkinpbnoaaAiOpsU
set_option linter.unusedVariables false
namespace Go.Ai
noncomputable section
variable {P : Program}

/-! ### Conversions -/
def s2bcells (s : ByteArray) : List Value := s.data.toList.map fun b => .int .u8 b.toNat
def aconv0 (P : Program) (src dst : TypeId) (x : Value) (h : AHeap) : Option (Value × AHeap) :=
  match cond (flat x) (fl (srun P (convert src dst x))) none with
  | some v => some (v, h)
  | none => (match srun P (underlying src), srun P (underlying dst), x with
    | some _, some (.slice e), .string s => (match srun P (underlying e), srun P (sizeOf e) with
      | some (.int .u8), some 1 => some (.slice (some ⟨h.next, 0, none⟩) s.size 1, h.push (.cells (s2bcells s) e))
      | _, _ => none)
    | some (.slice e), some .string, .slice base n c => (match srun P (underlying e) with
      | some (.int .u8) => (ab2s h (.slice base n c)).map fun v => (v, h)
      | _ => none)
    | _, _, _ => none)
theorem cellsOf_of_size {t : TypeId} {n : Nat} (h : srun P (sizeOf t) = some n) : P.cellsOf t = n := by
  simp only [sizeOf, typeInfo, program, Sem.bind, bind, srun] at h
  cases hp : P.info? t with
  | none => rw [hp] at h; cases h
  | some j => rw [hp] at h; simp only [pure, Sem.bind, srun, Option.some.injEq] at h; subst h; simp [Program.cellsOf, hp]
theorem s2b_sound {ρ : Ren} {h : AHeap} {w : World} {e : TypeId} {s : ByteArray} (hr : Rel P ρ h w) (hsz : srun P (sizeOf e) = some 1) :
    ∃ v' w' ρ', (Conv.stringToBytes e s).run P w = .ok v' w' ∧ Step P ρ h w ρ' (h.push (.cells (s2bcells s) e)) w' ∧ VRel ρ' (.slice (some ⟨h.next, 0, none⟩) s.size 1) v' := by
  let q : Question := .appendCap s.size 0 e
  let newCap := q.cut (w.tape w.drawn q)
  have hge : s.size ≤ newCap := by show s.size ≤ s.size + _ % _; omega
  let cs : Array Value := (s.data.map fun b => Value.int .u8 b.toNat) ++ Array.replicate (newCap - s.size) (.int .u8 0)
  have hcs : cs.size = newCap := by simp only [cs, Array.size_append, Array.size_map, Array.size_replicate]; show s.size + (newCap - s.size) = newCap; omega
  let w1 : World := { w with drawn := w.drawn + 1 }
  have hr1 : Rel P ρ h w1 := hr.grow (fun k _ => rfl)
  have hesz := cellsOf_of_size hsz
  let w2 : World := { w1 with heap := w1.heap.push (.cells cs e (cs.size, cs.size + 1)) }
  have st := Step.push (t := e) hr1 (c := s2bcells s) (cs := cs) (fz := (cs.size, cs.size + 1)) (w' := w2) rfl (fun i hi hh => by simp only [] at hh; omega)
    (by simp only [s2bcells, List.length_map, hcs, Array.length_toList]; exact hge)
    (fun k x hx => by
      refine ⟨x, ?_, ?_⟩
      · have hlt : k < s.data.size := by
          rcases Nat.lt_or_ge k s.data.size with h | h
          · exact h
          · rw [List.getElem?_eq_none (by simpa [s2bcells] using h)] at hx; cases hx
        rw [Array.getElem?_append_left (by simpa using hlt)]
        simpa [s2bcells] using hx
      · simp only [s2bcells, List.getElem?_map, Option.map_eq_some_iff] at hx
        obtain ⟨b, _, rfl⟩ := hx
        exact .int _ _) rfl rfl rfl
  refine ⟨.slice (some ⟨w.heap.size, 0, none⟩) s.size newCap, w2, _, ?_, ⟨st.le, st.rel, st.ro, st.os, st.tape, st.output, st.size, st.frame, st.img⟩, ?_⟩
  · have hq : (choose (.appendCap s.size 0 e)).run P w = .ok newCap w1 := by rw [run_choose]; rfl
    simp only [Conv.stringToBytes, Sem.run_bind, hq, Result.andThen_ok]
    have hn : (newRow e cs).run P w1 = .ok ⟨w.heap.size, 0, none⟩ { w1 with heap := w1.heap.push (.cells cs e) } := rfl
    rw [show (s.data.map fun b => Value.int .u8 b.toNat) ++ Array.replicate (newCap - s.size) (.int .u8 0) = cs from rfl, hn]
    have hb : ({ w1 with heap := w1.heap.push (.cells cs e) } : World).heap[w.heap.size]? = some (.cells cs e) := by show (w.heap.push _)[w.heap.size]? = _; simp
    have hsh : (markStringish ⟨w.heap.size, 0, none⟩).run P { w1 with heap := w1.heap.push (.cells cs e) } = .ok () w2 := by
      simp only [markStringish, Sem.run_bind, run_shape, Result.andThen_ok, World.shape?, hb, run_freeze]
      simp only [World.freeze]
      rw [if_neg (by decide)]
      congr 1
      show World.mk _ _ _ _ _ = World.mk _ _ _ _ _
      congr 1
      show (w.heap.push _).modify w.heap.size _ = w.heap.push _
      apply Array.ext_getElem?
      intro k
      simp only [Array.getElem?_modify, Array.getElem?_push]
      by_cases e : k = w.heap.size
      · subst e; simp
      · simp [e]; intro e2; exact absurd e2.symm e
    simp only [Result.andThen_ok, hsh, Sem.run_pure]
  · have := VRel.slice (ρ := ρ.ext ⟨w1.heap.size, 0, cs.size, P.cellsOf e⟩) (b := h.next) (off := 0) (len := s.size) (c := 1) (cap := newCap) (pl := ⟨w1.heap.size, 0, cs.size, P.cellsOf e⟩)
      (by show h.next < ρ.next + 1; rw [hr.next]; exact Nat.lt_succ_self _) (by rw [← hr.next]; exact ρ.ext_next _) hge (fun _ => ⟨by simp [hesz, hcs], fun k hk => by omega⟩)
    exact this
theorem aconv0_sound {ρ : Ren} {src dst : TypeId} {x x' v : Value} {h h' : AHeap} {w : World} (he : aconv0 P src dst x h = some (v, h')) (hr : Rel P ρ h w) (hx : VRel ρ x x') :
    ∃ v' w' ρ', (convert src dst x').run P w = .ok v' w' ∧ Step P ρ h w ρ' h' w' ∧ VRel ρ' v v' := by
  unfold aconv0 at he
  split at he
  · rename_i u hu
    simp only [Option.some.injEq, Prod.mk.injEq] at he
    obtain ⟨rfl, rfl⟩ := he
    cases hf : flat x with
    | false => rw [hf] at hu; cases hu
    | true =>
      rw [hf] at hu
      obtain ⟨h1, h2⟩ := fl_some hu
      obtain rfl := flat_eq hx hf
      exact ⟨u, w, ρ, srun_sound h1 w, .refl hr, .of_flat ρ h2⟩
  · split at he
    · rename_i e s hs hd _
      cases hx
      split at he
      · rename_i hu hz
        simp only [Option.some.injEq, Prod.mk.injEq] at he
        obtain ⟨rfl, rfl⟩ := he
        obtain ⟨v', w', ρ', e1, st, hv⟩ := s2b_sound (e := e) (s := s) hr hz
        refine ⟨v', w', ρ', ?_, st, hv⟩
        simp only [convert, Sem.run_bind, srun_sound hs, srun_sound hd, Result.andThen_ok, srun_sound hu, e1]
      · cases he
    · rename_i e base n c hs hd _
      split at he
      · rename_i hu
        simp only [Option.map_eq_some_iff, Prod.mk.injEq] at he
        obtain ⟨r, hb, rfl, rfl⟩ := he
        obtain ⟨e1, hv⟩ := ab2s_sound hb hr hx
        refine ⟨r, w, ρ, ?_, .refl hr, hv⟩
        cases hx <;> simp only [convert, Sem.run_bind, srun_sound hs, srun_sound hd, Result.andThen_ok, srun_sound hu, e1]
      · cases he
    · cases he

def aconv (P : Program) (src dst : TypeId) (x : Value) (h : AHeap) : Option (Value × AHeap) :=
  match aconv0 P src dst x h with
  | some r => some r
  | none => (aconvU P src dst x h).map fun v => (v, h)
theorem aconv_sound {ρ : Ren} {src dst : TypeId} {x x' v : Value} {h h' : AHeap} {w : World} (he : aconv P src dst x h = some (v, h')) (hr : Rel P ρ h w) (hx : VRel ρ x x') :
    ∃ v' w' ρ', (convert src dst x').run P w = .ok v' w' ∧ Step P ρ h w ρ' h' w' ∧ VRel ρ' v v' := by
  unfold aconv at he
  split at he
  · rename_i r hc
    simp only [Option.some.injEq] at he
    subst he
    exact aconv0_sound hc hr hx
  · simp only [Option.map_eq_some_iff, Prod.mk.injEq] at he
    obtain ⟨u, hu, rfl, rfl⟩ := he
    obtain ⟨v', e, hv⟩ := aconvU_sound hu hr hx
    exact ⟨v', w, ρ, e, .refl hr, hv⟩

/-! ### A slice of parts -/
def abuildSlice (P : Program) (t : TypeId) (len : Nat) (parts : List (Nat × Value)) (h : AHeap) : Option (Value × AHeap) :=
  match srun P (underlying t) with
  | some (.slice elem) => (match srun P (sizeOf elem), azero P elem with
    | some n, some z => cond (Nat.ble (len * n) (2 ^ 24) && Nat.blt 0 z.cells.size && Nat.blt 0 n) (match Instr.fill (fun i => some (i * n, n)) (zcells z.cells.toList (len * n)).toArray parts with
      | some cs => cond (Nat.beq cs.size (len * n)) (some (.slice (some ⟨h.next, 0, none⟩) len (len + 2), h.push (.cells cs.toList elem))) none
      | none => none) none
    | _, _ => none)
  | _ => none
theorem abuildSlice_sound {ρ : Ren} {t : TypeId} {len : Nat} {parts parts' : List (Nat × Value)} {h h' : AHeap} {v : Value} {w : World} (he : abuildSlice P t len parts h = some (v, h')) (hr : Rel P ρ h w) (hp : fillRel ρ parts parts') :
    ∃ v' w' ρ', (Instr.buildSlice t len parts'.toArray).run P w = .ok v' w' ∧ Step P ρ h w ρ' h' w' ∧ VRel ρ' v v' := by
  unfold abuildSlice at he
  split at he
  case h_2 => cases he
  rename_i elem hu
  split at he
  case h_2 => cases he
  rename_i n z hn hz
  cases hc : (Nat.ble (len * n) (2 ^ 24) && Nat.blt 0 z.cells.size && Nat.blt 0 n) with
  | false => rw [hc] at he; cases he
  | true =>
    rw [hc] at he
    simp only [Bool.and_eq_true] at hc
    have h24 := Nat.le_of_ble_eq_true hc.1.1
    have hzs : 0 < z.cells.size := by simpa [Nat.blt_eq] using hc.1.2
    obtain ⟨z1, z2⟩ := azero_sound (ρ := ρ) hz w
    simp only [cond_true] at he
    split at he
    case h_2 => cases he
    rename_i cs hfill
    cases hsz : Nat.beq cs.size (len * n) with
    | false => rw [hsz] at he; cases he
    | true =>
      rw [hsz] at he
      simp only [cond_true, Option.some.injEq, Prod.mk.injEq] at he
      obtain ⟨rfl, rfl⟩ := he
      have hsz := Nat.eq_of_beq_eq_true hsz
      obtain ⟨cs', hf', hv⟩ := fill_rel _ _ _ (zcells z.cells.toList (len * n)).toArray _ hp (zcells_rel z2 (by omega) _) hfill
      obtain ⟨e, st⟩ := run_newRow (t := elem) hr (c := cs.toList) (cs := cs') (by rw [hv.1, Array.length_toList]; exact Nat.le_refl _) (fun i x hx => by
        obtain ⟨y, hy, hxy⟩ := hv.get hx
        exact ⟨y, by simpa using hy, hxy⟩)
      have hcsz : cs'.size = len * n := by have := hv.1; simp only [Array.length_toList] at this; omega
      refine ⟨.slice (some ⟨w.heap.size, 0, none⟩) len len, _, _, ?_, st, ?_⟩
      · simp only [Instr.buildSlice, Sem.run_bind, srun_sound hu, Result.andThen_ok, srun_sound hn]
        rw [if_neg (by omega)]
        by_cases h0 : len * n = 0
        · rw [if_pos h0]
          have : ((Array.range (len * n)).map fun k => (#[] : Array Value)[k % (#[] : Array Value).size]!) = (zcells z.cells.toList (len * n)).toArray := by rw [h0]; simp [zcells]
          simp only [Sem.run_bind, Sem.run_pure, Result.andThen_ok, this, hf', e]
        · rw [if_neg h0]
          simp only [Sem.run_bind, z1, Sem.run_pure, Result.andThen_ok, zcells_eq, hf', e]
      · exact VRel.slice (ρ := ρ.ext _) (b := h.next) (off := 0) (pl := ⟨w.heap.size, 0, cs'.size, P.cellsOf elem⟩) (by show h.next < ρ.next + 1; rw [hr.next]; exact Nat.lt_succ_self _) (by rw [← hr.next]; exact ρ.ext_next _) (Nat.le_refl _)
          (fun _ => ⟨by simp [cellsOf_of_size hn, hcsz], fun k hk => by omega⟩)

theorem cond_some {α : Type} {b : Bool} {x : Option α} {y : α} (h : cond b x none = some y) : b = true ∧ x = some y := by
  cases b with
  | true => exact ⟨rfl, h⟩
  | false => cases h
/-! ### All together -/
def aopt (s : Env) : Option Operand → Option (Option Value)
  | none => some none
  | some x => (aev s x).map some
theorem aopt_sound {ρ : Ren} {s : Env} {a : Act} (hs : EnvRel ρ s a.tmps) {x : Option Operand} {v : Option Value} (h : aopt s x = some v) : ORel ρ v (x.map a.eval) := by
  cases x with
  | none => simp only [aopt, Option.some.injEq] at h; subst h; exact ⟨fun v hv => by (cases hv), fun _ => rfl⟩
  | some x =>
    simp only [aopt, Option.map_eq_some_iff] at h
    obtain ⟨u, hu, rfl⟩ := h
    exact ⟨fun v hv => by cases hv; exact ⟨_, rfl, aev_sound hs hu⟩, fun hn => by cases hn⟩
def oflat : Option Value → Bool
  | none => true
  | some v => flat v
/-- A builtin. -/
def abuiltin (P : Program) (b : Builtin) (ts : List TypeId) (r : TypeId) (vs : List Value) (h : AHeap) : Option (Value × AHeap) :=
  match b, ts, vs with
  | .append, [sT, xT], [s, x] => aappend P sT xT s x h
  | .copy, t :: _, [d, x] => acopy P t d x h
  | .len, [t], [x] => (alen2 P t x h).map fun v => (v, h)
  | .clear, [t], [x] => (aclear P t x h).map fun h' => (undef, h')
  | .min, _, _ => cond (vs.all flat) ((fl (srun P (Builtin.min_ ts.toArray r vs.toArray))).map fun v => (v, h)) none
  | .max, _, _ => cond (vs.all flat) ((fl (srun P (Builtin.max_ ts.toArray r vs.toArray))).map fun v => (v, h)) none
  | .delete, t :: _, [x, k] => (amapDelete P t x k h).map fun h' => (undef, h')
  | .cap, [t], [x] => (acap P t x).map fun v => (v, h)
  | .unsafeSliceData, _, [x] => (ausd x).map fun v => (v, h)
  | .unsafeString, [pt, it], [p, .int .i64 n] => aus P pt p n h
  | _, _, _ => none
theorem vlist_flat {ρ : Ren} : ∀ {xs ys : List Value}, VList ρ xs ys → xs.all flat = true → ys = xs
  | [], ys, h, _ => h.nil_inv
  | x :: xs, ys, h, hf => by
    obtain ⟨y, ys', rfl, h1, h2⟩ := h.cons_inv
    simp only [List.all_cons, Bool.and_eq_true] at hf
    rw [flat_eq h1 hf.1, vlist_flat h2 hf.2]
theorem abuiltin_sound {ρ : Ren} {b : Builtin} {ts : Array TypeId} {r : TypeId} {vs vs' : List Value} {cs : Array Bool} {v : Value} {h h' : AHeap} {w : World} (he : abuiltin P b ts.toList r vs h = some (v, h')) (hr : Rel P ρ h w) (hv : VList ρ vs vs') :
    ∃ v' w' ρ', (builtin b ts r cs vs'.toArray).run P w = .ok (.value v') w' ∧ Step P ρ h w ρ' h' w' ∧ VRel ρ' v v' := by
  unfold abuiltin at he
  split at he
  · rename_i sT xT s x hts
    obtain ⟨s', l1, rfl, v1, hv⟩ := hv.cons_inv
    obtain ⟨x', l2, rfl, v2, hv⟩ := hv.cons_inv
    cases hv.nil_inv
    have : ts = #[sT, xT] := by rw [← Array.toArray_toList (xs := ts), hts]
    subst this
    obtain ⟨v', w', ρ', e, st, hv'⟩ := aappend_sound (r := r) he hr v1 v2
    exact ⟨v', w', ρ', by simp only [builtin, Sem.run_bind]; rw [e]; rfl, st, hv'⟩
  · rename_i t ts' d x hts
    obtain ⟨d', l1, rfl, v1, hv⟩ := hv.cons_inv
    obtain ⟨x', l2, rfl, v2, hv⟩ := hv.cons_inv
    cases hv.nil_inv
    obtain ⟨v', w', e, st, hv'⟩ := acopy_sound (ts := ts) (r := r) he hr v1 v2 (by rw [← Array.getElem?_toList, hts]; rfl)
    exact ⟨v', w', ρ, by simp only [builtin, Sem.run_bind]; rw [e]; rfl, st, hv'⟩
  · rename_i t x hts
    obtain ⟨x', l1, rfl, v1, hv⟩ := hv.cons_inv
    cases hv.nil_inv
    have : ts = #[t] := by rw [← Array.toArray_toList (xs := ts), hts]
    subst this
    simp only [Option.map_eq_some_iff, Prod.mk.injEq] at he
    obtain ⟨u, hu, rfl, rfl⟩ := he
    obtain ⟨e, hv'⟩ := alen2_sound hu hr v1 r
    exact ⟨u, w, ρ, by simp only [builtin, Sem.run_bind]; rw [e]; rfl, .refl hr, hv'⟩
  · rename_i t x hts
    obtain ⟨x', l1, rfl, v1, hv⟩ := hv.cons_inv
    cases hv.nil_inv
    have : ts = #[t] := by rw [← Array.toArray_toList (xs := ts), hts]
    subst this
    simp only [Option.map_eq_some_iff, Prod.mk.injEq] at he
    obtain ⟨u, hu, rfl, rfl⟩ := he
    obtain ⟨w', e, st⟩ := aclear_sound (r := r) hu hr v1
    exact ⟨undef, w', ρ, by simp only [builtin, Sem.run_bind]; rw [e]; rfl, st, .of_plain _ rfl⟩
  · obtain ⟨hf, he⟩ := cond_some he
    simp only [Option.map_eq_some_iff, Prod.mk.injEq] at he
    obtain ⟨u, hu, rfl, rfl⟩ := he
    obtain ⟨h1, h2⟩ := fl_some hu
    obtain rfl := vlist_flat hv hf
    refine ⟨u, w, ρ, ?_, .refl hr, .of_flat _ h2⟩
    have h1 := srun_sound h1 w
    rw [Array.toArray_toList] at h1
    simp only [builtin, Sem.run_bind, h1]; rfl
  · obtain ⟨hf, he⟩ := cond_some he
    simp only [Option.map_eq_some_iff, Prod.mk.injEq] at he
    obtain ⟨u, hu, rfl, rfl⟩ := he
    obtain ⟨h1, h2⟩ := fl_some hu
    obtain rfl := vlist_flat hv hf
    refine ⟨u, w, ρ, ?_, .refl hr, .of_flat _ h2⟩
    have h1 := srun_sound h1 w
    rw [Array.toArray_toList] at h1
    simp only [builtin, Sem.run_bind, h1]; rfl
  · rename_i t ts' x k hts
    obtain ⟨x', l1, rfl, v1, hv⟩ := hv.cons_inv
    obtain ⟨k', l2, rfl, v2, hv⟩ := hv.cons_inv
    cases hv.nil_inv
    simp only [Option.map_eq_some_iff, Prod.mk.injEq] at he
    obtain ⟨u, hu, rfl, rfl⟩ := he
    obtain ⟨w', e, st⟩ := amapDelete_sound (ts := ts) (r := r) hu (by rw [← Array.getElem?_toList, hts]; rfl) hr v1 v2
    exact ⟨undef, w', ρ, by simp only [builtin, Sem.run_bind]; rw [e]; rfl, st, .of_plain _ rfl⟩
  · rename_i t x hts
    obtain ⟨x', l1, rfl, v1, hv⟩ := hv.cons_inv
    cases hv.nil_inv
    have : ts = #[t] := by rw [← Array.toArray_toList (xs := ts), hts]
    subst this
    simp only [Option.map_eq_some_iff, Prod.mk.injEq] at he
    obtain ⟨u, hu, rfl, rfl⟩ := he
    obtain ⟨e, hv'⟩ := acap_sound hu v1 r w
    exact ⟨u, w, ρ, by simp only [builtin, Sem.run_bind]; rw [e]; rfl, .refl hr, hv'⟩
  · rename_i ts' x hts
    obtain ⟨x', l1, rfl, v1, hv⟩ := hv.cons_inv
    cases hv.nil_inv
    simp only [Option.map_eq_some_iff, Prod.mk.injEq] at he
    obtain ⟨u, hu, rfl, rfl⟩ := he
    obtain ⟨v', e, hv'⟩ := ausd_sound hu v1 ts r w
    exact ⟨v', w, ρ, by simp only [builtin, Sem.run_bind]; rw [e]; rfl, .refl hr, hv'⟩
  · rename_i pt it p n hts
    obtain ⟨p', l1, rfl, v1, hv⟩ := hv.cons_inv
    obtain ⟨n', l2, rfl, v2, hv⟩ := hv.cons_inv
    cases hv.nil_inv
    cases v2
    have : ts = #[pt, it] := by rw [← Array.toArray_toList (xs := ts), hts]
    subst this
    obtain ⟨v', w', e, st, hv'⟩ := aus_sound (it := it) (ty := r) he hr v1
    exact ⟨v', w', ρ, by simp only [builtin, Sem.run_bind]; rw [e]; rfl, st, hv'⟩
  · cases he

def one (h : AHeap) (x : Option Value) : Option (Value × AHeap) := match x with | none => none | some v => some (v, h)
/-- An operation that is no call of a function. -/
def aop (P : Program) (s : Env) (o : Oper) (h : AHeap) : Option (Value × AHeap) :=
  match o.op with
  | .move x | .assign x => one h (aev s x)
  | .pick c a b => (match aev s c with
    | some (.bool true) => one h (aev s a)
    | some (.bool false) => one h (aev s b)
    | _ => none)
  | .box t x => (match aev s x with
    | some v => some (newb h v.cells.toList t)
    | none => none)
  | .alloc t => (match azero P t with
    | some z => some (newb h z.cells.toList t)
    | none => none)
  | .build t parts => (match aparts s parts.toList with
    | some ps => one h (abuild P t ps)
    | none => none)
  | .buildSlice t len parts => (match aparts s parts.toList with
    | some ps => abuildSlice P t len ps h
    | none => none)
  | .load t a => (match aev s a with
    | some v => one h (aload P t v h)
    | none => none)
  | .store t a x => (match aev s a, aev s x with
    | some p, some v => (match astore P t p v h with
      | some h' => some (undef, h')
      | none => none)
    | _, _ => none)
  | .nilCheck x => (match aev s x with
    | some (.pointer (some a)) => some (.pointer (some a), h)
    | some (.func (.func f) a c) => some (.func (.func f) a c, h)
    | _ => none)
  | .binOp op t x y _ => (match aev s x, aev s y with
    | some a, some b => one h (abin2 P op t x y a b)
    | _, _ => none)
  | .unOp op _ x => (match aev s x with
    | some a => cond (flat a) (one h (fl (srun P (Op.unary op a)))) none
    | none => none)
  | .convert src dst x => (match aev s x with
    | some a => aconv P src dst a h
    | none => none)
  | .makeInterface t x => (match aev s x with
    | some a => (match srun P (Instr.makeInterface t (.bool true)) with
      | some _ => some (.iface t a, h)
      | none => none)
    | none => none)
  | .makeFunc (.func f) first captured => (match aevs s first.toList, aevs s captured.toList with
    | some a, some c => some (.func (.func f) a.toArray c.toArray, h)
    | _, _ => none)
  | .makeSlice t l c => (match aev s l, aev s c with
    | some a, some b => amake P t a b h
    | _, _ => none)
  | .slice t x lo hi none => (match aev s x, aopt s lo, aopt s hi with
    | some (.string str), some a, some b => (match flatSlice P t str a b with
      | some v => some (v, h)
      | none => none)
    | some v, some a, some b => one h (aslice P t v a b h)
    | _, _, _ => none)
  | .fieldAddr t x f => (match aev s x with
    | some a => one h (afield P t a f)
    | none => none)
  | .field t x f => (match aev s x with
    | some (.agg cs) => (match srun P (underlying t) with
      | some (.struct fields) => (match fields[f]? with
        | some fd => one h (apart P fd.type cs.toList fd.offset)
        | none => none)
      | _ => none)
    | _ => none)
  | .indexAddr t x i => (match aev s x, aev s i with
    | some a, some b => one h (aindex P t a b)
    | _, _ => none)
  | .index t x i => (match aev s x, aev s i with
    | some a, some b => cond (flat a && flat b) (one h (fl (srun P (Instr.index t a b)))) none
    | _, _ => none)
  | .extract x i => (match aev s x with
    | some (.tuple vs) => one h vs[i]?
    | _ => none)
  | .call { callee := .builtin b, args, argTypes } => (match aevs s args.toList with
    | some vs => abuiltin P b argTypes.toList o.type vs h
    | none => none)
  | .makeMap _ none => some (amakeMap h)
  | .lookup t x k ok => (match aev s x, aev s k with
    | some a, some b => one h (alookup P t a b ok h)
    | _, _ => none)
  | .mapUpdate t m k x => (match aev s m, aev s k, aev s x with
    | some a, some b, some c => (match amapUpdate P t a b c h with
      | some h' => some (undef, h')
      | none => none)
    | _, _, _ => none)
  | .range t x => (match aev s x with
    | some a => arange P t a h
    | none => none)
  | .next x str => (match aev s x with
    | some a => anext P a str h
    | none => none)
  | .entry x => (match aev s x with
    | some a => one h (aentry a h)
    | none => none)
  | _ => none
where
  flatSlice (P : Program) (t : TypeId) (str : ByteArray) (a b : Option Value) : Option Value :=
    cond (oflat a && oflat b) (fl (srun P (Instr.sliceAt t (.string str) a b none))) none

end
end Go.Ai
