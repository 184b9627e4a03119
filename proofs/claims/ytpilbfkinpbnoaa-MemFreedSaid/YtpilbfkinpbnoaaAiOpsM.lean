/-
  Maps whose keys hold no address: made, looked up, written and shortened alike on related heaps; iterators over maps of at most one entry, and over strings.
-/
import Derived.Test.YtpilbfkinpbnoaaAiOps6
import GoSem.Builtin.Delete
set_option linter.unusedVariables false
namespace Go.Ai
noncomputable section
variable {P : Program}

/-! ### Keys -/
theorem condm {α : Type} {b : Bool} {x : Option α} {y : α} (h : cond b x none = some y) : b = true ∧ x = some y := by
  cases b
  · cases h
  · exact ⟨rfl, h⟩
abbrev AEnt := Value × Value × Nat
def bareEnt (k : Value) : MapEntry := { key := k, val := undef, born := 0 }
/-- Where a key stands. -/
def afind (P : Program) (kt : TypeId) (k : Value) (es : List AEnt) : Option (Option Nat) :=
  cond (flat k && es.all fun e => flat e.1) (match srun P (Instr.findKey kt k (es.map fun e => bareEnt e.1)) with
    | some (some (i, _)) => some (some i)
    | some none => some none
    | none => none) none
/-- Entries one by one. -/
def ERel (ρ : Ren) (es : List AEnt) (ms : List MapEntry) : Prop := es.length = ms.length ∧ ∀ (i : Nat) x m, es[i]? = some x → ms[i]? = some m → VRel ρ x.1 m.key ∧ VRel ρ x.2.1 m.val ∧ m.born = x.2.2
theorem ERel.tail {ρ : Ren} {x : AEnt} {es : List AEnt} {m : MapEntry} {ms : List MapEntry} (h : ERel ρ (x :: es) (m :: ms)) : (VRel ρ x.1 m.key ∧ VRel ρ x.2.1 m.val ∧ m.born = x.2.2) ∧ ERel ρ es ms :=
  ⟨h.2 0 x m rfl rfl, by simpa using h.1, fun i a b ha hb => h.2 (i + 1) a b (by simpa using ha) (by simpa using hb)⟩
theorem ERel.nil {ρ : Ren} : ERel ρ [] [] := ⟨rfl, fun i x m hx => by simp at hx⟩
theorem ERel.nil_inv {ρ : Ren} {ms : List MapEntry} (h : ERel ρ [] ms) : ms = [] := List.eq_nil_of_length_eq_zero (by have := h.1; simpa using this.symm)
theorem ERel.cons_inv {ρ : Ren} {x : AEnt} {es : List AEnt} {ms : List MapEntry} (h : ERel ρ (x :: es) ms) : ∃ m ms', ms = m :: ms' ∧ (VRel ρ x.1 m.key ∧ VRel ρ x.2.1 m.val ∧ m.born = x.2.2) ∧ ERel ρ es ms' := by
  cases ms with
  | nil => have := h.1; simp at this
  | cons m ms => exact ⟨m, ms, rfl, h.tail⟩
theorem ERel.keys {ρ : Ren} : ∀ {es : List AEnt} {ms : List MapEntry}, ERel ρ es ms → (es.all fun e => flat e.1) = true → ms.map (·.key) = (es.map fun e => bareEnt e.1).map (·.key)
  | [], ms, h, _ => by rw [h.nil_inv]; rfl
  | x :: es, ms, h, hf => by
    obtain ⟨m, ms', rfl, h1, h2⟩ := h.cons_inv
    simp only [List.all_cons, Bool.and_eq_true] at hf
    simp only [List.map_cons]
    rw [flat_eq h1.1 hf.1, ERel.keys h2 hf.2]
    rfl
theorem findNow_keys {kind : TypeDesc} {k : Value} : ∀ {ms ns : List MapEntry} {i : Nat} {r : Option (Nat × Value)}, ms.map (·.key) = ns.map (·.key) → Instr.findNow kind k ns i = some r →
    ∃ r', Instr.findNow kind k ms i = some r' ∧ r'.map (·.1) = r.map (·.1)
  | [], [], i, r, _, h => by simp only [Instr.findNow, Option.some.injEq] at h; subst h; exact ⟨none, rfl, rfl⟩
  | [], _ :: _, i, r, e, h => by simp at e
  | _ :: _, [], i, r, e, h => by simp at e
  | m :: ms, n :: ns, i, r, e, h => by
    simp only [List.map_cons, List.cons.injEq] at e
    simp only [Instr.findNow] at h ⊢
    rw [e.1]
    split at h
    · rename_i hs
      simp only [Option.some.injEq] at h
      subst h
      exact ⟨_, rfl, rfl⟩
    · rename_i hs
      obtain ⟨r', h1, h2⟩ := findNow_keys e.2 h
      exact ⟨r', h1, h2⟩
    · cases h
theorem findNow_none {kind : TypeDesc} {k : Value} : ∀ {ms ns : List MapEntry} {i : Nat}, ms.map (·.key) = ns.map (·.key) → Instr.findNow kind k ns i = none → Instr.findNow kind k ms i = none
  | [], [], i, _, h => h
  | [], _ :: _, i, e, h => by simp at e
  | _ :: _, [], i, e, h => by simp at e
  | m :: ms, n :: ns, i, e, h => by
    simp only [List.map_cons, List.cons.injEq] at e
    simp only [Instr.findNow] at h ⊢
    rw [e.1]
    split at h
    · cases h
    · exact findNow_none e.2 h
    · rfl
theorem srun_bind {α β : Type} {x : Sem α} {f : α → Sem β} {r : β} (h : srun P (x >>= f) = some r) : ∃ a, srun P x = some a ∧ srun P (f a) = some r := by
  induction x with
  | pure a => exact ⟨a, rfl, h⟩
  | program k ih => exact ih P h
  | _ => cases h
theorem findAsking_keys {kt : TypeId} {k : Value} : ∀ {ms ns : List MapEntry} {i : Nat} {r : Option (Nat × Value)}, ms.map (·.key) = ns.map (·.key) → srun P (Instr.findAsking kt k ns i) = some r →
    ∃ r', (∀ w, (Instr.findAsking kt k ms i).run P w = .ok r' w) ∧ r'.map (·.1) = r.map (·.1)
  | [], [], i, r, _, h => by
    have h : some none = some r := h
    simp only [Option.some.injEq] at h
    subst h
    exact ⟨none, fun w => rfl, rfl⟩
  | [], _ :: _, i, r, e, h => by simp at e
  | _ :: _, [], i, r, e, h => by simp at e
  | m :: ms, n :: ns, i, r, e, h => by
    simp only [List.map_cons, List.cons.injEq] at e
    simp only [Instr.findAsking] at h
    obtain ⟨b, h1, h2⟩ := srun_bind h
    rw [← e.1] at h1
    cases b with
    | true =>
      simp only [if_true] at h2
      have h2 : some (some (i, n.val)) = some r := h2
      simp only [Option.some.injEq] at h2
      subst h2
      exact ⟨some (i, m.val), fun w => by simp only [Instr.findAsking, Sem.run_bind, srun_sound h1, Result.andThen_ok, if_true, Sem.run_pure], rfl⟩
    | false =>
      simp only [Bool.false_eq_true, if_false] at h2
      obtain ⟨r', h3, h4⟩ := findAsking_keys e.2 h2
      exact ⟨r', fun w => by simp only [Instr.findAsking, Sem.run_bind, srun_sound h1, Result.andThen_ok, Bool.false_eq_true, if_false, h3], h4⟩
theorem findKey_keys {kt : TypeId} {k : Value} {ms ns : List MapEntry} {r : Option (Nat × Value)} (e : ms.map (·.key) = ns.map (·.key)) (h : srun P (Instr.findKey kt k ns) = some r) :
    ∃ r', (∀ w, (Instr.findKey kt k ms).run P w = .ok r' w) ∧ r'.map (·.1) = r.map (·.1) := by
  simp only [Instr.findKey] at h
  obtain ⟨kind, h1, h2⟩ := srun_bind h
  split at h2
  · rename_i r0 hn
    have h2 : some r0 = some r := h2
    simp only [Option.some.injEq] at h2
    subst h2
    obtain ⟨r', h3, h4⟩ := findNow_keys e hn
    exact ⟨r', fun w => by simp only [Instr.findKey, Sem.run_bind, srun_sound h1, Result.andThen_ok, h3, Sem.run_pure], h4⟩
  · rename_i hn
    obtain ⟨r', h3, h4⟩ := findAsking_keys e h2
    exact ⟨r', fun w => by simp only [Instr.findKey, Sem.run_bind, srun_sound h1, Result.andThen_ok, findNow_none e hn, h3], h4⟩
/-- What is found is an entry of the list. -/
theorem findNow_at {kind : TypeDesc} {k : Value} : ∀ {ms : List MapEntry} {i j : Nat} {v : Value}, Instr.findNow kind k ms i = some (some (j, v)) → i ≤ j ∧ ∃ m, ms[j - i]? = some m ∧ m.val = v
  | [], i, j, v, h => by simp [Instr.findNow] at h
  | m :: ms, i, j, v, h => by
    simp only [Instr.findNow] at h
    split at h
    · simp only [Option.some.injEq, Prod.mk.injEq] at h
      obtain ⟨rfl, rfl⟩ := h
      exact ⟨Nat.le_refl _, m, by simp, rfl⟩
    · obtain ⟨h1, x, h2, h3⟩ := findNow_at h
      exact ⟨by omega, x, by rw [show j - i = (j - (i + 1)) + 1 by omega, List.getElem?_cons_succ]; exact h2, h3⟩
    · cases h
theorem findAsking_at {kt : TypeId} {k : Value} : ∀ {ms : List MapEntry} {i j : Nat} {v : Value} {w w' : World}, (Instr.findAsking kt k ms i).run P w = .ok (some (j, v)) w' → i ≤ j ∧ ∃ m, ms[j - i]? = some m ∧ m.val = v
  | [], i, j, v, w, w', h => by simp [Instr.findAsking, Sem.run_pure] at h
  | m :: ms, i, j, v, w, w', h => by
    simp only [Instr.findAsking, Sem.run_bind] at h
    cases he : (Op.equal kt k m.key).run P w with
    | halt a b => rw [he] at h; cases h
    | ok b w1 =>
      rw [he] at h
      simp only [Result.andThen_ok] at h
      cases b with
      | true =>
        simp only [if_true, Sem.run_pure, Result.ok.injEq, Option.some.injEq, Prod.mk.injEq] at h
        obtain ⟨⟨rfl, rfl⟩, _⟩ := h
        exact ⟨Nat.le_refl _, m, by simp, rfl⟩
      | false =>
        simp only [Bool.false_eq_true, if_false] at h
        obtain ⟨h1, x, h2, h3⟩ := findAsking_at h
        exact ⟨by omega, x, by rw [show j - i = (j - (i + 1)) + 1 by omega, List.getElem?_cons_succ]; exact h2, h3⟩
theorem findKey_at {kt : TypeId} {k : Value} {ms : List MapEntry} {j : Nat} {v : Value} {w w' : World} (h : (Instr.findKey kt k ms).run P w = .ok (some (j, v)) w') : ∃ m, ms[j]? = some m ∧ m.val = v := by
  simp only [Instr.findKey, Sem.run_bind] at h
  cases he : (underlying kt).run P w with
  | halt a b => rw [he] at h; cases h
  | ok kind w1 =>
    rw [he] at h
    simp only [Result.andThen_ok] at h
    split at h
    · rename_i r hn
      simp only [Sem.run_pure, Result.ok.injEq] at h
      rw [h.1] at hn
      obtain ⟨_, x, h2, h3⟩ := findNow_at hn
      exact ⟨x, by simpa using h2, h3⟩
    · obtain ⟨_, x, h2, h3⟩ := findAsking_at h
      exact ⟨x, by simpa using h2, h3⟩
/-- A key that is sought in related entries is found in the same place, or nowhere. -/
theorem afind_sound {ρ : Ren} {kt : TypeId} {k k' : Value} {es : List AEnt} {ms : List MapEntry} {r : Option Nat} (hk : VRel ρ k k') (he : ERel ρ es ms) (h : afind P kt k es = some r) :
    k' = k ∧ ∃ r', (∀ w, (Instr.findKey kt k' ms).run P w = .ok r' w) ∧ (match r with
      | none => r' = none
      | some i => ∃ x m, es[i]? = some x ∧ ms[i]? = some m ∧ r' = some (i, m.val) ∧ VRel ρ x.2.1 m.val ∧ m.born = x.2.2 ∧ m.key = x.1) := by
  unfold afind at h
  obtain ⟨hf, h⟩ := condm h
  simp only [Bool.and_eq_true] at hf
  obtain rfl := flat_eq hk hf.1
  refine ⟨rfl, ?_⟩
  split at h
  · rename_i i v hs
    simp only [Option.some.injEq] at h
    subst h
    obtain ⟨r', h1, h2⟩ := findKey_keys (he.keys hf.2) hs
    refine ⟨r', h1, ?_⟩
    cases r' with
    | none => simp at h2
    | some y =>
      obtain ⟨j, u⟩ := y
      simp only [Option.map_some, Option.some.injEq] at h2
      subst h2
      obtain ⟨m, hm, rfl⟩ := findKey_at (h1 default)
      have hlt : j < es.length := by
        rw [he.1]
        rcases Nat.lt_or_ge j ms.length with hl | hl
        · exact hl
        · rw [List.getElem?_eq_none hl] at hm; cases hm
      have hx := List.getElem?_eq_getElem hlt
      obtain ⟨q1, q2, q3⟩ := he.2 j _ m hx hm
      have hfx : flat (es[j]).1 = true := by
        have := hf.2
        simp only [List.all_eq_true] at this
        exact this _ (List.getElem_mem hlt)
      exact ⟨_, m, hx, hm, rfl, q2, q3, flat_eq q1 hfx⟩
  · rename_i hs
    simp only [Option.some.injEq] at h
    subst h
    obtain ⟨r', h1, h2⟩ := findKey_keys (he.keys hf.2) hs
    refine ⟨r', h1, ?_⟩
    cases r' with
    | none => rfl
    | some y => simp at h2
  · cases h
theorem run_getMap {w : World} {l : Nat} {ms : Array MapEntry} {c : Nat} (h : w.heap[l]? = some (.map ms c)) : (getObj l).run P w = .ok (.map ms c) w := by
  simp only [getObj, Sem.run, h]
theorem run_setMap {w : World} {l : Nat} {ms : Array MapEntry} {c : Nat} (h : w.heap[l]? = some (.map ms c)) (o : Obj) : (setObj l o).run P w = .ok () { w with heap := w.heap.setIfInBounds l o } := by
  simp only [setObj, Sem.run, h]
theorem Rel.map {ρ : Ren} {h : AHeap} {w : World} (hr : Rel P ρ h w) {b : Nat} {es : List AEnt} {q : Nat} {pl : Place} (hg : h.get b = some (.map es q)) (hm : ρ.m b = some pl) :
    ∃ ms, w.heap[pl.c]? = some (.map ms q) ∧ ERel ρ es ms.toList := by
  obtain ⟨pl', hm', ms, h1, h2, h3⟩ := hr.ok b _ hg
  rw [hm] at hm'
  cases hm'
  exact ⟨ms, h1, by simp [h2], fun i x m hx hm => h3 i x m hx (by simpa using hm)⟩
theorem ERel.size {ρ : Ren} {es : List AEnt} {ms : Array MapEntry} (h : ERel ρ es ms.toList) : ms.isEmpty = es.isEmpty := by
  have := h.1
  cases es with
  | nil => simp at this; rw [Array.eq_empty_of_size_eq_zero this.symm]; rfl
  | cons x es => simp at this; cases hs : ms.isEmpty with
    | false => rfl
    | true => simp at hs; subst hs; simp at this

/-! ### The operations -/
/-- A map's entries, of no block or of one. -/
def mapEs (h : AHeap) : Value → Option (List AEnt)
  | .map none => some []
  | .map (some b) => (match h.get b with
    | some (.map es _) => some es
    | _ => none)
  | _ => none
def alookup (P : Program) (t : TypeId) (x k : Value) (commaOk : Bool) (h : AHeap) : Option Value :=
  match srun P (underlying t), mapEs h x with
  | some (.map kt et), some es => (match srun P (Instr.checkKey es.isEmpty 10000 kt k) with
    | some _ => (match afind P kt k es with
      | some (some i) => (match es[i]? with
        | some e => some (cond commaOk (.tuple #[e.2.1, .bool true]) e.2.1)
        | none => none)
      | some none => (match azero P et with
        | some z => some (cond commaOk (.tuple #[z, .bool false]) z)
        | none => none)
      | none => none)
    | none => none)
  | _, _ => none
theorem tuple2_rel {ρ : Ren} {a b a' b' : Value} (h : VRel ρ a a') (k : VRel ρ b b') : VRel ρ (.tuple #[a, b]) (.tuple #[a', b']) :=
  .tuple rfl (fun i x y hx hy => by
    rcases i with _ | _ | i
    · simp at hx hy; subst hx hy; exact h
    · simp at hx hy; subst hx hy; exact k
    · simp at hx)
theorem alookup_sound {ρ : Ren} {t : TypeId} {x x' k k' v : Value} {ok : Bool} {h : AHeap} {w : World} (he : alookup P t x k ok h = some v) (hr : Rel P ρ h w) (hx : VRel ρ x x') (hk : VRel ρ k k') :
    ∃ v', (Instr.lookup t x' k' ok).run P w = .ok v' w ∧ VRel ρ v v' := by
  unfold alookup at he
  split at he
  case h_2 => cases he
  rename_i kt et es ht hes
  split at he
  case h_2 => cases he
  rename_i hck
  obtain ⟨ms, hx', hrel⟩ : ∃ ms : Array MapEntry, ((x' = .map none ∧ ms = #[]) ∨ ∃ c q, x' = .map (some c) ∧ w.heap[c]? = some (.map ms q)) ∧ ERel ρ es ms.toList := by
    cases hx with
    | mapNil => simp only [mapEs, Option.some.injEq] at hes; subst hes; exact ⟨#[], .inl ⟨rfl, rfl⟩, .nil⟩
    | map hb hm =>
      simp only [mapEs] at hes
      split at hes
      · rename_i g
        simp only [Option.some.injEq] at hes
        subst hes
        obtain ⟨ms, h1, h2⟩ := hr.map g hm
        exact ⟨ms, .inr ⟨_, _, rfl, h1⟩, h2⟩
      · cases hes
    | _ => cases hes
  have hfin : ∀ {q q' : Value} {b : Bool}, VRel ρ q q' → (pure (if ok then .tuple #[q', .bool b] else q') : Sem Value).run P w = .ok (cond ok (.tuple #[q', .bool b]) q') w ∧ VRel ρ (cond ok (.tuple #[q, .bool b]) q) (cond ok (.tuple #[q', .bool b]) q') := by
    intro q q' b hq
    cases ok
    · exact ⟨rfl, hq⟩
    · exact ⟨rfl, tuple2_rel hq (.bool b)⟩
  rw [← hrel.size] at hck
  split at he
  · rename_i i hf
    obtain ⟨rfl, r', hr', x0, m, hx0, hm, rfl, q1, q2, q3⟩ := afind_sound hk hrel hf
    rw [hx0] at he
    simp only [Option.some.injEq] at he
    subst he
    refine ⟨_, ?_, (hfin (b := true) q1).2⟩
    rcases hx' with ⟨rfl, rfl⟩ | ⟨c, q, rfl, hg⟩
    · simp at hm
    · simp only [Instr.lookup, Sem.run_bind, srun_sound ht, Result.andThen_ok, run_getMap hg, srun_sound hck, hr', Sem.run_pure]
      exact (hfin (b := true) q1).1
  · rename_i hf
    split at he
    case h_2 => cases he
    rename_i z hz
    simp only [Option.some.injEq] at he
    subst he
    obtain ⟨z1, z2⟩ := azero_sound (ρ := ρ) hz w
    obtain ⟨rfl, r', hr', rfl⟩ := afind_sound hk hrel hf
    refine ⟨_, ?_, (hfin (b := false) z2).2⟩
    rcases hx' with ⟨rfl, rfl⟩ | ⟨c, q, rfl, hg⟩
    · simp only [Instr.lookup, Sem.run_bind, srun_sound ht, Result.andThen_ok, srun_sound hck, hr', z1, Sem.run_pure]
      exact (hfin (b := false) z2).1
    · simp only [Instr.lookup, Sem.run_bind, srun_sound ht, Result.andThen_ok, run_getMap hg, srun_sound hck, hr', z1, Sem.run_pure]
      exact (hfin (b := false) z2).1
  · cases he

def alen2 (P : Program) (t : TypeId) (x : Value) (h : AHeap) : Option Value :=
  match alen P t x with
  | some v => some v
  | none => (match srun P (underlying t), mapEs h x with
    | some (.map _ _), some es => some (goInt es.length)
    | _, _ => none)
theorem alen2_sound {ρ : Ren} {t : TypeId} {x x' v : Value} {h : AHeap} {w : World} (he : alen2 P t x h = some v) (hr : Rel P ρ h w) (hx : VRel ρ x x') (r : TypeId) : (Builtin.len_ #[t] r #[x']).run P w = .ok v w ∧ VRel ρ v v := by
  unfold alen2 at he
  split at he
  · rename_i hl
    simp only [Option.some.injEq] at he
    subst he
    exact alen_sound hl hx r w
  · split at he
    case h_2 => cases he
    rename_i k e es ht hes
    simp only [Option.some.injEq] at he
    subst he
    refine ⟨?_, .int _ _⟩
    cases hx with
    | mapNil => simp only [mapEs, Option.some.injEq] at hes; subst hes; simp [Builtin.len_, srun_sound ht]
    | map hb hm =>
      simp only [mapEs] at hes
      split at hes
      · rename_i g
        simp only [Option.some.injEq] at hes
        subst hes
        obtain ⟨ms, h1, h2⟩ := hr.map g hm
        have hsz := h2.1
        simp only [Array.length_toList] at hsz
        simp [Builtin.len_, srun_sound ht, run_getMap h1, hsz]
      · cases hes
    | _ => cases hes

def amakeMap (h : AHeap) : Value × AHeap := (.map (some h.next), h.push (.map [] 0))
theorem amakeMap_sound {ρ : Ren} {h : AHeap} {w : World} (hr : Rel P ρ h w) (t : TypeId) :
    ∃ v' w' ρ', (Instr.makeMap t none).run P w = .ok v' w' ∧ Step P ρ h w ρ' (amakeMap h).2 w' ∧ VRel ρ' (amakeMap h).1 v' := by
  let pl : Place := ⟨w.heap.size, 0, 0, 0⟩
  refine ⟨.map (some w.heap.size), { w with heap := w.heap.push (.map #[] 0) }, ρ.ext pl, rfl, Step.pushObj hr (ob := .map [] 0) (pl := pl) rfl rfl ⟨#[], by simp [pl], rfl, fun i x m hx => by simp at hx⟩ rfl rfl rfl, ?_⟩
  exact .map (pl := pl) (by show h.next < ρ.next + 1; rw [hr.next]; omega) (by rw [← hr.next]; exact ρ.ext_next pl)
theorem Step.putMap {ρ : Ren} {h : AHeap} {w : World} (hr : Rel P ρ h w) {b : Nat} {ob : AObj} {pl : Place} {wo : Obj} (g : h.get b = some ob) (hm : ρ.m b = some pl) (hro : h.ro ≤ b) (hg : w.heap[pl.c]? = some wo) {ms' : Array MapEntry} {q' : Nat} {es' : List AEnt} (hr' : ERel ρ es' ms'.toList) :
    Step P ρ h w ρ (h.set b (some (.map es' q'))) { w with heap := w.heap.setIfInBounds pl.c (.map ms' q') } := by
  refine Step.putObj hr g hm hro (ob' := .map es' q') ⟨ms', ?_, by have := hr'.1; simpa using this.symm, fun i x m hx hm => hr'.2 i x m hx (by simpa using hm)⟩ rfl rfl rfl (by simp) (fun k hk => ?_)
  · show (w.heap.setIfInBounds pl.c _)[pl.c]? = _
    rw [Array.getElem?_setIfInBounds, if_pos rfl, if_pos (lt_of_obj hg)]
  · show (w.heap.setIfInBounds pl.c _)[k]? = _
    rw [Array.getElem?_setIfInBounds, if_neg (Ne.symm hk)]
def amapUpdate (P : Program) (t : TypeId) (x k v : Value) (h : AHeap) : Option AHeap :=
  match srun P (underlying t), x with
  | some (.map kt _), .map (some b) => (match h.get b with
    | some (.map es q) => (match srun P (Instr.checkKey false 10000 kt k) with
      | some _ => cond (Nat.ble h.ro b)
          (match afind P kt k es with
            | some (some i) => (match es[i]? with
              | some e => cond (Instr.sameBits 10000 e.1 k) (some (h.set b (some (.map (es.set i (k, v, e.2.2)) q)))) none
              | none => none)
            | some none => some (h.set b (some (.map (es ++ [(k, v, q)]) (q + 1))))
            | none => none) none
      | none => none)
    | _ => none)
  | _, _ => none
theorem amapUpdate_sound {ρ : Ren} {t : TypeId} {x x' k k' v v' : Value} {h h' : AHeap} {w : World} (he : amapUpdate P t x k v h = some h') (hr : Rel P ρ h w) (hx : VRel ρ x x') (hk : VRel ρ k k') (hv : VRel ρ v v') :
    ∃ w', (Instr.mapUpdate t x' k' v').run P w = .ok () w' ∧ Step P ρ h w ρ h' w' := by
  unfold amapUpdate at he
  split at he
  case h_2 => cases he
  rename_i kt et b ht
  cases hx with
  | map hb hm =>
    rename_i pl
    split at he
    case h_2 => cases he
    rename_i es q g
    split at he
    case h_2 => cases he
    rename_i hck
    obtain ⟨hc, he⟩ := condm he
    have hro := Nat.le_of_ble_eq_true hc
    obtain ⟨ms, hg, hrel⟩ := hr.map g hm
    split at he
    · rename_i i hf
      obtain ⟨rfl, r', hr', x0, m, hx0, hm0, rfl, q1, q2, q3⟩ := afind_sound hk hrel hf
      rw [hx0] at he
      simp only [] at he
      obtain ⟨hsb, he⟩ := condm he
      simp only [Option.some.injEq] at he
      subst he
      have f4' : ms[i]? = some m := by simpa using hm0
      have hkey : ((ms[i]?).map (·.key)).getD k' = m.key := by rw [f4']; rfl
      rw [← q3] at hsb
      refine ⟨_, ?_, Step.putMap hr g hm hro hg (ms' := ms.modify i fun e => { e with key := k', val := v' }) ?_⟩
      · simp only [Instr.mapUpdate, Sem.run_bind, srun_sound ht, Result.andThen_ok, run_getMap hg, srun_sound hck, hr', hkey, Instr.keyThatStays, hsb, if_true, Sem.run_pure, run_setMap hg]
      · refine ⟨by simpa using hrel.1, fun j x m1 hx hm1 => ?_⟩
        simp only [Array.toList_modify, List.getElem?_modify] at hm1
        rw [List.getElem?_set] at hx
        by_cases e : i = j
        · subst e
          rw [if_pos rfl] at hx
          split at hx
          · simp only [Option.some.injEq] at hx
            subst hx
            rw [hm0] at hm1
            simp only [if_true, Option.map_eq_map, Option.map_some, Option.some.injEq] at hm1
            subst hm1
            exact ⟨hk, hv, q2⟩
          · cases hx
        · rw [if_neg e] at hx
          simp only [if_neg e, Option.map_eq_map, Option.map_id'] at hm1
          exact hrel.2 j x m1 hx hm1
    · rename_i hf
      simp only [Option.some.injEq] at he
      subst he
      obtain ⟨rfl, r', hr', rfl⟩ := afind_sound hk hrel hf
      refine ⟨_, ?_, Step.putMap hr g hm hro hg (ms' := ms.push { key := k', val := v', born := q }) (q' := q + 1) ?_⟩
      · simp only [Instr.mapUpdate, Sem.run_bind, srun_sound ht, Result.andThen_ok, run_getMap hg, srun_sound hck, hr', run_setMap hg]
      · refine ⟨by simpa using hrel.1, fun i x m1 hx hm1 => ?_⟩
        have hl := hrel.1
        simp only [Array.toList_push] at hm1
        rcases Nat.lt_or_ge i es.length with hi | hi
        · rw [List.getElem?_append_left hi] at hx
          rw [List.getElem?_append_left (by omega)] at hm1
          exact hrel.2 i x m1 hx hm1
        · rw [List.getElem?_append_right hi] at hx
          rw [List.getElem?_append_right (by omega), ← hl] at hm1
          cases hn : i - es.length with
          | zero =>
            rw [hn] at hx hm1
            simp only [List.getElem?_cons_zero, Option.some.injEq] at hx hm1
            subst hx hm1
            exact ⟨hk, hv, rfl⟩
          | succ n => rw [hn] at hx; simp at hx
    · cases he
def amapDelete (P : Program) (t : TypeId) (x k : Value) (h : AHeap) : Option AHeap :=
  match srun P (underlying t), x with
  | some (.map kt _), .map (some b) => (match h.get b with
    | some (.map es q) => (match srun P (Instr.checkKey es.isEmpty 10000 kt k) with
      | some _ => cond (Nat.ble h.ro b)
          (match afind P kt k es with
            | some (some i) => some (h.set b (some (.map (es.eraseIdx i) q)))
            | some none => some h
            | none => none) none
      | none => none)
    | _ => none)
  | _, _ => none
theorem amapDelete_sound {ρ : Ren} {ts : Array TypeId} {t : TypeId} {r : TypeId} {x x' k k' : Value} {h h' : AHeap} {w : World} (he : amapDelete P t x k h = some h') (hts : ts[0]? = some t) (hr : Rel P ρ h w) (hx : VRel ρ x x') (hk : VRel ρ k k') :
    ∃ w', (Builtin.delete_ ts r #[x', k']).run P w = .ok undef w' ∧ Step P ρ h w ρ h' w' := by
  unfold amapDelete at he
  split at he
  case h_2 => cases he
  rename_i kt et b ht
  cases hx with
  | map hb hm =>
    rename_i pl
    split at he
    case h_2 => cases he
    rename_i es q g
    split at he
    case h_2 => cases he
    rename_i hck
    obtain ⟨hc, he⟩ := condm he
    have hro := Nat.le_of_ble_eq_true hc
    obtain ⟨ms, hg, hrel⟩ := hr.map g hm
    rw [← hrel.size] at hck
    split at he
    · rename_i i hf
      simp only [Option.some.injEq] at he
      subst he
      obtain ⟨rfl, r', hr', x0, m, hx0, hm0, rfl, q1, q2, q3⟩ := afind_sound hk hrel hf
      refine ⟨_, ?_, Step.putMap hr g hm hro hg (ms' := ms.eraseIdxIfInBounds i) ?_⟩
      · simp only [Builtin.delete_, hts, List.getElem?_toArray, List.getElem?_cons_zero, List.getElem?_cons_succ, Sem.run_bind, srun_sound ht, Result.andThen_ok, run_getMap hg, srun_sound hck, hr', run_setMap hg, Sem.run_pure]
        rfl
      · have e : (ms.eraseIdxIfInBounds i).toList = ms.toList.eraseIdx i := by simp
        rw [e]
        refine ⟨by have := hrel.1; simp only [List.length_eraseIdx, this], fun i x m1 hx hm1 => ?_⟩
        rw [List.getElem?_eraseIdx] at hx hm1
        split at hx
        · rename_i hi; rw [if_pos hi] at hm1; exact hrel.2 _ x m1 hx hm1
        · rename_i hi; rw [if_neg hi] at hm1; exact hrel.2 _ x m1 hx hm1
    · rename_i hf
      simp only [Option.some.injEq] at he
      subst he
      obtain ⟨rfl, r', hr', rfl⟩ := afind_sound hk hrel hf
      refine ⟨_, ?_, (Step.putMap hr g hm hro hg (ms' := ms) (q' := q) hrel).same ⟨rfl, rfl, fun z => ?_⟩⟩
      · simp only [Builtin.delete_, hts, List.getElem?_toArray, List.getElem?_cons_zero, List.getElem?_cons_succ, Sem.run_bind, srun_sound ht, Result.andThen_ok, run_getMap hg, srun_sound hck, hr', run_setMap hg, Sem.run_pure]
        rfl
      · rw [AHeap.get_set]
        split
        · rename_i e; subst e; exact g
        · rfl
    · cases he

/-! ### Iterators -/
def arange (P : Program) (t : TypeId) (x : Value) (h : AHeap) : Option (Value × AHeap) :=
  match srun P (underlying t), x with
  | some .string, .string s => some (.pointer (some ⟨h.next, 0, none⟩), h.push (.siter s 0))
  | some (.map _ _), .map none => some (.pointer (some ⟨h.next, 0, none⟩), h.push (.iter none 0 [] 0))
  | some (.map _ _), .map (some b) => (match h.get b with
    | some (.map _ q) => some (.pointer (some ⟨h.next, 0, none⟩), h.push (.iter (some b) q [] q))
    | _ => none)
  | _, _ => none
theorem arange_sound {ρ : Ren} {t : TypeId} {x x' v : Value} {h h' : AHeap} {w : World} (he : arange P t x h = some (v, h')) (hr : Rel P ρ h w) (hx : VRel ρ x x') :
    ∃ v' w' ρ', (Instr.range t x').run P w = .ok v' w' ∧ Step P ρ h w ρ' h' w' ∧ VRel ρ' v v' := by
  let pl : Place := ⟨w.heap.size, 0, 0, 0⟩
  have hptr : VRel (ρ.ext pl) (.pointer (some ⟨h.next, 0, none⟩)) (.pointer (some ⟨w.heap.size, 0, none⟩)) :=
    .ptr (pl := pl) (off := 0) (by show h.next < ρ.next + 1; rw [hr.next]; omega) (by rw [← hr.next]; exact ρ.ext_next pl)
  have hle := ρ.le_ext pl
  unfold arange at he
  split at he
  · rename_i s ht
    simp only [Option.some.injEq, Prod.mk.injEq] at he
    obtain ⟨rfl, rfl⟩ := he
    cases hx
    refine ⟨_, { w with heap := w.heap.push (.stringIter s 0) }, ρ.ext pl, ?_, Step.pushObj hr (ob := .siter s 0) (pl := pl) rfl rfl ⟨(show (w.heap.push _)[w.heap.size]? = _ by simp), rfl⟩ rfl rfl rfl, hptr⟩
    simp only [Instr.range, newObj, Sem.run_bind, srun_sound ht, Result.andThen_ok, Sem.run_pure]
    rfl
  · rename_i k e ht
    simp only [Option.some.injEq, Prod.mk.injEq] at he
    obtain ⟨rfl, rfl⟩ := he
    cases hx
    refine ⟨_, { w with heap := w.heap.push (.mapIter none 0 #[] 0) }, ρ.ext pl, ?_, Step.pushObj hr (ob := .iter none 0 [] 0) (pl := pl) rfl rfl ⟨none, (show (w.heap.push _)[w.heap.size]? = _ by simp), rfl, .mapNil⟩ rfl rfl rfl, hptr⟩
    simp only [Instr.range, newObj, Sem.run_bind, srun_sound ht, Result.andThen_ok, Sem.run_pure]
    rfl
  · rename_i k e b ht
    split at he
    case h_2 => cases he
    rename_i es q g
    simp only [Option.some.injEq, Prod.mk.injEq] at he
    obtain ⟨rfl, rfl⟩ := he
    cases hx with
    | map hb hm =>
      rename_i p0
      obtain ⟨ms, hg, _⟩ := hr.map g hm
      refine ⟨_, { w with heap := w.heap.push (.mapIter (some p0.c) q #[] q) }, ρ.ext pl, ?_, Step.pushObj hr (ob := .iter (some b) q [] q) (pl := pl) rfl rfl ⟨some p0.c, (show (w.heap.push _)[w.heap.size]? = _ by simp), rfl, VRel.mono hle (.map hb hm)⟩ rfl rfl rfl, hptr⟩
      simp only [Instr.range, newObj, Sem.run_bind, srun_sound ht, Result.andThen_ok, run_getMap hg, Sem.run_pure]
      rfl
  · cases he
def overV : Value := .tuple #[.bool false]
/-- The entries that are left. -/
def leftOf (es : List AEnt) (seen : List Nat) : List AEnt := es.filter fun e => !seen.contains e.2.2
def anext (P : Program) (x : Value) (str : Bool) (h : AHeap) : Option (Value × AHeap) :=
  match x with
  | .pointer (some ⟨b, 0, none⟩) => (match h.get b, str with
    | some (.siter s pos), true => cond (Nat.ble h.ro b) (cond (Nat.blt pos s.size) (some (.tuple #[.bool true, goInt pos, .int .i32 (Utf8.decode s pos).1], h.set b (some (.siter s (pos + (Utf8.decode s pos).2))))) (some (overV, h))) none
    | some (.iter none _ _ _), false => some (overV, h)
    | some (.iter (some m) since seen last), false => (match h.get m with
      | some (.map es q) => cond (Nat.ble h.ro b && (seen.isEmpty || es.isEmpty || !(es.all fun e => Nat.ble last e.2.2)))
          (match leftOf es seen with
            | [] => some (overV, h)
            | [e] => cond (Nat.blt e.2.2 since) (some (.tuple #[.bool true, e.1, e.2.1], h.set b (some (.iter (some m) since (seen ++ [e.2.2]) q)))) none
            | _ => none) none
      | _ => none)
    | _, _ => none)
  | _ => none
theorem tuple3_rel {ρ : Ren} {a b c a' b' c' : Value} (h : VRel ρ a a') (k : VRel ρ b b') (l : VRel ρ c c') : VRel ρ (.tuple #[a, b, c]) (.tuple #[a', b', c']) :=
  .tuple rfl (fun i x y hx hy => by
    rcases i with _ | _ | _ | i
    · simp at hx hy; subst hx hy; exact h
    · simp at hx hy; subst hx hy; exact k
    · simp at hx hy; subst hx hy; exact l
    · simp at hx)
theorem ERel.left {ρ : Ren} (seen : List Nat) : ∀ {es : List AEnt} {ms : List MapEntry}, ERel ρ es ms → ERel ρ (leftOf es seen) (ms.filter fun e => !seen.toArray.contains e.born)
  | [], ms, h => by rw [h.nil_inv]; exact .nil
  | x :: es, ms, h => by
    obtain ⟨m, ms', rfl, h1, h2⟩ := h.cons_inv
    have ih := ERel.left seen h2
    have e : (!seen.toArray.contains m.born) = !seen.contains x.2.2 := by rw [h1.2.2]; simp
    simp only [leftOf, List.filter_cons, e]
    split
    · refine ⟨by have := ih.1; simp only [leftOf] at this; simp only [List.length_cons, this], fun i a b ha hb => ?_⟩
      cases i with
      | zero => simp at ha hb; subst ha hb; exact h1
      | succ i => exact ih.2 i a b (by simpa [leftOf] using ha) (by simpa using hb)
    · exact ih
theorem ERel.all {ρ : Ren} (last : Nat) : ∀ {es : List AEnt} {ms : List MapEntry}, ERel ρ es ms → (ms.all fun e => decide (e.born ≥ last)) = es.all fun e => Nat.ble last e.2.2
  | [], ms, h => by rw [h.nil_inv]; rfl
  | x :: es, ms, h => by
    obtain ⟨m, ms', rfl, h1, h2⟩ := h.cons_inv
    simp only [List.all_cons, ERel.all last h2, h1.2.2]
    congr 1
    rw [Bool.eq_iff_iff]; simp
theorem run_getObj {w : World} {l : Nat} {o : Obj} (h : w.heap[l]? = some o) (hn : ∀ a b c, o ≠ .cells a b c) : (getObj l).run P w = .ok o w := by
  cases o <;> first | exact absurd rfl (hn _ _ _) | simp only [getObj, Sem.run, h]
theorem run_setObj {w : World} {l : Nat} {o o' : Obj} (h : w.heap[l]? = some o) (hn : ∀ a b c, o ≠ .cells a b c) : (setObj l o').run P w = .ok () { w with heap := w.heap.setIfInBounds l o' } := by
  cases o <;> first | exact absurd rfl (hn _ _ _) | simp only [setObj, Sem.run, h]
theorem over_rel (ρ : Ren) : VRel ρ overV overV := .tuple rfl (fun i x y hx hy => by
  rcases i with _ | i
  · simp at hx hy; subst hx hy; exact .bool false
  · simp at hx)
theorem Step.putIt {ρ : Ren} {h : AHeap} {w : World} (hr : Rel P ρ h w) {b : Nat} {ob ob' : AObj} {pl : Place} {wo wo' : Obj} (g : h.get b = some ob) (hm : ρ.m b = some pl) (hro : h.ro ≤ b) (hg : w.heap[pl.c]? = some wo)
    (hok : ∀ w' : World, w'.heap[pl.c]? = some wo' → ObjOk P ρ true ob' pl w') :
    Step P ρ h w ρ (h.set b (some ob')) { w with heap := w.heap.setIfInBounds pl.c wo' } := by
  refine Step.putObj hr g hm hro (ob' := ob') (hok _ ?_) rfl rfl rfl (by simp) (fun k hk => ?_)
  · show (w.heap.setIfInBounds pl.c _)[pl.c]? = _
    rw [Array.getElem?_setIfInBounds, if_pos rfl, if_pos (lt_of_obj hg)]
  · show (w.heap.setIfInBounds pl.c _)[k]? = _
    rw [Array.getElem?_setIfInBounds, if_neg (Ne.symm hk)]
theorem run_forced {n : Nat} (h : n ≤ 1) (w : World) : (choose (.mapNext n)).run P w = .ok 0 w := by
  simp [choose, Sem.run, Question.forced, h]
theorem anext_sound {ρ : Ren} {t : TypeId} {x x' v : Value} {str : Bool} {h h' : AHeap} {w : World} (he : anext P x str h = some (v, h')) (hr : Rel P ρ h w) (hx : VRel ρ x x') :
    ∃ v' w' ρ', (Instr.next x' str t).run P w = .ok v' w' ∧ Step P ρ h w ρ' h' w' ∧ VRel ρ' v v' := by
  unfold anext at he
  split at he
  case h_2 => cases he
  rename_i b
  cases hx with
  | ptr hb hm =>
    rename_i pl
    split at he
    · -- a string
      rename_i s pos g
      obtain ⟨hro, he⟩ := condm he
      have hro := Nat.le_of_ble_eq_true hro
      obtain ⟨pl', hm', hg, hbase⟩ := hr.ok b _ g
      rw [hm] at hm'
      cases hm'
      rw [hbase]
      cases hlt : Nat.blt pos s.size with
      | true =>
        rw [hlt] at he
        simp only [cond_true, Option.some.injEq, Prod.mk.injEq] at he
        obtain ⟨rfl, rfl⟩ := he
        have hlt : pos < s.size := by simpa [Nat.blt_eq] using hlt
        refine ⟨_, _, ρ, ?_, Step.putIt hr g hm hro hg (ob' := .siter s (pos + (Utf8.decode s pos).2)) (wo' := .stringIter s (pos + (Utf8.decode s pos).2)) (fun w' hw' => ⟨hw', hbase⟩), tuple3_rel (.bool true) (.int _ _) (.int _ _)⟩
        simp only [Instr.next, Sem.run_bind, run_getObj hg (by simp), Result.andThen_ok, if_pos hlt, run_setObj hg (o' := .stringIter s (pos + (Utf8.decode s pos).2)) (by simp), Sem.run_pure]
        rfl
      | false =>
        rw [hlt] at he
        simp only [cond_false, Option.some.injEq, Prod.mk.injEq] at he
        obtain ⟨rfl, rfl⟩ := he
        have hlt : ¬ pos < s.size := by
          intro hc
          have : Nat.blt pos s.size = true := by simpa [Nat.blt_eq] using hc
          rw [hlt] at this; cases this
        refine ⟨_, w, ρ, ?_, .refl hr, over_rel ρ⟩
        simp only [Instr.next, Sem.run_bind, run_getObj hg (by simp), Result.andThen_ok, if_neg hlt, Sem.run_pure]
        rfl
    · -- of no map
      rename_i q1 q2 q3 g
      simp only [Option.some.injEq, Prod.mk.injEq] at he
      obtain ⟨rfl, rfl⟩ := he
      obtain ⟨pl', hm', m', hg, hbase, hmr⟩ := hr.ok b _ g
      rw [hm] at hm'
      cases hm'
      rw [hbase]
      cases hmr
      refine ⟨_, w, ρ, ?_, .refl hr, over_rel ρ⟩
      simp only [Instr.next, Sem.run_bind, run_getObj hg (by simp), Result.andThen_ok, Sem.run_pure]
      rfl
    · -- of a map
      rename_i m since seen last g
      split at he
      case h_2 => cases he
      rename_i es q gm
      obtain ⟨hc, he⟩ := condm he
      simp only [Bool.and_eq_true, Bool.or_eq_true, Bool.not_eq_true'] at hc
      obtain ⟨hro, hc⟩ := hc
      have hro := Nat.le_of_ble_eq_true hro
      obtain ⟨pl', hm', m', hg, hbase, hmr⟩ := hr.ok b _ g
      rw [hm] at hm'
      cases hm'
      rw [hbase]
      cases hmr with
      | map hbm hmm =>
        rename_i plm
        obtain ⟨ms, hgm, hrel⟩ := hr.map gm hmm
        have hguard : (!seen.toArray.isEmpty && !ms.isEmpty && ms.all fun e => decide (e.born ≥ last)) = false := by
          have h1 := hrel.size
          have h2 : (ms.all fun e => decide (e.born ≥ last)) = es.all fun e => Nat.ble last e.2.2 := by rw [← Array.all_toList]; exact hrel.all last
          rw [h1, h2]
          have h3 : seen.toArray.isEmpty = seen.isEmpty := by simp
          rw [h3]
          rcases hc with (hc | hc) | hc
          · rw [hc]; rfl
          · rw [hc]; cases seen.isEmpty <;> rfl
          · rw [hc]; simp
        have hleft := hrel.left seen
        have hfl : (ms.filter fun e => !seen.toArray.contains e.born).toList = ms.toList.filter fun e => !seen.toArray.contains e.born := by simp
        split at he
        · -- no entry is left
          rename_i hl
          simp only [Option.some.injEq, Prod.mk.injEq] at he
          obtain ⟨rfl, rfl⟩ := he
          rw [hl] at hleft
          have e0 : (ms.filter fun e => !seen.toArray.contains e.born) = #[] := by
            apply Array.ext'
            rw [hfl, hleft.nil_inv]
          refine ⟨_, w, ρ, ?_, .refl hr, over_rel ρ⟩
          simp only [Instr.next, Sem.run_bind, run_getObj hg (by simp), Result.andThen_ok, run_getObj hgm (by simp), hguard, e0, Bool.false_eq_true, if_false]
          simp [choose, Sem.run, Question.forced, Result.andThen_ok]
          rfl
        · -- one
          rename_i e hl
          obtain ⟨hs, he⟩ := condm he
          simp only [Option.some.injEq, Prod.mk.injEq] at he
          obtain ⟨rfl, rfl⟩ := he
          rw [hl] at hleft
          obtain ⟨m1, ms1, e1, ⟨r1, r2, r3⟩, h2⟩ := hleft.cons_inv
          rw [h2.nil_inv] at e1
          have e0 : (ms.filter fun e => !seen.toArray.contains e.born) = #[m1] := by
            apply Array.ext'
            rw [hfl, e1]
          have hsince : m1.born < since := by rw [r3]; simpa [Nat.blt_eq] using hs
          refine ⟨_, _, ρ, ?_, Step.putIt hr g hm hro hg (ob' := .iter (some m) since (seen ++ [e.2.2]) q) (wo' := .mapIter (some plm.c) since (seen.toArray.push e.2.2) q) (fun w' hw' => ⟨some plm.c, by rw [hw']; simp, hbase, .map hbm hmm⟩), tuple3_rel (.bool true) r1 r2⟩
          simp only [Instr.next, Sem.run_bind, run_getObj hg (by simp), Result.andThen_ok, run_getObj hgm (by simp), hguard, e0, Bool.false_eq_true, if_false]
          have f1 : (#[m1].filter fun e => decide (e.born < since)) = #[m1] := by simp [hsince]
          have f2 : (#[m1].filter fun e => decide (e.born ≥ since)) = #[] := by simp [hsince]
          rw [f1, f2]
          simp [choose, Sem.run, Question.forced, Result.andThen_ok, run_setObj hg, r3]
        · cases he
    · cases he
def aentry (x : Value) (h : AHeap) : Option Value :=
  match x with
  | .pointer (some ⟨b, 0, none⟩) => (match h.get b with
    | some (.iter (some m) since seen last) => (match h.get m, seen.getLast? with
      | some (.map es q), some stamp => cond (Nat.beq q last) ((es.find? fun e => Nat.beq e.2.2 stamp).map fun e => .tuple #[e.1, e.2.1]) none
      | _, _ => none)
    | _ => none)
  | _ => none
theorem ERel.find {ρ : Ren} (stamp : Nat) : ∀ {es : List AEnt} {ms : List MapEntry} {e : AEnt}, ERel ρ es ms → (es.find? fun e => Nat.beq e.2.2 stamp) = some e → ∃ m, (ms.find? fun e => e.born == stamp) = some m ∧ VRel ρ e.1 m.key ∧ VRel ρ e.2.1 m.val
  | [], ms, e, h, he => by simp at he
  | x :: es, ms, e, h, he => by
    obtain ⟨m, ms', rfl, h1, h2⟩ := h.cons_inv
    rw [List.find?_cons] at he ⊢
    rw [h1.2.2]
    cases hb : Nat.beq x.2.2 stamp with
    | true =>
      rw [hb] at he
      simp only [Option.some.injEq] at he
      subst he
      have : (x.2.2 == stamp) = true := by simpa using Nat.eq_of_beq_eq_true hb
      rw [this]
      exact ⟨m, rfl, h1.1, h1.2.1⟩
    | false =>
      rw [hb] at he
      have : (x.2.2 == stamp) = false := by
        cases hq : x.2.2 == stamp with
        | false => rfl
        | true => have := beq_iff_eq.1 hq; rw [this, Nat.beq_refl] at hb; cases hb
      rw [this]
      exact ERel.find stamp h2 he
theorem aentry_sound {ρ : Ren} {x x' v : Value} {h : AHeap} {w : World} (he : aentry x h = some v) (hr : Rel P ρ h w) (hx : VRel ρ x x') : ∃ v', (Instr.entry x').run P w = .ok v' w ∧ VRel ρ v v' := by
  unfold aentry at he
  split at he
  case h_2 => cases he
  rename_i b
  cases hx with
  | ptr hb hm =>
    rename_i pl
    split at he
    case h_2 => cases he
    rename_i m since seen last g
    split at he
    case h_2 => cases he
    rename_i es q stamp gm hst
    obtain ⟨hq, he2⟩ := condm he
    clear he
    obtain rfl := Nat.eq_of_beq_eq_true hq
    obtain ⟨e, hfe, rfl⟩ := Option.map_eq_some_iff.1 he2
    obtain ⟨pl', hm', m', hg, hbase, hmr⟩ := hr.ok b _ g
    rw [hm] at hm'
    cases hm'
    rw [hbase]
    cases hmr with
    | map hbm hmm =>
      rename_i plm
      obtain ⟨ms, hgm, hrel⟩ := hr.map gm hmm
      obtain ⟨m1, hf, r1, r2⟩ := hrel.find stamp hfe
      have hf : ms.find? (fun e => e.born == stamp) = some m1 := by rw [← Array.find?_toList]; exact hf
      have hb : seen.toArray.back? = some stamp := by simpa using hst
      refine ⟨_, ?_, tuple2_rel r1 r2⟩
      simp only [Instr.entry, Sem.run_bind, run_getObj hg (by simp), Result.andThen_ok, hb, run_getObj hgm (by simp), hf, bne_self_eq_false, Bool.false_eq_true, if_false, Sem.run_pure]
end
end Go.Ai
