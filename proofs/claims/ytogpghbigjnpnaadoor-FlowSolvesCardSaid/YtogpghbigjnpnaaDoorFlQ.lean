/-
  A SORTED ROW: the kit's contract of slices.SortFunc as one on abstract heaps.
-/
import Derived.Test.YtogpghbigjnpnaaDoorAiSL
import Derived.Test.YtogpghbigjnpnaaDoorAiD
import Derived.Shelf.SlSortCmp.Whole1
namespace Go.Fl
open Go.Ai Go.Proofs
open Go.Sort (grow putRow putCells mapBlock onCells pdq PermIn SortedIn SWO Holds)
set_option linter.unusedVariables false
set_option linter.unusedSimpArgs false
variable {P : Program} {ρ : Go.Ai.Ren} {h : AHeap} {w : World}
theorem Step.grown (hr : Rel P ρ h w) (os : Array Obj) : Step P ρ h w ρ h (grow w os) := by
  have e : ∀ c, c < w.heap.size → (grow w os).heap[c]? = w.heap[c]? := fun c hc => by
    show (w.heap ++ os)[c]? = _
    rw [Array.getElem?_append_left hc]
  refine ⟨Ren.le_refl _, ⟨hr.next, hr.ro, hr.dom, fun b o hb => ?_, hr.inj, hr.gro, hr.glob⟩, rfl, rfl, rfl, rfl, ?_, fun c hc _ => e c hc, fun c _ q => q⟩
  · obtain ⟨pl, hm, ok⟩ := hr.ok b o hb
    exact ⟨pl, hm, ok.other (e _ ok.lt)⟩
  · show w.heap.size ≤ (w.heap ++ os).size
    rw [Array.size_append]; omega
variable {α : Type} [Inhabited α]
theorem sorted_step (hr : Rel P ρ h w) {b : Nat} {cs : List Value} {t : TypeId} {pl : Go.Ai.Place} (hg : h.get b = some (.cells cs t)) (hm : ρ.m b = some pl) (hro : h.ro ≤ b) (enc : α → Value) (hen : ∀ x, VRel ρ (enc x) (enc x)) (d' : Array α) (hl : d'.size ≤ cs.length) (m : Nat) (os : Array Obj) :
    Step P ρ h w ρ (h.set b (some (.cells (d'.toList.map enc ++ cs.drop d'.size) t))) (sortWorld enc w pl.c pl.base m d' os) := by
  have ok := hr.place hg hm
  have hs : Step P ρ h w ρ (h.set b (some (.cells (d'.toList.map enc ++ cs.drop d'.size) t))) (putRow enc (Go.Sort.ahead w m) pl.c pl.base d') := by
    obtain ⟨cs0, fz, h1, h2, h3, h4, h5, h6⟩ := ok
    refine Step.write hr hg hm hro ⟨putCells enc pl.base d' cs0, fz, ?_, ?_, h3, ?_, fun _ => h5 (by simpa using hro), fun i x hx => ?_⟩ rfl rfl rfl ?_ fun k hk => ?_
    · show (w.heap.modify pl.c _)[pl.c]? = _
      rw [Array.getElem?_modify, if_pos rfl, h1]
      rfl
    · rw [← h2]; simp [putCells]
    · simp [putCells]; omega
    · by_cases q : i < d'.size
      · have hb : pl.base + i < cs0.size := by omega
        refine ⟨enc d'[i], ?_, ?_⟩
        · simp only [putCells]
          rw [Array.getElem?_mapIdx, Array.getElem?_eq_getElem hb]
          simp only [Option.map_some]
          rw [if_pos ⟨by omega, by omega⟩, Nat.add_sub_cancel_left, getElem!_pos d' i q]
        · have : x = enc d'[i] := by
            rw [List.getElem?_append_left (by simpa using q)] at hx
            rw [List.getElem?_map, Array.getElem?_toList, Array.getElem?_eq_getElem q] at hx
            exact (Option.some.inj hx).symm
          rw [this]; exact hen _
      · have hx2 : cs[i]? = some x := by
          rw [List.getElem?_append_right (by simp; omega), List.getElem?_drop] at hx
          simp only [List.length_map, Array.length_toList] at hx
          rwa [show d'.size + (i - d'.size) = i by omega] at hx
        obtain ⟨y, hy, hv⟩ := h6 i x hx2
        refine ⟨y, ?_, hv⟩
        simp only [putCells]
        rw [Array.getElem?_mapIdx, hy]
        simp only [Option.map_some]
        rw [if_neg (by omega)]
    · show (w.heap.modify pl.c _).size = _
      rw [Array.size_modify]
    · show (w.heap.modify pl.c _)[k]? = _
      rw [Array.getElem?_modify, if_neg (fun e => hk e.symm)]
  exact hs.trans (Step.grown hs.rel os)
/-- The row of some numbers, by their keys, the greatest first. -/
def cfK (key : Nat → Int) {n : Nat} (x y : Fin n) : Int := key y - key x
theorem ltK (key : Nat → Int) {n : Nat} {x y : Fin n} : ltOf (cfK key) x y = true ↔ key y < key x :=
  ⟨fun h => by have q : key y - key x < 0 := of_decide_eq_true h; omega, fun h => decide_eq_true (by show key y - key x < 0; omega)⟩
theorem ltK' (key : Nat → Int) {n : Nat} {x y : Fin n} : ltOf (cfK key) x y = false ↔ key x ≤ key y := by
  rw [← Bool.not_eq_true, ltK]; omega
theorem cfK_swo (key : Nat → Int) {n : Nat} : SWO (ltOf (cfK key (n := n))) :=
  ⟨fun x => (ltK' key).2 (Int.le_refl _), fun x y z h1 h2 => (ltK key).2 (Int.lt_trans ((ltK key).1 h2) ((ltK key).1 h1)), fun x y z h1 h2 => (ltK' key).2 (Int.le_trans ((ltK' key).1 h1) ((ltK' key).1 h2))⟩
def encK {n : Nat} (x : Fin n) : Value := .int .i64 (x.val : Nat)
theorem vrel_fn1 {g : Nat} {cv y : Value} (v : VRel ρ (.func (.func g) #[] #[cv]) y) : ∃ z, y = .func (.func g) #[] #[z] ∧ VRel ρ cv z := by
  cases v with
  | func ha hc h1 h2 =>
    obtain rfl := Array.eq_empty_of_size_eq_zero ha.symm
    rename_i c'
    match c', hc, h2 with
    | ⟨[z]⟩, _, h2 => exact ⟨z, rfl, h2 0 cv z rfl rfl⟩
theorem sort_dc {σ : Go.Shelf.Ren} (L : SlLaysF.n6 P σ) {n : Nat} [Inhabited (Fin n)] (key : Nat → Int) {g : Nat} {b c : Nat} {cv : Value} (d : Array (Fin n)) {cs : List Value} {t : TypeId}
    (eg : ∀ args w, (callFunc g args).run P w = .ok (.enter g args) w)
    (hg : h.get b = some (.cells cs t)) (hro : h.ro ≤ b) (hn : 0 < d.size) (hn2 : d.size < 4611686018427387904) (hl : d.size ≤ cs.length) (hcs : ∀ (i : Nat) (hi : i < d.size), cs[i]? = some (encK d[i])) 
    (hcmp : ∀ (ρ : Go.Ai.Ren) (w W : World) (z : Value) (x y : Fin n), Rel P ρ h w → VRel ρ cv z → (∀ k, k < w.heap.size → (∀ pl, ρ.m b = some pl → ¬ k = pl.c) → W.heap[k]? = w.heap[k]?) →
      Calls P g #[encK x, encK y, z] W fun e w' => e = .returned (.int .i64 (cfK key x y)) ∧ ∃ q os', w' = grow (W.drewN q) os') :
    DC P (σ.f 6) [.slice (some ⟨b, 0, none⟩) d.size c, .func (.func g) #[] #[cv]] h fun v h1 => v = .tuple #[] ∧ ∃ d' : Array (Fin n), PermIn 0 d.size d d' ∧ SortedIn (ltOf (cfK key)) 0 d.size d' ∧ h1 = h.set b (some (.cells (d'.toList.map encK ++ cs.drop d.size) t)) := by
  intro wf
  have sp := Go.Sort.pdq_sorts (ltOf (cfK key)) (cfK_swo key) d 0 d.size (Lib.bitLen d.size) true true (Nat.zero_le _) (Nat.le_refl _) (Or.inl rfl)
  refine ⟨_, _, ⟨rfl, _, sp.1, sp.2, rfl⟩, AF.setOld hg _, fun ρ w cargs hr hv => ?_⟩
  obtain ⟨y1, ys, rfl, v1, hv⟩ := hv.cons_inv
  obtain ⟨y2, ys, rfl, v2, hv⟩ := hv.cons_inv
  obtain rfl := hv.nil_inv
  generalize hS : pdq (ltOf (cfK key)) d 0 d.size (Lib.bitLen d.size) true true = d' at sp ⊢
  have hsz : d'.size = d.size := sp.1.1
  generalize hN : d.size = N at v1
  cases v1 with
  | sliceOut => exact absurd hn (by omega)
  | slice hb hm hle hc =>
    rename_i cap pl
    obtain ⟨z, rfl, vz⟩ := vrel_fn1 v2
    have ok := hr.place hg hm
    have cell : Holds (encK (n := n)) w pl.c pl.base d := fun j hj => by
      refine ⟨?_, ?_⟩
      · obtain ⟨y, hy, hv⟩ := ok.cell (hcs j hj)
        rw [hy, getElem!_pos d j hj]
        cases hv
        rfl
      · have : decide (h.ro ≤ b) = true := by simpa using hro
        rw [this] at ok
        refine ok.unfrozen ?_
        obtain ⟨cs0, fz, h1, h2, h3, h4, h5, h6⟩ := ok
        omega
    have := Any.slices_SortFunc_eq L (encK (n := n)) (fun _ => rfl) (cfK key) (cfK_swo key) g #[z] pl.c pl.base cap d w eg (fun m os dk hs x y => ?_) cell ok.lt hn2
    · subst hN
      refine this.mono ?_
      rintro e w' ⟨rfl, m, os, rfl⟩
      rw [hS]
      refine ⟨_, _, _, ρ, rfl, ⟨rfl, rfl⟩, ?_, .tuple rfl fun i x y hx => by simp at hx⟩
      have q := sorted_step hr hg hm hro (encK (n := n)) (fun _ => .int _ _) d' (by omega) m os
      rw [hsz] at q
      exact q
    · refine hcmp ρ w _ z x y hr vz fun k hk hne => ?_
      show ((w.heap.modify pl.c _) ++ os)[k]? = _
      rw [Array.getElem?_append_left (by rw [Array.size_modify]; exact hk), Array.getElem?_modify, if_neg (fun e => hne pl hm e.symm)]
end Go.Fl
