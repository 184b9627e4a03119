/-
  ARGUMENTS: as abstract values; behind the call they read as before.
-/
import Derived.Test.YtpilbfkinpbnoaaAiRead
import Derived.Test.YtpilbfkinpbnoaaAiRow
set_option linter.unusedVariables false
namespace Go.Ai
noncomputable section
variable {P : Program}

/-- A value of any kind, as an abstract one. -/
def absA (P : Program) (w : World) : Value → Value
  | .agg a => .agg (a.map (absC P w))
  | v => absC P w v
theorem absA_rel (P : Program) (w : World) (v : Value) : VRel (renW P w) (absA P w v) v := by
  unfold absA
  split
  · rename_i a
    refine .agg (by simp) (fun i x y hx hy => ?_)
    simp only [Array.getElem?_map, hy, Option.map_some, Option.some.injEq] at hx
    subst hx
    exact absC_rel P w y
  · exact absC_rel P w _
def notAgg : Value → Bool
  | .agg _ => false
  | _ => true
theorem absC_notAgg {w : World} {v : Value} (h : notAgg v = true) : notAgg (absC P w v) = true := by
  have := absC_rel P w v
  cases v with
  | agg => cases h
  | _ =>
    generalize absC P w _ = x at this
    cases this <;> rfl
theorem cells_notAgg {v : Value} (h : notAgg v = true) : v.cells.toList = [v] := by
  cases v <;> first | rfl | cases h
theorem absA_cells (P : Program) (w : World) (v : Value) : (absA P w v).cells.toList = v.cells.toList.map (absC P w) := by
  cases hv : notAgg v with
  | false => cases v <;> first | (simp [absA, Value.cells]; done) | cases hv
  | true =>
    have e : absA P w v = absC P w v := by cases v <;> first | rfl | cases hv
    rw [e, cells_notAgg hv, cells_notAgg (absC_notAgg hv)]
    rfl
theorem absA_notAgg {w : World} {v : Value} (h : notAgg v = true) : notAgg (absA P w v) = true := by
  have e : absA P w v = absC P w v := by cases v <;> first | rfl | cases h
  rw [e]
  exact absC_notAgg h
def isRow (P : Program) (t : TypeId) : Bool := match P.underlying t with
  | some (.struct _) | some (.array _ _) => true
  | _ => false
def RDs (P : Program) (h : AHeap) : List TypeId → List Value → Prop
  | [], [] => True
  | t :: ts, a :: as => (RD P h t a.cells.toList ∧ (isRow P t = false → notAgg a = true)) ∧ RDs P h ts as
  | _, _ => False
theorem rd_one {h : AHeap} {t : TypeId} {a : Value} (hr : isRow P t = false) (r : RD P h t a.cells.toList ∧ (isRow P t = false → notAgg a = true)) : RD P h t [a] := by
  have := r.1
  rw [cells_notAgg (r.2 hr)] at this
  exact this
theorem agg_of {a : Value} {l : List Value} (h : a.cells.toList = l) (hl : l.length ≠ 1) : a = .agg l.toArray := by
  cases ha : notAgg a with
  | true => rw [cells_notAgg ha] at h; subst h; exact absurd rfl hl
  | false =>
    cases a with
    | agg c => subst h; rfl
    | _ => cases ha
theorem notAgg_of_ok {w : World} {r : Reach} {base : Nat} {t : TypeId} {v : Value} (h : Value.okWide P w r base t v) (hr : isRow P t = false) : notAgg v = true := by
  cases v with
  | agg c =>
    exfalso
    unfold isRow at hr
    unfold Value.okWide at h
    split at hr
    · cases hr
    · cases hr
    · rename_i n1 n2
      split at h
      · rename_i fs hu; exact n1 _ hu
      · rename_i m e hu; exact n2 _ _ hu
      · unfold Cell.okWide at h
        split at h <;> first | (rename_i hh; cases hh; done) | skip
        all_goals first
          | (rename_i h2 h3; cases h3; done)
          | skip
        unfold Cell.ok at h
        split at h <;> first | exact h | (rename_i h2 h3; cases h3)
  | _ => rfl
section
variable {H : Type} {enc : TypeId × Value → H} {w : World} {held : Bool}
theorem args_rd {sp : Nat → Bool} (hsp : ∀ b, sp b = true) {r : Reach} {base : Nat} : ∀ (ts : List TypeId) (vs : List Value) (ds : List (DataW H)) (p : List MemPlace), DataW.TrodAll enc P w 0 sp held ts vs ds p →
    (∀ (j : Nat) t v, ts[j]? = some t → vs[j]? = some v → Value.okWide P w r base t v) → VList (renW P w) (vs.map (absA P w)) vs ∧ RDs P (absH P w) ts (vs.map (absA P w))
  | [], [], [], p, h, hv => ⟨.nil _, trivial⟩
  | t :: ts, v :: vs, d :: ds, p, h, hv => by
    obtain ⟨p1, q1, ⟨n, h1⟩, h2, _⟩ := h
    obtain ⟨a1, a2⟩ := args_rd hsp ts vs ds q1 h2 (fun j t v hj hv' => hv (j + 1) t v (by simpa using hj) (by simpa using hv'))
    refine ⟨.cons (absA_rel P w v) a1, ⟨⟨n, ?_⟩, fun hr => absA_notAgg (notAgg_of_ok (hv 0 t v rfl rfl) hr)⟩, a2⟩
    rw [absA_cells]
    exact rc_of_trod hsp n t _ _ h1
  | [], _ :: _, _, p, h, hv => by cases h
  | [], [], _ :: _, p, h, hv => by cases h
  | _ :: _, [], _, p, h, hv => by cases h
  | _ :: _, _ :: _, [], p, h, hv => by cases h
/-- The types that arguments are made of. -/
def kidsOk (P : Program) (l : List TypeId) : Bool := l.all fun t => match P.underlying t with
  | some (.pointer e) => l.contains e
  | some (.slice e) => l.contains e && Nat.blt 0 (P.cellsOf e)
  | some (.array _ _) => false
  | some (.map _ _) => false
  | some (.struct fs) => (fs.toList.all fun f => l.contains f.type) && Nat.beq (P.cellsOf t) ((fs.toList.map fun f => P.cellsOf f.type).sum) && (List.range fs.size).all fun j => match fs.toList[j]? with
    | some f => Nat.beq f.offset ((fs.toList.take j).map fun f => P.cellsOf f.type).sum
    | none => true
  | _ => true
theorem kids_of {l : List TypeId} (h : kidsOk P l = true) : Kids P (· ∈ l) ∧ ∀ {t e : TypeId}, t ∈ l → P.underlying t = some (.slice e) → 0 < P.cellsOf e := by
  unfold kidsOk at h
  rw [List.all_eq_true] at h
  refine ⟨⟨fun ht hu => ?_, fun ht hu => ?_, fun ht hu => ?_, fun ht hu => ?_, fun ht hu => ?_⟩, fun ht hu => ?_⟩
  · have := h _ ht; rw [hu] at this; simpa using this
  · have := h _ ht; rw [hu] at this; simp only [Bool.and_eq_true] at this; simpa using this.1
  · have := h _ ht; rw [hu] at this; cases this
  · rename_i t fs
    have := h _ ht
    rw [hu] at this
    simp only [Bool.and_eq_true, List.all_eq_true] at this
    obtain ⟨⟨h1, h2⟩, h3⟩ := this
    refine ⟨fun f hf => by simpa using h1 f hf, Nat.eq_of_beq_eq_true h2, fun j f hj => ?_⟩
    have hlt : j < fs.size := by
      rcases Nat.lt_or_ge j fs.toList.length with q | q
      · simpa using q
      · rw [List.getElem?_eq_none q] at hj; cases hj
    have := h3 j (by simpa using hlt)
    rw [hj] at this
    exact Nat.eq_of_beq_eq_true this
  · have := h _ ht; rw [hu] at this; cases this
  · have := h _ ht; rw [hu] at this; simp only [Bool.and_eq_true] at this; simpa [Nat.blt_eq] using this.2
theorem same_below {w w' : World} (hb : RowKit.Below w.heap.size w w') {p : MemPlace} (hp : p.block < w.heap.size) : w.sameAt w' p := by
  cases p with
  | cell b off =>
    have hk := hb.block b hp
    show w'.cell? _ = w.cell? _
    unfold World.cell?
    simp only [hk]
  | map b => exact hb.block b hp
theorem args_stay {l : List TypeId} (hk : kidsOk P l = true) {w' : World} (hb : RowKit.Below w.heap.size w w') {sp : Nat → Bool} : ∀ (ts : List TypeId) (vs : List Value) (ds : List (DataW H)) (p : List MemPlace), DataW.TrodAll enc P w 0 (fun _ => true) true ts vs ds p →
    (∀ t, t ∈ ts → t ∈ l) → (∀ x, x ∈ p → x.block < w.heap.size) → (∀ x, x ∈ p → sp x.block = true) → DataW.TrodAll enc P w' 0 sp true ts vs ds p
  | [], [], [], p, h, ht, hl, hs => h
  | t :: ts, v :: vs, d :: ds, p, h, ht, hl, hs => by
    obtain ⟨p1, q1, ⟨n, h1⟩, h2, rfl⟩ := h
    obtain ⟨K, hsz⟩ := kids_of hk
    refine ⟨p1, q1, ⟨n, ?_⟩, args_stay hk hb ts vs ds q1 h2 (fun t h => ht t (by simp [h])) (fun x hx => hl x (by simp [hx])) (fun x hx => hs x (by simp [hx])), rfl⟩
    exact DataW.trod_stays K hsz (fun e => by cases e) (ht t (by simp)) h1 (fun x hx => same_below hb (hl x (by simp [hx]))) (fun x hx => hs x (by simp [hx]))
  | [], _ :: _, _, p, h, _, _, _ => by cases h
  | [], [], _ :: _, p, h, _, _, _ => by cases h
  | _ :: _, [], _, p, h, _, _, _ => by cases h
  | _ :: _, _ :: _, [], p, h, _, _, _ => by cases h
end
end
end Go.Ai
