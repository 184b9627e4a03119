/-
  A REGION THAT DRAWS ITS ORDER, 5: regions that make no block; a load may come ahead of a store into other cells, or behind it.
-/
import Derived.Test.YtogpghbigjnpnaaDoorAiC
set_option linter.unusedVariables false
namespace Go.Ai
noncomputable section
variable {P : Program}
/-- Some cells of a block. -/
def rng (o : Option AObj) (off n : Nat) : Option (List Value) := match o with
  | some (.cells c _) => if off + n ≤ c.length then some ((c.drop off).take n) else none
  | _ => none
abbrev Lk := DRec → Option (Nat × Nat × Nat)
/-- Two operations that may come in either order (x is told before y). -/
structure FreeZ (lk : Lk) (ops : Array Oper) (x y : DRec) : Prop where
  d1 : ∀ d, x.o.dst = some d → d ∉ y.o.looksAt ops ∧ y.o.dst ≠ some d
  d2 : ∀ d, y.o.dst = some d → d ∉ x.o.looksAt ops
  b1 : ∀ b, x.tc b = true → y.tc b = false ∧ (y.rd b = false ∨ ∃ off n, lk y = some (b, off, n) ∧ x.rd b = true ∧ rng (x.g'.get b) off n = rng (x.g.get b) off n)
  b2 : ∀ b, y.tc b = true → x.rd b = false ∨ ∃ off n, lk x = some (b, off, n) ∧ y.rd b = true ∧ rng (y.g'.get b) off n = rng (y.g.get b) off n
structure ToldZ (lk : Lk) (P : Program) (ops : Array Oper) (s0 : Env) (h0 : AHeap) (A : List DRec) (r : DRec) : Prop extends Told P ops s0 h0 A r where
  still : r.g.next = h0.next ∧ r.g'.next = h0.next
  look : ∀ b0 off n, lk r = some (b0, off, n) → r.rd b0 = true ∧ (∀ b, r.rd b = true → b = b0) ∧ (∀ b, r.tc b = false) ∧ ∀ g : AHeap, rng (g.get b0) off n = rng (r.g.get b0) off n → OpSem P ops r.s r.o g r.v g
structure ValidZ (lk : Lk) (P : Program) (ops : Array Oper) (s0 : Env) (h0 : AHeap) (tr : List DRec) : Prop where
  nodup : (tr.map (·.j)).Nodup
  all : ∀ i, i < ops.size → ∃ r, r ∈ tr ∧ r.j = i
  told : ∀ A r B, tr = A ++ r :: B → ToldZ lk P ops s0 h0 A r
  edges : ∀ A r B, tr = A ++ r :: B → ∀ e, e ∈ r.o.after → Region.binds .any e = true → ∃ x, x ∈ A ∧ x.j = e.on
  apart : ∀ A x B y C, tr = A ++ x :: (B ++ y :: C) → Prec ops x.j y.j ∨ FreeZ lk ops x y
section
variable {lk : Lk}
theorem ValidZ.prec {ops : Array Oper} {s0 : Env} {h0 : AHeap} {tr : List DRec} (V : ValidZ lk P ops s0 h0 tr) {i j : Nat} (h : Prec ops i j) : ∀ A r B, tr = A ++ r :: B → r.j = j → ∃ x, x ∈ A ∧ x.j = i := by
  induction h with
  | one ho he hb =>
    intro A r B e hj
    subst hj
    have := (V.told A r B e).op
    rw [ho] at this
    cases this
    exact V.edges A r B e _ he hb
  | more ho he hb _ ih =>
    intro A r B e hj
    subst hj
    have := (V.told A r B e).op
    rw [ho] at this
    cases this
    obtain ⟨x, hx, hxj⟩ := V.edges A r B e _ he hb
    obtain ⟨A1, A2, rfl⟩ := List.append_of_mem hx
    obtain ⟨y, hy, hyi⟩ := ih A1 x (A2 ++ r :: B) (by simp [e]) hxj
    exact ⟨y, by simp [hy], hyi⟩

/-- What of a kind has come to pass when an operation r comes: what is told before r, where all of that kind are held in order with r. -/
theorem aroundZ {ops : Array Oper} {s0 : Env} {h0 : AHeap} {tr : List DRec} (V : ValidZ lk P ops s0 h0 tr) {S : Nat → Bool} (hdown : ∀ i j, Prec ops i j → S j = true → S i = true) {A B : List DRec} {r : DRec} (e : tr = A ++ r :: B)
    (hready : ∀ i, Prec ops i r.j → S i = true) (hnot : S r.j = false) {p : DRec → Bool} (hp : ∀ x, (x ∈ A → p x = true → Prec ops x.j r.j) ∧ (x ∈ B → p x = true → Prec ops r.j x.j)) :
    (A.filter (fun x => S x.j)).filter p = A.filter p ∧ (B.filter (fun x => S x.j)).filter p = [] := by
  constructor
  · rw [List.filter_filter]
    apply List.filter_congr
    intro x hx
    cases hpx : p x with
    | false => simp
    | true => rw [hready _ ((hp x).1 hx hpx)]; rfl
  · rw [List.filter_filter, List.filter_eq_nil_iff]
    intro x hx hc
    simp only [Bool.and_eq_true] at hc
    have := hdown _ _ ((hp x).2 hx hc.1) hc.2
    rw [hnot] at this
    cases this

/-- Where they touch one another they are in order. -/
theorem ValidZ.order {ops : Array Oper} {s0 : Env} {h0 : AHeap} {tr A B : List DRec} {r : DRec} (V : ValidZ lk P ops s0 h0 tr) (e : tr = A ++ r :: B) {p : DRec → Bool} (hA : ∀ x, FreeZ lk ops x r → p x = false) (hB : ∀ x, FreeZ lk ops r x → p x = false) :
    ∀ x, (x ∈ A → p x = true → Prec ops x.j r.j) ∧ (x ∈ B → p x = true → Prec ops r.j x.j) := by
  intro x
  constructor
  · intro hx hpx
    obtain ⟨A1, A2, rfl⟩ := List.append_of_mem hx
    rcases V.apart A1 x A2 r B (by simp [e]) with h | h
    · exact h
    · rw [hA x h] at hpx; cases hpx
  · intro hx hpx
    obtain ⟨B1, B2, rfl⟩ := List.append_of_mem hx
    rcases V.apart A r B1 x B2 e with h | h
    · exact h
    · rw [hB x h] at hpx; cases hpx

section
variable {ops : Array Oper} {s0 : Env} {h0 : AHeap} {tr A B : List DRec} {r : DRec} {S : Nat → Bool}
theorem filter_splitZ (e : tr = A ++ r :: B) (hnot : S r.j = false) : tr.filter (fun x => S x.j) = A.filter (fun x => S x.j) ++ B.filter (fun x => S x.j) := by
  subst e; simp [hnot]
theorem filter_addZ (V : ValidZ lk P ops s0 h0 tr) (e : tr = A ++ r :: B) : tr.filter (fun x => addS S r.j x.j) = A.filter (fun x => S x.j) ++ r :: B.filter (fun x => S x.j) := by
  have hA : A.filter (fun x => addS S r.j x.j) = A.filter (fun x => S x.j) := List.filter_congr fun x hx => by simp [addS, mem_j_unique V.nodup e (.inl hx)]
  have hB : B.filter (fun x => addS S r.j x.j) = B.filter (fun x => S x.j) := List.filter_congr fun x hx => by simp [addS, mem_j_unique V.nodup e (.inr hx)]
  rw [e, List.filter_append, List.filter_cons, hA, hB, if_pos (by simp [addS])]

/-- Where those of a kind are in order with r: before it, what has come to pass of that kind is what was told before; after it, r is the last. -/
theorem last_beforeZ (V : ValidZ lk P ops s0 h0 tr) (hdown : ∀ i j, Prec ops i j → S j = true → S i = true) (e : tr = A ++ r :: B) (hready : ∀ i, Prec ops i r.j → S i = true) (hnot : S r.j = false) {p : DRec → Bool}
    (hA : ∀ x, FreeZ lk ops x r → p x = false) (hB : ∀ x, FreeZ lk ops r x → p x = false) : lastR (tr.filter fun x => S x.j) p = lastR A p := by
  obtain ⟨h1, h2⟩ := aroundZ V hdown e hready hnot (V.order e hA hB)
  rw [lastR, filter_splitZ e hnot, List.filter_append, h1, h2, List.append_nil]; rfl
theorem last_afterZ (V : ValidZ lk P ops s0 h0 tr) (hdown : ∀ i j, Prec ops i j → S j = true → S i = true) (e : tr = A ++ r :: B) (hready : ∀ i, Prec ops i r.j → S i = true) (hnot : S r.j = false) {p : DRec → Bool} (hr : p r = true)
    (hA : ∀ x, FreeZ lk ops x r → p x = false) (hB : ∀ x, FreeZ lk ops r x → p x = false) : lastR (tr.filter fun x => addS S r.j x.j) p = some r := by
  obtain ⟨h1, h2⟩ := aroundZ V hdown e hready hnot (V.order e hA hB)
  rw [lastR, filter_addZ V e, List.filter_append, List.filter_cons, if_pos hr, h1, h2]
  simp
theorem last_otherZ (V : ValidZ lk P ops s0 h0 tr) (e : tr = A ++ r :: B) (hnot : S r.j = false) {p : DRec → Bool} (hr : p r = false) : lastR (tr.filter fun x => addS S r.j x.j) p = lastR (tr.filter fun x => S x.j) p := by
  rw [lastR, lastR, filter_addZ V e, filter_splitZ e hnot, List.filter_append, List.filter_cons, hr, if_neg (by simp), List.filter_append]

/-- The cells that a load looks at are the same, however many of the stores that it is in no order with have come to pass. -/
theorem chainZ (V : ValidZ lk P ops s0 h0 tr) (hdown : ∀ i j, Prec ops i j → S j = true → S i = true) (e : tr = A ++ r :: B) (hready : ∀ i, Prec ops i r.j → S i = true) (hnot : S r.j = false) {b0 off n : Nat} (hlk : lk r = some (b0, off, n)) (hrd : r.rd b0 = true) (htc : r.tc b0 = false) :
    rng (hpV (tr.filter fun x => S x.j) h0 b0) off n = rng (hpV A h0 b0) off n := by
  have val : ∀ (l : List DRec), hpV l h0 b0 = match (l.filter fun x => x.tc b0).getLast? with | some r => r.g'.get b0 | none => h0.get b0 := fun l => rfl
  -- one store more or less makes no difference
  have one : ∀ A1 x A2, tr = A1 ++ x :: A2 → x.tc b0 = true → (FreeZ lk ops x r ∨ FreeZ lk ops r x) → rng (x.g'.get b0) off n = rng (hpV A1 h0 b0) off n := by
    intro A1 x A2 e1 hx hf
    have D := V.told A1 x A2 e1
    have key : x.rd b0 = true ∧ rng (x.g'.get b0) off n = rng (x.g.get b0) off n := by
      rcases hf with hf | hf
      · rcases (hf.b1 b0 hx).2 with h1 | ⟨o1, n1, h1, h2, h3⟩
        · rw [hrd] at h1; cases h1
        · rw [hlk] at h1; cases h1; exact ⟨h2, h3⟩
      · rcases hf.b2 b0 hx with h1 | ⟨o1, n1, h1, h2, h3⟩
        · rw [hrd] at h1; cases h1
        · rw [hlk] at h1; cases h1; exact ⟨h2, h3⟩
    rw [key.2, D.heap, if_pos key.1]
  -- the stores of the block, in their order
  let p : DRec → Bool := fun x => x.tc b0
  have ord : ∀ A1 x A2, tr = A1 ++ x :: A2 → p x = true → ∀ A3 y A4, A1 = A3 ++ y :: A4 → p y = true → Prec ops y.j x.j := by
    intro A1 x A2 e1 hx A3 y A4 e2 hy
    subst e2
    rcases V.apart A3 y A4 x A2 (by simpa using e1) with h | h
    · exact h
    · have := (h.b1 b0 hy).1
      rw [show x.tc b0 = true from hx] at this; cases this
  -- up to any place of the order told, with those that have come to pass alone, or all
  have go : ∀ (C D : List DRec), tr = C ++ D → (∀ x, x ∈ C → p x = true → S x.j = false → FreeZ lk ops x r) → rng (hpV (C.filter fun x => S x.j) h0 b0) off n = rng (hpV C h0 b0) off n := by
    intro C
    induction hC : C.length generalizing C with
    | zero => intro D _ _; rw [List.length_eq_zero_iff.1 hC]; rfl
    | succ m ih =>
      intro D e1 hfree
      rcases List.eq_nil_or_concat C with rfl | ⟨C', x, rfl⟩
      · cases hC
      simp only [List.concat_eq_append] at *
      have e2 : tr = C' ++ x :: D := by rw [e1]; simp
      have ih' := ih C' (by simpa using hC) (x :: D) e2 fun y hy => hfree y (by simp [hy])
      cases hp : p x with
      | false =>
        have h1 : (C' ++ [x]).filter p = C'.filter p := by rw [List.filter_append]; simp [hp]
        have h2 : ((C' ++ [x]).filter fun y => S y.j).filter p = (C'.filter fun y => S y.j).filter p := by
          rw [List.filter_append, List.filter_append]
          cases hs : S x.j <;> simp [hs, hp]
        rw [val, val, show ((C' ++ [x]).filter fun x => x.tc b0) = C'.filter p from h1, show (((C' ++ [x]).filter fun y => S y.j).filter fun x => x.tc b0) = (C'.filter fun y => S y.j).filter p from h2]
        rw [val, val] at ih'
        exact ih'
      | true =>
        have h1 : (C' ++ [x]).filter p = C'.filter p ++ [x] := by rw [List.filter_append]; simp [hp]
        cases hs : S x.j with
        | true =>
          have h2 : ((C' ++ [x]).filter fun y => S y.j).filter p = (C'.filter fun y => S y.j).filter p ++ [x] := by
            rw [List.filter_append, List.filter_append]; simp [hs, hp]
          rw [val, val, show ((C' ++ [x]).filter fun x => x.tc b0) = C'.filter p ++ [x] from h1, show (((C' ++ [x]).filter fun y => S y.j).filter fun x => x.tc b0) = (C'.filter fun y => S y.j).filter p ++ [x] from h2]
          simp
        | false =>
          have h2 : ((C' ++ [x]).filter fun y => S y.j).filter p = (C'.filter fun y => S y.j).filter p := by
            rw [List.filter_append, List.filter_append]; simp [hs]
          have hx := one C' x D e2 hp (.inl (hfree x (by simp) hp hs))
          rw [val ((C' ++ [x]).filter _), val (C' ++ [x]), show ((C' ++ [x]).filter fun x => x.tc b0) = C'.filter p ++ [x] from h1, show (((C' ++ [x]).filter fun y => S y.j).filter fun x => x.tc b0) = (C'.filter fun y => S y.j).filter p from h2]
          rw [val] at ih'
          simp only [List.getLast?_append, List.getLast?_singleton, Option.some_or]
          rw [hx]
          exact ih'
  -- those told behind r
  have back : ∀ (C D : List DRec), B = C ++ D → rng (hpV (A.filter (fun x => S x.j) ++ C.filter (fun x => S x.j)) h0 b0) off n = rng (hpV (A.filter fun x => S x.j) h0 b0) off n := by
    intro C
    induction hC : C.length generalizing C with
    | zero => intro D _; rw [List.length_eq_zero_iff.1 hC]; simp
    | succ m ih =>
      intro D e1
      rcases List.eq_nil_or_concat C with rfl | ⟨C', x, rfl⟩
      · cases hC
      simp only [List.concat_eq_append] at *
      have e2 : B = C' ++ x :: D := by rw [e1]; simp
      have ih' := ih C' (by simpa using hC) (x :: D) e2
      cases hs : S x.j with
      | false => rw [List.filter_append]; simpa [hs] using ih'
      | true =>
        cases hp : p x with
        | false =>
          have h2 : ((A.filter (fun x => S x.j) ++ (C' ++ [x]).filter fun y => S y.j).filter p) = (A.filter (fun x => S x.j) ++ C'.filter fun y => S y.j).filter p := by
            rw [List.filter_append C' [x]]; simp [hs, hp]
          rw [val, show ((A.filter (fun x => S x.j) ++ (C' ++ [x]).filter fun y => S y.j).filter fun x => x.tc b0) = _ from h2]
          rw [val] at ih'
          exact ih'
        | true =>
          have e3 : tr = (A ++ r :: C') ++ x :: D := by rw [e, e2]; simp
          have hfr : FreeZ lk ops r x := by
            rcases V.apart A r C' x D (by rw [e, e2]) with h | h
            · have := hdown _ _ h hs; rw [hnot] at this; cases this
            · exact h
          have hx := one (A ++ r :: C') x D e3 hp (.inr hfr)
          have h2 : ((A.filter (fun x => S x.j) ++ (C' ++ [x]).filter fun y => S y.j).filter p) = (A.filter (fun x => S x.j) ++ C'.filter fun y => S y.j).filter p ++ [x] := by
            rw [List.filter_append C' [x]]; simp [hs, hp, List.filter_append]
          rw [val, show ((A.filter (fun x => S x.j) ++ (C' ++ [x]).filter fun y => S y.j).filter fun x => x.tc b0) = _ from h2]
          simp only [List.getLast?_append, List.getLast?_singleton, Option.some_or]
          rw [hx, ← ih']
          -- all that was told ahead of x and touches the block has come to pass
          have h4 : (A ++ r :: C').filter p = (A.filter (fun x => S x.j) ++ C'.filter fun y => S y.j).filter p := by
            have all : ∀ y, y ∈ A ++ r :: C' → p y = true → S y.j = true := by
              intro y hy hpy
              obtain ⟨Y1, Y2, hY⟩ := List.append_of_mem hy
              exact hdown _ _ (ord (A ++ r :: C') x D e3 hp Y1 y Y2 hY hpy) hs
            rw [← List.filter_append, List.filter_filter, List.filter_append, List.filter_append, List.filter_cons, show p r = false from htc]
            simp only [Bool.false_eq_true, if_false]
            congr 1
            · apply List.filter_congr; intro y hy
              cases hpy : p y with
              | false => simp
              | true => rw [all y (by simp [hy]) hpy]; rfl
            · apply List.filter_congr; intro y hy
              cases hpy : p y with
              | false => simp
              | true => rw [all y (by simp [hy]) hpy]; rfl
          rw [val, val, show ((A ++ r :: C').filter fun x => x.tc b0) = _ from h4]
  have hA := go A (r :: B) e fun x hx hpx hsx => by
    obtain ⟨A1, A2, rfl⟩ := List.append_of_mem hx
    rcases V.apart A1 x A2 r B (by simp [e]) with h | h
    · have := hready _ h; rw [hsx] at this; cases this
    · exact h
  rw [filter_splitZ e hnot, back B [] (by simp), hA]
/-- One operation more. -/
theorem draw_stepW (hro0 : h0.ro ≤ h0.next) (V : ValidZ lk P ops s0 h0 tr) (hdown : ∀ i j, Prec ops i j → S j = true → S i = true) (e : tr = A ++ r :: B) (hready : ∀ i, Prec ops i r.j → S i = true) (hnot : S r.j = false)
    {N : Nat} (hN : ∀ x, x ∈ tr → x.g'.next ≤ N) (hlk : lk r = none) {ρ0 ρ : Ren} {w0 w : World} {tm : Array Value} (I : DInv P tr s0 h0 N ρ0 w0 S ρ w tm) (ds : List Deferred) (rest : List Nat) (b : Frame) (k : List Item) (cs : List Frame) :
    ∃ ρ' w' tm', DInv P tr s0 h0 N ρ0 w0 (addS S r.j) ρ' w' tm' ∧ Steps P (lone (fat b tm ds (.inRegion ops (r.j :: rest) :: k)) cs w) (lone (fat b tm' ds (.inRegion ops rest :: k)) cs w') := by
  have D := V.told A r B e
  have hrm : r ∈ tr := by rw [e]; simp
  have rdA : ∀ x, FreeZ lk ops x r → ∀ bb, x.tc bb = true → r.rd bb = true → False := fun x hx bb hw hb => by
    rcases (hx.b1 bb hw).2 with h | ⟨_, _, h, _⟩
    · rw [hb] at h; cases h
    · rw [hlk] at h; cases h
  have rdB : ∀ x, FreeZ lk ops r x → ∀ bb, x.tc bb = true → r.rd bb = true → False := fun x hx bb hw hb => by
    rcases hx.b2 bb hw with h | ⟨_, _, h, _⟩
    · rw [hb] at h; cases h
    · rw [hlk] at h; cases h
  -- what r looks at has come to pass just as it was told
  have lookEnv : ∀ t, t ∈ r.o.looksAt ops → lastR (tr.filter fun x => S x.j) (wrs t) = lastR A (wrs t) := fun t ht =>
    last_beforeZ V hdown e hready hnot (fun x hx => by
      cases hw : wrs t x with
      | false => rfl
      | true => exact absurd ht (hx.d1 t (of_decide_eq_true hw)).1) (fun x hx => by
      cases hw : wrs t x with
      | false => rfl
      | true => exact absurd ht (hx.d2 t (of_decide_eq_true hw)))
  have lookHeap : ∀ bb, r.rd bb = true → lastR (tr.filter fun x => S x.j) (fun x => x.tc bb) = lastR A (fun x => x.tc bb) := fun bb hb =>
    last_beforeZ V hdown e hready hnot (fun x hx => by
      cases hw : x.tc bb with
      | false => rfl
      | true => exact (rdA x hx bb hw hb).elim) (fun x hx => by
      cases hw : x.tc bb with
      | false => rfl
      | true => exact (rdB x hx bb hw hb).elim)
  have hpVeq : ∀ bb, r.rd bb = true → hpV (tr.filter fun x => S x.j) h0 bb = r.g.get bb := fun bb hb => by
    rw [D.heap, if_pos hb]; simp only [hpV, lookHeap bb hb]
  have hpNle : ∀ bb, r.rd bb = true → hpN (tr.filter fun x => S x.j) h0.next bb ≤ r.g.next := fun bb hb => by
    simp only [hpN, lookHeap bb hb]
    split
    · rename_i x hx; exact D.nA x (lastR_mem hx).1
    · exact D.n0
  have galive : ∀ bb o, r.g.get bb = some o → r.rd bb = true ∧ hpV (tr.filter fun x => S x.j) h0 bb = some o := fun bb o hg => by
    rw [D.heap] at hg
    cases hb : r.rd bb with
    | false => rw [hb] at hg; simp at hg
    | true => exact ⟨rfl, by rw [hpVeq bb hb, D.heap]; exact hg⟩
  let ρr := ρ.cut r.g.next
  have hrel : Rel P ρr r.g w := by
    refine ⟨rfl, ?_, ?_, ?_, ?_, by rw [D.ro]; exact I.gro, I.gl⟩
    · have h1 := D.ro; have h2 := D.n0
      show r.g.ro ≤ r.g.next
      omega
    · intro bb o hg
      obtain ⟨h1, h2⟩ := galive bb o hg
      exact Nat.lt_of_lt_of_le (I.heap bb o h2).1 (hpNle bb h1)
    · intro bb o hg
      obtain ⟨h1, h2⟩ := galive bb _ hg
      obtain ⟨_, pl, hp, hc⟩ := I.heap bb o h2
      refine ⟨pl, hp, ?_⟩
      rw [D.ro]
      exact hc.cutup (hpNle bb h1)
    · intro b1 b2 o1 o2 p1 p2 g1 g2
      exact I.inj b1 b2 o1 o2 p1 p2 (galive b1 o1 g1).2 (galive b2 o2 g2).2
  have hlook : ∀ t, t ∈ r.o.looksAt ops → VRel ρr (r.s.get t) (tm.getD t undef) := by
    intro t ht
    have h1 := I.env t
    have e1 : envV (tr.filter fun x => S x.j) s0 t = r.s.get t := by rw [D.env t]; simp only [envV, lookEnv t ht]
    have e2 : envN (tr.filter fun x => S x.j) h0.next t ≤ r.g.next := by
      simp only [envN, lookEnv t ht]
      split
      · rename_i x hx; exact D.nA x (lastR_mem hx).1
      · exact D.n0
    rw [e1] at h1
    exact h1.cutup e2
  obtain ⟨v', w', ρq, st, hv, sx⟩ := opSem_steps D.op D.sem hrel (D.size.trans I.size) hlook ds rest b k cs
  let ρ' : Ren := { next := N, m := fun bb => if r.g.next ≤ bb ∧ bb < r.g'.next then ρq.m bb else ρ.m bb }
  have qnext : ρq.next = r.g'.next := st.rel.next
  have qlow : ∀ bb, bb < r.g.next → ρq.m bb = ρ.m bb := fun bb hb => st.le.2 bb hb
  have pq : ∀ bb, bb < r.g'.next → ρ'.m bb = ρq.m bb := by
    intro bb hb
    by_cases hl : r.g.next ≤ bb
    · exact if_pos ⟨hl, hb⟩
    · rw [show ρ'.m bb = ρ.m bb from if_neg (by omega), qlow bb (by omega)]
  have rfresh := I.fresh r hrm hnot
  have pext : ∀ bb pl, ρ.m bb = some pl → ρ'.m bb = some pl := by
    intro bb pl hm
    rw [show ρ'.m bb = ρ.m bb from if_neg (by
      rintro ⟨h1, h2⟩
      rw [rfresh bb h1 h2] at hm; cases hm)]
    exact hm
  have hn1N : r.g'.next ≤ N := hN r hrm
  -- the parts of the world after r
  have notMine : ∀ bb o pl, hpV (tr.filter fun x => S x.j) h0 bb = some o → ρ.m bb = some pl → r.rd bb = false → ¬ Mine ρr r.g pl.c := by
    rintro bb o pl hg hm hb ⟨b1, o1, p1, g1, _, m1, e1⟩
    obtain ⟨k1, k2⟩ := galive b1 o1 g1
    have := I.inj b1 bb o1 o p1 pl k2 hg m1 hm e1
    subst this
    rw [hb] at k1; cases k1
  have hpVnew : ∀ bb, hpV (tr.filter fun x => addS S r.j x.j) h0 bb = if r.tc bb = true then r.g'.get bb else hpV (tr.filter fun x => S x.j) h0 bb := by
    intro bb
    cases ht : r.tc bb with
    | true =>
      rw [if_pos rfl]
      simp only [hpV]
      rw [last_afterZ V hdown e hready hnot ht (fun x hx => by
        cases hw : x.tc bb with
        | false => rfl
        | true => have := (hx.b1 bb hw).1; rw [ht] at this; cases this) (fun x hx => by
        cases hw : x.tc bb with
        | false => rfl
        | true => have := (hx.b1 bb ht).1; rw [hw] at this; cases this)]
    | false =>
      rw [if_neg (by simp)]
      simp only [hpV]
      rw [last_otherZ V e hnot (p := fun x => x.tc bb) ht]
  have hpNnew : ∀ bb, hpN (tr.filter fun x => addS S r.j x.j) h0.next bb = if r.tc bb = true then r.g'.next else hpN (tr.filter fun x => S x.j) h0.next bb := by
    intro bb
    cases ht : r.tc bb with
    | true =>
      rw [if_pos rfl]
      simp only [hpN]
      rw [last_afterZ V hdown e hready hnot ht (fun x hx => by
        cases hw : x.tc bb with
        | false => rfl
        | true => have := (hx.b1 bb hw).1; rw [ht] at this; cases this) (fun x hx => by
        cases hw : x.tc bb with
        | false => rfl
        | true => have := (hx.b1 bb ht).1; rw [hw] at this; cases this)]
    | false =>
      rw [if_neg (by simp)]
      simp only [hpN]
      rw [last_otherZ V e hnot (p := fun x => x.tc bb) ht]
  -- each block that is there behind r: touched, or as it was
  have cases' : ∀ bb o, hpV (tr.filter fun x => addS S r.j x.j) h0 bb = some o → (r.tc bb = true ∧ r.g'.get bb = some o) ∨ (r.tc bb = false ∧ hpV (tr.filter fun x => S x.j) h0 bb = some o) := by
    intro bb o h
    rw [hpVnew] at h
    cases ht : r.tc bb with
    | true => rw [ht, if_pos rfl] at h; exact .inl ⟨rfl, h⟩
    | false => rw [ht, if_neg (by simp)] at h; exact .inr ⟨rfl, h⟩
  refine ⟨ρ', w', putTm tm r.o.dst v', ⟨rfl, ?_, ?_, ?_, ?_, ?_, ?_, st.os.trans I.os, st.tape.trans I.tape, st.output.trans I.output, Nat.le_trans I.wsize st.size, ?_, ?_, I.gro, fun b pl hb hm => I.gl b pl hb (by
    rw [show ρ'.m b = ρ.m b from if_neg (by have := D.n0; have := I.gro; omega)] at hm; exact hm)⟩, sx⟩
  · intro bb hb
    rw [show ρ'.m bb = ρ.m bb from if_neg (by have := D.n0; omega)]
    exact I.old bb hb
  · cases r.o.dst with
    | none => exact I.size
    | some d => simp only [putTm, Array.size_setIfInBounds]; exact I.size
  · -- the slots
    intro t
    by_cases ht : r.o.dst = some t
    · have e1 : lastR (tr.filter fun x => addS S r.j x.j) (wrs t) = some r := last_afterZ V hdown e hready hnot (p := wrs t) (by simp [wrs, ht]) (fun x hx => by
        cases hw : wrs t x with
        | false => rfl
        | true => exact absurd ht (hx.d1 t (of_decide_eq_true hw)).2) (fun x hx => by
        cases hw : wrs t x with
        | false => rfl
        | true => exact absurd (of_decide_eq_true hw) (hx.d1 t ht).2)
      simp only [envV, envN, e1]
      have e2 : (putTm tm r.o.dst v').getD t undef = v' := by
        have hlt : t < tm.size := by rw [← I.size]; exact D.put t ht
        rw [ht]; simp [putTm, Array.getD_eq_getD_getElem?, hlt]
      rw [e2]
      refine hv.ext (by show ρq.next ≤ r.g'.next; rw [qnext]; exact Nat.le_refl _) (fun bb pl hb hm => ?_)
      show ρ'.m bb = some pl
      rw [pq bb (by rw [← qnext]; exact hb)]; exact hm
    · have e1 : lastR (tr.filter fun x => addS S r.j x.j) (wrs t) = lastR (tr.filter fun x => S x.j) (wrs t) := last_otherZ V e hnot (p := wrs t) (by simp [wrs, ht])
      have e2 : (putTm tm r.o.dst v').getD t undef = tm.getD t undef := by
        cases hd : r.o.dst with
        | none => rfl
        | some d =>
          have : d ≠ t := fun h => ht (by rw [hd, h])
          simp [putTm, Array.getD_eq_getD_getElem?, this]
      have h1 := I.env t
      simp only [envV, envN] at h1 ⊢
      rw [e1, e2]
      exact h1.cutext (ρ' := ρ') pext
  · -- the blocks
    intro bb o hg
    rcases cases' bb _ hg with ⟨ht, hg'⟩ | ⟨ht, hg'⟩
    · rw [hpNnew, if_pos ht]
      obtain ⟨pl, hp, hc⟩ := st.rel.ok bb o hg'
      have hlt := st.rel.dom bb _ hg'
      refine ⟨hlt, pl, by rw [pq bb hlt]; exact hp, ?_⟩
      have hro : r.g'.ro = h0.ro := st.ro.trans D.ro
      rw [hro] at hc
      exact hc.ext (by show ρq.next ≤ r.g'.next; rw [qnext]; exact Nat.le_refl _) (fun b2 p2 hb hm => by show ρ'.m b2 = some p2; rw [pq b2 (by rw [← qnext]; exact hb)]; exact hm)
    · rw [hpNnew, ht, if_neg (by simp)]
      obtain ⟨hlt, pl, hp, hc⟩ := I.heap bb o hg'
      refine ⟨hlt, pl, pext bb pl hp, ?_⟩
      have hdone : ObjOk P (ρ.cut (hpN (tr.filter fun x => S x.j) h0.next bb)) (decide (h0.ro ≤ bb)) o pl w' := by
        cases hb : r.rd bb with
        | true =>
          have hgg : r.g'.get bb = some o := by rw [D.tc2 bb ht, ← hpVeq bb hb]; exact hg'
          obtain ⟨p2, hp2, hc2⟩ := st.rel.ok bb o hgg
          have hbl : bb < r.g.next := Nat.lt_of_lt_of_le hlt (hpNle bb hb)
          rw [qlow bb hbl, hp] at hp2
          cases hp2
          have hro : r.g'.ro = h0.ro := st.ro.trans D.ro
          rw [hro] at hc2
          exact ObjOk.down (ρ := ρ.cut (hpN (tr.filter fun x => S x.j) h0.next bb)) (ρ2 := ρq) (fun b2 hb2 => qlow b2 (Nat.lt_of_lt_of_le hb2 (hpNle bb hb))) hc hc2
        | false => exact hc.other (st.frame pl.c hc.lt (notMine bb _ pl hg' hp hb))
      exact hdone.cutext (ρ' := ρ') pext
  · -- apart they stay
    have key : ∀ b1 b2 o1 o2 p1 p2, r.tc b1 = true → r.g'.get b1 = some o1 → r.tc b2 = false → hpV (tr.filter fun x => S x.j) h0 b2 = some o2 → ρ'.m b1 = some p1 → ρ'.m b2 = some p2 → p1.c = p2.c → b1 = b2 := by
      intro b1 b2 o1 o2 p1 p2 t1 g1 t2 g2 m1 m2 ec
      obtain ⟨hlt2, q2, hq2, hc2⟩ := I.heap b2 o2 g2
      rw [pext b2 q2 hq2] at m2
      cases m2
      have hl1 := st.rel.dom b1 o1 g1
      rw [pq b1 hl1] at m1
      cases hb2 : r.rd b2 with
      | true =>
        have hgg : r.g'.get b2 = some o2 := by rw [D.tc2 b2 t2, ← hpVeq b2 hb2]; exact g2
        have hbl : b2 < r.g.next := Nat.lt_of_lt_of_le hlt2 (hpNle b2 hb2)
        exact st.rel.inj b1 b2 o1 _ p1 p2 g1 hgg m1 (by rw [qlow b2 hbl]; exact hq2) ec
      | false =>
        by_cases hw : h0.ro ≤ b1
        · have hM : Mine ρq r.g' p1.c := ⟨b1, o1, p1, g1, by rw [st.ro, D.ro]; exact hw, m1, rfl⟩
          have hlt : p1.c < w.heap.size := by rw [ec]; exact hc2.lt
          have := st.img p1.c hlt hM
          rw [ec] at this
          exact absurd this (notMine b2 _ p2 g2 hq2 hb2)
        · have hb1 : b1 < r.g.next := by have := D.n0; omega
          have hne := D.tc3 b1 o1 t1 hb1 g1
          obtain ⟨o1', ho1'⟩ : ∃ o, r.g.get b1 = some o := by cases hh : r.g.get b1 with | none => exact absurd hh hne | some o => exact ⟨o, rfl⟩
          rw [qlow b1 hb1] at m1
          exact I.inj b1 b2 o1' _ p1 p2 (galive b1 o1' ho1').2 g2 m1 hq2 ec
    intro b1 b2 o1 o2 p1 p2 g1 g2 m1 m2 ec
    rcases cases' b1 o1 g1 with ⟨t1, k1⟩ | ⟨t1, k1⟩ <;> rcases cases' b2 o2 g2 with ⟨t2, k2⟩ | ⟨t2, k2⟩
    · have l1 := st.rel.dom b1 o1 k1
      have l2 := st.rel.dom b2 o2 k2
      rw [pq b1 l1] at m1; rw [pq b2 l2] at m2
      exact st.rel.inj b1 b2 o1 o2 p1 p2 k1 k2 m1 m2 ec
    · exact key b1 b2 o1 o2 p1 p2 t1 k1 t2 k2 m1 m2 ec
    · exact (key b2 b1 o2 o1 p2 p1 t2 k2 t1 k1 m2 m1 ec.symm).symm
    · obtain ⟨_, q1, hq1, _⟩ := I.heap b1 o1 k1
      obtain ⟨_, q2, hq2, _⟩ := I.heap b2 o2 k2
      rw [pext b1 q1 hq1] at m1; rw [pext b2 q2 hq2] at m2
      cases m1; cases m2
      exact I.inj b1 b2 _ _ p1 p2 k1 k2 hq1 hq2 ec
  · -- what is not laid yet
    intro x hx hS bb h1 h2
    simp only [addS, Bool.or_eq_false_iff, decide_eq_false_iff_not] at hS
    have h3 := I.fresh x hx hS.1 bb h1 h2
    have hne : x ≠ r := fun h => hS.2 (by rw [h])
    have hdis : ¬ (r.g.next ≤ bb ∧ bb < r.g'.next) := by
      rw [e] at hx
      rcases List.mem_append.1 hx with hxA | hxB
      · have := D.nA x hxA; omega
      · rcases List.mem_cons.1 hxB with hxr | hxB
        · exact absurd hxr hne
        · obtain ⟨B1, B2, rfl⟩ := List.append_of_mem hxB
          have := (V.told (A ++ r :: B1) x B2 (by simp [e])).nA r (by simp)
          omega
    rw [show ρ'.m bb = ρ.m bb from if_neg hdis]
    exact h3
  · intro c hc hn
    rw [st.frame c (Nat.lt_of_lt_of_le hc I.wsize) (by
      rintro ⟨b1, o1, p1, g1, hro1, m1, rfl⟩
      exact hn (I.img b1 o1 p1 (galive b1 o1 g1).2 (by rw [← D.ro]; exact hro1) m1 hc))]
    exact I.frame c hc hn
  · intro bb o pl hg hro hm hc
    rcases cases' bb o hg with ⟨ht, hg'⟩ | ⟨ht, hg'⟩
    · rw [pq bb (st.rel.dom bb o hg')] at hm
      obtain ⟨b1, o1, p1, g1, hro1, m1, e1⟩ := st.img pl.c (Nat.lt_of_lt_of_le hc I.wsize) ⟨bb, o, pl, hg', by rw [st.ro, D.ro]; exact hro, hm, rfl⟩
      rw [← e1]
      exact I.img b1 o1 p1 (galive b1 o1 g1).2 (by rw [← D.ro]; exact hro1) m1 (by rw [e1]; exact hc)
    · obtain ⟨_, q, hq, _⟩ := I.heap bb o hg'
      rw [pext bb q hq] at hm
      cases hm
      exact I.img bb _ pl hg' hro hq hc
/-- A load more. -/
theorem draw_stepL (hro0 : h0.ro ≤ h0.next) (V : ValidZ lk P ops s0 h0 tr) (hdown : ∀ i j, Prec ops i j → S j = true → S i = true) (e : tr = A ++ r :: B) (hready : ∀ i, Prec ops i r.j → S i = true) (hnot : S r.j = false)
    {N : Nat} (hN : ∀ x, x ∈ tr → x.g'.next ≤ N) (hNN : N = h0.next) {b0 off n : Nat} (hlk : lk r = some (b0, off, n)) {ρ0 ρ : Ren} {w0 w : World} {tm : Array Value} (I : DInv P tr s0 h0 N ρ0 w0 S ρ w tm) (ds : List Deferred) (rest : List Nat) (b : Frame) (k : List Item) (cs : List Frame) :
    ∃ ρ' w' tm', DInv P tr s0 h0 N ρ0 w0 (addS S r.j) ρ' w' tm' ∧ Steps P (lone (fat b tm ds (.inRegion ops (r.j :: rest) :: k)) cs w) (lone (fat b tm' ds (.inRegion ops rest :: k)) cs w') := by
  have D := V.told A r B e
  have hrm : r ∈ tr := by rw [e]; simp
  obtain ⟨l1, l2, l3, l4⟩ := D.look b0 off n hlk
  have hNr : r.g.next = N := by rw [D.still.1, hNN]
  have hNr' : r.g'.next = N := by rw [D.still.2, hNN]
  have hcut : ρ.cut N = ρ := by have := I.next; cases ρ; simp only at this; subst this; rfl
  have lookEnv : ∀ t, t ∈ r.o.looksAt ops → lastR (tr.filter fun x => S x.j) (wrs t) = lastR A (wrs t) := fun t ht =>
    last_beforeZ V hdown e hready hnot (fun x hx => by
      cases hw : wrs t x with
      | false => rfl
      | true => exact absurd ht (hx.d1 t (of_decide_eq_true hw)).1) (fun x hx => by
      cases hw : wrs t x with
      | false => rfl
      | true => exact absurd ht (hx.d2 t (of_decide_eq_true hw)))
  have lastn : ∀ (p : DRec → Bool) x, lastR (tr.filter fun x => S x.j) p = some x → x.g'.next ≤ N := fun p x hx => hN x (List.mem_filter.1 (lastR_mem hx).1).1
  have hpNle : ∀ bb, hpN (tr.filter fun x => S x.j) h0.next bb ≤ N := fun bb => by
    simp only [hpN]
    split
    · rename_i x hx; exact lastn _ x hx
    · omega
  let g1 : AHeap := r.g.set b0 (hpV (tr.filter fun x => S x.j) h0 b0)
  have g1get : ∀ bb o, g1.get bb = some o → bb = b0 ∧ hpV (tr.filter fun x => S x.j) h0 b0 = some o := fun bb o hg => by
    show bb = b0 ∧ _
    have hg : (r.g.set b0 (hpV (tr.filter fun x => S x.j) h0 b0)).get bb = some o := hg
    rw [AHeap.get_set] at hg
    split at hg
    · rename_i q; exact ⟨q, hg⟩
    · rw [D.heap] at hg
      cases hb : r.rd bb with
      | false => rw [hb] at hg; simp at hg
      | true => rename_i q; exact absurd (l2 bb hb) q
  have hrel : Rel P ρ g1 w := by
    refine ⟨by rw [I.next]; exact hNr.symm, by have h1 := D.ro; have h2 := D.n0; show r.g.ro ≤ r.g.next; omega, fun bb o hg => ?_, fun bb o hg => ?_, fun b1 b2 o1 o2 p1 p2 q1 q2 _ _ _ => ?_, by show _ ≤ r.g.ro; rw [D.ro]; exact I.gro, I.gl⟩
    · obtain ⟨rfl, h2⟩ := g1get bb o hg
      have := (I.heap bb o h2).1
      have := hpNle bb
      show bb < r.g.next
      omega
    · obtain ⟨rfl, h2⟩ := g1get bb o hg
      obtain ⟨_, pl, hp, hc⟩ := I.heap bb o h2
      refine ⟨pl, hp, ?_⟩
      have hc := hc.cutup (hpNle bb)
      rw [hcut] at hc
      show ObjOk P ρ (decide (r.g.ro ≤ bb)) o pl w
      rw [D.ro]; exact hc
    · rw [(g1get b1 o1 q1).1, (g1get b2 o2 q2).1]
  have hsem : OpSem P ops r.s r.o g1.lock r.v g1.lock := l4 g1.lock (by
    show rng ((r.g.set b0 (hpV (tr.filter fun x => S x.j) h0 b0)).get b0) off n = _
    rw [AHeap.get_set, if_pos rfl, chainZ V hdown e hready hnot hlk l1 (l3 b0), D.heap, if_pos l1])
  have hlook : ∀ t, t ∈ r.o.looksAt ops → VRel ρ (r.s.get t) (tm.getD t undef) := by
    intro t ht
    have h1 := I.env t
    have e1 : envV (tr.filter fun x => S x.j) s0 t = r.s.get t := by rw [D.env t]; simp only [envV, lookEnv t ht]
    rw [e1] at h1
    have h1 := h1.cutup (m := N) (by
      simp only [envN]
      split
      · rename_i x hx; exact lastn _ x hx
      · omega)
    rw [hcut] at h1
    exact h1
  obtain ⟨v', w', ρq, st, hv, sx⟩ := opSem_steps D.op hsem hrel.lock (D.size.trans I.size) hlook ds rest b k cs
  have hfr : ∀ c, c < w.heap.size → w'.heap[c]? = w.heap[c]? := fun c hc => st.frame c hc (by
    rintro ⟨bb, o, pl, hg, hro, _, _⟩
    have h1 := hrel.lock.dom bb o hg
    have h2 : g1.next ≤ bb := hro
    have h3 : bb < g1.next := h1
    omega)
  have qn : ρq.next = N := by
    have : ρq.next = g1.next := st.rel.next
    rw [this]; exact hNr
  have hv2 : VRel ρ v' v' ∨ True := .inr trivial
  have hvr : VRel ρ r.v v' := hv.ext (by rw [qn, I.next]; exact Nat.le_refl _) fun bb pl hb hm => by
    rw [← st.le.2 bb (by rw [I.next, ← qn]; exact hb)]; exact hm
  have hpVnew : ∀ bb, hpV (tr.filter fun x => addS S r.j x.j) h0 bb = hpV (tr.filter fun x => S x.j) h0 bb := fun bb => by
    simp only [hpV]; rw [last_otherZ V e hnot (p := fun x => x.tc bb) (l3 bb)]
  have hpNnew : ∀ bb, hpN (tr.filter fun x => addS S r.j x.j) h0.next bb = hpN (tr.filter fun x => S x.j) h0.next bb := fun bb => by
    simp only [hpN]; rw [last_otherZ V e hnot (p := fun x => x.tc bb) (l3 bb)]
  refine ⟨ρ, w', putTm tm r.o.dst v', ⟨I.next, I.old, ?_, ?_, ?_, ?_, ?_, st.os.trans I.os, st.tape.trans I.tape, st.output.trans I.output, Nat.le_trans I.wsize st.size, ?_, ?_, I.gro, I.gl⟩, sx⟩
  · cases r.o.dst with
    | none => exact I.size
    | some d => simp only [putTm, Array.size_setIfInBounds]; exact I.size
  · intro t
    by_cases ht : r.o.dst = some t
    · have e1 : lastR (tr.filter fun x => addS S r.j x.j) (wrs t) = some r := last_afterZ V hdown e hready hnot (p := wrs t) (by simp [wrs, ht]) (fun x hx => by
        cases hw : wrs t x with
        | false => rfl
        | true => exact absurd ht (hx.d1 t (of_decide_eq_true hw)).2) (fun x hx => by
        cases hw : wrs t x with
        | false => rfl
        | true => exact absurd (of_decide_eq_true hw) (hx.d1 t ht).2)
      simp only [envV, envN, e1]
      have e2 : (putTm tm r.o.dst v').getD t undef = v' := by
        have hlt : t < tm.size := by rw [← I.size]; exact D.put t ht
        rw [ht]; simp [putTm, Array.getD_eq_getD_getElem?, hlt]
      rw [e2, hNr', hcut]
      exact hvr
    · have e1 : lastR (tr.filter fun x => addS S r.j x.j) (wrs t) = lastR (tr.filter fun x => S x.j) (wrs t) := last_otherZ V e hnot (p := wrs t) (by simp [wrs, ht])
      have e2 : (putTm tm r.o.dst v').getD t undef = tm.getD t undef := by
        cases hd : r.o.dst with
        | none => rfl
        | some d =>
          have : d ≠ t := fun h => ht (by rw [hd, h])
          simp [putTm, Array.getD_eq_getD_getElem?, this]
      have h1 := I.env t
      simp only [envV, envN] at h1 ⊢
      rw [e1, e2]
      exact h1
  · intro bb o hg
    rw [hpVnew] at hg
    rw [hpNnew]
    obtain ⟨h1, pl, hp, hc⟩ := I.heap bb o hg
    exact ⟨h1, pl, hp, hc.other (hfr pl.c hc.lt)⟩
  · intro b1 b2 o1 o2 p1 p2 g1 g2
    rw [hpVnew] at g1 g2
    exact I.inj b1 b2 o1 o2 p1 p2 g1 g2
  · intro x hx hS
    simp only [addS, Bool.or_eq_false_iff, decide_eq_false_iff_not] at hS
    exact I.fresh x hx hS.1
  · intro c hc hn
    rw [hfr c (Nat.lt_of_lt_of_le hc I.wsize)]
    exact I.frame c hc hn
  · intro bb o pl hg
    rw [hpVnew] at hg
    exact I.img bb o pl hg
theorem draw_stepZ (hro0 : h0.ro ≤ h0.next) (V : ValidZ lk P ops s0 h0 tr) (hdown : ∀ i j, Prec ops i j → S j = true → S i = true) (e : tr = A ++ r :: B) (hready : ∀ i, Prec ops i r.j → S i = true) (hnot : S r.j = false)
    {N : Nat} (hN : ∀ x, x ∈ tr → x.g'.next ≤ N) (hNN : N = h0.next) {ρ0 ρ : Ren} {w0 w : World} {tm : Array Value} (I : DInv P tr s0 h0 N ρ0 w0 S ρ w tm) (ds : List Deferred) (rest : List Nat) (b : Frame) (k : List Item) (cs : List Frame) :
    ∃ ρ' w' tm', DInv P tr s0 h0 N ρ0 w0 (addS S r.j) ρ' w' tm' ∧ Steps P (lone (fat b tm ds (.inRegion ops (r.j :: rest) :: k)) cs w) (lone (fat b tm' ds (.inRegion ops rest :: k)) cs w') := by
  cases hlk : lk r with
  | none => exact draw_stepW hro0 V hdown e hready hnot hN hlk I ds rest b k cs
  | some x => obtain ⟨b0, off, n⟩ := x; exact draw_stepL hro0 V hdown e hready hnot hN hNN hlk I ds rest b k cs
end
section
variable {ops : Array Oper} {s0 : Env} {h0 : AHeap} {tr : List DRec}
theorem draw_goZ (hro0 : h0.ro ≤ h0.next) (V : ValidZ lk P ops s0 h0 tr) {N : Nat} (hN : ∀ x, x ∈ tr → x.g'.next ≤ N) (hNN : N = h0.next) {ρ0 : Ren} {w0 : World} (ds : List Deferred) (b : Frame) (k : List Item) (cs : List Frame) :
    ∀ (fuel t : Nat) (listed : Array Bool) (ρ : Ren) (w : World) (tm : Array Value), listed.size = ops.size → ((List.range ops.size).filter fun i => !listed.getD i false).length ≤ fuel →
      (∀ i j, Prec ops i j → listed.getD j false = true → listed.getD i false = true) → DInv P tr s0 h0 N ρ0 w0 (fun j => listed.getD j false) ρ w tm →
      ∃ S ρ' w' tm', (∀ r, r ∈ tr → S r.j = true) ∧ DInv P tr s0 h0 N ρ0 w0 S ρ' w' tm' ∧
        Steps P (lone (fat b tm ds (.inRegion ops (Region.linearise.go .any ops fuel t listed []) :: k)) cs w) (lone (fat b tm' ds (.inRegion ops [] :: k)) cs w') := by
  intro fuel
  induction fuel with
  | zero =>
    intro t listed ρ w tm hsz hcount hdown I
    refine ⟨_, ρ, w, tm, ?_, I, .refl P _⟩
    intro r hr
    have hnil := List.eq_nil_of_length_eq_zero (Nat.le_zero.1 hcount)
    obtain ⟨A, B, e⟩ := List.append_of_mem hr
    have hop := (V.told A r B e).op
    have hlt : r.j < ops.size := by
      rcases Nat.lt_or_ge r.j ops.size with h | h
      · exact h
      · rw [Array.getElem?_eq_none h] at hop; cases hop
    cases hl : listed.getD r.j false with
    | true => rfl
    | false =>
      have : r.j ∈ (List.range ops.size).filter fun i => !listed.getD i false := List.mem_filter.2 ⟨List.mem_range.2 hlt, by rw [hl]; rfl⟩
      rw [hnil] at this; cases this
  | succ fuel ih =>
    intro t listed ρ w tm hsz hcount hdown I
    simp only [Region.linearise.go]
    change ∃ S ρ' w' tm', (∀ r, r ∈ tr → S r.j = true) ∧ DInv P tr s0 h0 N ρ0 w0 S ρ' w' tm' ∧ Steps P (lone (fat b tm ds (.inRegion ops (match (Region.ready .any ops listed)[t % (Region.ready .any ops listed).length]? with
      | some i => Region.linearise.go .any ops fuel (t / (Region.ready .any ops listed).length) (listed.setIfInBounds i true) [i]
      | none => [].reverse) :: k)) cs w) _
    have getTF : ∀ i, i < ops.size → listed.getD i true = listed.getD i false := by
      intro i hi
      simp [Array.getD_eq_getD_getElem?, Array.getElem?_eq_getElem (hsz ▸ hi)]
    by_cases hall : ∀ r, r ∈ tr → listed.getD r.j false = true
    · -- nothing is left
      have hnone : Region.ready .any ops listed = [] := by
        rw [List.eq_nil_iff_forall_not_mem]
        intro i hi
        obtain ⟨h1, h2, _⟩ := ready_mem hi
        obtain ⟨r, hr, hrj⟩ := V.all i h1
        have := hall r hr
        rw [hrj, ← getTF i h1, h2] at this
        cases this
      rw [hnone]
      exact ⟨_, ρ, w, tm, hall, I, .refl P _⟩
    · -- the first that is told and has not come is ready
      have hex : ∃ i, i ∈ Region.ready .any ops listed := by
        have : ∃ A r B, tr = A ++ r :: B ∧ listed.getD r.j false = false ∧ ∀ x, x ∈ A → listed.getD x.j false = true := by
          clear ih I hN V
          induction tr with
          | nil => exact absurd (fun r hr => by cases hr) hall
          | cons x tr iht =>
            cases hx : listed.getD x.j false with
            | false => exact ⟨[], x, tr, rfl, hx, fun y hy => by cases hy⟩
            | true =>
              obtain ⟨A, r, B, e, h1, h2⟩ := iht (fun h => hall (fun r hr => by rcases List.mem_cons.1 hr with rfl | hr; exact hx; exact h r hr))
              exact ⟨x :: A, r, B, by rw [e]; rfl, h1, fun y hy => by rcases List.mem_cons.1 hy with rfl | hy; exact hx; exact h2 y hy⟩
        obtain ⟨A, r, B, e, h1, h2⟩ := this
        have hop := (V.told A r B e).op
        have hlt : r.j < ops.size := by
          rcases Nat.lt_or_ge r.j ops.size with h | h
          · exact h
          · rw [Array.getElem?_eq_none h] at hop; cases hop
        refine ⟨r.j, ready_of hlt (by rw [getTF _ hlt]; exact h1) (fun o ho ed hed hb => ?_)⟩
        rw [hop] at ho
        cases ho
        obtain ⟨x, hx, hxe⟩ := V.edges A r B e ed hed hb
        rw [← hxe]; exact h2 x hx
      cases hi : (Region.ready .any ops listed)[t % (Region.ready .any ops listed).length]? with
      | none =>
        obtain ⟨i, hmem⟩ := hex
        have hpos : 0 < (Region.ready .any ops listed).length := List.length_pos_of_mem hmem
        rw [List.getElem?_eq_getElem (Nat.mod_lt _ hpos)] at hi
        cases hi
      | some i =>
        simp only []
        rw [linearise_go_acc, List.reverse_singleton, List.singleton_append]
        obtain ⟨hlt, hl, hed⟩ := ready_mem (List.mem_of_getElem? hi)
        obtain ⟨r, hr, hrj⟩ := V.all i hlt
        obtain ⟨A, B, e⟩ := List.append_of_mem hr
        subst hrj
        have hop := (V.told A r B e).op
        have hready : ∀ q, Prec ops q r.j → listed.getD q false = true := by
          intro q hq
          cases hq with
          | one ho he hb => exact hed _ ho _ he hb
          | more ho he hb hp => exact hdown _ _ hp (hed _ ho _ he hb)
        have hnot : listed.getD r.j false = false := by rw [← getTF _ hlt]; exact hl
        obtain ⟨ρ1, w1, tm1, I1, sx⟩ := draw_stepZ hro0 V hdown e hready hnot hN hNN I ds (Region.linearise.go .any ops fuel (t / (Region.ready .any ops listed).length) (listed.setIfInBounds r.j true) []) b k cs
        have hadd : (fun j => (listed.setIfInBounds r.j true).getD j false) = addS (fun j => listed.getD j false) r.j := by
          funext j
          simp only [addS, Array.getD_eq_getD_getElem?, Array.getElem?_setIfInBounds]
          by_cases ej : r.j = j
          · subst ej
            rw [if_pos rfl, if_pos (by omega)]; simp
          · rw [if_neg ej]
            have : decide (j = r.j) = false := decide_eq_false (fun h => ej h.symm)
            rw [this, Bool.or_false]
        rw [← hadd] at I1
        have hcnt : ((List.range ops.size).filter fun i => !(listed.setIfInBounds r.j true).getD i false).length ≤ fuel := by
          have hmem : r.j ∈ (List.range ops.size).filter fun i => !listed.getD i false := List.mem_filter.2 ⟨List.mem_range.2 hlt, by rw [hnot]; rfl⟩
          have hsub : (List.range ops.size).filter (fun i => !(listed.setIfInBounds r.j true).getD i false) = ((List.range ops.size).filter fun i => !listed.getD i false).filter (fun i => decide (i ≠ r.j)) := by
            rw [List.filter_filter]
            apply List.filter_congr
            intro i _
            have := congrFun hadd i
            simp only [addS] at this
            rw [this]
            by_cases ei : i = r.j <;> simp [ei]
          rw [hsub]
          have hlen : ∀ (l : List Nat), r.j ∈ l → (l.filter fun i => decide (i ≠ r.j)).length < l.length := by
            intro l hl
            apply List.length_filter_lt_length_iff_exists.2
            exact ⟨r.j, hl, by simp⟩
          have := hlen _ hmem
          omega
        have hdn : ∀ q j, Prec ops q j → (listed.setIfInBounds r.j true).getD j false = true → (listed.setIfInBounds r.j true).getD q false = true := by
          intro q j hq hj
          have h1 := congrFun hadd j
          have h2 := congrFun hadd q
          rw [h1] at hj
          rw [h2]
          simp only [addS, Bool.or_eq_true, decide_eq_true_eq] at hj ⊢
          rcases hj with hj | rfl
          · exact .inl (hdown q j hq hj)
          · exact .inl (hready q hq)
        obtain ⟨S, ρ2, w2, tm2, hS, I2, sx2⟩ := ih (t / (Region.ready .any ops listed).length) (listed.setIfInBounds r.j true) ρ1 w1 tm1 (by simpa using hsz) hcnt hdn I1
        exact ⟨S, ρ2, w2, tm2, hS, I2, sx.trans sx2⟩

/-- The frame and the heap behind the order that is told. -/
theorem T_regionDrawZ (hmix : P.follows .mixedOrders = true) {id : Nat} {rd : Option Nat} {Q : Ex → Env → AHeap → Prop} (V : ValidZ lk P ops s0 h0 tr) {sf : Env} {hf : AHeap} (hs : ∀ t, sf.get t = envV tr s0 t) (hsz : sf.size = s0.size)
    (hh : ∀ b, hf.get b = hpV tr h0 b) (hro : hf.ro = h0.ro) (hn : h0.next ≤ hf.next) (hN : ∀ x, x ∈ tr → x.g'.next ≤ hf.next) (hNN : hf.next = h0.next) (hq : Q .normal sf hf) : T P rd (.region id ops true) s0 h0 Q := by
  intro ρ w tm ds hr hse b hb k cs
  let w1 : World := { w with drawn := w.drawn + 1 }
  let ρ1 : Ren := { next := hf.next, m := fun bb => if bb < h0.next then ρ.m bb else none }
  have hm1 : ∀ bb pl, bb < ρ.next → ρ.m bb = some pl → ρ1.m bb = some pl := fun bb pl hb hm => by
    rw [show ρ1.m bb = ρ.m bb from if_pos (by rw [← hr.next]; exact hb)]; exact hm
  have hnil : tr.filter (fun r => (Array.replicate ops.size false).getD r.j false) = [] := by
    rw [List.filter_eq_nil_iff]
    intro r _ h
    simp only [Array.getD_eq_getD_getElem?, Array.getElem?_replicate] at h
    split at h <;> simp at h
  have I : DInv P tr s0 h0 hf.next ρ w (fun j => (Array.replicate ops.size false).getD j false) ρ1 w1 tm := by
    refine ⟨rfl, fun bb hb => if_pos hb, hse.size, ?_, ?_, ?_, ?_, rfl, rfl, rfl, Nat.le_refl _, fun _ _ _ => rfl, ?_, hr.gro, fun bb pl hb hm => hr.glob bb pl hb (by
      rw [show ρ1.m bb = ρ.m bb from if_pos (Nat.lt_of_lt_of_le hb (Nat.le_trans hr.gro hr.ro))] at hm; exact hm)⟩
    · intro t
      rw [hnil]
      exact (hse.get t).ext (ρ' := ρ1.cut h0.next) (by rw [hr.next]; exact Nat.le_refl _) hm1
    · intro bb o hg
      rw [hnil] at hg ⊢
      have hb := hr.dom bb _ hg
      obtain ⟨pl, hp, hc⟩ := hr.ok bb o hg
      refine ⟨hb, pl, hm1 bb pl (by rw [hr.next]; exact hb) hp, ?_⟩
      exact ObjOk.other (ObjOk.ext (ρ := ρ) (ρ' := ρ1.cut h0.next) (by rw [hr.next]; exact Nat.le_refl _) hm1 hc) rfl
    · intro b1 b2 o1 o2 p1 p2 g1 g2 m1 m2 e
      rw [hnil] at g1 g2
      have l1 := hr.dom b1 o1 g1
      have l2 := hr.dom b2 o2 g2
      rw [show ρ1.m b1 = ρ.m b1 from if_pos l1] at m1
      rw [show ρ1.m b2 = ρ.m b2 from if_pos l2] at m2
      exact hr.inj b1 b2 o1 o2 p1 p2 g1 g2 m1 m2 e
    · intro x hx _ bb h1 h2
      obtain ⟨A, B, e⟩ := List.append_of_mem hx
      have := (V.told A x B e).n0
      exact if_neg (by omega)
    · intro bb o pl hg hro' hm hc
      rw [hnil] at hg
      have l := hr.dom bb o hg
      rw [show ρ1.m bb = ρ.m bb from if_pos l] at hm
      exact ⟨bb, o, pl, hg, hro', hm, rfl⟩
  have hcount : ((List.range ops.size).filter fun i => !(Array.replicate ops.size false).getD i false).length ≤ ops.size := by
    have := List.length_filter_le (fun i => !(Array.replicate ops.size false).getD i false) (List.range ops.size)
    simpa using this
  obtain ⟨S, ρ2, w2, tm2, hS, I2, sx⟩ := draw_goZ hr.ro V hN hNN ds b k cs ops.size (w.tape w.drawn (.order b.fn id)) (Array.replicate ops.size false) ρ1 w1 tm (by simp) hcount (fun i j _ hj => by
    simp only [Array.getD_eq_getD_getElem?, Array.getElem?_replicate] at hj
    split at hj <;> simp at hj) I
  have hfull : tr.filter (fun r => S r.j) = tr := List.filter_eq_self.2 hS
  have lastn : ∀ (p : DRec → Bool) x, lastR tr p = some x → x.g'.next ≤ hf.next := fun p x hx => hN x (lastR_mem hx).1
  have hcut : ρ2 = ρ2.cut hf.next := by have := I2.next; cases ρ2; simp only at this; subst this; rfl
  have hrel : Rel P ρ2 hf w2 := by
    refine ⟨I2.next, by rw [hro]; exact Nat.le_trans hr.ro hn, ?_, ?_, ?_, by rw [hro]; exact hr.gro, I2.gl⟩
    · intro bb o hg
      rw [hh] at hg
      have := (I2.heap bb o (by rw [hfull]; exact hg)).1
      rw [hfull] at this
      refine Nat.lt_of_lt_of_le this ?_
      simp only [hpN]
      split
      · rename_i x hx; exact lastn _ x hx
      · exact hn
    · intro bb o hg
      rw [hh] at hg
      obtain ⟨_, pl, hp, hc⟩ := I2.heap bb o (by rw [hfull]; exact hg)
      refine ⟨pl, hp, ?_⟩
      rw [hro]
      rw [hfull] at hc
      rw [hcut]
      refine ObjOk.cutup ?_ hc
      simp only [hpN]
      split
      · rename_i x hx; exact lastn _ x hx
      · exact hn
    · intro b1 b2 o1 o2 p1 p2 g1 g2
      rw [hh] at g1 g2
      exact I2.inj b1 b2 o1 o2 p1 p2 (by rw [hfull]; exact g1) (by rw [hfull]; exact g2)
  refine ⟨.normal, sf, hf, ρ2, w2, tm2, ds, hq, ⟨⟨by rw [I2.next, hr.next]; exact hn, fun bb hb => I2.old bb (by rw [← hr.next]; exact hb)⟩, hrel, hro, I2.os, I2.tape, I2.output, I2.wsize, I2.frame, ?_⟩, ⟨hsz.trans I2.size, fun t => ?_⟩, .refl _ _ _, ?_⟩
  · rintro c hc ⟨bb, o, pl, hg, hrb, hm, rfl⟩
    rw [hh] at hg
    exact I2.img bb o pl (by rw [hfull]; exact hg) (by rw [← hro]; exact hrb) hm hc
  · have := I2.env t
    rw [hfull] at this
    rw [hs t]
    rw [hcut]
    refine VRel.cutup ?_ this
    simp only [envN]
    split
    · rename_i x hx; exact lastn _ x hx
    · exact hn
  · refine .head fstep_region_draw ?_
    have : Region.schedule (P.follows .mixedOrders) ops (w.tape w.drawn (.order b.fn id)) = Region.linearise .any ops (w.tape w.drawn (.order b.fn id)) := by
      simp only [Region.schedule, hmix, Bool.true_or, if_true]
    rw [this]
    exact sx.trans (.one fstep_region_end)
end
end
end
end Go.Ai
