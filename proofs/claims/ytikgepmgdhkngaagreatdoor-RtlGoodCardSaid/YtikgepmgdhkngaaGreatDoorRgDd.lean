/-
  RTL: the program's word on a function.
-/
import Derived.Test.YtikgepmgdhkngaaGreatDoorRgDc
namespace Go.Rtl
open Go.Ai Go.Proofs
set_option linter.unusedVariables false
set_option linter.unusedSimpArgs false
set_option maxRecDepth 10000
/-- A call of a function value that writes nothing. -/
def FnQ (fv : Value) (h : AHeap) (x : Ins) (b : Bool) : Prop := ∀ K : Value → AHeap → Prop, K (.bool b) h → callV Tryz.prog fv [x.val] h K
theorem callV_c {g : FuncId} {c : Value} {args : List Value} {h : AHeap} {K R : Value → AHeap → Prop} (hc : callable Tryz.prog g = true) (hn : nobot args = true) (hn2 : nobot (args ++ [c]) = true) (hT : DC Tryz.prog g (args ++ [c]) h R) (hk : ∀ v h1, R v h1 → K v h1) : callV Tryz.prog (.func (.func g) #[] #[c]) args h K :=
  ⟨hn, by simpa using hn2, .inl ⟨hc, by simpa using hT.mono hk⟩⟩
section
variable {h : AHeap} {cv fv : Value} {code : List Ins} {bad : Ins → Bool}
theorem index_q (S : SliceR h cv 9 (code.map Ins.row)) (few : code.length ≤ 17592186043904) (hn : ∀ x, x ∈ code → isBot x.av = false) (hfv : isBot fv = false) (hq : ∀ x, x ∈ code → FnQ fv h x (bad x)) : DC Tryz.prog 46 [cv, fv] h (fun v h1 => (∃ n : Int, v = .int .i64 n ∧ decide (0 ≤ n) = code.any bad) ∧ h1 = h) := by
  apply X_IndexFunc_ok
  unfold X_IndexFunc
  have cn := S.nob
  have cl := S.len46 3 h
  rw [List.length_map] at cl
  simp -implicitDefEqProofs only [EE, cond_true, cond_false, nth, ↓nw, Value.cells, ↓BK, setMany, if_true, if_false, Nat.reduceAdd, Nat.reduceLeDiff, Nat.reduceMul, Nat.reduceMod, Nat.reduceDiv, Nat.reduceSub, Nat.reduceEqDiff, Int.reduceEq, Int.reduceLT, Int.reduceLE, Int.reduceAdd, Int.reduceSub, Int.reduceMul, Int.reduceNeg, Int.reduceToNat, ne_eq, sto, ldn, ld1, beq_self_eq_true, al_43, ix_46, len_46, cn, cl]
  refine LP_upQ (fun g => g = h) code.length (atB code fun x => !bad x) rfl ?_
  intro i h2 J hi hh hg hJ
  subst hh
  rcases Nat.lt_or_ge i code.length with hlt | hge
  · obtain ⟨x, hx, hm⟩ := get_some hlt
    obtain ⟨b, o, c, t, ha, hbb, hgt, hle, htk, _⟩ := S.at46 (i := i) (r := x.row) (by rw [List.getElem?_map, hx]; rfl) rfl
    have hlt' : (i : Int) < (code.length : Int) := by omega
    have hinc : IntKind.wrap .i64 ((i : Int) + 1) = ((i + 1 : Nat) : Int) := inc (by omega)
    simp -implicitDefEqProofs only [EE, cond_true, cond_false, nth, ↓nw, Value.cells, ↓BK, setMany, if_true, if_false, Nat.reduceAdd, Nat.reduceLeDiff, Nat.reduceMul, Nat.reduceMod, Nat.reduceDiv, Nat.reduceSub, Nat.reduceEqDiff, Int.reduceEq, Int.reduceLT, Int.reduceLE, Int.reduceAdd, Int.reduceSub, Int.reduceMul, Int.reduceNeg, Int.reduceToNat, ne_eq, sto, ldn, ld1, beq_self_eq_true, al_43, ix_46, len_46, X_IndexFunc_1, X_IndexFunc_2, X_IndexFunc_3, hlt', ha, hgt, hle, htk]
    refine hq x hm _ ?_
    cases hb : bad x with
    | true =>
      simp -implicitDefEqProofs only [EE, cond_true, cond_false, nth, ↓nw, Value.cells, ↓BK, setMany, if_true, if_false, Nat.reduceAdd, Nat.reduceLeDiff, Nat.reduceMul, Nat.reduceMod, Nat.reduceDiv, Nat.reduceSub, Nat.reduceEqDiff, Int.reduceEq, Int.reduceLT, Int.reduceLE, Int.reduceAdd, Int.reduceSub, Int.reduceMul, Int.reduceNeg, Int.reduceToNat, ne_eq, sto, ldn, ld1, beq_self_eq_true, al_43, ix_46, len_46, X_IndexFunc_1, X_IndexFunc_2, X_IndexFunc_3]
      refine ⟨_, rfl, ?_⟩
      rw [List.any_eq_true.2 ⟨x, hm, hb⟩]
      simp
    | false =>
      simp -implicitDefEqProofs only [EE, cond_true, cond_false, nth, ↓nw, Value.cells, ↓BK, setMany, if_true, if_false, Nat.reduceAdd, Nat.reduceLeDiff, Nat.reduceMul, Nat.reduceMod, Nat.reduceDiv, Nat.reduceSub, Nat.reduceEqDiff, Int.reduceEq, Int.reduceLT, Int.reduceLE, Int.reduceAdd, Int.reduceSub, Int.reduceMul, Int.reduceNeg, Int.reduceToNat, ne_eq, sto, ldn, ld1, beq_self_eq_true, al_43, ix_46, len_46, X_IndexFunc_1, X_IndexFunc_2, X_IndexFunc_3, hinc]
      exact hJ _ hlt (by rw [atB_of hx, hb]; rfl) rfl
  · have hlt' : ¬ (i : Int) < (code.length : Int) := by omega
    simp -implicitDefEqProofs only [EE, cond_true, cond_false, nth, ↓nw, Value.cells, ↓BK, setMany, if_true, if_false, Nat.reduceAdd, Nat.reduceLeDiff, Nat.reduceMul, Nat.reduceMod, Nat.reduceDiv, Nat.reduceSub, Nat.reduceEqDiff, Int.reduceEq, Int.reduceLT, Int.reduceLE, Int.reduceAdd, Int.reduceSub, Int.reduceMul, Int.reduceNeg, Int.reduceToNat, ne_eq, sto, ldn, ld1, beq_self_eq_true, al_43, ix_46, len_46, X_IndexFunc_3, hlt']
    refine ⟨_, rfl, ?_⟩
    have : code.all (fun x => !bad x) = true := all_of_at fun k hk => hg k (by omega)
    rw [List.all_eq_true] at this
    symm
    rw [List.any_eq_false.2 fun x hx => by have := this x hx; simpa using this]
    rfl
theorem contains_q (S : SliceR h cv 9 (code.map Ins.row)) (few : code.length ≤ 17592186043904) (hn : ∀ x, x ∈ code → isBot x.av = false) (hfv : isBot fv = false) (hq : ∀ x, x ∈ code → FnQ fv h x (bad x)) : DC Tryz.prog 29 [cv, fv] h (fun v h1 => v = .bool (code.any bad) ∧ h1 = h) := by
  apply X_ContainsFunc_ok
  unfold X_ContainsFunc
  have cn := S.nob
  refine callV_of (by kernel_rfl) (by simp -implicitDefEqProofs only [EE, cond_true, cond_false, nth, ↓nw, Value.cells, ↓BK, setMany, if_true, if_false, Nat.reduceAdd, Nat.reduceLeDiff, Nat.reduceMul, Nat.reduceMod, Nat.reduceDiv, Nat.reduceSub, Nat.reduceEqDiff, Int.reduceEq, Int.reduceLT, Int.reduceLE, Int.reduceAdd, Int.reduceSub, Int.reduceMul, Int.reduceNeg, Int.reduceToNat, ne_eq, sto, ldn, ld1, beq_self_eq_true, cn, hfv]) (index_q S few hn hfv hq) ?_
  rintro _ h1 ⟨⟨n, rfl, hn2⟩, rfl⟩
  simp -implicitDefEqProofs only [EE, cond_true, cond_false, nth, ↓nw, Value.cells, ↓BK, setMany, if_true, if_false, Nat.reduceAdd, Nat.reduceLeDiff, Nat.reduceMul, Nat.reduceMod, Nat.reduceDiv, Nat.reduceSub, Nat.reduceEqDiff, Int.reduceEq, Int.reduceLT, Int.reduceLE, Int.reduceAdd, Int.reduceSub, Int.reduceMul, Int.reduceNeg, Int.reduceToNat, ne_eq, sto, ldn, ld1, beq_self_eq_true]
  rw [hn2]
end
theorem any_not (l : List Ins) (B : Ins → Bool) : (!(l.any fun x => !B x)) = l.all B := by
  induction l with
  | nil => rfl
  | cons a l ih => simp only [List.any_cons, List.all_cons, ← ih, Bool.not_or, Bool.not_not]
theorem right1_q (f : Fn) (x : Ins) {h : AHeap} {b1 : Nat} (F : FnOk h f) (I : InsOk h x) (hb : b1 < h.next) (hg : h.get b1 = some (fcells f)) : FnQ (.func (.func 30) #[] #[.pointer (some ⟨b1, 0, none⟩)]) h x (!rInsB f x) := by
  intro K hK
  have an := I.args.nob
  have q : Quiet Tryz.prog 30 [x.val, .pointer (some ⟨b1, 0, none⟩)] h (.bool (!rInsB f x)) := by
    apply quiet_b
    replace F := F.lock
    replace I := I.lock
    have hg' : h.lock.get b1 = some (fcells f) := by rw [get_lock]; exact hg
    have hb' : b1 < h.lock.next := hb
    generalize h.lock = L at F I hg' hb'
    apply X_Right1_ok
    unfold X_Right1
    have pn := F.params.nob
    have cn := F.code.nob
    have e : Old L (L.push (xcells x)) := Old.push _ _
    have g1 := e.got hb' hg'
    have g2 : (L.push (xcells x)).get L.next = some (xcells x) := get_push_self
    have hne : ¬ b1 = L.next := by omega
    simp -implicitDefEqProofs only [EE, cond_true, cond_false, nth, ↓nw, Value.cells, ↓BK, setMany, if_true, if_false, Nat.reduceAdd, Nat.reduceLeDiff, Nat.reduceMul, Nat.reduceMod, Nat.reduceDiv, Nat.reduceSub, Nat.reduceEqDiff, Int.reduceEq, Int.reduceLT, Int.reduceLE, Int.reduceAdd, Int.reduceSub, Int.reduceMul, Int.reduceNeg, Int.reduceToNat, ne_eq, sto, ldn, ld1, beq_self_eq_true, al_43, al_48, an, hb', hg', hne]
    refine callV_q (by kernel_rfl) (by simp -implicitDefEqProofs only [EE, cond_true, cond_false, nth, ↓nw, Value.cells, ↓BK, setMany, if_true, if_false, Nat.reduceAdd, Nat.reduceLeDiff, Nat.reduceMul, Nat.reduceMod, Nat.reduceDiv, Nat.reduceSub, Nat.reduceEqDiff, Int.reduceEq, Int.reduceLT, Int.reduceLE, Int.reduceAdd, Int.reduceSub, Int.reduceMul, Int.reduceNeg, Int.reduceToNat, ne_eq, sto, ldn, ld1, beq_self_eq_true, an]) (rInstr_q f x _ ⟨F.params.cok, pn⟩ (I.old e) (F.code.old e)) ?_
    simp -implicitDefEqProofs only [EE, cond_true, cond_false, nth, ↓nw, Value.cells, ↓BK, setMany, if_true, if_false, Nat.reduceAdd, Nat.reduceLeDiff, Nat.reduceMul, Nat.reduceMod, Nat.reduceDiv, Nat.reduceSub, Nat.reduceEqDiff, Int.reduceEq, Int.reduceLT, Int.reduceLE, Int.reduceAdd, Int.reduceSub, Int.reduceMul, Int.reduceNeg, Int.reduceToNat, ne_eq, sto, ldn, ld1, beq_self_eq_true, al_43, al_48]
    rfl
  exact callV_c (by kernel_rfl) (by simp -implicitDefEqProofs only [EE, cond_true, cond_false, nth, ↓nw, Value.cells, ↓BK, setMany, if_true, if_false, Nat.reduceAdd, Nat.reduceLeDiff, Nat.reduceMul, Nat.reduceMod, Nat.reduceDiv, Nat.reduceSub, Nat.reduceEqDiff, Int.reduceEq, Int.reduceLT, Int.reduceLE, Int.reduceAdd, Int.reduceSub, Int.reduceMul, Int.reduceNeg, Int.reduceToNat, ne_eq, sto, ldn, ld1, beq_self_eq_true, an]) (by simp only [List.cons_append, List.nil_append, EE, cond_true, cond_false, nth, ↓nw, Value.cells, ↓BK, setMany, if_true, if_false, Nat.reduceAdd, Nat.reduceLeDiff, Nat.reduceMul, Nat.reduceMod, Nat.reduceDiv, Nat.reduceSub, Nat.reduceEqDiff, Int.reduceEq, Int.reduceLT, Int.reduceLE, Int.reduceAdd, Int.reduceSub, Int.reduceMul, Int.reduceNeg, Int.reduceToNat, ne_eq, sto, ldn, ld1, beq_self_eq_true, an]) q.dc (by rintro _ _ ⟨rfl, rfl⟩; exact hK)
end Go.Rtl
namespace Go.Rtl
open Go.Ai Go.Proofs
set_option linter.unusedVariables false
set_option linter.unusedSimpArgs false
set_option maxRecDepth 10000
/-- A loop that counts up; Q: what is known at each number. -/
theorem LP_upI {step : List Value → AHeap → (List Value → AHeap → Prop) → Prop} (Q : Nat → AHeap → Prop) {v : Value} (n : Nat) {h : AHeap} (h0 : Q 0 h)
    (hs : ∀ i h J, i ≤ n → Q i h → (∀ h', i < n → Q (i + 1) h' → J [v, .int .i64 ((i + 1 : Nat) : Int)] h') → step [v, .int .i64 (i : Nat)] h J) : LP step [v, .int .i64 0] h := by
  refine LP_of (fun m vs h => ∃ i, i ≤ n ∧ m = n - i ∧ vs = [v, .int .i64 (i : Nat)] ∧ Q i h) n ⟨0, Nat.zero_le _, rfl, rfl, h0⟩ ?_
  rintro m vs h ⟨i, hi, rfl, rfl, e⟩
  exact hs i h _ hi e fun h' hlt e' => ⟨n - (i + 1), by omega, i + 1, hlt, rfl, rfl, e'⟩
def bools (m : List Bool) : List Value := m.map fun b => .bool b
theorem bools_zero (n : Nat) : zcells [.bool false] n = bools (List.replicate n false) := by
  unfold zcells bools
  rw [List.map_replicate]
  apply List.ext_getElem?
  intro i
  by_cases h : i < n
  · simp [h, Nat.mod_one]
  · rw [List.getElem?_eq_none (by simp; omega), List.getElem?_eq_none (by simp; omega)]
/-- Which were met ahead of the i-th. -/
def metB (l : List Int) (i : Nat) (j : Nat) : Bool := (List.range i).any fun k => decide (l.getD k 0 = (j : Int))
structure MetI (lo : AHeap) (bm : Nat) (l : List Int) (regs : Int) (i : Nat) (h : AHeap) : Prop where
  old : Old lo h
  met : ∃ m : List Bool, m.length = regs.toNat ∧ h.get bm = some (.cells (bools m) 4) ∧ ∀ j, j < regs.toNat → m[j]? = some (metB l i j)
  pre : ∀ k, k < i → parAt l regs k = true
theorem metB_zero (l : List Int) (j : Nat) : metB l 0 j = false := rfl
theorem metB_succ (l : List Int) (i j : Nat) : metB l (i + 1) j = (metB l i j || decide (l.getD i 0 = (j : Int))) := by
  unfold metB
  rw [List.range_succ, List.any_append]
  simp
theorem met_not (l : List Int) (i : Nat) {z : Int} (hz : l.getD i 0 = z) (h0 : 0 ≤ z) : ((List.range i).all fun k => !decide (l.getD k 0 = l.getD i 0)) = !metB l i z.toNat := by
  unfold metB
  rw [hz, show ((z.toNat : Nat) : Int) = z by omega]
  induction (List.range i) with
  | nil => rfl
  | cons a t ih => simp only [List.all_cons, List.any_cons, ih, Bool.not_or]
def rRightB (f : Fn) : Bool := sizesB f && (parB f.params f.regs && f.code.all (rInsB f))
section
variable {h : AHeap} {b1 : Nat} {f : Fn} {vs : List Value} {B : Bool}
theorem rr7 (F : FnOk h f) (hb : b1 < h.next) (hg : h.get b1 = some (fcells f)) (hB : B = f.code.all (rInsB f)) : X_Right_7 (.pointer (some ⟨b1, 0, none⟩)) (isB B) vs h := by
  have cn := F.code.nob
  simp -implicitDefEqProofs only [EE, cond_true, cond_false, nth, ↓nw, Value.cells, ↓BK, setMany, if_true, if_false, Nat.reduceAdd, Nat.reduceLeDiff, Nat.reduceMul, Nat.reduceMod, Nat.reduceDiv, Nat.reduceSub, Nat.reduceEqDiff, Int.reduceEq, Int.reduceLT, Int.reduceLE, Int.reduceAdd, Int.reduceSub, Int.reduceMul, Int.reduceNeg, Int.reduceToNat, ne_eq, sto, ldn, ld1, beq_self_eq_true, al_22, al_3, al_4, al_46, as_4, fa_48_1, fa_48_2, fa_48_3, fa_48_4, fa_48_5, ix_22, ix_70, len_22, len_46, mk_70, X_Right_7, hg, List.nil_append]
  refine callV_of (by kernel_rfl) (by simp -implicitDefEqProofs only [EE, cond_true, cond_false, nth, ↓nw, Value.cells, ↓BK, setMany, if_true, if_false, Nat.reduceAdd, Nat.reduceLeDiff, Nat.reduceMul, Nat.reduceMod, Nat.reduceDiv, Nat.reduceSub, Nat.reduceEqDiff, Int.reduceEq, Int.reduceLT, Int.reduceLE, Int.reduceAdd, Int.reduceSub, Int.reduceMul, Int.reduceNeg, Int.reduceToNat, ne_eq, sto, ldn, ld1, beq_self_eq_true, cn]) (contains_q F.code (by have := F.cfew; omega) (fun x hx => (F.ins x hx).args.nob) rfl (bad := fun x => !rInsB f x) fun x hx => right1_q f x F (F.ins x hx) hb hg) ?_
  rintro _ h1 ⟨rfl, rfl⟩
  simp -implicitDefEqProofs only [EE, cond_true, cond_false, nth, ↓nw, Value.cells, ↓BK, setMany, if_true, if_false, Nat.reduceAdd, Nat.reduceLeDiff, Nat.reduceMul, Nat.reduceMod, Nat.reduceDiv, Nat.reduceSub, Nat.reduceEqDiff, Int.reduceEq, Int.reduceLT, Int.reduceLE, Int.reduceAdd, Int.reduceSub, Int.reduceMul, Int.reduceNeg, Int.reduceToNat, ne_eq, sto, ldn, ld1, beq_self_eq_true, al_22, al_3, al_4, al_46, as_4, fa_48_1, fa_48_2, fa_48_3, fa_48_4, fa_48_5, ix_22, ix_70, len_22, len_46, mk_70]
  rw [any_not, hB]; rfl
theorem rr8 (F : FnOk h f) (hro : h.ro ≤ h.next) (hb : b1 < h.next) (hg : h.get b1 = some (fcells f)) (h0 : ¬ f.regs < 0) (h5 : ¬ 5000 < f.regs) (hB : B = (parB f.params f.regs && f.code.all (rInsB f))) : X_Right_8 (.pointer (some ⟨b1, 0, none⟩)) (isB B) vs h := by
  have pn := F.params.nob
  have pl := F.params.len22 3
  have mk := mk_70 .i64 .i64 f.regs f.regs h (by omega) (Int.le_refl _) (by omega)
  have hne : ¬ b1 = h.next := by omega
  simp -implicitDefEqProofs only [EE, cond_true, cond_false, nth, ↓nw, Value.cells, ↓BK, setMany, if_true, if_false, Nat.reduceAdd, Nat.reduceLeDiff, Nat.reduceMul, Nat.reduceMod, Nat.reduceDiv, Nat.reduceSub, Nat.reduceEqDiff, Int.reduceEq, Int.reduceLT, Int.reduceLE, Int.reduceAdd, Int.reduceSub, Int.reduceMul, Int.reduceNeg, Int.reduceToNat, ne_eq, sto, ldn, ld1, beq_self_eq_true, al_22, al_3, al_4, al_46, as_4, fa_48_1, fa_48_2, fa_48_3, fa_48_4, fa_48_5, ix_22, ix_70, len_22, len_46, mk_70, X_Right_8, hg, mk, pn, pl, hb, hne, Nat.mul_one]
  rw [bools_zero]
  generalize hH : h.push (.cells (bools (List.replicate f.regs.toNat false)) 4) = H
  have e : Old h H := by subst hH; exact Old.push _ _
  have gm : H.get h.next = some (.cells (bools (List.replicate f.regs.toNat false)) 4) := by subst hH; exact get_push_self
  have nH : H.next = h.next + 1 := by subst hH; rfl
  have rH : H.ro = h.ro := by subst hH; rfl
  clear hH
  refine LP_upI (fun i g => MetI h h.next f.params f.regs i g ∧ g.next = h.next + 1) f.params.length ⟨⟨e, ⟨_, by simp, gm, fun j hj => by rw [metB_zero]; simp [hj]⟩, fun k hk => absurd hk (Nat.not_lt_zero _)⟩, nH⟩ ?_
  rintro i g J hi ⟨M, ng⟩ hJ
  obtain ⟨m, hm, gm', hmet⟩ := M.met
  have F2 := F.old M.old
  have g1 := M.old.got hb hg
  have rg : g.ro ≤ h.next := by rw [M.old.ro]; exact hro
  rcases Nat.lt_or_ge i f.params.length with hlt | hge
  · obtain ⟨z, hz, _⟩ := get_some hlt
    obtain ⟨b, o, c, t, ha, hbb, hgt, hco⟩ := F2.params.at hz
    have hlt' : (i : Int) < (f.params.length : Int) := by omega
    have hinc : IntKind.wrap .i64 ((i : Int) + 1) = ((i + 1 : Nat) : Int) := inc (by have := F.pfew; omega)
    have hgd := getD_of hz
    simp -implicitDefEqProofs only [EE, cond_true, cond_false, nth, ↓nw, Value.cells, ↓BK, setMany, if_true, if_false, Nat.reduceAdd, Nat.reduceLeDiff, Nat.reduceMul, Nat.reduceMod, Nat.reduceDiv, Nat.reduceSub, Nat.reduceEqDiff, Int.reduceEq, Int.reduceLT, Int.reduceLE, Int.reduceAdd, Int.reduceSub, Int.reduceMul, Int.reduceNeg, Int.reduceToNat, ne_eq, sto, ldn, ld1, beq_self_eq_true, al_22, al_3, al_4, al_46, as_4, fa_48_1, fa_48_2, fa_48_3, fa_48_4, fa_48_5, ix_22, ix_70, len_22, len_46, mk_70, X_Right_4, X_Right_5, X_Right_6, hlt', ha, hgt, hco, g1]
    refine callV_q (by kernel_rfl) rfl (within_q z f.regs g) ?_
    by_cases z0 : z < 0 ∨ f.regs ≤ z
    · rw [within_no z0]
      simp -implicitDefEqProofs only [EE, cond_true, cond_false, nth, ↓nw, Value.cells, ↓BK, setMany, if_true, if_false, Nat.reduceAdd, Nat.reduceLeDiff, Nat.reduceMul, Nat.reduceMod, Nat.reduceDiv, Nat.reduceSub, Nat.reduceEqDiff, Int.reduceEq, Int.reduceLT, Int.reduceLE, Int.reduceAdd, Int.reduceSub, Int.reduceMul, Int.reduceNeg, Int.reduceToNat, ne_eq, sto, ldn, ld1, beq_self_eq_true, al_22, al_3, al_4, al_46, as_4, fa_48_1, fa_48_2, fa_48_3, fa_48_4, fa_48_5, ix_22, ix_70, len_22, len_46, mk_70, X_Right_1, X_Right_2, X_Right_3]
      have : parB f.params f.regs = false := range_not hlt (by unfold parAt; rw [hgd, within_no z0]; rfl)
      rw [hB, this]; rfl
    · have z1 : ¬ z < 0 := fun q => z0 (.inl q)
      have z2 : ¬ f.regs ≤ z := fun q => z0 (.inr q)
      rw [within_yes z1 z2]
      have hzl : z.toNat < m.length := by omega
      have hix : 0 ≤ z ∧ z < ((f.regs.toNat : Nat) : Int) := by omega
      have hmz := hmet z.toNat (by omega)
      have hcell : (bools m)[z.toNat]? = some (.bool (metB f.params i z.toNat)) := by unfold bools; rw [List.getElem?_map, hmz]; rfl
      have hpar : parAt f.params f.regs i = !metB f.params i z.toNat := by
        unfold parAt
        rw [hgd, within_yes z1 z2, Bool.true_and]
        have := met_not f.params i hgd (by omega)
        rw [hgd] at this
        exact this
      cases hmb : metB f.params i z.toNat with
      | true =>
        rw [hmb] at hcell hpar
        simp -implicitDefEqProofs only [EE, cond_true, cond_false, nth, ↓nw, Value.cells, ↓BK, setMany, if_true, if_false, Nat.reduceAdd, Nat.reduceLeDiff, Nat.reduceMul, Nat.reduceMod, Nat.reduceDiv, Nat.reduceSub, Nat.reduceEqDiff, Int.reduceEq, Int.reduceLT, Int.reduceLE, Int.reduceAdd, Int.reduceSub, Int.reduceMul, Int.reduceNeg, Int.reduceToNat, ne_eq, sto, ldn, ld1, beq_self_eq_true, al_22, al_3, al_4, al_46, as_4, fa_48_1, fa_48_2, fa_48_3, fa_48_4, fa_48_5, ix_22, ix_70, len_22, len_46, mk_70, X_Right_1, X_Right_2, X_Right_3, hix, gm', Nat.mul_one, hcell]
        have : parB f.params f.regs = false := range_not hlt hpar
        rw [hB, this]; rfl
      | false =>
        rw [hmb] at hcell hpar
        have hlen : z.toNat + 1 ≤ (bools m).length := by unfold bools; rw [List.length_map]; omega
        simp -implicitDefEqProofs only [EE, cond_true, cond_false, nth, ↓nw, Value.cells, ↓BK, setMany, if_true, if_false, Nat.reduceAdd, Nat.reduceLeDiff, Nat.reduceMul, Nat.reduceMod, Nat.reduceDiv, Nat.reduceSub, Nat.reduceEqDiff, Int.reduceEq, Int.reduceLT, Int.reduceLE, Int.reduceAdd, Int.reduceSub, Int.reduceMul, Int.reduceNeg, Int.reduceToNat, ne_eq, sto, ldn, ld1, beq_self_eq_true, al_22, al_3, al_4, al_46, as_4, fa_48_1, fa_48_2, fa_48_3, fa_48_4, fa_48_5, ix_22, ix_70, len_22, len_46, mk_70, X_Right_1, X_Right_2, X_Right_3, X_Right_5, hix, gm', Nat.mul_one, hcell, hlen, rg, hinc]
        refine hJ _ hlt ⟨⟨?_, ⟨m.set z.toNat true, by rw [List.length_set]; exact hm, ?_, fun j hj => ?_⟩, fun k hk => ?_⟩, ng⟩
        · exact ⟨M.old.next, M.old.ro, fun b hb => by rw [get_set_ne (by omega)]; exact M.old.get b hb⟩
        · rw [get_set_self]; unfold bools; rw [List.map_set]
        · rw [metB_succ, hgd]
          by_cases hjz : j = z.toNat
          · subst hjz
            rw [List.getElem?_set_self (by omega), show ((z.toNat : Nat) : Int) = z by omega]
            simp
          · rw [List.getElem?_set_ne (fun q => hjz q.symm), hmet j hj, show decide (z = (j : Int)) = false from decide_eq_false (by omega), Bool.or_false]
        · rcases Nat.lt_or_ge k i with q | q
          · exact M.pre k q
          · have : k = i := by omega
            subst this; exact hpar
  · have hlt' : ¬ (i : Int) < (f.params.length : Int) := by omega
    simp -implicitDefEqProofs only [EE, cond_true, cond_false, nth, ↓nw, Value.cells, ↓BK, setMany, if_true, if_false, Nat.reduceAdd, Nat.reduceLeDiff, Nat.reduceMul, Nat.reduceMod, Nat.reduceDiv, Nat.reduceSub, Nat.reduceEqDiff, Int.reduceEq, Int.reduceLT, Int.reduceLE, Int.reduceAdd, Int.reduceSub, Int.reduceMul, Int.reduceNeg, Int.reduceToNat, ne_eq, sto, ldn, ld1, beq_self_eq_true, al_22, al_3, al_4, al_46, as_4, fa_48_1, fa_48_2, fa_48_3, fa_48_4, fa_48_5, ix_22, ix_70, len_22, len_46, mk_70, X_Right_6, hlt']
    have hp : parB f.params f.regs = true := range_all fun k hk => M.pre k (by omega)
    exact rr7 F2 (Nat.lt_of_lt_of_le hb M.old.next) g1 (by rw [hB, hp, Bool.true_and])
end
theorem right_q (f : Fn) (h : AHeap) (F : FnOk h f) : Quiet Tryz.prog 16 [f.val] h (.bool (rRightB f)) := by
  apply quiet_b
  replace F := F.lock
  generalize h.lock = L at F
  apply DC_wf; intro hwf; have hro := hwf.2
  apply X_Right_ok
  unfold X_Right
  have pn := F.params.nob
  have cn := F.code.nob
  have F1 := F.old (Old.push L (.cells f.row 48))
  have cl := F1.code.len46 3 (L.push (.cells f.row 48))
  rw [List.length_map] at cl
  unfold rRightB sizesB
  by_cases c3 : (5000 : Int) < f.code.length
  · simp -implicitDefEqProofs only [EE, cond_true, cond_false, nth, ↓nw, Value.cells, ↓BK, setMany, if_true, if_false, Nat.reduceAdd, Nat.reduceLeDiff, Nat.reduceMul, Nat.reduceMod, Nat.reduceDiv, Nat.reduceSub, Nat.reduceEqDiff, Int.reduceEq, Int.reduceLT, Int.reduceLE, Int.reduceAdd, Int.reduceSub, Int.reduceMul, Int.reduceNeg, Int.reduceToNat, ne_eq, sto, ldn, ld1, beq_self_eq_true, al_22, al_3, al_4, al_46, as_4, fa_48_1, fa_48_2, fa_48_3, fa_48_4, fa_48_5, ix_22, ix_70, len_22, len_46, mk_70, X_Right_9, X_Right_10, X_Right_11, X_Right_12, X_Right_13, X_Right_14, X_Right_15, X_Right_16, X_Right_17, X_Right_18, pn, cn, cl, c3]
    first | rfl | simp [isB, c3]
  by_cases c1 : f.regs < 0
  · simp -implicitDefEqProofs only [EE, cond_true, cond_false, nth, ↓nw, Value.cells, ↓BK, setMany, if_true, if_false, Nat.reduceAdd, Nat.reduceLeDiff, Nat.reduceMul, Nat.reduceMod, Nat.reduceDiv, Nat.reduceSub, Nat.reduceEqDiff, Int.reduceEq, Int.reduceLT, Int.reduceLE, Int.reduceAdd, Int.reduceSub, Int.reduceMul, Int.reduceNeg, Int.reduceToNat, ne_eq, sto, ldn, ld1, beq_self_eq_true, al_22, al_3, al_4, al_46, as_4, fa_48_1, fa_48_2, fa_48_3, fa_48_4, fa_48_5, ix_22, ix_70, len_22, len_46, mk_70, X_Right_9, X_Right_10, X_Right_11, X_Right_12, X_Right_13, X_Right_14, X_Right_15, X_Right_16, X_Right_17, X_Right_18, pn, cn, cl, c3, c1]
    rfl
  by_cases c2 : 5000 < f.regs
  · simp -implicitDefEqProofs only [EE, cond_true, cond_false, nth, ↓nw, Value.cells, ↓BK, setMany, if_true, if_false, Nat.reduceAdd, Nat.reduceLeDiff, Nat.reduceMul, Nat.reduceMod, Nat.reduceDiv, Nat.reduceSub, Nat.reduceEqDiff, Int.reduceEq, Int.reduceLT, Int.reduceLE, Int.reduceAdd, Int.reduceSub, Int.reduceMul, Int.reduceNeg, Int.reduceToNat, ne_eq, sto, ldn, ld1, beq_self_eq_true, al_22, al_3, al_4, al_46, as_4, fa_48_1, fa_48_2, fa_48_3, fa_48_4, fa_48_5, ix_22, ix_70, len_22, len_46, mk_70, X_Right_9, X_Right_10, X_Right_11, X_Right_12, X_Right_13, X_Right_14, X_Right_15, X_Right_16, X_Right_17, X_Right_18, pn, cn, cl, c3, c1, c2]
    rfl
  simp -implicitDefEqProofs only [EE, cond_true, cond_false, nth, ↓nw, Value.cells, ↓BK, setMany, if_true, if_false, Nat.reduceAdd, Nat.reduceLeDiff, Nat.reduceMul, Nat.reduceMod, Nat.reduceDiv, Nat.reduceSub, Nat.reduceEqDiff, Int.reduceEq, Int.reduceLT, Int.reduceLE, Int.reduceAdd, Int.reduceSub, Int.reduceMul, Int.reduceNeg, Int.reduceToNat, ne_eq, sto, ldn, ld1, beq_self_eq_true, al_22, al_3, al_4, al_46, as_4, fa_48_1, fa_48_2, fa_48_3, fa_48_4, fa_48_5, ix_22, ix_70, len_22, len_46, mk_70, X_Right_13, X_Right_14, X_Right_15, X_Right_16, X_Right_17, X_Right_18, pn, cn, cl, c3, c1, c2]
  refine callV_q (by kernel_rfl) rfl (within_q f.entry f.code.length _) ?_
  by_cases c45 : f.entry < 0 ∨ (f.code.length : Int) ≤ f.entry
  · rw [within_no c45]
    simp -implicitDefEqProofs only [EE, cond_true, cond_false, nth, ↓nw, Value.cells, ↓BK, setMany, if_true, if_false, Nat.reduceAdd, Nat.reduceLeDiff, Nat.reduceMul, Nat.reduceMod, Nat.reduceDiv, Nat.reduceSub, Nat.reduceEqDiff, Int.reduceEq, Int.reduceLT, Int.reduceLE, Int.reduceAdd, Int.reduceSub, Int.reduceMul, Int.reduceNeg, Int.reduceToNat, ne_eq, sto, ldn, ld1, beq_self_eq_true, al_22, al_3, al_4, al_46, as_4, fa_48_1, fa_48_2, fa_48_3, fa_48_4, fa_48_5, ix_22, ix_70, len_22, len_46, mk_70, X_Right_9, X_Right_10, X_Right_11, X_Right_12]
    rcases c45 with c4 | c5
    · simp [isB, c4]
    · simp [isB, c5]
  have c4 : ¬ f.entry < 0 := fun q => c45 (.inl q)
  have c5 : ¬ (f.code.length : Int) ≤ f.entry := fun q => c45 (.inr q)
  rw [within_yes c4 c5]
  by_cases c6 : f.frame < 0
  · simp -implicitDefEqProofs only [EE, cond_true, cond_false, nth, ↓nw, Value.cells, ↓BK, setMany, if_true, if_false, Nat.reduceAdd, Nat.reduceLeDiff, Nat.reduceMul, Nat.reduceMod, Nat.reduceDiv, Nat.reduceSub, Nat.reduceEqDiff, Int.reduceEq, Int.reduceLT, Int.reduceLE, Int.reduceAdd, Int.reduceSub, Int.reduceMul, Int.reduceNeg, Int.reduceToNat, ne_eq, sto, ldn, ld1, beq_self_eq_true, al_22, al_3, al_4, al_46, as_4, fa_48_1, fa_48_2, fa_48_3, fa_48_4, fa_48_5, ix_22, ix_70, len_22, len_46, mk_70, X_Right_9, X_Right_10, X_Right_11, X_Right_12, X_Right_13, pn, cn, c6]
    simp [isB]
  by_cases c7 : 65536 < f.frame
  · simp -implicitDefEqProofs only [EE, cond_true, cond_false, nth, ↓nw, Value.cells, ↓BK, setMany, if_true, if_false, Nat.reduceAdd, Nat.reduceLeDiff, Nat.reduceMul, Nat.reduceMod, Nat.reduceDiv, Nat.reduceSub, Nat.reduceEqDiff, Int.reduceEq, Int.reduceLT, Int.reduceLE, Int.reduceAdd, Int.reduceSub, Int.reduceMul, Int.reduceNeg, Int.reduceToNat, ne_eq, sto, ldn, ld1, beq_self_eq_true, al_22, al_3, al_4, al_46, as_4, fa_48_1, fa_48_2, fa_48_3, fa_48_4, fa_48_5, ix_22, ix_70, len_22, len_46, mk_70, X_Right_9, X_Right_10, X_Right_11, X_Right_12, X_Right_13, pn, cn, c6, c7]
    simp [isB]
  simp -implicitDefEqProofs only [EE, cond_true, cond_false, nth, ↓nw, Value.cells, ↓BK, setMany, if_true, if_false, Nat.reduceAdd, Nat.reduceLeDiff, Nat.reduceMul, Nat.reduceMod, Nat.reduceDiv, Nat.reduceSub, Nat.reduceEqDiff, Int.reduceEq, Int.reduceLT, Int.reduceLE, Int.reduceAdd, Int.reduceSub, Int.reduceMul, Int.reduceNeg, Int.reduceToNat, ne_eq, sto, ldn, ld1, beq_self_eq_true, al_22, al_3, al_4, al_46, as_4, fa_48_1, fa_48_2, fa_48_3, fa_48_4, fa_48_5, ix_22, ix_70, len_22, len_46, mk_70, X_Right_9, X_Right_10, X_Right_11, X_Right_12, X_Right_13, pn, cn, c6, c7]
  refine rr8 F1 (Nat.le_succ_of_le hro) (Nat.lt_succ_self _) get_push_self c1 c2 ?_
  simp only [c1, c2, c3, c4, c5, c6, c7, decide_false, Bool.not_false, Bool.true_and]
end Go.Rtl
namespace Go.Rtl
open Go.Ai Go.Proofs
set_option linter.unusedVariables false
set_option linter.unusedSimpArgs false
set_option maxRecDepth 10000
def rGoodB (p : Pg) : Bool := sizesP p && (p.globals.all globB && p.funcs.all fun f => rRightB f && f.code.all (insP p))
section
variable {h : AHeap} {b1 : Nat} {p : Pg} {f : Fn} {x : Ins} {vs : List Value} {B : Bool}
theorem rg31 (P : PgOk h p) (F : FnOk h f) (hro : h.ro ≤ h.next) (hb : b1 < h.next) (hg : h.get b1 = some (pcells p)) {i : Nat} (hx : f.code[i]? = some x) {v0 : Value} {J : List Value → AHeap → Prop}
    (hB : insP p x = false → B = false) (hJ : ∀ h', insP p x = true → Old h h' → J [v0] h') : X_rGood_31 f.cv [v0, .int .i64 (i : Nat)] h (.pointer (some ⟨b1, 0, none⟩)) (isB B) J := by
  have hm := mem_of hx
  have I := F.ins x hm
  have an := I.args.nob
  have ac := I.args.cok
  obtain ⟨b, o, c, t, ha, hbb, hgt, hle, htk, _⟩ := F.code.at46 (i := i) (r := x.row) (by rw [List.getElem?_map, hx]; rfl) rfl
  have bad : insP p x = false → ∀ h', isB B (.bool false) h' := fun q _ => by rw [hB q]; rfl
  simp -implicitDefEqProofs only [EE, cond_true, cond_false, nth, ↓nw, Value.cells, ↓BK, setMany, if_true, if_false, Nat.reduceAdd, Nat.reduceLeDiff, Nat.reduceMul, Nat.reduceMod, Nat.reduceDiv, Nat.reduceSub, Nat.reduceEqDiff, Int.reduceEq, Int.reduceLT, Int.reduceLE, Int.reduceAdd, Int.reduceSub, Int.reduceMul, Int.reduceNeg, Int.reduceToNat, ne_eq, sto, ldn, ld1, beq_self_eq_true, al_2, al_22, al_23, al_3, al_43, al_46, al_48, as_43, as_48, az_43, az_48, fa_25_0, fa_25_1, fa_25_2, fa_43_0, fa_43_1, fa_43_5, fa_43_6, fa_48_1, fa_48_5, ix_22, ix_23, ix_46, len_22, len_23, len_46, X_rGood_31, ha, hgt, hle, htk, an, ac, az_43, hro]
  generalize hH : (AHeap.push h _).set h.next _ = H
  have e : Old h H := by subst hH; exact (Old.push h _).set (Nat.le_refl _) _
  have g7 : H.get h.next = some (xcells x) := by subst hH; exact get_set_self
  have g1 := e.got hb hg
  clear hH
  have PH := P.old e
  have fn := PH.funcs.nob
  have fl := PH.funcs.len23 3
  rw [List.length_map] at fl
  have gn := PH.globals.nob
  have gl := PH.globals.len22 3
  have al := (I.args.old e).len22 3
  have fin : insP p x = true → J [v0] H := fun q => hJ H q e
  have bad' : insP p x = false → isB B (.bool false) H := fun q => bad q H
  unfold insP callOk glOk at fin bad'
  by_cases c10 : x.op = 10
  · have c8 : ¬ x.op = 8 := by omega
    simp -implicitDefEqProofs only [EE, cond_true, cond_false, nth, ↓nw, Value.cells, ↓BK, setMany, if_true, if_false, Nat.reduceAdd, Nat.reduceLeDiff, Nat.reduceMul, Nat.reduceMod, Nat.reduceDiv, Nat.reduceSub, Nat.reduceEqDiff, Int.reduceEq, Int.reduceLT, Int.reduceLE, Int.reduceAdd, Int.reduceSub, Int.reduceMul, Int.reduceNeg, Int.reduceToNat, ne_eq, sto, ldn, ld1, beq_self_eq_true, al_2, al_22, al_23, al_3, al_43, al_46, al_48, as_43, as_48, az_43, az_48, fa_25_0, fa_25_1, fa_25_2, fa_43_0, fa_43_1, fa_43_5, fa_43_6, fa_48_1, fa_48_5, ix_22, ix_23, ix_46, len_22, len_23, len_46, X_rGood_28, X_rGood_29, X_rGood_30, g1, g7, fn, fl, c10]
    simp -implicitDefEqProofs only [EE, cond_true, cond_false, nth, ↓nw, Value.cells, ↓BK, setMany, if_true, if_false, Nat.reduceAdd, Nat.reduceLeDiff, Nat.reduceMul, Nat.reduceMod, Nat.reduceDiv, Nat.reduceSub, Nat.reduceEqDiff, Int.reduceEq, Int.reduceLT, Int.reduceLE, Int.reduceAdd, Int.reduceSub, Int.reduceMul, Int.reduceNeg, Int.reduceToNat, ne_eq, sto, ldn, ld1, beq_self_eq_true, al_2, al_22, al_23, al_3, al_43, al_46, al_48, as_43, as_48, az_43, az_48, fa_25_0, fa_25_1, fa_25_2, fa_43_0, fa_43_1, fa_43_5, fa_43_6, fa_48_1, fa_48_5, ix_22, ix_23, ix_46, len_22, len_23, len_46, X_rGood_27]
    refine callD_of (by kernel_rfl) rfl (within_q x.sub p.funcs.length H).dc ?_
    rintro _ _ ⟨rfl, rfl⟩
    by_cases s01 : x.sub < 0 ∨ (p.funcs.length : Int) ≤ x.sub
    · rw [within_no s01]
      simp -implicitDefEqProofs only [EE, cond_true, cond_false, nth, ↓nw, Value.cells, ↓BK, setMany, if_true, if_false, Nat.reduceAdd, Nat.reduceLeDiff, Nat.reduceMul, Nat.reduceMod, Nat.reduceDiv, Nat.reduceSub, Nat.reduceEqDiff, Int.reduceEq, Int.reduceLT, Int.reduceLE, Int.reduceAdd, Int.reduceSub, Int.reduceMul, Int.reduceNeg, Int.reduceToNat, ne_eq, sto, ldn, ld1, beq_self_eq_true, al_2, al_22, al_23, al_3, al_43, al_46, al_48, as_43, as_48, az_43, az_48, fa_25_0, fa_25_1, fa_25_2, fa_43_0, fa_43_1, fa_43_5, fa_43_6, fa_48_1, fa_48_5, ix_22, ix_23, ix_46, len_22, len_23, len_46, X_rGood_6, X_rGood_7, X_rGood_8, X_rGood_9, X_rGood_10, X_rGood_11, X_rGood_12, X_rGood_13, X_rGood_14, X_rGood_15, X_rGood_16, X_rGood_17, X_rGood_18, X_rGood_19, X_rGood_20, X_rGood_21, X_rGood_22, X_rGood_23, X_rGood_24, X_rGood_25, X_rGood_26, X_rGood_27, X_rGood_28, X_rGood_29, X_rGood_30, g7, c10]
      exact bad' (by rw [within_no s01]; simp [c10])
    have s0 : ¬ x.sub < 0 := fun q => s01 (.inl q)
    have s1 : ¬ (p.funcs.length : Int) ≤ x.sub := fun q => s01 (.inr q)
    rw [within_yes s0 s1]
    obtain ⟨g, hgf, hgm⟩ := get_some (l := p.funcs) (k := x.sub.toNat) (by omega)
    obtain ⟨b', o', c', t', ha', hbb', hgt', hle', htk', hk'⟩ := PH.funcs.at23 (i := x.sub.toNat) (r := g.row) (by rw [List.getElem?_map, hgf]; rfl) rfl
    rw [nat_of s0] at ha'
    have hk1 : c'[o' + 1]? = some g.pv := hk' 1 (by omega)
    have pn := (PH.fns g hgm).params.nob
    have pl := (PH.fns g hgm).params.len22 3
    have hpa : parsAt p x.sub = g.params.length := by simp only [parsAt, hgf]
    by_cases s2 : (g.params.length : Int) = x.args.length
    · simp -implicitDefEqProofs only [EE, cond_true, cond_false, nth, ↓nw, Value.cells, ↓BK, setMany, if_true, if_false, Nat.reduceAdd, Nat.reduceLeDiff, Nat.reduceMul, Nat.reduceMod, Nat.reduceDiv, Nat.reduceSub, Nat.reduceEqDiff, Int.reduceEq, Int.reduceLT, Int.reduceLE, Int.reduceAdd, Int.reduceSub, Int.reduceMul, Int.reduceNeg, Int.reduceToNat, ne_eq, sto, ldn, ld1, beq_self_eq_true, al_2, al_22, al_23, al_3, al_43, al_46, al_48, as_43, as_48, az_43, az_48, fa_25_0, fa_25_1, fa_25_2, fa_43_0, fa_43_1, fa_43_5, fa_43_6, fa_48_1, fa_48_5, ix_22, ix_23, ix_46, len_22, len_23, len_46, X_rGood_6, X_rGood_7, X_rGood_8, X_rGood_9, X_rGood_10, X_rGood_11, X_rGood_12, X_rGood_13, X_rGood_14, X_rGood_15, X_rGood_16, X_rGood_17, X_rGood_18, X_rGood_19, X_rGood_20, X_rGood_21, X_rGood_22, X_rGood_23, X_rGood_24, X_rGood_25, X_rGood_26, X_rGood_27, X_rGood_28, X_rGood_29, X_rGood_30, g1, g7, fn, fl, an, al, ha', hgt', hk1, pn, pl, c10, s2]
      exact fin (by rw [within_yes s0 s1, hpa]; simp [c10, s2])
    · simp -implicitDefEqProofs only [EE, cond_true, cond_false, nth, ↓nw, Value.cells, ↓BK, setMany, if_true, if_false, Nat.reduceAdd, Nat.reduceLeDiff, Nat.reduceMul, Nat.reduceMod, Nat.reduceDiv, Nat.reduceSub, Nat.reduceEqDiff, Int.reduceEq, Int.reduceLT, Int.reduceLE, Int.reduceAdd, Int.reduceSub, Int.reduceMul, Int.reduceNeg, Int.reduceToNat, ne_eq, sto, ldn, ld1, beq_self_eq_true, al_2, al_22, al_23, al_3, al_43, al_46, al_48, as_43, as_48, az_43, az_48, fa_25_0, fa_25_1, fa_25_2, fa_43_0, fa_43_1, fa_43_5, fa_43_6, fa_48_1, fa_48_5, ix_22, ix_23, ix_46, len_22, len_23, len_46, X_rGood_6, X_rGood_7, X_rGood_8, X_rGood_9, X_rGood_10, X_rGood_11, X_rGood_12, X_rGood_13, X_rGood_14, X_rGood_15, X_rGood_16, X_rGood_17, X_rGood_18, X_rGood_19, X_rGood_20, X_rGood_21, X_rGood_22, X_rGood_23, X_rGood_24, X_rGood_25, X_rGood_26, X_rGood_27, X_rGood_28, X_rGood_29, X_rGood_30, g1, g7, fn, fl, an, al, ha', hgt', hk1, pn, pl, c10, s2]
      exact bad' (by rw [within_yes s0 s1, hpa]; simp [c10, s2])
  by_cases c8 : x.op = 8
  · simp -implicitDefEqProofs only [EE, cond_true, cond_false, nth, ↓nw, Value.cells, ↓BK, setMany, if_true, if_false, Nat.reduceAdd, Nat.reduceLeDiff, Nat.reduceMul, Nat.reduceMod, Nat.reduceDiv, Nat.reduceSub, Nat.reduceEqDiff, Int.reduceEq, Int.reduceLT, Int.reduceLE, Int.reduceAdd, Int.reduceSub, Int.reduceMul, Int.reduceNeg, Int.reduceToNat, ne_eq, sto, ldn, ld1, beq_self_eq_true, al_2, al_22, al_23, al_3, al_43, al_46, al_48, as_43, as_48, az_43, az_48, fa_25_0, fa_25_1, fa_25_2, fa_43_0, fa_43_1, fa_43_5, fa_43_6, fa_48_1, fa_48_5, ix_22, ix_23, ix_46, len_22, len_23, len_46, X_rGood_16, X_rGood_17, X_rGood_18, X_rGood_19, X_rGood_20, X_rGood_21, X_rGood_22, X_rGood_23, X_rGood_24, X_rGood_25, X_rGood_26, X_rGood_27, X_rGood_28, X_rGood_29, X_rGood_30, g1, g7, gn, gl, c10, c8]
    refine callD_of (by kernel_rfl) rfl (within_q x.sub p.globals.length H).dc ?_
    rintro _ _ ⟨rfl, rfl⟩
    by_cases s01 : x.sub < 0 ∨ (p.globals.length : Int) ≤ x.sub
    · rw [within_no s01]
      simp -implicitDefEqProofs only [EE, cond_true, cond_false, nth, ↓nw, Value.cells, ↓BK, setMany, if_true, if_false, Nat.reduceAdd, Nat.reduceLeDiff, Nat.reduceMul, Nat.reduceMod, Nat.reduceDiv, Nat.reduceSub, Nat.reduceEqDiff, Int.reduceEq, Int.reduceLT, Int.reduceLE, Int.reduceAdd, Int.reduceSub, Int.reduceMul, Int.reduceNeg, Int.reduceToNat, ne_eq, sto, ldn, ld1, beq_self_eq_true, al_2, al_22, al_23, al_3, al_43, al_46, al_48, as_43, as_48, az_43, az_48, fa_25_0, fa_25_1, fa_25_2, fa_43_0, fa_43_1, fa_43_5, fa_43_6, fa_48_1, fa_48_5, ix_22, ix_23, ix_46, len_22, len_23, len_46, X_rGood_6, X_rGood_7, X_rGood_8, X_rGood_9, X_rGood_10, X_rGood_11, X_rGood_12, X_rGood_13, X_rGood_14, X_rGood_15, g7, c8]
      exact bad' (by rw [within_no (m := p.globals.length) s01]; simp [c8])
    have s0 : ¬ x.sub < 0 := fun q => s01 (.inl q)
    have s1 : ¬ (p.globals.length : Int) ≤ x.sub := fun q => s01 (.inr q)
    rw [within_yes s0 s1]
    by_cases s2 : x.k < 0
    · simp -implicitDefEqProofs only [EE, cond_true, cond_false, nth, ↓nw, Value.cells, ↓BK, setMany, if_true, if_false, Nat.reduceAdd, Nat.reduceLeDiff, Nat.reduceMul, Nat.reduceMod, Nat.reduceDiv, Nat.reduceSub, Nat.reduceEqDiff, Int.reduceEq, Int.reduceLT, Int.reduceLE, Int.reduceAdd, Int.reduceSub, Int.reduceMul, Int.reduceNeg, Int.reduceToNat, ne_eq, sto, ldn, ld1, beq_self_eq_true, al_2, al_22, al_23, al_3, al_43, al_46, al_48, as_43, as_48, az_43, az_48, fa_25_0, fa_25_1, fa_25_2, fa_43_0, fa_43_1, fa_43_5, fa_43_6, fa_48_1, fa_48_5, ix_22, ix_23, ix_46, len_22, len_23, len_46, X_rGood_6, X_rGood_7, X_rGood_8, X_rGood_9, X_rGood_10, X_rGood_11, X_rGood_12, X_rGood_13, X_rGood_14, X_rGood_15, g1, g7, gn, c8, s2]
      exact bad' (by rw [within_yes s0 s1]; simp [c8, s2])
    obtain ⟨z, hz, _⟩ := get_some (l := p.globals) (k := x.sub.toNat) (by omega)
    obtain ⟨b', o', c', t', ha', hbb', hgt', hco'⟩ := PH.globals.at hz
    rw [nat_of s0] at ha'
    have hgd := getD_of hz
    by_cases s3 : z < x.k
    · simp -implicitDefEqProofs only [EE, cond_true, cond_false, nth, ↓nw, Value.cells, ↓BK, setMany, if_true, if_false, Nat.reduceAdd, Nat.reduceLeDiff, Nat.reduceMul, Nat.reduceMod, Nat.reduceDiv, Nat.reduceSub, Nat.reduceEqDiff, Int.reduceEq, Int.reduceLT, Int.reduceLE, Int.reduceAdd, Int.reduceSub, Int.reduceMul, Int.reduceNeg, Int.reduceToNat, ne_eq, sto, ldn, ld1, beq_self_eq_true, al_2, al_22, al_23, al_3, al_43, al_46, al_48, as_43, as_48, az_43, az_48, fa_25_0, fa_25_1, fa_25_2, fa_43_0, fa_43_1, fa_43_5, fa_43_6, fa_48_1, fa_48_5, ix_22, ix_23, ix_46, len_22, len_23, len_46, X_rGood_6, X_rGood_7, X_rGood_8, X_rGood_9, X_rGood_10, X_rGood_11, X_rGood_12, X_rGood_13, X_rGood_14, X_rGood_15, g1, g7, gn, ha', hgt', hco', c8, s2, s3]
      exact bad' (by rw [within_yes s0 s1, hgd]; simp [c8, s3])
    · simp -implicitDefEqProofs only [EE, cond_true, cond_false, nth, ↓nw, Value.cells, ↓BK, setMany, if_true, if_false, Nat.reduceAdd, Nat.reduceLeDiff, Nat.reduceMul, Nat.reduceMod, Nat.reduceDiv, Nat.reduceSub, Nat.reduceEqDiff, Int.reduceEq, Int.reduceLT, Int.reduceLE, Int.reduceAdd, Int.reduceSub, Int.reduceMul, Int.reduceNeg, Int.reduceToNat, ne_eq, sto, ldn, ld1, beq_self_eq_true, al_2, al_22, al_23, al_3, al_43, al_46, al_48, as_43, as_48, az_43, az_48, fa_25_0, fa_25_1, fa_25_2, fa_43_0, fa_43_1, fa_43_5, fa_43_6, fa_48_1, fa_48_5, ix_22, ix_23, ix_46, len_22, len_23, len_46, X_rGood_6, X_rGood_7, X_rGood_8, X_rGood_9, X_rGood_10, X_rGood_11, X_rGood_12, X_rGood_13, X_rGood_14, X_rGood_15, g1, g7, gn, ha', hgt', hco', c8, s2, s3]
      exact fin (by rw [within_yes s0 s1, hgd]; simp [c8, s2, s3])
  simp -implicitDefEqProofs only [EE, cond_true, cond_false, nth, ↓nw, Value.cells, ↓BK, setMany, if_true, if_false, Nat.reduceAdd, Nat.reduceLeDiff, Nat.reduceMul, Nat.reduceMod, Nat.reduceDiv, Nat.reduceSub, Nat.reduceEqDiff, Int.reduceEq, Int.reduceLT, Int.reduceLE, Int.reduceAdd, Int.reduceSub, Int.reduceMul, Int.reduceNeg, Int.reduceToNat, ne_eq, sto, ldn, ld1, beq_self_eq_true, al_2, al_22, al_23, al_3, al_43, al_46, al_48, as_43, as_48, az_43, az_48, fa_25_0, fa_25_1, fa_25_2, fa_43_0, fa_43_1, fa_43_5, fa_43_6, fa_48_1, fa_48_5, ix_22, ix_23, ix_46, len_22, len_23, len_46, X_rGood_6, X_rGood_7, X_rGood_8, X_rGood_9, X_rGood_10, X_rGood_11, X_rGood_12, X_rGood_13, X_rGood_14, X_rGood_15, X_rGood_16, X_rGood_17, X_rGood_18, X_rGood_19, X_rGood_20, X_rGood_21, X_rGood_22, X_rGood_23, X_rGood_24, X_rGood_25, X_rGood_26, X_rGood_27, X_rGood_28, X_rGood_29, X_rGood_30, g7, c10, c8]
  exact fin (by simp [c10, c8])
theorem rg38 (P : PgOk h p) (hro : h.ro ≤ h.next) (hb : b1 < h.next) (hg : h.get b1 = some (pcells p)) (hB : B = p.funcs.all fun f => rRightB f && f.code.all (insP p)) :
    X_rGood_38 (.pointer (some ⟨b1, 0, none⟩)) (isB B) vs h := by
  have fn := P.funcs.nob
  have fl := P.funcs.len23 3
  rw [List.length_map] at fl
  simp -implicitDefEqProofs only [EE, cond_true, cond_false, nth, ↓nw, Value.cells, ↓BK, setMany, if_true, if_false, Nat.reduceAdd, Nat.reduceLeDiff, Nat.reduceMul, Nat.reduceMod, Nat.reduceDiv, Nat.reduceSub, Nat.reduceEqDiff, Int.reduceEq, Int.reduceLT, Int.reduceLE, Int.reduceAdd, Int.reduceSub, Int.reduceMul, Int.reduceNeg, Int.reduceToNat, ne_eq, sto, ldn, ld1, beq_self_eq_true, al_2, al_22, al_23, al_3, al_43, al_46, al_48, as_43, as_48, az_43, az_48, fa_25_0, fa_25_1, fa_25_2, fa_43_0, fa_43_1, fa_43_5, fa_43_6, fa_48_1, fa_48_5, ix_22, ix_23, ix_46, len_22, len_23, len_46, X_rGood_38, hg, fn, fl]
  refine LP_up2 (lo := h) p.funcs.length (atB p.funcs fun f => rRightB f && f.code.all (insP p)) (.refl h) ?_
  intro i h2 J hi e2 hq hJ
  have g2 := e2.got hb hg
  have P2 := P.old e2
  have hro2 : h2.ro ≤ h2.next := by rw [e2.ro]; exact Nat.le_trans hro e2.next
  rcases Nat.lt_or_ge i p.funcs.length with hlt | hge
  · obtain ⟨f, hf, hm⟩ := get_some hlt
    obtain ⟨b, o, c, t, ha, hbb, hgt, hle, htk, _⟩ := P2.funcs.at23 (i := i) (r := f.row) (by rw [List.getElem?_map, hf]; rfl) rfl
    have hlt' : (i : Int) < (p.funcs.length : Int) := by omega
    have hinc : IntKind.wrap .i64 ((i : Int) + 1) = ((i + 1 : Nat) : Int) := inc (by have := P.ffew; omega)
    have F2 := P2.fns f hm
    have pn := F2.params.nob
    have pc := F2.params.cok
    have cn := F2.code.nob
    have cc := F2.code.cok
    simp -implicitDefEqProofs only [EE, cond_true, cond_false, nth, ↓nw, Value.cells, ↓BK, setMany, if_true, if_false, Nat.reduceAdd, Nat.reduceLeDiff, Nat.reduceMul, Nat.reduceMod, Nat.reduceDiv, Nat.reduceSub, Nat.reduceEqDiff, Int.reduceEq, Int.reduceLT, Int.reduceLE, Int.reduceAdd, Int.reduceSub, Int.reduceMul, Int.reduceNeg, Int.reduceToNat, ne_eq, sto, ldn, ld1, beq_self_eq_true, al_2, al_22, al_23, al_3, al_43, al_46, al_48, as_43, as_48, az_43, az_48, fa_25_0, fa_25_1, fa_25_2, fa_43_0, fa_43_1, fa_43_5, fa_43_6, fa_48_1, fa_48_5, ix_22, ix_23, ix_46, len_22, len_23, len_46, X_rGood_35, X_rGood_36, X_rGood_37, hlt', ha, hgt, hle, htk, pn, pc, cn, cc, az_48, hro2]
    generalize hH : (AHeap.push h2 _).set h2.next _ = H
    have e3 : Old h2 H := by subst hH; exact (Old.push h2 _).set (Nat.le_refl _) _
    have g5 : H.get h2.next = some (fcells f) := by subst hH; exact get_set_self
    have n5 : h2.next < H.next := by subst hH; exact Nat.lt_succ_self _
    have roH : H.ro ≤ H.next := by rw [e3.ro]; exact Nat.le_trans hro2 e3.next
    clear hH
    have FH := F2.old e3
    simp -implicitDefEqProofs only [EE, cond_true, cond_false, nth, ↓nw, Value.cells, ↓BK, setMany, if_true, if_false, Nat.reduceAdd, Nat.reduceLeDiff, Nat.reduceMul, Nat.reduceMod, Nat.reduceDiv, Nat.reduceSub, Nat.reduceEqDiff, Int.reduceEq, Int.reduceLT, Int.reduceLE, Int.reduceAdd, Int.reduceSub, Int.reduceMul, Int.reduceNeg, Int.reduceToNat, ne_eq, sto, ldn, ld1, beq_self_eq_true, al_2, al_22, al_23, al_3, al_43, al_46, al_48, as_43, as_48, az_43, az_48, fa_25_0, fa_25_1, fa_25_2, fa_43_0, fa_43_1, fa_43_5, fa_43_6, fa_48_1, fa_48_5, ix_22, ix_23, ix_46, len_22, len_23, len_46, g5]
    refine callV_q (by kernel_rfl) (by simp -implicitDefEqProofs only [EE, cond_true, cond_false, nth, ↓nw, Value.cells, ↓BK, setMany, if_true, if_false, Nat.reduceAdd, Nat.reduceLeDiff, Nat.reduceMul, Nat.reduceMod, Nat.reduceDiv, Nat.reduceSub, Nat.reduceEqDiff, Int.reduceEq, Int.reduceLT, Int.reduceLE, Int.reduceAdd, Int.reduceSub, Int.reduceMul, Int.reduceNeg, Int.reduceToNat, ne_eq, sto, ldn, ld1, beq_self_eq_true, pn, cn]) (right_q f H FH) ?_
    cases hR : rRightB f with
    | false =>
      simp -implicitDefEqProofs only [EE, cond_true, cond_false, nth, ↓nw, Value.cells, ↓BK, setMany, if_true, if_false, Nat.reduceAdd, Nat.reduceLeDiff, Nat.reduceMul, Nat.reduceMod, Nat.reduceDiv, Nat.reduceSub, Nat.reduceEqDiff, Int.reduceEq, Int.reduceLT, Int.reduceLE, Int.reduceAdd, Int.reduceSub, Int.reduceMul, Int.reduceNeg, Int.reduceToNat, ne_eq, sto, ldn, ld1, beq_self_eq_true, al_2, al_22, al_23, al_3, al_43, al_46, al_48, as_43, as_48, az_43, az_48, fa_25_0, fa_25_1, fa_25_2, fa_43_0, fa_43_1, fa_43_5, fa_43_6, fa_48_1, fa_48_5, ix_22, ix_23, ix_46, len_22, len_23, len_46]
      rw [hB, not_all (B := fun f => rRightB f && f.code.all (insP p)) hf (by rw [hR]; rfl)]; rfl
    | true =>
      have cl := FH.code.len46 3
      rw [List.length_map] at cl
      simp -implicitDefEqProofs only [EE, cond_true, cond_false, nth, ↓nw, Value.cells, ↓BK, setMany, if_true, if_false, Nat.reduceAdd, Nat.reduceLeDiff, Nat.reduceMul, Nat.reduceMod, Nat.reduceDiv, Nat.reduceSub, Nat.reduceEqDiff, Int.reduceEq, Int.reduceLT, Int.reduceLE, Int.reduceAdd, Int.reduceSub, Int.reduceMul, Int.reduceNeg, Int.reduceToNat, ne_eq, sto, ldn, ld1, beq_self_eq_true, al_2, al_22, al_23, al_3, al_43, al_46, al_48, as_43, as_48, az_43, az_48, fa_25_0, fa_25_1, fa_25_2, fa_43_0, fa_43_1, fa_43_5, fa_43_6, fa_48_1, fa_48_5, ix_22, ix_23, ix_46, len_22, len_23, len_46, X_rGood_34, g5, cn, cl]
      refine LP_up2 (lo := H) f.code.length (atB f.code (insP p)) (.refl H) ?_
      intro k h3 J3 hk e4 hq3 hJ3
      have F3 := FH.old e4
      have P3 := P2.old (e3.trans e4)
      have g3 := (e2.trans (e3.trans e4)).got hb hg
      have hro3 : h3.ro ≤ h3.next := by rw [e4.ro]; exact Nat.le_trans roH e4.next
      rcases Nat.lt_or_ge k f.code.length with hlk | hgk
      · obtain ⟨x, hx, hmx⟩ := get_some hlk
        have hlk' : (k : Int) < (f.code.length : Int) := by omega
        have hinc3 : IntKind.wrap .i64 ((k : Int) + 1) = ((k + 1 : Nat) : Int) := inc (by have := F2.cfew; omega)
        simp -implicitDefEqProofs only [EE, cond_true, cond_false, nth, ↓nw, Value.cells, ↓BK, setMany, if_true, if_false, Nat.reduceAdd, Nat.reduceLeDiff, Nat.reduceMul, Nat.reduceMod, Nat.reduceDiv, Nat.reduceSub, Nat.reduceEqDiff, Int.reduceEq, Int.reduceLT, Int.reduceLE, Int.reduceAdd, Int.reduceSub, Int.reduceMul, Int.reduceNeg, Int.reduceToNat, ne_eq, sto, ldn, ld1, beq_self_eq_true, al_2, al_22, al_23, al_3, al_43, al_46, al_48, as_43, as_48, az_43, az_48, fa_25_0, fa_25_1, fa_25_2, fa_43_0, fa_43_1, fa_43_5, fa_43_6, fa_48_1, fa_48_5, ix_22, ix_23, ix_46, len_22, len_23, len_46, X_rGood_33, hlk']
        refine rg31 P3 F3 hro3 (Nat.lt_of_lt_of_le hb (e2.trans (e3.trans e4)).next) g3 hx (fun q => ?_) fun h' q e5 => ?_
        · rw [hB, not_all (B := fun f => rRightB f && f.code.all (insP p)) hf (by rw [not_all hx q, Bool.and_false])]
        · simp -implicitDefEqProofs only [EE, cond_true, cond_false, nth, ↓nw, Value.cells, ↓BK, setMany, if_true, if_false, Nat.reduceAdd, Nat.reduceLeDiff, Nat.reduceMul, Nat.reduceMod, Nat.reduceDiv, Nat.reduceSub, Nat.reduceEqDiff, Int.reduceEq, Int.reduceLT, Int.reduceLE, Int.reduceAdd, Int.reduceSub, Int.reduceMul, Int.reduceNeg, Int.reduceToNat, ne_eq, sto, ldn, ld1, beq_self_eq_true, al_2, al_22, al_23, al_3, al_43, al_46, al_48, as_43, as_48, az_43, az_48, fa_25_0, fa_25_1, fa_25_2, fa_43_0, fa_43_1, fa_43_5, fa_43_6, fa_48_1, fa_48_5, ix_22, ix_23, ix_46, len_22, len_23, len_46, X_rGood_32, hinc3]
          exact hJ3 _ hlk (by rw [atB_of hx]; exact q) (e4.trans e5)
      · have hlk' : ¬ (k : Int) < (f.code.length : Int) := by omega
        simp -implicitDefEqProofs only [EE, cond_true, cond_false, nth, ↓nw, Value.cells, ↓BK, setMany, if_true, if_false, Nat.reduceAdd, Nat.reduceLeDiff, Nat.reduceMul, Nat.reduceMod, Nat.reduceDiv, Nat.reduceSub, Nat.reduceEqDiff, Int.reduceEq, Int.reduceLT, Int.reduceLE, Int.reduceAdd, Int.reduceSub, Int.reduceMul, Int.reduceNeg, Int.reduceToNat, ne_eq, sto, ldn, ld1, beq_self_eq_true, al_2, al_22, al_23, al_3, al_43, al_46, al_48, as_43, as_48, az_43, az_48, fa_25_0, fa_25_1, fa_25_2, fa_43_0, fa_43_1, fa_43_5, fa_43_6, fa_48_1, fa_48_5, ix_22, ix_23, ix_46, len_22, len_23, len_46, X_rGood_33, X_rGood_36, hlk', hinc]
        refine hJ _ hlt ?_ (e2.trans (e3.trans e4))
        rw [atB_of hf, hR, Bool.true_and]
        exact all_of_at fun k' hk' => hq3 k' (by omega)
  · have hlt' : ¬ (i : Int) < (p.funcs.length : Int) := by omega
    simp -implicitDefEqProofs only [EE, cond_true, cond_false, nth, ↓nw, Value.cells, ↓BK, setMany, if_true, if_false, Nat.reduceAdd, Nat.reduceLeDiff, Nat.reduceMul, Nat.reduceMod, Nat.reduceDiv, Nat.reduceSub, Nat.reduceEqDiff, Int.reduceEq, Int.reduceLT, Int.reduceLE, Int.reduceAdd, Int.reduceSub, Int.reduceMul, Int.reduceNeg, Int.reduceToNat, ne_eq, sto, ldn, ld1, beq_self_eq_true, al_2, al_22, al_23, al_3, al_43, al_46, al_48, as_43, as_48, az_43, az_48, fa_25_0, fa_25_1, fa_25_2, fa_43_0, fa_43_1, fa_43_5, fa_43_6, fa_48_1, fa_48_5, ix_22, ix_23, ix_46, len_22, len_23, len_46, X_rGood_37, hlt']
    have : (p.funcs.all fun f => rRightB f && f.code.all (insP p)) = true := all_of_at fun k hk => hq k (by omega)
    rw [hB, this]; rfl
theorem rg39 (P : PgOk h p) (hro : h.ro ≤ h.next) (hb : b1 < h.next) (hg : h.get b1 = some (pcells p)) (hB : B = (p.globals.all globB && p.funcs.all fun f => rRightB f && f.code.all (insP p))) :
    X_rGood_39 (.pointer (some ⟨b1, 0, none⟩)) (isB B) vs h := by
  have gn := P.globals.nob
  have gl := P.globals.len22 3
  simp -implicitDefEqProofs only [EE, cond_true, cond_false, nth, ↓nw, Value.cells, ↓BK, setMany, if_true, if_false, Nat.reduceAdd, Nat.reduceLeDiff, Nat.reduceMul, Nat.reduceMod, Nat.reduceDiv, Nat.reduceSub, Nat.reduceEqDiff, Int.reduceEq, Int.reduceLT, Int.reduceLE, Int.reduceAdd, Int.reduceSub, Int.reduceMul, Int.reduceNeg, Int.reduceToNat, ne_eq, sto, ldn, ld1, beq_self_eq_true, al_2, al_22, al_23, al_3, al_43, al_46, al_48, as_43, as_48, az_43, az_48, fa_25_0, fa_25_1, fa_25_2, fa_43_0, fa_43_1, fa_43_5, fa_43_6, fa_48_1, fa_48_5, ix_22, ix_23, ix_46, len_22, len_23, len_46, X_rGood_39, hg, gn, gl]
  refine LP_up2 (lo := h) p.globals.length (atB p.globals globB) (.refl h) ?_
  intro i h2 J hi e2 hq hJ
  have g2 := e2.got hb hg
  have P2 := P.old e2
  rcases Nat.lt_or_ge i p.globals.length with hlt | hge
  · obtain ⟨z, hz, _⟩ := get_some hlt
    obtain ⟨b, o, c, t, ha, hbb, hgt, hco⟩ := P2.globals.at hz
    have hlt' : (i : Int) < (p.globals.length : Int) := by omega
    have hinc : IntKind.wrap .i64 ((i : Int) + 1) = ((i + 1 : Nat) : Int) := inc (by have := P.gfew; omega)
    by_cases z0 : z < 0
    · simp -implicitDefEqProofs only [EE, cond_true, cond_false, nth, ↓nw, Value.cells, ↓BK, setMany, if_true, if_false, Nat.reduceAdd, Nat.reduceLeDiff, Nat.reduceMul, Nat.reduceMod, Nat.reduceDiv, Nat.reduceSub, Nat.reduceEqDiff, Int.reduceEq, Int.reduceLT, Int.reduceLE, Int.reduceAdd, Int.reduceSub, Int.reduceMul, Int.reduceNeg, Int.reduceToNat, ne_eq, sto, ldn, ld1, beq_self_eq_true, al_2, al_22, al_23, al_3, al_43, al_46, al_48, as_43, as_48, az_43, az_48, fa_25_0, fa_25_1, fa_25_2, fa_43_0, fa_43_1, fa_43_5, fa_43_6, fa_48_1, fa_48_5, ix_22, ix_23, ix_46, len_22, len_23, len_46, X_rGood_1, X_rGood_2, X_rGood_3, X_rGood_4, X_rGood_5, hlt', ha, hgt, hco, z0]
      rw [hB, not_all (B := globB) hz (by simp [globB, z0])]; rfl
    by_cases z1 : 65536 < z
    · simp -implicitDefEqProofs only [EE, cond_true, cond_false, nth, ↓nw, Value.cells, ↓BK, setMany, if_true, if_false, Nat.reduceAdd, Nat.reduceLeDiff, Nat.reduceMul, Nat.reduceMod, Nat.reduceDiv, Nat.reduceSub, Nat.reduceEqDiff, Int.reduceEq, Int.reduceLT, Int.reduceLE, Int.reduceAdd, Int.reduceSub, Int.reduceMul, Int.reduceNeg, Int.reduceToNat, ne_eq, sto, ldn, ld1, beq_self_eq_true, al_2, al_22, al_23, al_3, al_43, al_46, al_48, as_43, as_48, az_43, az_48, fa_25_0, fa_25_1, fa_25_2, fa_43_0, fa_43_1, fa_43_5, fa_43_6, fa_48_1, fa_48_5, ix_22, ix_23, ix_46, len_22, len_23, len_46, X_rGood_1, X_rGood_2, X_rGood_3, X_rGood_4, X_rGood_5, hlt', ha, hgt, hco, z0, z1]
      rw [hB, not_all (B := globB) hz (by simp [globB, z1])]; rfl
    simp -implicitDefEqProofs only [EE, cond_true, cond_false, nth, ↓nw, Value.cells, ↓BK, setMany, if_true, if_false, Nat.reduceAdd, Nat.reduceLeDiff, Nat.reduceMul, Nat.reduceMod, Nat.reduceDiv, Nat.reduceSub, Nat.reduceEqDiff, Int.reduceEq, Int.reduceLT, Int.reduceLE, Int.reduceAdd, Int.reduceSub, Int.reduceMul, Int.reduceNeg, Int.reduceToNat, ne_eq, sto, ldn, ld1, beq_self_eq_true, al_2, al_22, al_23, al_3, al_43, al_46, al_48, as_43, as_48, az_43, az_48, fa_25_0, fa_25_1, fa_25_2, fa_43_0, fa_43_1, fa_43_5, fa_43_6, fa_48_1, fa_48_5, ix_22, ix_23, ix_46, len_22, len_23, len_46, X_rGood_1, X_rGood_2, X_rGood_3, X_rGood_4, X_rGood_5, hlt', ha, hgt, hco, z0, z1, hinc]
    exact hJ _ hlt (by rw [atB_of hz]; simp only [globB, z0, z1, decide_false, Bool.not_false, Bool.and_self]) e2
  · have hlt' : ¬ (i : Int) < (p.globals.length : Int) := by omega
    simp -implicitDefEqProofs only [EE, cond_true, cond_false, nth, ↓nw, Value.cells, ↓BK, setMany, if_true, if_false, Nat.reduceAdd, Nat.reduceLeDiff, Nat.reduceMul, Nat.reduceMod, Nat.reduceDiv, Nat.reduceSub, Nat.reduceEqDiff, Int.reduceEq, Int.reduceLT, Int.reduceLE, Int.reduceAdd, Int.reduceSub, Int.reduceMul, Int.reduceNeg, Int.reduceToNat, ne_eq, sto, ldn, ld1, beq_self_eq_true, al_2, al_22, al_23, al_3, al_43, al_46, al_48, as_43, as_48, az_43, az_48, fa_25_0, fa_25_1, fa_25_2, fa_43_0, fa_43_1, fa_43_5, fa_43_6, fa_48_1, fa_48_5, ix_22, ix_23, ix_46, len_22, len_23, len_46, X_rGood_5, hlt']
    have hp : p.globals.all globB = true := all_of_at fun k hk => hq k (by omega)
    exact rg38 P2 (by rw [e2.ro]; exact Nat.le_trans hro e2.next) (Nat.lt_of_lt_of_le hb e2.next) g2 (by rw [hB, hp, Bool.true_and])
end
theorem rGood_q (p : Pg) (h : AHeap) (P : PgOk h p) : Quiet Tryz.prog 6 [p.val] h (.bool (rGoodB p)) := by
  apply quiet_b
  replace P := P.lock
  generalize h.lock = L at P
  apply DC_wf; intro hwf; have hro := hwf.2
  apply X_rGood_ok
  unfold X_rGood
  have gn := P.globals.nob
  have fn := P.funcs.nob
  have P1 := P.old (Old.push L (.cells p.row 25))
  have gl := P1.globals.len22 3
  have fl := P1.funcs.len23 3
  rw [List.length_map] at fl
  simp -implicitDefEqProofs only [EE, cond_true, cond_false, nth, ↓nw, Value.cells, ↓BK, setMany, if_true, if_false, Nat.reduceAdd, Nat.reduceLeDiff, Nat.reduceMul, Nat.reduceMod, Nat.reduceDiv, Nat.reduceSub, Nat.reduceEqDiff, Int.reduceEq, Int.reduceLT, Int.reduceLE, Int.reduceAdd, Int.reduceSub, Int.reduceMul, Int.reduceNeg, Int.reduceToNat, ne_eq, sto, ldn, ld1, beq_self_eq_true, al_2, al_22, al_23, al_3, al_43, al_46, al_48, as_43, as_48, az_43, az_48, fa_25_0, fa_25_1, fa_25_2, fa_43_0, fa_43_1, fa_43_5, fa_43_6, fa_48_1, fa_48_5, ix_22, ix_23, ix_46, len_22, len_23, len_46, gn, fn, fl]
  refine callV_q (by kernel_rfl) rfl (within_q p.main p.funcs.length _) ?_
  unfold rGoodB sizesP
  by_cases c34 : p.main < 0 ∨ (p.funcs.length : Int) ≤ p.main
  · rw [within_no c34]
    simp -implicitDefEqProofs only [EE, cond_true, cond_false, nth, ↓nw, Value.cells, ↓BK, setMany, if_true, if_false, Nat.reduceAdd, Nat.reduceLeDiff, Nat.reduceMul, Nat.reduceMod, Nat.reduceDiv, Nat.reduceSub, Nat.reduceEqDiff, Int.reduceEq, Int.reduceLT, Int.reduceLE, Int.reduceAdd, Int.reduceSub, Int.reduceMul, Int.reduceNeg, Int.reduceToNat, ne_eq, sto, ldn, ld1, beq_self_eq_true, al_2, al_22, al_23, al_3, al_43, al_46, al_48, as_43, as_48, az_43, az_48, fa_25_0, fa_25_1, fa_25_2, fa_43_0, fa_43_1, fa_43_5, fa_43_6, fa_48_1, fa_48_5, ix_22, ix_23, ix_46, len_22, len_23, len_46, X_rGood_40, X_rGood_41, X_rGood_42, X_rGood_43]
    rcases c34 with c | c
    · simp [isB, c]
    · simp [isB, c]
  have c3 : ¬ p.main < 0 := fun q => c34 (.inl q)
  have c4 : ¬ (p.funcs.length : Int) ≤ p.main := fun q => c34 (.inr q)
  rw [within_yes c3 c4]
  by_cases c2 : (100 : Int) < p.funcs.length
  · simp -implicitDefEqProofs only [EE, cond_true, cond_false, nth, ↓nw, Value.cells, ↓BK, setMany, if_true, if_false, Nat.reduceAdd, Nat.reduceLeDiff, Nat.reduceMul, Nat.reduceMod, Nat.reduceDiv, Nat.reduceSub, Nat.reduceEqDiff, Int.reduceEq, Int.reduceLT, Int.reduceLE, Int.reduceAdd, Int.reduceSub, Int.reduceMul, Int.reduceNeg, Int.reduceToNat, ne_eq, sto, ldn, ld1, beq_self_eq_true, al_2, al_22, al_23, al_3, al_43, al_46, al_48, as_43, as_48, az_43, az_48, fa_25_0, fa_25_1, fa_25_2, fa_43_0, fa_43_1, fa_43_5, fa_43_6, fa_48_1, fa_48_5, ix_22, ix_23, ix_46, len_22, len_23, len_46, X_rGood_40, X_rGood_41, X_rGood_42, X_rGood_43, gn, fn, gl, fl, c2]
    simp [isB]
  by_cases c1 : (200 : Int) < p.globals.length
  · simp -implicitDefEqProofs only [EE, cond_true, cond_false, nth, ↓nw, Value.cells, ↓BK, setMany, if_true, if_false, Nat.reduceAdd, Nat.reduceLeDiff, Nat.reduceMul, Nat.reduceMod, Nat.reduceDiv, Nat.reduceSub, Nat.reduceEqDiff, Int.reduceEq, Int.reduceLT, Int.reduceLE, Int.reduceAdd, Int.reduceSub, Int.reduceMul, Int.reduceNeg, Int.reduceToNat, ne_eq, sto, ldn, ld1, beq_self_eq_true, al_2, al_22, al_23, al_3, al_43, al_46, al_48, as_43, as_48, az_43, az_48, fa_25_0, fa_25_1, fa_25_2, fa_43_0, fa_43_1, fa_43_5, fa_43_6, fa_48_1, fa_48_5, ix_22, ix_23, ix_46, len_22, len_23, len_46, X_rGood_40, X_rGood_41, X_rGood_42, X_rGood_43, gn, fn, gl, fl, c1, c2]
    simp [isB]
  simp -implicitDefEqProofs only [EE, cond_true, cond_false, nth, ↓nw, Value.cells, ↓BK, setMany, if_true, if_false, Nat.reduceAdd, Nat.reduceLeDiff, Nat.reduceMul, Nat.reduceMod, Nat.reduceDiv, Nat.reduceSub, Nat.reduceEqDiff, Int.reduceEq, Int.reduceLT, Int.reduceLE, Int.reduceAdd, Int.reduceSub, Int.reduceMul, Int.reduceNeg, Int.reduceToNat, ne_eq, sto, ldn, ld1, beq_self_eq_true, al_2, al_22, al_23, al_3, al_43, al_46, al_48, as_43, as_48, az_43, az_48, fa_25_0, fa_25_1, fa_25_2, fa_43_0, fa_43_1, fa_43_5, fa_43_6, fa_48_1, fa_48_5, ix_22, ix_23, ix_46, len_22, len_23, len_46, X_rGood_40, X_rGood_41, X_rGood_42, X_rGood_43, gn, fn, gl, fl, c1, c2]
  refine rg39 P1 (Nat.le_succ_of_le hro) (Nat.lt_succ_self _) get_push_self ?_
  simp only [c1, c2, c3, c4, decide_false, Bool.not_false, Bool.true_and]
end Go.Rtl
namespace Go.Rtl
open Go.Ai Go.Proofs
set_option linter.unusedVariables false
set_option linter.unusedSimpArgs false
theorem wr_need {x : Ins} (h10 : ¬ x.op = 10) : needD x.op = wr x.op := by
  unfold needD wr
  simp [h10]
theorem opOk_range {f : Fn} {x : Ins} (h : opOk f x = true) : 1 ≤ x.op ∧ x.op ≤ 14 := by
  unfold opOk at h
  repeat' split at h
  all_goals first | omega | (cases h)
theorem ins_eq {f : Fn} (h0 : 0 ≤ f.regs) (x : Ins) : rInsB f x = dInsB f x := by
  unfold rInsB dInsB midB restB lastB
  cases hU : (usesI x).all fun u => withinB u f.regs with
  | false => simp
  | true =>
  cases hS : (succsI x).all fun s => withinB s f.code.length with
  | false => simp
  | true =>
  cases hO : opOk f x with
  | false =>
    have : ¬ x.op = 10 := by intro q; simp [opOk, q] at hO
    simp [this]
  | true =>
  obtain ⟨o1, o2⟩ := opOk_range hO
  cases h1 : bad1 x with
  | true => simp
  | false =>
  cases h2 : bad2 x with
  | true => simp
  | false =>
  simp only [o1, o2, decide_true, Bool.not_false, Bool.true_and, Bool.and_true]
  unfold writeOk bad3 bad4
  by_cases h10 : x.op = 10
  · have hw : wr x.op = true := by simp [wr, h10]
    have hn : needD x.op = false := by simp [needD, h10]
    have hwi : writesI x = x.d := by simp [writesI, hw]
    rw [hn, hwi, hw]
    by_cases hd : x.d = -1
    · have a : ¬ f.regs ≤ -1 := by omega
      simp [h10, hd, a]
    · unfold withinB
      by_cases a : x.d < -1
      · have b : ¬ 0 ≤ x.d := by omega
        simp [h10, hd, a, b]
      · have b : 0 ≤ x.d := by omega
        by_cases c : x.d < f.regs
        · have c' : ¬ f.regs ≤ x.d := by omega
          simp [h10, hd, a, b, c, c']
        · have c' : f.regs ≤ x.d := by omega
          simp [h10, hd, a, b, c, c']
  · rw [wr_need h10]
    cases hw : wr x.op with
    | false =>
      have hwi : writesI x = -1 := by simp [writesI, hw]
      have a : ¬ f.regs ≤ -1 := by omega
      rw [hwi]
      simp [h10, a]
    | true =>
      have hwi : writesI x = x.d := by simp [writesI, hw]
      rw [hwi]
      unfold withinB
      by_cases b : 0 ≤ x.d
      · have a : ¬ x.d < -1 := by omega
        have a2 : ¬ x.d = -1 := by omega
        by_cases c : x.d < f.regs
        · have c' : ¬ f.regs ≤ x.d := by omega
          simp [h10, a, a2, b, c, c']
        · have c' : f.regs ≤ x.d := by omega
          simp [h10, a, a2, b, c, c']
      · by_cases a2 : x.d = -1
        · simp [h10, a2]
        · have a : x.d < -1 := by omega
          simp [h10, a, a2, b]
theorem right_eq (f : Fn) : rRightB f = dRightB f := by
  unfold rRightB dRightB
  cases hs : sizesB f with
  | false => rfl
  | true =>
    have h0 : 0 ≤ f.regs := by
      unfold sizesB at hs
      simp only [Bool.and_eq_true, Bool.not_eq_true', decide_eq_false_iff_not] at hs
      omega
    rw [show rInsB f = dInsB f from funext fun x => ins_eq h0 x]
theorem rGood_eq (p : Pg) : rGoodB p = dGoodB p := by
  unfold rGoodB dGoodB
  rw [show (fun f => rRightB f && f.code.all (insP p)) = (fun f => dRightB f && f.code.all (insP p)) from funext fun f => by rw [right_eq]]
end Go.Rtl
