/-
  A LONG RUN IN PIECES: the state between two pieces is told again, its slots and the blocks that are wanted later; a call without arguments that looks at nothing answers the same on every heap.
-/
import Derived.Test.YtcfledjilpdddaaAiSound
set_option linter.unusedVariables false
namespace Go.Ai
noncomputable section
variable {P : Program} {cls : List Nat}

/-- The same heap with fewer blocks. -/
structure Sub (h H : AHeap) : Prop where
  next : H.next = h.next
  ro : H.ro = h.ro
  get : ∀ b o, H.get b = some o → h.get b = some o
theorem Rel.sub {ρ : Ren} {h H : AHeap} {w : World} (hr : Rel P ρ h w) (s : Sub h H) : Rel P ρ H w :=
  ⟨hr.next.trans s.next.symm, by rw [s.ro, s.next]; exact hr.ro, fun b o hb => by rw [s.next]; exact hr.dom b o (s.get b o hb), fun b o hb => by rw [s.ro]; exact hr.ok b o (s.get b o hb),
    fun b1 b2 o1 o2 p1 p2 h1 h2 => hr.inj b1 b2 o1 o2 p1 p2 (s.get _ _ h1) (s.get _ _ h2), by rw [s.ro]; exact hr.gro, hr.glob⟩
theorem Mine.sub {ρ : Ren} {h H : AHeap} (s : Sub h H) {c : Nat} (hm : Mine ρ H c) : Mine ρ h c := by
  obtain ⟨b, o, pl, hg, hro, hm, e⟩ := hm
  exact ⟨b, o, pl, s.get b o hg, by rw [← s.ro]; exact hro, hm, e⟩
theorem Step.sub {ρ ρ' : Ren} {h H h' : AHeap} {w w' : World} (s : Sub h H) (st : Step P ρ H w ρ' h' w') : Step P ρ h w ρ' h' w' :=
  ⟨st.le, st.rel, st.ro.trans s.ro, st.os, st.tape, st.output, st.size, fun c hc hn => st.frame c hc (fun hm => hn (hm.sub s)), fun c hc hm => (st.img c hc hm).sub s⟩
def mkEnv (vs : List Value) : Env := ⟨Tr.ofList .e 0 vs, vs.length⟩
def mkHeap (bs : List (Nat × AObj)) (n r : Nat) : AHeap := ⟨bs.foldl (fun t x => t.set x.1 (some x.2)) .e, n, r⟩
theorem get_mkEnv (vs : List Value) (i : Nat) : (mkEnv vs).get i = (vs[i]?).getD undef := by
  simp only [Env.get_eq, mkEnv, Tr.get_ofList, Tr.get_e]
  by_cases h : i < vs.length
  · rw [if_pos (by omega)]; rfl
  · rw [if_neg (by omega), List.getElem?_eq_none (by omega)]
theorem get_mkHeap {bs : List (Nat × AObj)} {n r b : Nat} {o : AObj} (h : (mkHeap bs n r).get b = some o) : (b, o) ∈ bs := by
  have key : ∀ (l : List (Nat × AObj)) (t : Tr AObj), (l.foldl (fun t x => t.set x.1 (some x.2)) t).get b = some o → (b, o) ∈ l ∨ t.get b = some o := by
    intro l
    induction l with
    | nil => intro t h; exact .inr h
    | cons x l ih =>
      intro t h
      rw [List.foldl_cons] at h
      rcases ih _ h with h1 | h1
      · exact .inl (by simp [h1])
      · rw [Tr.get_set] at h1
        split at h1
        · rename_i e
          simp only [Option.some.injEq] at h1
          subst e h1
          exact .inl (by simp)
        · exact .inr h1
  rcases key bs .e h with h1 | h1
  · exact h1
  · cases h1
theorem T_sub {rd : Option Nat} {c : Code} {s : Env} {h H : AHeap} {vs : List Value} {Q : Ex → Env → AHeap → Prop} (hsz : s.size = vs.length) (hg : ∀ i, i < vs.length → vs[i]? = some (s.get i)) (hsub : Sub h H) (ht : T P rd c (mkEnv vs) H Q) : T P rd c s h Q := by
  intro ρ w tm ds hr hs b hb k cs
  have hs' : EnvRel ρ (mkEnv vs) tm := by
    refine ⟨hsz.symm.trans hs.size, fun i => ?_⟩
    rw [get_mkEnv]
    rcases Nat.lt_or_ge i vs.length with hi | hi
    · rw [hg i hi]; exact hs.get i
    · rw [List.getElem?_eq_none hi]
      have : tm.size ≤ i := by rw [← hs.size, hsz]; exact hi
      rw [show tm.getD i undef = undef by simp [Array.getD_eq_getD_getElem?, Array.getElem?_eq_none this]]
      exact .of_plain ρ rfl
  obtain ⟨e, s', h', ρ', w', tm', ds', q, st, r⟩ := ht ρ w tm ds (hr.sub hsub) hs' b hb k cs
  exact ⟨e, s', h', ρ', w', tm', ds', q, st.sub hsub, r⟩
/-- What is told of a state. -/
def seen (k : Nat) (bs : List Nat) : Option (Out × AHeap) → Option (List Value × List (Option AObj) × Nat × Nat × Nat)
  | some (.ex .normal s, h) => some ((List.range k).map s.get, bs.map h.get, s.size, h.next, h.ro)
  | _ => none
theorem T_cut (hC : callsOk P cls = true) (hmix : P.follows .mixedOrders = true) {n nx r : Nat} {rd : Option Nat} {x y : Code} {s : Env} {h : AHeap} {vs : List Value} {bs : List (Nat × AObj)} {Q : Ex → Env → AHeap → Prop}
    (he : seen vs.length (bs.map (·.1)) (run P cls n (.code rd x s) h) = some (vs, bs.map fun b => some b.2, vs.length, nx, r)) (ht : T P rd y (mkEnv vs) (mkHeap bs nx r) Q) : T P rd (.seq x y) s h Q := by
  refine T_seq ?_
  unfold seen at he
  split at he
  case h_2 => cases he
  rename_i s1 h1 hrun
  simp only [Option.some.injEq, Prod.mk.injEq] at he
  obtain ⟨e1, e2, e3, e4, e5⟩ := he
  refine ((run_both hC hmix n).1.code _ _ _ _ _ _ _ hrun).mono ?_
  rintro e s2 h2 ⟨rfl, rfl, rfl⟩
  refine T_sub e3 (fun i hi => ?_) ⟨e4.symm, e5.symm, fun b o hb => ?_⟩ ht
  · rw [← e1, List.getElem?_map, List.getElem?_range hi]; rfl
  · have hm := get_mkHeap hb
    obtain ⟨j, hj⟩ := List.getElem?_of_mem hm
    have h3 := congrArg (fun l => l[j]?) e2
    simp only [List.map_map, List.getElem?_map, hj, Option.map_some, Function.comp] at h3
    simpa using h3
/-- The last piece. -/
theorem T_run (hC : callsOk P cls = true) (hmix : P.follows .mixedOrders = true) {n : Nat} {rd : Option Nat} {c : Code} {s s' : Env} {h h' : AHeap} {e : Ex} (he : run P cls n (.code rd c s) h = some (.ex e s', h')) : T P rd c s h (fun e1 s1 h1 => e1 = e ∧ s1 = s' ∧ h1 = h') :=
  (run_both hC hmix n).1.code _ _ _ _ _ _ _ he
/-- A call without arguments that looks at some tables alone answers the same on every heap that has them, and leaves it. -/
theorem TC_closed {f : FuncId} {v : Value} {m : Nat} {tabs : List (Nat × List Value)} (hv : scal v = true) (hn : P.globals.size ≤ m) (hfl : ∀ x, x ∈ tabs → x.1 < m ∧ x.1 < P.globals.size ∧ x.2.all flat = true) (ht : TC P f [] (tabled m tabs) (fun v1 _ => v1 = v)) {h : AHeap}
    (hh : ∀ x, x ∈ tabs → h.get x.1 = some (.tab x.2)) : TC P f [] h (fun v1 h1 => v1 = v ∧ h1 = h) := by
  intro ρ w cargs hr hvl
  have hT : ∀ x, x ∈ tabs → x.1 < m ∧ x.2.all flat = true ∧ HoldsTab w x.1 x.2 := by
    intro x hx
    obtain ⟨f1, f2, f3⟩ := hfl x hx
    refine ⟨f1, f3, ?_⟩
    obtain ⟨pl, hm, t, cs, fz, h1, h2, h3, h4, h5, h6⟩ := hr.ok x.1 _ (hh x hx)
    obtain ⟨g1, g2⟩ := hr.glob x.1 pl f2 hm
    refine ⟨cs, t, fz, by rw [← g1]; exact h1, fun i y hy => ?_⟩
    obtain ⟨z, hz, hzz⟩ := h6 i y hy
    simp only [g2, Nat.zero_add] at hz
    rw [hz]
    simp only [List.all_eq_true] at f3
    rw [flat_eq hzz (f3 y (List.mem_of_getElem? hy))]
  refine (ht _ w cargs (rel_tabled P w m tabs hn hT) ?_).mono fun e w' => ?_
  · cases hvl.nil_inv; exact .nil _
  rintro ⟨v1, v', h1, ρ', rfl, rfl, st, hvr⟩
  have hsame : ∀ c, c < w.heap.size → w'.heap[c]? = w.heap[c]? := fun c hc => st.frame c hc (by
    rintro ⟨b, o, pl, hb, hro, _⟩
    obtain ⟨c', hc', _⟩ := get_tabled hb
    have h1 := (hfl _ hc').1
    have h2 : m ≤ b := hro
    omega)
  exact ⟨v1, v', h, ρ, rfl, ⟨rfl, rfl⟩, ⟨Ren.le_refl _, hr.grow hsame, rfl, st.os, st.tape, st.output, st.size, fun c hc _ => hsame c hc, fun c _ hm => hm⟩, scal_eq hvr hv ρ⟩

/-! ### Pieces of a function's code -/
def fstC : Code → Code
  | .seq a _ => a
  | c => c
def sndC : Code → Code
  | .seq _ b => b
  | c => c
def bodyC (P : Program) (f : Nat) : Code := match P.funcs[f]? with
  | some fn => (match fn.body with | some c => c | none => .skip)
  | none => .skip
def isSeq : Code → Bool
  | .seq _ _ => true
  | _ => false
theorem seq_parts {c : Code} (h : isSeq c = true) : c = .seq (fstC c) (sndC c) := by
  cases c <;> first | rfl | cases h
theorem T_cutC (hC : callsOk P cls = true) (hmix : P.follows .mixedOrders = true) {n nx r : Nat} {rd : Option Nat} {c : Code} {s : Env} {h : AHeap} {vs : List Value} {bs : List (Nat × AObj)} {Q : Ex → Env → AHeap → Prop} (hc : isSeq c = true)
    (he : seen vs.length (bs.map (·.1)) (run P cls n (.code rd (fstC c) s) h) = some (vs, bs.map fun b => some b.2, vs.length, nx, r)) (ht : T P rd (sndC c) (mkEnv vs) (mkHeap bs nx r) Q) : T P rd c s h Q := by
  rw [seq_parts hc]
  exact T_cut hC hmix he ht
/-- The end of a function that answers true. -/
def endsTrue (P : Program) (rs : List ResultVar) : Option (Out × AHeap) → Bool
  | some (.ex .ret s, h) => (match aresults P s h rs with
    | some [.bool true] => true
    | _ => false)
  | _ => false
theorem T_last (hC : callsOk P cls = true) (hmix : P.follows .mixedOrders = true) {n : Nat} {rd : Option Nat} {c : Code} {s : Env} {h : AHeap} {rs : List ResultVar} (he : endsTrue P rs (run P cls n (.code rd c s) h) = true) :
    T P rd c s h (fun e s1 h1 => (e = .normal ∨ e = .ret) ∧ ∃ vs, aresults P s1 h1 rs = some vs ∧ aresult vs = .bool true) := by
  unfold endsTrue at he
  split at he
  case h_2 => cases he
  rename_i s1 h1 hrun
  split at he
  case h_2 => cases he
  rename_i hres
  refine (T_run hC hmix hrun).mono ?_
  rintro e s2 h2 ⟨rfl, rfl, rfl⟩
  exact ⟨.inr rfl, _, hres, rfl⟩
/-- A region of two operations: a call without arguments that answers true and leaves all, and one that looks at the answer. -/
theorem T_known {rd : Option Nat} {id : Nat} {ops : Array Oper} {o0 o1 : Oper} {g : FuncId} {ts : Array TypeId} {s s1 s2 : Env} {h : AHeap} {v1 : Value} (hz : ops.size = 2) (h0 : ops[0]? = some o0) (h1 : ops[1]? = some o1)
    (hop : o0.op = .call { callee := .value (.func g), args := #[], argTypes := ts }) (hw0 : awanted ops s o0 = true) (hcall : callable P g = true) (hTC : TC P g [] h (fun v k => v = .bool true ∧ k = h))
    (hp : s.put o0.dst (.bool true) = some s1) (hw1 : awanted ops s1 o1 = true) (hop1 : aop P s1 o1 h = some (v1, h)) (hp1 : s1.put o1.dst v1 = some s2) :
    T P rd (.region id ops false) s h (fun e s' h' => e = .normal ∧ s' = s2 ∧ h' = h) := by
  refine T_region ?_
  rw [hz]
  have hend : TO P ops [] s2 h (fun s' h' => Ex.normal = Ex.normal ∧ s' = s2 ∧ h' = h) := fun ρ w tm ds hr hs b k cs => ⟨s2, h, ρ, w, tm, ⟨rfl, rfl, rfl⟩, .refl hr, hs, .refl P _⟩
  refine TO_call (fa := #[]) (fc := #[]) (vs := []) h0 hw0 hop rfl rfl hcall hTC ?_
  rintro v k ⟨rfl, rfl⟩
  exact ⟨s1, hp, TO_op h1 hw1 hop1 hp1 hend⟩
/-- From a call's triple on a heap of tables to what the machine does. -/
theorem Calls_of_TCT {m : Nat} {tabs : List (Nat × List Value)} {f : FuncId} {v : Value} (hv : scal v = true) (hn : P.globals.size ≤ m) (ht : TC P f [] (tabled m tabs) (fun v1 _ => v1 = v)) (w : World)
    (hg : ∀ x, x ∈ tabs → x.1 < m ∧ x.2.all flat = true ∧ HoldsTab w x.1 x.2) :
    Calls P f #[] w fun e w' => e = .returned v ∧ RowKit.Below w.heap.size w w' := by
  refine (ht _ w [] (rel_tabled P w m tabs hn hg) (.nil _)).mono fun e w' => ?_
  rintro ⟨v1, v', h1, ρ', rfl, rfl, st, hvr⟩
  refine ⟨by rw [scal_same hv hvr], st.os, st.tape, st.output, st.size, fun k hk => st.frame k hk ?_⟩
  rintro ⟨b, o, pl, hb, hro, _⟩
  obtain ⟨c, hc, _⟩ := get_tabled hb
  have h1 := (hg _ hc).1
  have h2 : m ≤ b := hro
  omega
end
end Go.Ai
