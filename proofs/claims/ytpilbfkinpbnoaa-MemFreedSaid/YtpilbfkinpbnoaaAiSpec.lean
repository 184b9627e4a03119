/-
  RUNS THAT KNOW SOME FUNCTIONS: what is told of a function stands in for its run, at every depth.
-/
import Derived.Test.YtpilbfkinpbnoaaAiCut
set_option linter.unusedVariables false
namespace Go.Ai
noncomputable section
variable {P : Program} {cls : List Nat}

abbrev Spec := FuncId → List Value → AHeap → Option (Value × AHeap)
/-- What is told of functions is so. -/
structure SpecOk (P : Program) (spec : Spec) : Prop where
  call : ∀ g args h v h', spec g args h = some (v, h') → TC P g args h (fun v1 h1 => v1 = v ∧ h1 = h')
  frame : ∀ g args h v h', spec g args h = some (v, h') → AF h h'
def overlay (spec : Spec) (r : Runs) : Runs
  | .call g args, h => (match spec g args h with
    | some (v, h') => some (.val v, h')
    | none => r (.call g args) h)
  | .code rd c s, h => r (.code rd c s) h
theorem overlay_sound {spec : Spec} (hs : SpecOk P spec) {r : Runs} (S : Sound P r) : Sound P (overlay spec r) := by
  refine ⟨fun rd c s h e s' h' he => S.code rd c s h e s' h' he, fun f args h v h' he => ?_, fun rd c s h o h' he => S.kind rd c s h o h' he, fun f args h o h' he => ?_⟩
  · simp only [overlay] at he
    split at he
    · rename_i v1 h1 hsp
      simp only [Option.some.injEq, Prod.mk.injEq, Out.val.injEq] at he
      obtain ⟨rfl, rfl⟩ := he
      exact hs.call _ _ _ _ _ hsp
    · exact S.call _ _ _ _ _ he
  · simp only [overlay] at he
    split at he
    · simp only [Option.some.injEq, Prod.mk.injEq] at he
      obtain ⟨rfl, _⟩ := he
      exact ⟨_, rfl⟩
    · exact S.kindc _ _ _ _ _ he
theorem overlay_frames {spec : Spec} (hs : SpecOk P spec) {r : Runs} (F : Frames r) : Frames (overlay spec r) := by
  intro t h o h' he
  cases t with
  | code rd c s => exact F _ _ _ _ he
  | call f args =>
    simp only [overlay] at he
    split at he
    · rename_i v1 h1 hsp
      simp only [Option.some.injEq, Prod.mk.injEq] at he
      obtain ⟨_, rfl⟩ := he
      exact hs.frame _ _ _ _ _ hsp
    · exact F _ _ _ _ he
/-- The interpreter, with what is told of some functions. -/
def runS (P : Program) (cls : List Nat) (spec : Spec) (n : Nat) : Runs := Nat.rec (fun _ _ => none) (fun _ rec => overlay spec (body P cls rec)) n
theorem runS_both {spec : Spec} (hC : callsOk P cls = true) (hmix : P.follows .mixedOrders = true) (hs : SpecOk P spec) : ∀ n, Sound P (runS P cls spec n) ∧ Frames (runS P cls spec n)
  | 0 => ⟨⟨fun rd c s h e s' h' he => (by cases he), fun f args h v h' he => (by cases he), fun rd c s h o h' he => (by cases he), fun f args h o h' he => (by cases he)⟩, fun t h o h' he => (by cases he)⟩
  | n + 1 => by
    obtain ⟨S, F⟩ := runS_both hC hmix hs n
    exact ⟨overlay_sound hs (body_sound S F hC hmix), overlay_frames hs (body_frames F)⟩
theorem TC_of_runS {spec : Spec} (hC : callsOk P cls = true) (hmix : P.follows .mixedOrders = true) (hs : SpecOk P spec) {n : Nat} {f : FuncId} {args : List Value} {h h' : AHeap} {v : Value} (he : runS P cls spec n (.call f args) h = some (.val v, h')) : TC P f args h (fun v1 h1 => v1 = v ∧ h1 = h') :=
  (runS_both hC hmix hs n).1.call _ _ _ _ _ he
theorem T_runS {spec : Spec} (hC : callsOk P cls = true) (hmix : P.follows .mixedOrders = true) (hs : SpecOk P spec) {n : Nat} {rd : Option Nat} {c : Code} {s s' : Env} {h h' : AHeap} {e : Ex} (he : runS P cls spec n (.code rd c s) h = some (.ex e s', h')) : T P rd c s h (fun e1 s1 h1 => e1 = e ∧ s1 = s' ∧ h1 = h') :=
  (runS_both hC hmix hs n).1.code _ _ _ _ _ _ _ he
/-- From a call's triple at plain arguments to what the machine does. -/
theorem Calls_of_TCA {m : Nat} {tabs : List (Nat × List Value)} {f : FuncId} {args : List Value} {v : Value} (ha : args.all flat = true) (hv : scal v = true) (hn : P.globals.size ≤ m) (ht : TC P f args (tabled m tabs) (fun v1 _ => v1 = v)) (w : World)
    (hg : ∀ x, x ∈ tabs → x.1 < m ∧ x.2.all flat = true ∧ HoldsTab w x.1 x.2) :
    Calls P f args.toArray w fun e w' => e = .returned v ∧ RowKit.Below w.heap.size w w' := by
  refine (ht _ w args (rel_tabled P w m tabs hn hg) ⟨rfl, fun i x y hx hy => ?_⟩).mono fun e w' => ?_
  · rw [hx] at hy
    cases hy
    simp only [List.all_eq_true] at ha
    exact .of_flat _ (ha x (List.mem_of_getElem? hx))
  rintro ⟨v1, v', h1, ρ', rfl, rfl, st, hvr⟩
  refine ⟨by rw [scal_same hv hvr], st.os, st.tape, st.output, st.size, fun k hk => st.frame k hk ?_⟩
  rintro ⟨b, o, pl, hb, hro, _⟩
  obtain ⟨c, hc, _⟩ := get_tabled hb
  have h1 := (hg _ hc).1
  have h2 : m ≤ b := hro
  omega
end
end Go.Ai
