/-
  SIMPLIFYING STOPS AT A STUCK HEAD: what stands behind it is left for later. (Each rule has a question that always changes, so that the rule counts as used and nothing else is looked at.)
-/
import Derived.Test.YtogpghbigjnpnaaDoorAiD
set_option linter.unusedVariables false
namespace Go.Ai
noncomputable section
variable {P : Program}
@[congr] theorem callV_hold {f : Value} {f' : Unit → Value} {l l' : List Value} {h h' : AHeap} {K : Value → AHeap → Prop} (e1 : ∀ u : Unit, (f, u).1 = f' u) (e2 : l = l') (e3 : h = h') : callV P f l h K = callV P (f' ()) l' h' K := by rw [← e1, e2, e3]
@[congr] theorem callQ_hold {g : FuncId} {l l' : List Value} {h : AHeap} {h' : Unit → AHeap} {K : Value → Prop} (e2 : l = l') (e3 : ∀ u : Unit, (h, u).1 = h' u) : callQ P g l h K = callQ P g l' (h' ()) K := by rw [e2, ← e3]
@[congr] theorem callX_hold {g : FuncId} {l l' : List Value} {h : AHeap} {h' : Unit → AHeap} {K : Value → AHeap → Prop} (e2 : l = l') (e3 : ∀ u : Unit, (h, u).1 = h' u) : callX P g l h K = callX P g l' (h' ()) K := by rw [e2, ← e3]
@[congr] theorem callD_hold {g : FuncId} {l l' : List Value} {h : AHeap} {h' : Unit → AHeap} {K : Value → AHeap → Prop} (e2 : l = l') (e3 : ∀ u : Unit, (h, u).1 = h' u) : callD P g l h K = callD P g l' (h' ()) K := by rw [e2, ← e3]
@[congr] theorem callE_hold {g : FuncId} {l l' : List Value} {h : AHeap} {h' : Unit → AHeap} {K : Value → AHeap → Prop} (e2 : l = l') (e3 : ∀ u : Unit, (h, u).1 = h' u) : callE P g l h K = callE P g l' (h' ()) K := by rw [e2, ← e3]
@[congr] theorem LP_hold {step : List Value → AHeap → (List Value → AHeap → Prop) → Prop} {vs vs' : List Value} {h : AHeap} {h' : Unit → AHeap} (e1 : vs = vs') (e2 : ∀ u : Unit, (h, u).1 = h' u) : LP step vs h = LP step vs' (h' ()) := by rw [e1, ← e2]
@[congr] theorem opt_hold {α : Type} {x : Option α} {y : Unit → Option α} {K : α → Prop} (h : ∀ u : Unit, (x, u).1 = y u) : opt x K = opt (y ()) K := by rw [← h]
@[congr] theorem optH_hold {x : Option (Value × AHeap)} {y : Unit → Option (Value × AHeap)} {K : Value → AHeap → Prop} (h : ∀ u : Unit, (x, u).1 = y u) : optH x K = optH (y ()) K := by rw [← h]
@[congr] theorem GD_hold {g : Value} {g' : Unit → Value} {want : Bool} {A : (Value → AHeap → Prop) → Prop} {K : Value → AHeap → Prop} {h : AHeap} (e : ∀ u : Unit, (g, u).1 = g' u) : GD g want A K h = GD (g' ()) want A K h := by rw [← e]
@[congr] theorem CD_hold {g : Value} {g' : Unit → Value} {A B : (List Value → AHeap → Prop) → Prop} {J : List Value → AHeap → Prop} (e : ∀ u : Unit, (g, u).1 = g' u) : CD g A B J = CD (g' ()) A B J := by rw [← e]
end
end Go.Ai
