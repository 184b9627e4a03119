/-
  What the interpreter may call; the states at the beginning.
-/
import Derived.Test.YtjfflbdnikfjmabProg
import Derived.Test.YtjfflbdnikfjmabOptSt
import Derived.KernelRfl
namespace Go.Proofs.Ytjfflbdnikfjmab.optKnown
open Go Go.Ai
set_option linter.unusedVariables false
set_option maxRecDepth 100000
/-- Which functions the interpreter may call, and how. -/
def cls : List Nat := [0,0,1,1,1,1,1,1,1,1,1,1,1,1,1,1,1,1,1,1,1,1,1,1,1,1,1,1,1,1,1,1,1,3,1,1,1,1,1,1,1,1,1,1,1,1,1,1,1,1,1,1,1,2,1,1,1,1,1,1,1,3,1,1,1,1,1,1,1,1,1,1,1,1,1,1,1,0,0,0,0,0,0,0,0,0,0,0,0,0,0,0,0,0]
noncomputable def B : Code := bodyC Try.prog 4
noncomputable def L : Code := bodyC Try.prog 3
def vs0 : List Value := .bool false :: List.replicate 148 undef
def bs0 : List (Nat × AObj) := []
def ws0 : List Value := .bool false :: List.replicate 49 undef
end Go.Proofs.Ytjfflbdnikfjmab.optKnown
