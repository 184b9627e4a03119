/-
  What the interpreter may call; the table that is read; the states at the beginning.
-/
import Derived.Test.YtcfledjilpdddadGreatDoorProg
import Derived.Test.YtcfledjilpdddadGreatDoorAllocSt
import Derived.KernelRfl
namespace Go.Proofs.YtcfledjilpdddadGreatDoor.allocKnown
open Go Go.Ai
set_option linter.unusedVariables false
set_option maxRecDepth 100000
/-- Which functions the interpreter may call, and how. -/
def cls : List Nat := [0,0,1,1,1,1,1,1,1,1,1,1,1,1,1,1,1,1,1,1,1,1,1,1,1,1,1,1,1,1,1,1,1,1,1,1,1,1,1,1,1,1,1,1,3,1,1,1,1,1,1,1,1,1,1,1,1,1,1,1,1,1,1,1,1,1,1,1,1,1,2,1,1,1,1,1,1,1,1,1,1,1,1,1,1,1,1,1,1,1,1,1,1,1,1,1,1,1,1,1,1,1,1,1,1,1,1,1,1,1,1,0,0,0,0,0,0,0,0,0,0,0,0,0,0,0,0,0,0,0,0,0,0,1]
def zs : List Int := [0,1,56,2,57,49,28,3,61,58,42,50,38,29,17,4,62,47,59,36,45,43,51,22,53,39,33,30,24,18,12,5,63,55,48,27,60,41,37,16,46,35,44,21,52,32,23,11,54,26,40,15,34,20,31,10,25,14,19,9,13,8,7,6]
def tabs : List (Nat × List Value) := [(0, zs.map fun z => .int .u8 z)]
noncomputable def B : Code := bodyC Tryz.prog 4
noncomputable def L : Code := bodyC Tryz.prog 3
def vs0 : List Value := .bool false :: List.replicate 73 undef
def bs0 : List (Nat × AObj) := [(0, .tab (zs.map fun z => .int .u8 z))]
def ws0 : List Value := .bool false :: List.replicate 55 undef
end Go.Proofs.YtcfledjilpdddadGreatDoor.allocKnown
