/-
  What the interpreter answers of OptKnown: true. (A text of its own: the kernel's run wants room.)
-/
import Derived.Test.YtcfledjilpdddaaProg
import Derived.KernelRfl
import Derived.Test.YtcfledjilpdddaaAiRow
namespace Go.Proofs.Ytcfledjilpdddaa.optKnown
open Go.Ai
/-- Which functions the interpreter may call, and how. -/
def cls : List Nat := [0,0,1,1,1,1,1,1,1,1,1,1,1,1,1,1,1,1,1,1,1,1,1,1,1,1,1,1,1,1,1,1,1,3,1,1,1,1,1,1,1,1,1,1,1,1,1,1,1,1,1,1,1,2,1,1,1,1,1,1,1,3,1,1,1,1,1,1,1,1,1,1,1,1,1,1,1,0,0,0,0,0,0,0,0,0,0,0,0,0,0,0,0,0]
theorem ran : says (run Try.prog cls 5000 (.call 3 []) (nowhere 100)) = true := by kernel_rfl
end Go.Proofs.Ytcfledjilpdddaa.optKnown
