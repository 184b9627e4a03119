/-
  A piece of the run.
-/
import Derived.Test.YtjfflbdnikfjmabOptBase
namespace Go.Proofs.Ytjfflbdnikfjmab.optKnown
open Go Go.Ai
set_option linter.unusedVariables false
set_option maxRecDepth 100000
theorem p2 : Go.Ai.seen vs2.length (bs2.map (·.1)) (run Try.prog cls 4000 (.code none (fstC (sndC (sndC B))) (mkEnv vs1)) (mkHeap bs1 nx1 ro1)) = some (vs2, bs2.map fun b => some b.2, vs2.length, nx2, ro2) := by kernel_rfl
end Go.Proofs.Ytjfflbdnikfjmab.optKnown
