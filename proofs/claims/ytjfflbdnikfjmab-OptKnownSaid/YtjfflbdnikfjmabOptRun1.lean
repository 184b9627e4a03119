/-
  The first pieces of the run.
-/
import Derived.Test.YtjfflbdnikfjmabOptBase
namespace Go.Proofs.Ytjfflbdnikfjmab.optKnown
open Go Go.Ai
set_option linter.unusedVariables false
set_option maxRecDepth 100000
theorem p0 : Go.Ai.seen vs0.length (bs0.map (·.1)) (run Try.prog cls 4000 (.code none (fstC B) (Env.enter [] 149)) (tabled 100 [])) = some (vs0, bs0.map fun b => some b.2, vs0.length, 100, 100) := by kernel_rfl
theorem p1 : Go.Ai.seen vs1.length (bs1.map (·.1)) (run Try.prog cls 4000 (.code none (fstC (sndC B)) (mkEnv vs0)) (mkHeap bs0 100 100)) = some (vs1, bs1.map fun b => some b.2, vs1.length, nx1, ro1) := by kernel_rfl
end Go.Proofs.Ytjfflbdnikfjmab.optKnown
