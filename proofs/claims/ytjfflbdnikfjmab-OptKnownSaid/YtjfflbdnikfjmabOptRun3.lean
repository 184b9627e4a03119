/-
  The last pieces of the run.
-/
import Derived.Test.YtjfflbdnikfjmabOptBase
namespace Go.Proofs.Ytjfflbdnikfjmab.optKnown
open Go Go.Ai
set_option linter.unusedVariables false
set_option maxRecDepth 100000
theorem p5 : endsTrue Try.prog Try.f4.results.toList (run Try.prog cls 4000 (.code none (sndC (sndC (sndC B))) (mkEnv vs2)) (mkHeap bs2 nx2 ro2)) = true := by kernel_rfl
theorem p6 : Go.Ai.seen ws0.length (bs0.map (·.1)) (run Try.prog cls 4000 (.code none (fstC L) (Env.enter [] 50)) (tabled 100 [])) = some (ws0, bs0.map fun b => some b.2, ws0.length, 100, 100) := by kernel_rfl
theorem p7 : endsTrue Try.prog Try.f3.results.toList (run Try.prog cls 4000 (.code none (sndC (sndC L)) (((mkEnv ws0).set 9 (.bool true)).set 10 (.bool false))) (mkHeap bs0 100 100)) = true := by kernel_rfl
end Go.Proofs.Ytjfflbdnikfjmab.optKnown
