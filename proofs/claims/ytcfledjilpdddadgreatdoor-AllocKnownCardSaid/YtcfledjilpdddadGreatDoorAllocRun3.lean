/-
  The last pieces of the run.
-/
import Derived.Test.YtcfledjilpdddadGreatDoorAllocBase
namespace Go.Proofs.YtcfledjilpdddadGreatDoor.allocKnown
open Go Go.Ai
set_option linter.unusedVariables false
set_option maxRecDepth 100000
theorem p3 : Go.Ai.seen vs3.length (bs3.map (·.1)) (run Tryz.prog cls 4000 (.code none (fstC (sndC (sndC (sndC B)))) (mkEnv vs2)) (mkHeap bs2 nx2 ro2)) = some (vs3, bs3.map fun b => some b.2, vs3.length, nx3, ro3) := by kernel_rfl
theorem p4 : Go.Ai.seen vs4.length (bs4.map (·.1)) (run Tryz.prog cls 4000 (.code none (fstC (sndC (sndC (sndC (sndC B))))) (mkEnv vs3)) (mkHeap bs3 nx3 ro3)) = some (vs4, bs4.map fun b => some b.2, vs4.length, nx4, ro4) := by kernel_rfl
theorem p5 : endsTrue Tryz.prog Tryz.f4.results.toList (run Tryz.prog cls 4000 (.code none (sndC (sndC (sndC (sndC (sndC B))))) (mkEnv vs4)) (mkHeap bs4 nx4 ro4)) = true := by kernel_rfl
theorem p6 : Go.Ai.seen ws0.length (bs0.map (·.1)) (run Tryz.prog cls 4000 (.code none (fstC L) (Env.enter [] 56)) (tabled 100 tabs)) = some (ws0, bs0.map fun b => some b.2, ws0.length, 100, 100) := by kernel_rfl
theorem p7 : endsTrue Tryz.prog Tryz.f3.results.toList (run Tryz.prog cls 4000 (.code none (sndC (sndC L)) (((mkEnv ws0).set 8 (.bool true)).set 9 (.bool false))) (mkHeap bs0 100 100)) = true := by kernel_rfl
end Go.Proofs.YtcfledjilpdddadGreatDoor.allocKnown
