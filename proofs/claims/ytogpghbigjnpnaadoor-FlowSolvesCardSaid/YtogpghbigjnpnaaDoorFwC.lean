/-
  The comparator, walked in a world.
-/
import Derived.Test.YtogpghbigjnpnaaDoorFlQ
import Derived.Test.YtogpghbigjnpnaaDoorFwL
import Derived.WalkKit
import Derived.ProofKit
import Derived.Deep.QuietTactic
namespace Go.Fw
open Go.Proofs Go.RowKit Go.Ai
open Go.Sort (grow grow_empty)
set_option linter.unusedVariables false
set_option linter.unusedSimpArgs false
set_option maxHeartbeats 1000000 in
theorem cmp_w (x y sx sy : Int) (pb po sb so len cap : Nat) (W : World) (hx0 : 0 ≤ x) (hx1 : x < len) (hy0 : 0 ≤ y) (hy1 : y < len) (hl : len < 4611686018427387904) (r : IntKind.i64.wrap (sy - sx) = sy - sx)
    (hp : W.cell? ⟨pb, po, none⟩ = some (.slice (some ⟨sb, so, none⟩) len cap)) (hx : W.cell? ⟨sb, so + x.toNat, none⟩ = some (.int .i64 sx)) (hy : W.cell? ⟨sb, so + y.toNat, none⟩ = some (.int .i64 sy)) :
    Calls Tryd.prog 15 #[.int .i64 x, .int .i64 y, .pointer (some ⟨pb, po, none⟩)] W fun e w' => e = .returned (.int .i64 (sy - sx)) ∧ ∃ q os', w' = grow (W.drewN q) os' := by
  go_enter Tryd.func15, Tryd.ntmps15
  go_wp2
  go_quiet (fail)
  go_wp2
  go_ret
  exact ⟨rfl, nq, #[], by rw [grow_empty]⟩
end Go.Fw
