/-
  FLOWSOLVES: the law, over any caller's world.
-/
import Derived.Test.YtogpghbigjnpnaaDoorFwR
import Derived.Test.YtogpghbigjnpnaaDoorFwX
import Derived.Test.YtogpghbigjnpnaaDoorAiD
namespace Go.Fw
open Go.Ai Go.Proofs Go.Fl
set_option linter.unusedVariables false
theorem solves_law {h : AHeap} {zs : List Int} {es : List (Int × Int)} {sv ev : Value} {n most : Int} (S : SliceI h sv zs) (E : SliceR h ev 2 (es.map evRow)) (T : TabH h) (hro : h.ro ≤ h.next) :
    DC Tryd.prog 3 [.int .i64 n, ev, sv, .int .i64 most] h yes := by
  have s := Sat.self hro
  exact solves_ok (lo := .of h) (L := []) (Rd.of (Low.has_of h) S fun h' o => S.old o) (Rd.of (Low.has_of h) E fun h' o => E.old o) s (awake_q h T).dc
end Go.Fw
