/-
  MEMORY: words on values and boxes.
-/
import Derived.Test.YtpilbfkinpbnoaaMemA1
import Derived.Test.YtpilbfkinpbnoaaMemW2
namespace Go.Mem
open Go.Ai Go.Proofs
set_option linter.unusedVariables false
set_option linter.unusedSimpArgs false
theorem refGood_c (v : V) (h : AHeap) : Quiet Try.prog 12 [.agg #[.int .i64 v.k, .int .i64 v.n, .int .i64 v.b]] h (.bool (goodV v)) := refGood_q v h
theorem refOf_c (n : Int) (h : AHeap) : Quiet Try.prog 13 [.int .i64 n] h (.agg #[.int .i64 1, .int .i64 n, .int .i64 0]) := refOf_q n h
def box (v : V) : AObj := .cells [.int .i64 v.k, .int .i64 v.n, .int .i64 v.b] 24
theorem box_eff (g : AHeap) (a b : V) : Eff nof g ((g.push (.cells [.int .i64 a.k, .int .i64 a.n, .int .i64 a.b] 24)).set g.next (some (.cells [.int .i64 b.k, .int .i64 b.n, .int .i64 b.b] 24))) := ((Eff.refl _ _).push _).set (.inr (Nat.le_refl _)) _
theorem v0_eff (g : AHeap) (b : V) : Eff nof g ((g.push (.cells [.int .i64 0, .int .i64 0, .int .i64 0] 24)).set g.next (some (.cells [.int .i64 b.k, .int .i64 b.n, .int .i64 b.b] 24))) := box_eff g v0 b
theorem MemH.low {g : AHeap} {m : Nat} {M : MM} {F : Nat → Prop} (x : MemH g m M F) : g.ro ≤ g.next := by
  obtain ⟨_, _, _, y⟩ := x
  have := y.ok _ y.fm; omega
end Go.Mem
