/-
  MEMORY: awake answers true.
-/
import Derived.Test.YtpilbfkinpbnoaaMemW
import Derived.Test.YtpilbfkinpbnoaaAiD
namespace Go.Mem
open Go.Ai Go.Proofs
/-! ### awake -/
def cls : List Nat := [0,0,1,1,1,1,1,1,1,1,1,1,1,2,2,1,1,1,1,2,1,1,1,1,1,1,1,1,1,1,1,1,1,3,2,1,1,1,1,0]
theorem fits : callsOk Try.prog cls = true := by decide +kernel
theorem awake_ran : says (run Try.prog cls 1000 (.call 7 []) (nowhere 100)) = true := by kernel_rfl
theorem awake_q (h : AHeap) : Quiet Try.prog 7 [] h (.bool true) := by
  refine ⟨rfl, ?_⟩
  obtain ⟨h', he⟩ := of_says awake_ran
  have := TC_closed (P := Try.prog) (m := 100) (tabs := []) (v := .bool true) (f := 7) rfl (Nat.le_of_ble_eq_true (by kernel_rfl)) (fun x hx => by cases hx) ((TC_of_run fits mixed he).mono (fun v h1 q => q.1)) (h := h.lock) (fun x hx => by cases hx)
  exact this.mono (fun v h1 q => q.1)
end Go.Mem
