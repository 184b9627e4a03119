/-
  FLOW's laws: awake. (In the seat's own classes of calls.)
-/
import Derived.Test.YtogpghbigjnpnaaDoorFwF
import Derived.Test.YtogpghbigjnpnaaDoorAiD
import Derived.Test.YtogpghbigjnpnaaDoorAiCutC
namespace Go.Fw
open Go.Ai Go.Proofs
set_option linter.unusedVariables false
set_option linter.unusedSimpArgs false
set_option maxRecDepth 10000
def zs : List Int := [0,1,56,2,57,49,28,3,61,58,42,50,38,29,17,4,62,47,59,36,45,43,51,22,53,39,33,30,24,18,12,5,63,55,48,27,60,41,37,16,46,35,44,21,52,32,23,11,54,26,40,15,34,20,31,10,25,14,19,9,13,8,7,6]
def tabs : List (Nat × List Value) := [(0, zs.map fun z => .int .u8 z)]
def TabH (h : AHeap) : Prop := 0 < h.next ∧ ∃ c t, h.get 0 = some (.cells c t) ∧ ∀ (i : Nat) y, (zs.map fun z => Value.int .u8 z)[i]? = some y → c[i]? = some y
theorem TabH.lock {h : AHeap} (t : TabH h) : TabH h.lock := t
def cls : List Nat := [0,0,1,1,1,1,1,1,1,1,1,1,1,1,1,1,1,1,1,1,1,1,1,1,1,1,1,1,1,1,1,1,1,1,1,1,1,1,3,1,1,1,1,1,1,1,1,1,1,1,1,1,1,1,1,1,1,1,1,1,1,1,1,1,1,1,1,1,1,2,1,1,1,1,1,1,1,1,1,1,1,1,1,1,1,1,1,1,1,0,0,0,0,0,0,0,0,0,0,0,0,0,0,0,0,0,0,0,0,1]
set_option maxRecDepth 100000 in
theorem fits : callsOk Tryd.prog cls = true := by decide +kernel
set_option maxRecDepth 100000 in
theorem awake_ran : says (run Tryd.prog cls 4000 (.call 5 []) (tabled 100 tabs)) = true := by kernel_rfl
theorem awake_q (h : AHeap) (ht : TabH h) : Quiet Tryd.prog 5 [] h (.bool true) := by
  refine ⟨rfl, ?_⟩
  obtain ⟨h', he⟩ := of_says awake_ran
  have := TC_closedC (P := Tryd.prog) (m := 100) (tabs := tabs) (v := .bool true) (f := 5) rfl (Nat.le_of_ble_eq_true (by kernel_rfl)) (fun x hx => by
    simp only [tabs, List.mem_singleton] at hx
    subst hx
    exact ⟨by decide, Nat.le_of_ble_eq_true (n := 1) (by kernel_rfl), by decide +kernel⟩) ((TC_of_run fits mixed he).mono (fun v h1 q => q.1)) (h := h.lock) (fun x hx => by
    simp only [tabs, List.mem_singleton] at hx
    subst hx
    exact ht.lock.2)
  exact this.mono (fun v h1 q => q.1)
end Go.Fw
