/-
  FlowSolves answers true at every input, in every world, and turns nothing that was there before; the listed tables are tied to the program's text.
-/
import Derived.Test.YtogpghbigjnpnaaDoorCards
import Derived.Test.YtogpghbigjnpnaaDoorTie
import Derived.WalkKit
import Derived.ProofKit
import Derived.OpenShut
import Derived.Lay
import Derived.LaidOnce
import Derived.SevenTiedAt
import Derived.ChangeCalls
import Derived.SizedLaws
import Derived.Lib.LaidTab
import Derived.Stop.LaidErr
import Derived.Test.YtogpghbigjnpnaaDoorFwY
namespace Go.Proofs.YtogpghbigjnpnaaDoor.flowSolves
open Go.ChangeShapes Go.WideShapes Go.ChangeAt Go.RowKit Go.Ai Go.Fw
set_option linter.unusedVariables false

theorem own : ownKnob Tryd.prog.godebug = none := by kernel_rfl
theorem kids : kidsOk Tryd.prog [3, 22, 28, 23, 4] = true := by kernel_rfl
/-- The table, and that the row's condition tells it. -/
def zsT : List Int := [0,1,56,2,57,49,28,3,61,58,42,50,38,29,17,4,62,47,59,36,45,43,51,22,53,39,33,30,24,18,12,5,63,55,48,27,60,41,37,16,46,35,44,21,52,32,23,11,54,26,40,15,34,20,31,10,25,14,19,9,13,8,7,6]
theorem table {W : World} (h : laidMetH Tryd.prog Rows.flowSolvesRow.laid W) : Lib.TabIs Tryd.prog W "math/bits.deBruijn64tab" .u8 zsT :=
  Lib.tabIs_of_head (g := 0) (t := 125) (e := 5) (n := 64) (by kernel_rfl) (by kernel_rfl) Tryd.underlying125 Tryd.underlying5 (by kernel_rfl) (by kernel_rfl) h
theorem tabAt {W : World} (h : laidMetH Tryd.prog Rows.flowSolvesRow.laid W) : ∃ c t, (absH Tryd.prog W).get 0 = some (.cells c t) ∧ ∀ (i : Nat) y, (zsT.map fun z => Value.int .u8 z)[i]? = some y → c[i]? = some y := by
  have hv := table h
  have hg : Tryd.prog.globalNamed "math/bits.deBruijn64tab" = some 0 := by kernel_rfl
  unfold Lib.TabIs World.var? at hv
  rw [hg, Option.bind_some] at hv
  split at hv
  · rename_i cs t fz hb
    simp only [Option.some.injEq] at hv
    subst hv
    refine ⟨_, t, absH_get hb, fun i y hy => ?_⟩
    rw [List.getElem?_map, Option.map_eq_some_iff] at hy
    obtain ⟨z, hz, rfl⟩ := hy
    have hc : cellOk (.int .u8 z) = true := rfl
    simp only [List.getElem?_map, hz, Option.map_some]
    rw [absC_ok hc]
    rfl
  · cases hv

theorem walk {av : List Value} {w : World} (r : RWs Tryd.prog (absH Tryd.prog w) [3, 22, 23, 3] av) (T : ∃ c t, (absH Tryd.prog w).get 0 = some (.cells c t) ∧ ∀ (i : Nat) y, (zsT.map fun z => Value.int .u8 z)[i]? = some y → c[i]? = some y) : TC Tryd.prog 3 av (absH Tryd.prog w) (fun v _ => v = .bool true) := by
  match av, r with
  | [a0, a1, a2, a3], ⟨r0, r1, r2, r3, _⟩ =>
    obtain ⟨z0, e0, _⟩ := rw_int Tryd.underlying3 (rw_one (by kernel_rfl) r0)
    obtain ⟨es, E, _⟩ := Go.Fw.rd_edges (absH_lt w) (rw_one (by kernel_rfl) r1)
    obtain ⟨zs, S, _⟩ := Go.Fw.rd_ints (absH_lt w) (rw_one (by kernel_rfl) r2)
    obtain ⟨z3, e3, _⟩ := rw_int Tryd.underlying3 (rw_one (by kernel_rfl) r3)
    simp only [List.cons.injEq, and_true] at e0 e3
    subst e0 e3
    have T' : Go.Fw.TabH (absH Tryd.prog w) := by
      refine ⟨?_, T⟩
      obtain ⟨c, t, hg, _⟩ := T
      exact absH_lt w _ _ hg
    exact (DC.tc fun wf => Go.Fw.solves_law S E T' wf.2 wf).mono fun v _ e => e

set_option maxRecDepth 100000 in
theorem lifted (os : Os) (started : os.Started) (H : Type) (enc : TypeId × Value → H) :
    ReturnsInHanded {} Tryd.checked os 3 .any (fun w args => (Rows.flowSolvesSpec.pre enc Tryd.prog Tryd.f3 [] false w args ∧ laidMetH Tryd.prog Rows.flowSolvesRow.laid w) ∧ sizedMet enc Tryd.prog Tryd.f3 (OpenSpec.ofChange Rows.flowSolvesSpec) false w args)
      (Rows.flowSolvesSpec.post enc Tryd.prog Tryd.f3 false true false false) := by
  refine returnsInHanded_of_change_and (C := Tryd.checked) (X := fun w _ => laidMetH Tryd.prog Rows.flowSolvesRow.laid w) (fun _ _ _ hh h => h.of_heap hh) own started (by kernel_rfl) Tryd.func3
    (ChangeSpec.witness_shaped (enc := enc) (C := Tryd.checked) (os := os) (X := fun w _ => laidMetH Tryd.prog Rows.flowSolvesRow.laid w) false (World.laidAll Tryd.prog os Rows.flowSolvesRow.laid) #[.int .i64 0, .slice none 0 0, .slice none 0 0, .int .i64 0] 8 (World.laidAll_os _ _ _)
      (World.shaped_of_ZipB (by kernel_rfl) (by kernel_rfl)) (by kernel_rfl) (by kernel_rfl) (by kernel_rfl)
      (by rw [MakeChecks.laidMetH_plain _ _ _ (by kernel_rfl)]; exact laidMet_laidAll _ (by kernel_rfl) (by kernel_rfl))) ?_
  intro W base args ds gs before hval0 hW _ hsz hL _
  have hW' := hW
  have hlt := hW.lt
  obtain ⟨p, q, hA0, hV, rfl, hfz, hnd⟩ := hW
  obtain ⟨rfl, rfl⟩ := trodVars_none hV
  have hA : DataW.TrodAll enc Tryd.prog W 0 (fun _ => true) true Tryd.f3.params.toList args.toList ds p := hA0
  rw [Tryd.params3] at hA
  replace hA : DataW.TrodAll enc Tryd.prog W 0 (fun _ => true) true [3, 22, 23, 3] args.toList ds p := hA
  have hm : ∀ m ∈ DataW.weightsEach Tryd.prog [3, 22, 23, 3] ds, m ≤ reachBytes := by
    rw [Tryd.params3, List.append_nil] at hsz
    have h0 : (DataW.weightsEach Tryd.prog [3, 22, 23, 3] ds).all (· ≤ reachBytes) = true := hsz
    intro m hm
    exact of_decide_eq_true (List.all_eq_true.mp h0 m hm)
  obtain ⟨a1, a2⟩ := args_rw (P := Tryd.prog) (fun _ => rfl) [3, 22, 23, 3] args.toList ds p hA (fun j t v hj hv => hval0 j t v (by rw [Tryd.params3]; simpa using hj) (by simpa using hv)) hm
  have hc := Calls_of_TCW W a1 rfl (walk a2 (tabAt hL))
  rw [Array.toArray_toList] at hc
  obtain ⟨hl1, hl2⟩ := trodAll_length hA
  match ds, hl2, hA, hW' with
  | [d0, d1, d2, d3], _, hA, hW' =>
    refine hc.mono fun e W' ⟨he, hg⟩ => ?_
    subst he
    refine ⟨_, rfl, post_of_below (pa := p) (pv := []) hW' (fun _ _ _ => (trodAll_cons_mk (shut_bool Tryd.underlying4 _) trodAll_mk0)) (fun sp hsp => ?_) (fun _ _ => rfl) rfl hg (ok_one (by kernel_rfl) rfl (okWide_bool_mk Tryd.underlying4 _))⟩
    rw [Tryd.params3]
    exact args_stay kids hg [3, 22, 23, 3] args.toList [d0, d1, d2, d3] p hA (by decide) (fun x hx => hlt x (by simp [hx])) (fun x hx => hsp x (by simp [hx]))

theorem over : Rows.flowSolvesRow.holds Tryd.pinned (OpenSpec.ofChange Rows.flowSolvesSpec) :=
  OpenClaim.holds_of_wide 3 Tryd.f3 rfl rfl rfl rfl rfl rfl rfl ⟨rfl, rfl, rfl, rfl, rfl⟩ rfl rfl rfl rfl rfl (by kernel_rfl) Tryd.func3 (by kernel_rfl)
    (of_decide_eq_true (by kernel_rfl)) (by unfold Func.isWrapper; first | (rw [if_pos (by decide +kernel)]; kernel_rfl) | (rw [if_neg (by decide +kernel)]; exact ⟨rfl, rfl⟩))
    (fun os started H enc _ => lifted os started H enc)

/-- No parameter wants a stand-in; the program's own looks are off: what the card asks. -/
theorem plain (f : FuncId) (fn : Func) (hf : Tryd.pinned.checked.prog.funcNamed "plumbob/plumboblaw14.FlowSolves" = some f) (hfn : Tryd.pinned.checked.prog.funcs[f]? = some fn) :
    false = Tryd.pinned.checked.prog.looks [] ∧ ∀ (j : Nat) t, fn.params[j]? = some t → Tryd.pinned.checked.prog.wantsStandIn t = false := by
  obtain rfl : f = 3 := Option.some.inj ((show Tryd.prog.funcNamed "plumbob/plumboblaw14.FlowSolves" = some 3 by kernel_rfl).symm.trans hf) |>.symm
  obtain rfl : fn = Tryd.f3 := (Option.some.inj (Tryd.func3.symm.trans hfn)).symm
  refine ⟨by kernel_rfl, fun j t ht => ?_⟩
  rw [Tryd.params3] at ht
  have hm := List.mem_of_getElem? (l := [3, 22, 23, 3]) (i := j) (a := t) (by simpa using ht)
  simp only [List.mem_cons, List.not_mem_nil, or_false] at hm
  clear ht hfn hf
  rcases hm with rfl | rfl | rfl | rfl
  · show _ = false
    kernel_rfl
  · show _ = false
    kernel_rfl
  · show _ = false
    kernel_rfl
  · show _ = false
    kernel_rfl
theorem proved : Rows.FlowSolvesCardSaid :=
  Claim7.holds_tied_plain_at .later [] _ _ _ _ over (fun _ h => by cases h) (by kernel_rfl) (fun _ h => by cases h) flowSolves_row_tie rfl ⟨rfl, rfl⟩ (by kernel_rfl) rfl plain (by kernel_rfl)
#print axioms proved
end Go.Proofs.YtogpghbigjnpnaaDoor.flowSolves
