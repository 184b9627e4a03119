/-
  OptKnown answers true in every world, and turns nothing that was there before.
-/
import Derived.Test.YtjfflbdnikfjmabRows
import Derived.WalkKit
import Derived.ProofKit
import Derived.OpenShut
import Derived.Test.YtjfflbdnikfjmabAiD
import Derived.Test.YtjfflbdnikfjmabOptRun1
import Derived.Test.YtjfflbdnikfjmabOptRun2
import Derived.Test.YtjfflbdnikfjmabOptRun3
namespace Go.Proofs.Ytjfflbdnikfjmab.optKnown
open Go.ChangeShapes Go.WideShapes Go.ChangeAt Go.RowKit Go.Ai
set_option linter.unusedVariables false

theorem own : ownKnob Try.prog.godebug = none := by kernel_rfl

theorem mixed : Try.prog.follows .mixedOrders = true := Checked.mixed Try.checked
theorem fits : callsOk Try.prog cls = true := by decide +kernel
theorem body4 : Try.f4.body = some B := by kernel_rfl
theorem body3 : Try.f3.body = some L := by kernel_rfl
/-- awake answers true. -/
theorem awake : TC Try.prog 4 [] (tabled 100 []) (fun v _ => v = .bool true) := by
  refine TC_of_T Try.func4 body4 ?_
  have e : Try.f4.ntmps = 149 := by kernel_rfl
  rw [e]
  refine (T_cutC fits mixed (by kernel_rfl) p0 ?_).mono (fun e s1 h1 q => q)
  refine T_cutC fits mixed (by kernel_rfl) p1 ?_
  refine T_cutC fits mixed (by kernel_rfl) p2 ?_
  exact T_last fits mixed p5
/-- .. on every heap. -/
theorem awakeAll {h : AHeap} : TC Try.prog 4 [] h (fun v k => v = .bool true ∧ k = h) :=
  TC_closed (m := 100) (tabs := []) rfl (Nat.le_of_ble_eq_true (by kernel_rfl)) (fun x hx => (by cases hx)) awake (fun x hx => (by cases hx))
noncomputable def A : Code := fstC (fstC (sndC L))
noncomputable def ops : Array Oper := match A with | .region _ o _ => o | _ => #[]
noncomputable def o0 : Oper := ops.getD 0 default
noncomputable def o1 : Oper := ops.getD 1 default
theorem first : T Try.prog none A (mkEnv ws0) (mkHeap bs0 100 100) (fun e s' h' => e = .normal ∧ s' = ((mkEnv ws0).set 9 (.bool true)).set 10 (.bool false) ∧ h' = mkHeap bs0 100 100) := by
  have ea : A = .region 1 ops false := by kernel_rfl
  rw [ea]
  exact T_known (g := 4) (ts := #[]) (s1 := (mkEnv ws0).set 9 (.bool true)) (o0 := o0) (o1 := o1) (v1 := .bool false) (by kernel_rfl) (by kernel_rfl) (by kernel_rfl) (by kernel_rfl) (by kernel_rfl) (by kernel_rfl) awakeAll (by kernel_rfl) (by kernel_rfl) (by kernel_rfl) (by kernel_rfl)
theorem second : run Try.prog cls 4000 (.code none (sndC (fstC (sndC L))) (((mkEnv ws0).set 9 (.bool true)).set 10 (.bool false))) (mkHeap bs0 100 100) = some (.ex .normal (((mkEnv ws0).set 9 (.bool true)).set 10 (.bool false)), mkHeap bs0 100 100) := by kernel_rfl
theorem law : TC Try.prog 3 [] (tabled 100 []) (fun v _ => v = .bool true) := by
  refine TC_of_T Try.func3 body3 ?_
  have e : Try.f3.ntmps = 50 := by kernel_rfl
  rw [e]
  refine T_cutC fits mixed (by kernel_rfl) p6 ?_
  rw [seq_parts (c := sndC L) (by kernel_rfl)]
  refine T_seq ?_
  rw [seq_parts (c := fstC (sndC L)) (by kernel_rfl)]
  refine T_seq ?_
  refine first.mono ?_
  rintro e s2 h2 ⟨rfl, rfl, rfl⟩
  refine (T_run fits mixed second).mono ?_
  rintro e s2 h2 ⟨rfl, rfl, rfl⟩
  exact T_last fits mixed p7
theorem walk (w : World) : Calls Try.prog 3 #[] w fun e w' => e = .returned (.bool true) ∧ Below w.heap.size w w' :=
  Calls_of_TCT rfl (Nat.le_of_ble_eq_true (by kernel_rfl)) law w (fun x hx => (by cases hx))

set_option maxRecDepth 100000 in
theorem lifted (os : Os) (started : os.Started) (H : Type) (enc : TypeId × Value → H) :
    ReturnsInHanded {} Try.checked os 3 .any (Rows.optKnownSpec.pre6 enc Try.prog Try.f3 Rows.optKnownRow.domain false) (Rows.optKnownSpec.post enc Try.prog Try.f3 false true false false) := by
  refine returnsInHanded_of_change (C := Try.checked) own started (by kernel_rfl) Try.func3
    (ChangeSpec.witness6 (enc := enc) (C := Try.checked) false ⟨#[], #[], []⟩ 8 (by kernel_rfl) (by kernel_rfl) (by kernel_rfl) (by kernel_rfl)) ?_
  intro W base args ds gs before hval0 hW hcnd _
  have hW' := hW
  obtain ⟨p, q, hA0, hV, rfl, hfz, hnd⟩ := hW
  have hA : DataW.TrodAll enc Try.prog W 0 (fun _ => true) true Try.f3.params.toList args.toList ds p := hA0
  rw [Try.params3] at hA
  obtain ⟨hargs, rfl, rfl⟩ := trodAll_none hA
  obtain ⟨rfl, rfl⟩ := trodVars_none hV
  have hargs' : args = #[] := by simpa using hargs
  subst hargs'
  simp only [List.append_nil] at hW'
  refine (walk W).mono fun e W' ⟨he, hg⟩ => ?_
  subst he
  exact ⟨_, rfl, post_of_below (pa := []) (pv := []) hW' (fun _ _ _ => (trodAll_cons_mk (shut_bool Try.underlying4 _) trodAll_mk0)) (fun sp _ => rfl) (fun _ _ => rfl) rfl
    hg (ok_one (by kernel_rfl) rfl (okWide_bool_mk Try.underlying4 _))⟩

theorem over : Rows.optKnownRow.holds Try.pinned (OpenSpec.ofChange Rows.optKnownSpec) :=
  OpenClaim.holds_of_wide 3 Try.f3 rfl rfl rfl rfl rfl rfl rfl ⟨rfl, rfl, rfl, rfl, rfl⟩ rfl rfl rfl rfl rfl (by kernel_rfl) Try.func3 (by kernel_rfl)
    (of_decide_eq_true (by kernel_rfl)) (by unfold Func.isWrapper; first | (rw [if_pos (by decide +kernel)]; kernel_rfl) | (rw [if_neg (by decide +kernel)]; exact ⟨rfl, rfl⟩))
    (fun os started H enc _ => lifted os started H enc)

theorem proved : Rows.OptKnownSaid :=
  over
#print axioms proved
end Go.Proofs.Ytjfflbdnikfjmab.optKnown
