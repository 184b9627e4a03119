/-
  AllocKnown answers true in every world, and turns nothing that was there before; the listed tables are tied to the program's text.
-/
import Derived.Test.YtcfledjilpdddadGreatDoorCards
import Derived.Test.YtcfledjilpdddadGreatDoorTie
import Derived.WalkKit
import Derived.ProofKit
import Derived.OpenShut
import Derived.Lay
import Derived.LaidOnce
import Derived.SevenTiedAt
import Derived.Lib.LaidTab
import Derived.Stop.LaidErr
import Derived.Test.YtcfledjilpdddadGreatDoorAiRow
import Derived.Test.YtcfledjilpdddadGreatDoorAllocRun1
import Derived.Test.YtcfledjilpdddadGreatDoorAllocRun2
import Derived.Test.YtcfledjilpdddadGreatDoorAllocRun3
namespace Go.Proofs.YtcfledjilpdddadGreatDoor.allocKnown
open Go.ChangeShapes Go.WideShapes Go.ChangeAt Go.RowKit Go.Ai
set_option linter.unusedVariables false

theorem own : ownKnob Tryz.prog.godebug = none := by kernel_rfl
theorem mixed : Tryz.prog.follows .mixedOrders = true := Checked.mixed Tryz.checked
theorem fits : callsOk Tryz.prog cls = true := by decide +kernel
/-- What the row's condition tells of the table. -/
theorem table {W : World} (h : laidMetH Tryz.prog Rows.allocKnownRow.laid W) : Lib.TabIs Tryz.prog W "math/bits.deBruijn64tab" .u8 zs :=
  Lib.tabIs_of_head (g := 0) (t := 130) (e := 5) (n := 64) (by kernel_rfl) (by kernel_rfl) Tryz.underlying130 Tryz.underlying5 (by kernel_rfl) (by kernel_rfl) h
theorem holdsTab {W : World} (h : laidMetH Tryz.prog Rows.allocKnownRow.laid W) : ∀ x, x ∈ tabs → x.1 < 100 ∧ x.2.all flat = true ∧ HoldsTab W x.1 x.2 := by
  intro x hx
  simp only [tabs, List.mem_singleton] at hx
  subst hx
  refine ⟨by decide, by decide +kernel, ?_⟩
  have hv := table h
  have hg : Tryz.prog.globalNamed "math/bits.deBruijn64tab" = some 0 := by kernel_rfl
  unfold Lib.TabIs World.var? at hv
  rw [hg, Option.bind_some] at hv
  split at hv
  · rename_i cs t fz hb
    simp only [Option.some.injEq] at hv
    subst hv
    exact ⟨_, t, fz, hb, fun i x hx => by simpa using hx⟩
  · cases hv
theorem body4 : Tryz.f4.body = some B := by kernel_rfl
theorem body3 : Tryz.f3.body = some L := by kernel_rfl
/-- awake answers true. -/
theorem awake : TC Tryz.prog 4 [] (tabled 100 tabs) (fun v _ => v = .bool true) := by
  refine TC_of_T Tryz.func4 body4 ?_
  have e : Tryz.f4.ntmps = 74 := by kernel_rfl
  rw [e]
  refine (T_cutC fits mixed (by kernel_rfl) p0 ?_).mono (fun e s1 h1 q => q)
  refine T_cutC fits mixed (by kernel_rfl) p1 ?_
  refine T_cutC fits mixed (by kernel_rfl) p2 ?_
  refine T_cutC fits mixed (by kernel_rfl) p3 ?_
  refine T_cutC fits mixed (by kernel_rfl) p4 ?_
  exact T_last fits mixed p5
/-- .. on every heap that has the table. -/
theorem awakeAll {h : AHeap} (hh : h.get 0 = some (.tab (zs.map fun z => .int .u8 z))) : TC Tryz.prog 4 [] h (fun v k => v = .bool true ∧ k = h) := by
  refine TC_closed (m := 100) (tabs := tabs) rfl (Nat.le_of_ble_eq_true (by kernel_rfl)) (fun x hx => ?_) awake (fun x hx => ?_)
  · simp only [tabs, List.mem_singleton] at hx
    subst hx
    exact ⟨by decide, Nat.le_of_ble_eq_true (n := 1) (by kernel_rfl), by decide +kernel⟩
  · simp only [tabs, List.mem_singleton] at hx
    subst hx
    exact hh
noncomputable def A : Code := fstC (fstC (sndC L))
noncomputable def ops : Array Oper := match A with | .region _ o _ => o | _ => #[]
noncomputable def o0 : Oper := ops.getD 0 default
noncomputable def o1 : Oper := ops.getD 1 default
theorem first : T Tryz.prog none A (mkEnv ws0) (mkHeap bs0 100 100) (fun e s' h' => e = .normal ∧ s' = ((mkEnv ws0).set 8 (.bool true)).set 9 (.bool false) ∧ h' = mkHeap bs0 100 100) := by
  have ea : A = .region 1 ops false := by kernel_rfl
  rw [ea]
  exact T_known (g := 4) (ts := #[]) (s1 := (mkEnv ws0).set 8 (.bool true)) (o0 := o0) (o1 := o1) (v1 := .bool false) (by kernel_rfl) (by kernel_rfl) (by kernel_rfl) (by kernel_rfl) (by kernel_rfl) (by kernel_rfl) (awakeAll (by kernel_rfl)) (by kernel_rfl) (by kernel_rfl) (by kernel_rfl) (by kernel_rfl)
theorem second : run Tryz.prog cls 4000 (.code none (sndC (fstC (sndC L))) (((mkEnv ws0).set 8 (.bool true)).set 9 (.bool false))) (mkHeap bs0 100 100) = some (.ex .normal (((mkEnv ws0).set 8 (.bool true)).set 9 (.bool false)), mkHeap bs0 100 100) := by kernel_rfl
theorem law : TC Tryz.prog 3 [] (tabled 100 tabs) (fun v _ => v = .bool true) := by
  refine TC_of_T Tryz.func3 body3 ?_
  have e : Tryz.f3.ntmps = 56 := by kernel_rfl
  rw [e]
  refine T_cutC fits mixed (by kernel_rfl) p6 ?_
  rw [seq_parts (c := sndC L) (by kernel_rfl)]
  refine T_seq ?_
  rw [seq_parts (c := fstC (sndC L)) (by kernel_rfl)]
  refine T_seq ?_
  refine first.mono ?_
  rintro e s2 h2 ⟨rfl, rfl, rfl⟩
  refine (T_run fits mixed second).mono ?_
  rintro e s2 h2 ⟨rfl, rfl, rfl⟩
  exact T_last fits mixed p7
theorem walk (w : World) (H : laidMetH Tryz.prog Rows.allocKnownRow.laid w) : Calls Tryz.prog 3 #[] w fun e w' => e = .returned (.bool true) ∧ Below w.heap.size w w' :=
  Calls_of_TCT rfl (Nat.le_of_ble_eq_true (by kernel_rfl)) law w (holdsTab H)

set_option maxRecDepth 100000 in
theorem lifted (os : Os) (started : os.Started) (H : Type) (enc : TypeId × Value → H) :
    ReturnsInHanded {} Tryz.checked os 3 .any (fun w args => (Rows.allocKnownSpec.pre enc Tryz.prog Tryz.f3 [] false w args ∧ laidMetH Tryz.prog Rows.allocKnownRow.laid w) ∧ sizedMet enc Tryz.prog Tryz.f3 (OpenSpec.ofChange Rows.allocKnownSpec) false w args)
      (Rows.allocKnownSpec.post enc Tryz.prog Tryz.f3 false true false false) := by
  refine returnsInHanded_of_change_and (C := Tryz.checked) (X := fun w _ => laidMetH Tryz.prog Rows.allocKnownRow.laid w) (fun _ _ _ hh h => h.of_heap hh) own started (by kernel_rfl) Tryz.func3
    (ChangeSpec.witness_shaped (enc := enc) (C := Tryz.checked) (os := os) (X := fun w _ => laidMetH Tryz.prog Rows.allocKnownRow.laid w) false (World.laidAll Tryz.prog os Rows.allocKnownRow.laid) #[] 8 (World.laidAll_os _ _ _)
      (World.shaped_of_ZipB (by kernel_rfl) (by kernel_rfl)) (by kernel_rfl) (by kernel_rfl) (by kernel_rfl)
      (by rw [MakeChecks.laidMetH_plain _ _ _ (by kernel_rfl)]; exact laidMet_laidAll _ (by kernel_rfl) (by kernel_rfl))) ?_
  intro W base args ds gs before hval0 hW _ _ hL _
  have hW' := hW
  obtain ⟨p, q, hA0, hV, rfl, hfz, hnd⟩ := hW
  have hA : DataW.TrodAll enc Tryz.prog W 0 (fun _ => true) true Tryz.f3.params.toList args.toList ds p := hA0
  rw [Tryz.params3] at hA
  obtain ⟨hargs, rfl, rfl⟩ := trodAll_none hA
  obtain ⟨rfl, rfl⟩ := trodVars_none hV
  have hargs' : args = #[] := by simpa using hargs
  subst hargs'
  simp only [List.append_nil] at hW'
  refine (walk W hL).mono fun e W' ⟨he, hg⟩ => ?_
  subst he
  exact ⟨_, rfl, post_of_below (pa := []) (pv := []) hW' (fun _ _ _ => (trodAll_cons_mk (shut_bool Tryz.underlying4 _) trodAll_mk0)) (fun sp _ => rfl) (fun _ _ => rfl) rfl
    hg (ok_one (by kernel_rfl) rfl (okWide_bool_mk Tryz.underlying4 _))⟩

theorem over : Rows.allocKnownRow.holds Tryz.pinned (OpenSpec.ofChange Rows.allocKnownSpec) :=
  OpenClaim.holds_of_wide 3 Tryz.f3 rfl rfl rfl rfl rfl rfl rfl ⟨rfl, rfl, rfl, rfl, rfl⟩ rfl rfl rfl rfl rfl (by kernel_rfl) Tryz.func3 (by kernel_rfl)
    (of_decide_eq_true (by kernel_rfl)) (by unfold Func.isWrapper; first | (rw [if_pos (by decide +kernel)]; kernel_rfl) | (rw [if_neg (by decide +kernel)]; exact ⟨rfl, rfl⟩))
    (fun os started H enc _ => lifted os started H enc)

/-- No parameter wants a stand-in; the program's own looks are off: what the card asks. -/
theorem plain (f : FuncId) (fn : Func) (hf : Tryz.pinned.checked.prog.funcNamed "plumbob/plumboblaw17.AllocKnown" = some f) (hfn : Tryz.pinned.checked.prog.funcs[f]? = some fn) :
    false = Tryz.pinned.checked.prog.looks [] ∧ ∀ (j : Nat) t, fn.params[j]? = some t → Tryz.pinned.checked.prog.wantsStandIn t = false := by
  obtain rfl : f = 3 := Option.some.inj ((show Tryz.prog.funcNamed "plumbob/plumboblaw17.AllocKnown" = some 3 by kernel_rfl).symm.trans hf) |>.symm
  obtain rfl : fn = Tryz.f3 := (Option.some.inj (Tryz.func3.symm.trans hfn)).symm
  refine ⟨by kernel_rfl, fun j t ht => ?_⟩
  rw [Tryz.params3] at ht
  simp at ht
theorem proved : Rows.AllocKnownCardSaid :=
  Claim7.holds_tied_plain_at .later [] _ _ _ _ over (fun _ h => by cases h) (by kernel_rfl) (fun _ h => by cases h) allocKnown_row_tie rfl ⟨rfl, rfl⟩ (by kernel_rfl) rfl plain (by kernel_rfl)
#print axioms proved
end Go.Proofs.YtcfledjilpdddadGreatDoor.allocKnown
