/-
  MemCopies answers true at every input, in every world, and turns nothing that was there before.
-/
import Derived.Test.YtpilbfkinpbnoaaRows
import Derived.WalkKit
import Derived.ProofKit
import Derived.OpenShut
import Derived.ChangeCalls
import Derived.Test.YtpilbfkinpbnoaaAiD
import Derived.Test.YtpilbfkinpbnoaaMemRA
import Derived.Test.YtpilbfkinpbnoaaMemT
namespace Go.Proofs.Ytpilbfkinpbnoaa.memCopies
open Go.ChangeShapes Go.WideShapes Go.ChangeAt Go.RowKit Go.Ai Go.Mem
set_option linter.unusedVariables false

theorem own : ownKnob Try.prog.godebug = none := by kernel_rfl
theorem kids : kidsOk Try.prog [22, 32, 3, 24, 2, 4] = true := by kernel_rfl

theorem walk {av : List Value} {w : World} (r : RDs Try.prog (absH Try.prog w) [22, 22] av) : TC Try.prog 6 av (absH Try.prog w) (fun v _ => v = .bool true) := by
  match av, r with
  | [a0, a1], ⟨r0, r1, _⟩ =>
    obtain ⟨z1, S1⟩ := rd_acts (absH_lt w) (rd_one (by kernel_rfl) r0)
    obtain ⟨z2, S2⟩ := rd_acts (absH_lt w) (rd_one (by kernel_rfl) r1)
    exact (copies_ok S1 S2).tc

set_option maxRecDepth 100000 in
theorem lifted (os : Os) (started : os.Started) (H : Type) (enc : TypeId × Value → H) :
    ReturnsInHanded {} Try.checked os 6 .any (Rows.memCopiesSpec.pre6 enc Try.prog Try.f6 Rows.memCopiesRow.domain false) (Rows.memCopiesSpec.post enc Try.prog Try.f6 false true false false) := by
  refine returnsInHanded_of_change (C := Try.checked) own started (by kernel_rfl) Try.func6
    (ChangeSpec.witness6 (enc := enc) (C := Try.checked) false ⟨#[], #[.slice none 0 0, .slice none 0 0], []⟩ 8 (by kernel_rfl) (by kernel_rfl) (by kernel_rfl) (by kernel_rfl)) ?_
  intro W base args ds gs before hval0 hW hcnd _
  have hW' := hW
  have hlt := hW.lt
  obtain ⟨p, q, hA0, hV, rfl, hfz, hnd⟩ := hW
  obtain ⟨rfl, rfl⟩ := trodVars_none hV
  have hA : DataW.TrodAll enc Try.prog W 0 (fun _ => true) true Try.f6.params.toList args.toList ds p := hA0
  rw [Try.params6] at hA
  replace hA : DataW.TrodAll enc Try.prog W 0 (fun _ => true) true [22, 22] args.toList ds p := hA
  obtain ⟨a1, a2⟩ := args_rd (P := Try.prog) (fun _ => rfl) [22, 22] args.toList ds p hA (fun j t v hj hv => hval0 j t v (by rw [Try.params6]; simpa using hj) (by simpa using hv))
  have hc := Calls_of_TCW W a1 rfl (walk a2)
  rw [Array.toArray_toList] at hc
  obtain ⟨hl1, hl2⟩ := trodAll_length hA
  match ds, hl2, hA, hW' with
  | [d0, d1], _, hA, hW' =>
    refine hc.mono fun e W' ⟨he, hg⟩ => ?_
    subst he
    refine ⟨_, rfl, post_of_below (pa := p) (pv := []) hW' (fun _ _ _ => (trodAll_cons_mk (shut_bool Try.underlying4 _) trodAll_mk0)) (fun sp hsp => ?_) (fun _ _ => rfl) rfl hg (ok_one (by kernel_rfl) rfl (okWide_bool_mk Try.underlying4 _))⟩
    rw [Try.params6]
    exact args_stay kids hg [22, 22] args.toList [d0, d1] p hA (by decide) (fun x hx => hlt x (by simp [hx])) (fun x hx => hsp x (by simp [hx]))

theorem over : Rows.memCopiesRow.holds Try.pinned (OpenSpec.ofChange Rows.memCopiesSpec) :=
  OpenClaim.holds_of_wide 6 Try.f6 rfl rfl rfl rfl rfl rfl rfl ⟨rfl, rfl, rfl, rfl, rfl⟩ rfl rfl rfl rfl rfl (by kernel_rfl) Try.func6 (by kernel_rfl)
    (of_decide_eq_true (by kernel_rfl)) (by unfold Func.isWrapper; first | (rw [if_pos (by decide +kernel)]; kernel_rfl) | (rw [if_neg (by decide +kernel)]; exact ⟨rfl, rfl⟩))
    (fun os started H enc _ => lifted os started H enc)

theorem proved : Rows.MemCopiesSaid :=
  over
#print axioms proved
end Go.Proofs.Ytpilbfkinpbnoaa.memCopies
