/-
  LtlGood answers true at every input, in every world, and turns nothing that was there before.
-/
import Derived.Test.YtjfflbdnikfjmaaRows
import Derived.WalkKit
import Derived.ProofKit
import Derived.OpenShut
import Derived.ChangeCalls
import Derived.SizedLaws
import Derived.Test.YtjfflbdnikfjmaaLtlDd
import Derived.Test.YtjfflbdnikfjmaaLtlY
namespace Go.Proofs.Ytjfflbdnikfjmaa.ltlGood
open Go.ChangeShapes Go.WideShapes Go.ChangeAt Go.RowKit Go.Ai Go.Ltl
set_option linter.unusedVariables false

theorem own : ownKnob Try.prog.godebug = none := by kernel_rfl
theorem kids : kidsOk Try.prog [25, 22, 23, 3, 45, 9, 43, 50, 2, 4] = true := by kernel_rfl

theorem walk {av : List Value} {w : World} (r : RWs Try.prog (absH Try.prog w) [25, 3, 3] av) : TC Try.prog 3 av (absH Try.prog w) (fun v _ => v = .bool true) := by
  match av, r with
  | [a0, a1, a2], ⟨r0, r1, r2, _⟩ =>
    obtain ⟨p, e0, P⟩ := rd_pg (absH_lt w) r0.1
    have := agg_of e0 (by show (3 : Nat) ≠ 1; decide)
    subst this
    obtain ⟨i, e1, _⟩ := rw_int Try.underlying3 (rw_one (by kernel_rfl) r1)
    obtain ⟨loc, e2, _⟩ := rw_int Try.underlying3 (rw_one (by kernel_rfl) r2)
    simp only [List.cons.injEq, and_true] at e1 e2
    subst e1 e2
    exact (law_ok p i loc _ P).tc.mono fun v _ e => e

set_option maxRecDepth 100000 in
theorem lifted (os : Os) (started : os.Started) (H : Type) (enc : TypeId × Value → H) :
    ReturnsInHanded {} Try.checked os 3 .any (Rows.ltlGoodSpec.pre6 enc Try.prog Try.f3 Rows.ltlGoodRow.domain false) (Rows.ltlGoodSpec.post enc Try.prog Try.f3 false true false false) := by
  refine returnsInHanded_of_change_sized (C := Try.checked) own started (by kernel_rfl) Try.func3
    (ChangeSpec.witness6 (enc := enc) (C := Try.checked) false ⟨#[], #[.agg #[.slice none 0 0, .slice none 0 0, .int .i64 0], .int .i64 0, .int .i64 0], []⟩ 8 (by kernel_rfl) (by kernel_rfl) (by kernel_rfl) (by kernel_rfl)) ?_
  intro W base args ds gs before hval0 hW hcnd hsz _
  have hW' := hW
  have hlt := hW.lt
  obtain ⟨p, q, hA0, hV, rfl, hfz, hnd⟩ := hW
  obtain ⟨rfl, rfl⟩ := trodVars_none hV
  have hA : DataW.TrodAll enc Try.prog W 0 (fun _ => true) true Try.f3.params.toList args.toList ds p := hA0
  rw [Try.params3] at hA
  replace hA : DataW.TrodAll enc Try.prog W 0 (fun _ => true) true [25, 3, 3] args.toList ds p := hA
  have hm : ∀ m ∈ DataW.weightsEach Try.prog [25, 3, 3] ds, m ≤ reachBytes := by
    rw [Try.params3, List.append_nil] at hsz
    have h0 : (DataW.weightsEach Try.prog [25, 3, 3] ds).all (· ≤ reachBytes) = true := hsz
    intro m hm
    exact of_decide_eq_true (List.all_eq_true.mp h0 m hm)
  obtain ⟨a1, a2⟩ := args_rw (P := Try.prog) (fun _ => rfl) [25, 3, 3] args.toList ds p hA (fun j t v hj hv => hval0 j t v (by rw [Try.params3]; simpa using hj) (by simpa using hv)) hm
  have hc := Calls_of_TCW W a1 rfl (walk a2)
  rw [Array.toArray_toList] at hc
  obtain ⟨hl1, hl2⟩ := trodAll_length hA
  match ds, hl2, hA, hW' with
  | [d0, d1, d2], _, hA, hW' =>
    refine hc.mono fun e W' ⟨he, hg⟩ => ?_
    subst he
    refine ⟨_, rfl, post_of_below (pa := p) (pv := []) hW' (fun _ _ _ => (trodAll_cons_mk (shut_bool Try.underlying4 _) trodAll_mk0)) (fun sp hsp => ?_) (fun _ _ => rfl) rfl hg (ok_one (by kernel_rfl) rfl (okWide_bool_mk Try.underlying4 _))⟩
    rw [Try.params3]
    exact args_stay kids hg [25, 3, 3] args.toList [d0, d1, d2] p hA (by decide) (fun x hx => hlt x (by simp [hx])) (fun x hx => hsp x (by simp [hx]))

theorem over : Rows.ltlGoodRow.holds Try.pinned (OpenSpec.ofChange Rows.ltlGoodSpec) :=
  OpenClaim.holds_of_wide 3 Try.f3 rfl rfl rfl rfl rfl rfl rfl ⟨rfl, rfl, rfl, rfl, rfl⟩ rfl rfl rfl rfl rfl (by kernel_rfl) Try.func3 (by kernel_rfl)
    (of_decide_eq_true (by kernel_rfl)) (by unfold Func.isWrapper; first | (rw [if_pos (by decide +kernel)]; kernel_rfl) | (rw [if_neg (by decide +kernel)]; exact ⟨rfl, rfl⟩))
    (fun os started H enc _ => lifted os started H enc)

theorem proved : Rows.LtlGoodSaid :=
  over
#print axioms proved
end Go.Proofs.Ytjfflbdnikfjmaa.ltlGood
