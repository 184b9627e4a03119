/- A part of the proof. -/
import Derived.Test.YtfhacoddmpbgnaaDoorCards
import Derived.Test.YtfhacoddmpbgnaaDoorTie
import Derived.WalkKit
import Derived.ProofKit
import Derived.OpenShut
import Derived.Lay
import Derived.LaidOnce
import Derived.SevenTiedAt
import Derived.ChangeCalls
import Derived.SizedLaws
import Derived.Lib.LaidTab
import Derived.Stop.LaidErr
import Derived.Test.YtfhacoddmpbgnaaDoorTD
import Derived.Test.YtfhacoddmpbgnaaDoorTP
set_option linter.unusedVariables false
set_option linter.unusedSimpArgs false
namespace Go.Proofs.YtfhacoddmpbgnaaDoor.rtlMore
open Go.ChangeShapes Go.WideShapes Go.ChangeAt Go.RowKit Go.Ai Go.Rtl
set_option linter.unusedVariables false
theorem own : ownKnob Tryd.prog.godebug = none := by kernel_rfl
theorem kids : kidsOk Tryd.prog [25, 22, 23, 3, 51, 9, 49, 46, 2, 26, 4] = true := by kernel_rfl
def zsT : List Int := [1,10,100,1000,10000,100000,1000000,10000000,100000000,1000000000,10000000000,100000000000,1000000000000,10000000000000,100000000000000,1000000000000000,10000000000000000,100000000000000000,1000000000000000000,10000000000000000000]
theorem table {W : World} (h : laidMetH Tryd.prog Rows.rtlMoreRow.laid W) : Lib.TabIs Tryd.prog W "internal/strconv.uint64pow10" .u64 zsT :=
  Lib.tabIs_of_head (g := 0) (t := 155) (e := 137) (n := 20) (by kernel_rfl) (by kernel_rfl) Tryd.underlying155 Tryd.underlying137 (by kernel_rfl) (by kernel_rfl) (laidMet.tail (laidMet.tail h))
theorem tabAt {W : World} (h : laidMetH Tryd.prog Rows.rtlMoreRow.laid W) : ∃ c t, (absH Tryd.prog W).get 0 = some (.cells c t) ∧ ∀ (i : Nat) y, (zsT.map fun z => Value.int .u64 z)[i]? = some y → c[i]? = some y := by
  have hv := table h
  have hg : Tryd.prog.globalNamed "internal/strconv.uint64pow10" = some 0 := by kernel_rfl
  unfold Lib.TabIs World.var? at hv
  rw [hg, Option.bind_some] at hv
  split at hv
  · rename_i cs t fz hb
    simp only [Option.some.injEq] at hv
    subst hv
    refine ⟨_, t, absH_get hb, fun i y hy => ?_⟩
    rw [List.getElem?_map, Option.map_eq_some_iff] at hy
    obtain ⟨z, hz, rfl⟩ := hy
    have hc : cellOk (.int .u64 z) = true := rfl
    simp only [List.getElem?_map, hz, Option.map_some]
    rw [absC_ok hc]
    rfl
  · cases hv
theorem walk {av : List Value} {w : World} (r : RWs Tryd.prog (absH Tryd.prog w) [25, 26, 26, 3, 3] av) (T : ∃ c t, (absH Tryd.prog w).get 0 = some (.cells c t) ∧ ∀ (i : Nat) y, (zsT.map fun z => Value.int .u64 z)[i]? = some y → c[i]? = some y) : TC Tryd.prog 3 av (absH Tryd.prog w) (fun v _ => v = .bool true) := by
  match av, r with
  | [a0, a1, a2, a3, a4], ⟨r0, r1, r2, r3, r4, _⟩ =>
    obtain ⟨p, e0, P⟩ := rd_pg (absH_lt w) r0.1
    have := agg_of e0 (by show (3 : Nat) ≠ 1; decide)
    subst this
    obtain ⟨args, S1, _⟩ := rd_i64s (absH_lt w) (rw_one (by kernel_rfl) r1)
    obtain ⟨world, S2, hl⟩ := rd_i64s (absH_lt w) (rw_one (by kernel_rfl) r2)
    obtain ⟨z3, e3, _⟩ := rw_int Tryd.underlying3 (rw_one (by kernel_rfl) r3)
    obtain ⟨z4, e4, _⟩ := rw_int Tryd.underlying3 (rw_one (by kernel_rfl) r4)
    simp only [List.cons.injEq, and_true] at e3 e4
    subst e3 e4
    have T' : Go.Rl.TabH (absH Tryd.prog w) := by
      refine ⟨?_, T⟩
      obtain ⟨c, t, hg, _⟩ := T
      exact absH_lt w _ _ hg
    exact (Go.Rl.law_ok P S1 S2 (by omega) T').tc.mono fun v _ e => e
set_option maxRecDepth 100000 in
theorem lifted (os : Os) (started : os.Started) (H : Type) (enc : TypeId × Value → H) :
    ReturnsInHanded {} Tryd.checked os 3 .any (fun w args => (Rows.rtlMoreSpec.pre enc Tryd.prog Tryd.f3 [] false w args ∧ laidMetH Tryd.prog Rows.rtlMoreRow.laid w) ∧ sizedMet enc Tryd.prog Tryd.f3 (OpenSpec.ofChange Rows.rtlMoreSpec) false w args)
      (Rows.rtlMoreSpec.post enc Tryd.prog Tryd.f3 false true false false) := by
  refine returnsInHanded_of_change_and (C := Tryd.checked) (X := fun w _ => laidMetH Tryd.prog Rows.rtlMoreRow.laid w) (fun _ _ _ hh h => h.of_heap hh) own started (by kernel_rfl) Tryd.func3
    (ChangeSpec.witness_shaped (enc := enc) (C := Tryd.checked) (os := os) (X := fun w _ => laidMetH Tryd.prog Rows.rtlMoreRow.laid w) false (World.laidAll Tryd.prog os Rows.rtlMoreRow.laid) #[.agg #[.slice none 0 0, .slice none 0 0, .int .i64 0], .slice none 0 0, .slice none 0 0, .int .i64 0, .int .i64 0] 8 (World.laidAll_os _ _ _)
      (World.shaped_of_ZipB (by kernel_rfl) (by kernel_rfl)) (by kernel_rfl) (by kernel_rfl) (by kernel_rfl)
      (by rw [MakeChecks.laidMetH_plain _ _ _ (by kernel_rfl)]; exact laidMet_laidAll _ (by kernel_rfl) (by kernel_rfl))) ?_
  intro W base args ds gs before hval0 hW _ hsz hL _
  have hW' := hW
  have hlt := hW.lt
  obtain ⟨p, q, hA0, hV, rfl, hfz, hnd⟩ := hW
  obtain ⟨rfl, rfl⟩ := trodVars_none hV
  have hA : DataW.TrodAll enc Tryd.prog W 0 (fun _ => true) true Tryd.f3.params.toList args.toList ds p := hA0
  rw [Tryd.params3] at hA
  replace hA : DataW.TrodAll enc Tryd.prog W 0 (fun _ => true) true [25, 26, 26, 3, 3] args.toList ds p := hA
  have hm : ∀ m ∈ DataW.weightsEach Tryd.prog [25, 26, 26, 3, 3] ds, m ≤ reachBytes := by
    rw [Tryd.params3, List.append_nil] at hsz
    have h0 : (DataW.weightsEach Tryd.prog [25, 26, 26, 3, 3] ds).all (· ≤ reachBytes) = true := hsz
    intro m hm
    exact of_decide_eq_true (List.all_eq_true.mp h0 m hm)
  obtain ⟨a1, a2⟩ := args_rw (P := Tryd.prog) (fun _ => rfl) [25, 26, 26, 3, 3] args.toList ds p hA (fun j t v hj hv => hval0 j t v (by rw [Tryd.params3]; simpa using hj) (by simpa using hv)) hm
  have hc := Calls_of_TCW W a1 rfl (walk a2 (tabAt hL))
  rw [Array.toArray_toList] at hc
  obtain ⟨hl1, hl2⟩ := trodAll_length hA
  match ds, hl2, hA, hW' with
  | [d0, d1, d2, d3, d4], _, hA, hW' =>
    refine hc.mono fun e W' ⟨he, hg⟩ => ?_
    subst he
    refine ⟨_, rfl, post_of_below (pa := p) (pv := []) hW' (fun _ _ _ => (trodAll_cons_mk (shut_bool Tryd.underlying4 _) trodAll_mk0)) (fun sp hsp => ?_) (fun _ _ => rfl) rfl hg (ok_one (by kernel_rfl) rfl (okWide_bool_mk Tryd.underlying4 _))⟩
    rw [Tryd.params3]
    exact args_stay kids hg [25, 26, 26, 3, 3] args.toList [d0, d1, d2, d3, d4] p hA (by decide) (fun x hx => hlt x (by simp [hx])) (fun x hx => hsp x (by simp [hx]))
theorem over : Rows.rtlMoreRow.holds Tryd.pinned (OpenSpec.ofChange Rows.rtlMoreSpec) :=
  OpenClaim.holds_of_wide 3 Tryd.f3 rfl rfl rfl rfl rfl rfl rfl ⟨rfl, rfl, rfl, rfl, rfl⟩ rfl rfl rfl rfl rfl (by kernel_rfl) Tryd.func3 (by kernel_rfl)
    (of_decide_eq_true (by kernel_rfl)) (by unfold Func.isWrapper; first | (rw [if_pos (by decide +kernel)]; kernel_rfl) | (rw [if_neg (by decide +kernel)]; exact ⟨rfl, rfl⟩))
    (fun os started H enc _ => lifted os started H enc)
theorem plain (f : FuncId) (fn : Func) (hf : Tryd.pinned.checked.prog.funcNamed "plumbob/plumboblaw12.RtlMore" = some f) (hfn : Tryd.pinned.checked.prog.funcs[f]? = some fn) :
    false = Tryd.pinned.checked.prog.looks [] ∧ ∀ (j : Nat) t, fn.params[j]? = some t → Tryd.pinned.checked.prog.wantsStandIn t = false := by
  obtain rfl : f = 3 := Option.some.inj ((show Tryd.prog.funcNamed "plumbob/plumboblaw12.RtlMore" = some 3 by kernel_rfl).symm.trans hf) |>.symm
  obtain rfl : fn = Tryd.f3 := (Option.some.inj (Tryd.func3.symm.trans hfn)).symm
  refine ⟨by kernel_rfl, fun j t ht => ?_⟩
  rw [Tryd.params3] at ht
  have hm := List.mem_of_getElem? (l := [25, 26, 26, 3, 3]) (i := j) (a := t) (by simpa using ht)
  simp only [List.mem_cons, List.not_mem_nil, or_false] at hm
  clear ht hfn hf
  rcases hm with rfl | rfl | rfl | rfl | rfl
  · show _ = false
    kernel_rfl
  · show _ = false
    kernel_rfl
  · show _ = false
    kernel_rfl
  · show _ = false
    kernel_rfl
  · show _ = false
    kernel_rfl
theorem proved : Rows.RtlMoreCardSaid :=
  Claim7.holds_tied_plain_at .later [] _ _ _ _ over (fun _ h => by cases h) (by kernel_rfl) (fun _ h => by cases h) rtlMore_row_tie rfl ⟨rfl, rfl⟩ (by kernel_rfl) rfl plain (by kernel_rfl)
#print axioms proved
end Go.Proofs.YtfhacoddmpbgnaaDoor.rtlMore
