/- A part of the proof. -/
import Derived.Test.YtfhacoddmpbgnaaGreatDoorCards
import Derived.Test.YtfhacoddmpbgnaaGreatDoorTie
import Derived.WalkKit
import Derived.ProofKit
import Derived.OpenShut
import Derived.Lay
import Derived.LaidOnce
import Derived.SevenTiedAt
import Derived.ChangeCalls
import Derived.SizedLaws
import Derived.Lib.LaidTab
import Derived.Stop.LaidErr
import Derived.Test.YtfhacoddmpbgnaaGreatDoorTR
set_option linter.unusedVariables false
set_option linter.unusedSimpArgs false
set_option maxRecDepth 100000
namespace Go.Proofs.YtfhacoddmpbgnaaGreatDoor.rtlRuns
open Go.ChangeShapes Go.WideShapes Go.ChangeAt Go.RowKit Go.Ai Go.Rtl
theorem own:ownKnob Tryz.prog.godebug=none:=by kernel_rfl
theorem kids:kidsOk Tryz.prog [25,22,23,3,45,9,43,53,2,26,4]=true:=by kernel_rfl
def zsT:List Int:=[1,10,100,1000,10000,100000,1000000,10000000,100000000,1000000000,10000000000,100000000000,1000000000000,10000000000000,100000000000000,1000000000000000,10000000000000000,100000000000000000,1000000000000000000,10000000000000000000]
theorem table{W:World}(h:laidMetH Tryz.prog Rows.rtlRunsRow.laid W):Lib.TabIs Tryz.prog W "internal/strconv.uint64pow10" .u64 zsT :=
 Lib.tabIs_of_head (g:=0) (t:=197) (e:=177) (n:=20) (by kernel_rfl) (by kernel_rfl) Tryz.underlying197 Tryz.underlying177 (by kernel_rfl) (by kernel_rfl) (laidMet.tail (laidMet.tail h))
theorem tabAt{W:World}(h:laidMetH Tryz.prog Rows.rtlRunsRow.laid W):∃c t,(absH Tryz.prog W).get 0=some (.cells c t) ∧ ∀(i:Nat) y,(zsT.map λz=>Value.int .u64 z)[i]? = some y → c[i]? = some y:=by
 have hv:=table h;have hg:Tryz.prog.globalNamed "internal/strconv.uint64pow10" = some 0:=by kernel_rfl
 unfold Lib.TabIs World.var? at hv;rw[hg,Option.bind_some]at hv;split at hv
 ·rename_i cs t fz hb;simp only[Option.some.injEq]at hv;subst hv;refine⟨_,t,absH_get hb,λi y hy=>?_⟩;rw[List.getElem?_map,Option.map_eq_some_iff]at hy;obtain⟨z,hz,rfl⟩:=hy;have hc:cellOk (.int .u64 z)=true:=rfl;simp only[List.getElem?_map,hz,Option.map_some];rw[absC_ok hc];rfl
 ·cases hv
theorem walk{av:List Value}{w:World}(r:RWs Tryz.prog (absH Tryz.prog w) [25,26,26,3] av)(T:∃c t,(absH Tryz.prog w).get 0=some (.cells c t) ∧ ∀(i:Nat) y,(zsT.map λz=>Value.int .u64 z)[i]? = some y → c[i]? = some y):TC Tryz.prog 3 av (absH Tryz.prog w) (λv _=>v=.bool true):=by
 match av,r with
 |[a0,a1,a2,a3],⟨r0,r1,r2,r3,_⟩=>
  obtain⟨p,e0,P,k64⟩:=rd_pg2 (absH_lt w) r0.1;have:=agg_of e0 (by show(3:Nat)≠1;decide);subst this;obtain⟨args,S1,l1,A64⟩:=rd_i64s2 (absH_lt w) (rw_one (by kernel_rfl) r1);obtain⟨world,S2,l2,W64⟩:=rd_i64s2 (absH_lt w) (rw_one (by kernel_rfl) r2);obtain⟨z3,e3,_⟩:=rw_int Tryz.underlying3 (rw_one (by kernel_rfl) r3);simp only[List.cons.injEq,and_true]at e3;subst e3
  have T':Go.Rl.TabH (absH Tryz.prog w):=by
   refine⟨?_,T⟩;obtain⟨c,t,hg,_⟩:=T;exact absH_lt w _ _ hg
  exact(Go.Rl.law_ok P k64 S1 S2 l1 l2 A64 W64 T').tc.mono λv _ e=>e
set_option maxRecDepth 100000 in
theorem lifted(os:Os)(started:os.Started)(H:Type)(enc:TypeId×Value → H) :
  ReturnsInHanded {} Tryz.checked os 3 .any (λw args=>(Rows.rtlRunsSpec.pre enc Tryz.prog Tryz.f3 [] false w args ∧ laidMetH Tryz.prog Rows.rtlRunsRow.laid w) ∧ sizedMet enc Tryz.prog Tryz.f3 (OpenSpec.ofChange Rows.rtlRunsSpec) false w args)
   (Rows.rtlRunsSpec.post enc Tryz.prog Tryz.f3 false true false false):=by
 refine returnsInHanded_of_change_and (C:=Tryz.checked) (X:=λw _=>laidMetH Tryz.prog Rows.rtlRunsRow.laid w) (λ_ _ _ hh h=>h.of_heap hh) own started (by kernel_rfl) Tryz.func3
  (ChangeSpec.witness_shaped (enc:=enc) (C:=Tryz.checked) (os:=os) (X:=λw _=>laidMetH Tryz.prog Rows.rtlRunsRow.laid w) false (World.laidAll Tryz.prog os Rows.rtlRunsRow.laid) #[.agg #[.slice none 0 0,.slice none 0 0,.int .i64 0],.slice none 0 0,.slice none 0 0,.int .i64 0] 8 (World.laidAll_os _ _ _)
   (World.shaped_of_ZipB (by kernel_rfl) (by kernel_rfl)) (by kernel_rfl) (by kernel_rfl) (by kernel_rfl)
   (by rw[MakeChecks.laidMetH_plain _ _ _ (by kernel_rfl)];exact laidMet_laidAll _ (by kernel_rfl) (by kernel_rfl))) ?_
 intro W base args ds gs before hval0 hW _ hsz hL _;have hW':=hW;have hlt:=hW.lt;obtain⟨p,q,hA0,hV,rfl,hfz,hnd⟩:=hW;obtain⟨rfl,rfl⟩:=trodVars_none hV;have hA:DataW.TrodAll enc Tryz.prog W 0 (λ_=>true) true Tryz.f3.params.toList args.toList ds p:=hA0;rw[Tryz.params3]at hA;replace hA:DataW.TrodAll enc Tryz.prog W 0 (λ_=>true) true [25,26,26,3] args.toList ds p:=hA
 have hm:∀m∈DataW.weightsEach Tryz.prog [25,26,26,3] ds,m≤reachBytes:=by
  rw[Tryz.params3,List.append_nil]at hsz;have h0:(DataW.weightsEach Tryz.prog [25,26,26,3] ds).all (· ≤ reachBytes)=true:=hsz;intro m hm;exact of_decide_eq_true (List.all_eq_true.mp h0 m hm)
 obtain⟨a1,a2⟩:=args_rw (P:=Tryz.prog) (λ_=>rfl) [25,26,26,3] args.toList ds p hA (λj t v hj hv=>hval0 j t v (by rw[Tryz.params3];simpa using hj) (by simpa using hv)) hm;have hc:=Calls_of_TCW W a1 rfl (walk a2 (tabAt hL));rw[Array.toArray_toList]at hc;obtain⟨hl1,hl2⟩:=trodAll_length hA
 match ds,hl2,hA,hW' with
 |[d0,d1,d2,d3],_,hA,hW'=>
  refine hc.mono λe W' ⟨he,hg⟩=>?_;subst he;refine⟨_,rfl,post_of_below (pa:=p) (pv:=[]) hW' (λ_ _ _=>(trodAll_cons_mk (shut_bool Tryz.underlying4 _) trodAll_mk0)) (λsp hsp=>?_) (λ_ _=>rfl) rfl hg (ok_one (by kernel_rfl) rfl (okWide_bool_mk Tryz.underlying4 _))⟩;rw[Tryz.params3];exact args_stay kids hg [25,26,26,3] args.toList [d0,d1,d2,d3] p hA (by decide) (λx hx=>hlt x (by simp[hx])) (λx hx=>hsp x (by simp[hx]))
theorem over:Rows.rtlRunsRow.holds Tryz.pinned (OpenSpec.ofChange Rows.rtlRunsSpec) :=
 OpenClaim.holds_of_wide 3 Tryz.f3 rfl rfl rfl rfl rfl rfl rfl ⟨rfl,rfl,rfl,rfl,rfl⟩ rfl rfl rfl rfl rfl (by kernel_rfl) Tryz.func3 (by kernel_rfl)
  (of_decide_eq_true (by kernel_rfl)) (by unfold Func.isWrapper;first|(rw[if_pos (by decide +kernel)];kernel_rfl)|(rw[if_neg (by decide +kernel)];exact⟨rfl,rfl⟩))
  (λos started H enc _=>lifted os started H enc)
theorem plain (f:FuncId) (fn:Func) (hf:Tryz.pinned.checked.prog.funcNamed "plumbob/plumboblaw12.RtlRuns" = some f) (hfn:Tryz.pinned.checked.prog.funcs[f]? = some fn) :
  false=Tryz.pinned.checked.prog.looks [] ∧ ∀(j:Nat) t,fn.params[j]? = some t → Tryz.pinned.checked.prog.wantsStandIn t=false:=by
 obtain rfl:f=3:=Option.some.inj ((show Tryz.prog.funcNamed "plumbob/plumboblaw12.RtlRuns" = some 3 by kernel_rfl).symm.trans hf) |>.symm
 obtain rfl:fn=Tryz.f3:=(Option.some.inj (Tryz.func3.symm.trans hfn)).symm;refine⟨by kernel_rfl,λj t ht=>?_⟩;rw[Tryz.params3]at ht;have hm:=List.mem_of_getElem? (l:=[25,26,26,3]) (i:=j) (a:=t) (by simpa using ht);simp only[List.mem_cons,List.not_mem_nil,or_false]at hm;clear ht hfn hf;rcases hm with rfl|rfl|rfl|rfl
 ·show _=false
  kernel_rfl
 ·show _=false
  kernel_rfl
 ·show _=false
  kernel_rfl
 ·show _=false
  kernel_rfl
theorem proved:Rows.RtlRunsCardSaid :=
 Claim7.holds_tied_plain_at .later [] _ _ _ _ over (λ_ h=>by cases h) (by kernel_rfl) (λ_ h=>by cases h) rtlRuns_row_tie rfl ⟨rfl,rfl⟩ (by kernel_rfl) rfl plain (by kernel_rfl)
#print axioms proved
end Go.Proofs.YtfhacoddmpbgnaaGreatDoor.rtlRuns
