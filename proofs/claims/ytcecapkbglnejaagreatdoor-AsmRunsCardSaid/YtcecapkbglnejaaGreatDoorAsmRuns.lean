import Derived.Test.YtcecapkbglnejaaGreatDoorCards
import Derived.Test.YtcecapkbglnejaaGreatDoorTie
import Derived.WalkKit
import Derived.OpenShut
import Derived.Lay
import Derived.LaidOnce
import Derived.SevenTiedAt
import Derived.ChangeCalls
import Derived.Test.YtcecapkbglnejaaGreatDoorTO
set_option linter.unusedVariables false
set_option linter.unusedSimpArgs false
set_option maxRecDepth 100000
namespace Go.Proofs.YtcecapkbglnejaaGreatDoor.asmRuns
open Go.ChangeShapes Go.WideShapes Go.ChangeAt Go.RowKit Go.Ai Go.As
theorem own:ownKnob Tryz.prog.godebug=none:=by kernel_rfl
theorem kids:kidsOk Tryz.prog [25,22,23,3,47,9,45,50,2,26,4]=true:=by kernel_rfl
theorem walk{av:List Value}{w:World}(r:RWs Tryz.prog (absH Tryz.prog w) [25,26,26,3,3] av):TC Tryz.prog 3 av (absH Tryz.prog w) (λv _=>v=.bool true):=by
 match av,r with
 |[a0,a1,a2,a3,a4],⟨r0,r1,r2,r3,r4,_⟩=>
  obtain⟨p,e0,P,hN⟩:=rd_pg2 (absH_lt w) r0.1;have:=agg_of e0 (by show(4:Nat)≠1;decide);subst this;obtain⟨args,S1,_,n1⟩:=rd_i64s2 (absH_lt w) (rw_one (by kernel_rfl) r1);obtain⟨world,S2,hl,n2⟩:=rd_i64s2 (absH_lt w) (rw_one (by kernel_rfl) r2);obtain⟨z3,e3,_⟩:=rw_int Tryz.underlying3 (rw_one (by kernel_rfl) r3);obtain⟨z4,e4,_⟩:=rw_int Tryz.underlying3 (rw_one (by kernel_rfl) r4);simp only[List.cons.injEq,and_true]at e3 e4;subst e3 e4;exact(Go.Ao.runs_law P hN S1 S2 (by omega) n2 n1).tc.mono λv _ e=>e
set_option maxRecDepth 100000 in
theorem lifted(os:Os)(started:os.Started)(H:Type)(enc:TypeId×Value → H) :
  ReturnsInHanded {} Tryz.checked os 3 .any (λw args=>(Rows.asmRunsSpec.pre enc Tryz.prog Tryz.f3 [] false w args ∧ laidMetH Tryz.prog Rows.asmRunsRow.laid w) ∧ sizedMet enc Tryz.prog Tryz.f3 (OpenSpec.ofChange Rows.asmRunsSpec) false w args)
   (Rows.asmRunsSpec.post enc Tryz.prog Tryz.f3 false true false false):=by
 refine returnsInHanded_of_change_and (C:=Tryz.checked) (X:=λw _=>laidMetH Tryz.prog Rows.asmRunsRow.laid w) (λ_ _ _ hh h=>h.of_heap hh) own started (by kernel_rfl) Tryz.func3
  (ChangeSpec.witness_shaped (enc:=enc) (C:=Tryz.checked) (os:=os) (X:=λw _=>laidMetH Tryz.prog Rows.asmRunsRow.laid w) false (World.laidAll Tryz.prog os Rows.asmRunsRow.laid) #[.agg #[.slice none 0 0,.slice none 0 0,.int .i64 0,.int .i64 0],.slice none 0 0,.slice none 0 0,.int .i64 0,.int .i64 0] 8 (World.laidAll_os _ _ _)
   (World.shaped_of_ZipB (by kernel_rfl) (by kernel_rfl)) (by kernel_rfl) (by kernel_rfl) (by kernel_rfl)
   (by rw[MakeChecks.laidMetH_plain _ _ _ (by kernel_rfl)];exact laidMet_laidAll _ (by kernel_rfl) (by kernel_rfl))) ?_
 intro W base args ds gs before hval0 hW _ hsz hL _;have hW':=hW;have hlt:=hW.lt;obtain⟨p,q,hA0,hV,rfl,hfz,hnd⟩:=hW;obtain⟨rfl,rfl⟩:=trodVars_none hV;have hA:DataW.TrodAll enc Tryz.prog W 0 (λ_=>true) true Tryz.f3.params.toList args.toList ds p:=hA0;rw[Tryz.params3]at hA;replace hA:DataW.TrodAll enc Tryz.prog W 0 (λ_=>true) true [25,26,26,3,3] args.toList ds p:=hA
 have hm:∀m∈DataW.weightsEach Tryz.prog [25,26,26,3,3] ds,m≤reachBytes:=by
  rw[Tryz.params3,List.append_nil]at hsz;have h0:(DataW.weightsEach Tryz.prog [25,26,26,3,3] ds).all (· ≤ reachBytes)=true:=hsz;intro m hm;exact of_decide_eq_true (List.all_eq_true.mp h0 m hm)
 obtain⟨a1,a2⟩:=args_rw (P:=Tryz.prog) (λ_=>rfl) [25,26,26,3,3] args.toList ds p hA (λj t v hj hv=>hval0 j t v (by rw[Tryz.params3];simpa using hj) (by simpa using hv)) hm;have hc:=Calls_of_TCW W a1 rfl (walk a2);rw[Array.toArray_toList]at hc;obtain⟨hl1,hl2⟩:=trodAll_length hA
 match ds,hl2,hA,hW' with
 |[d0,d1,d2,d3,d4],_,hA,hW'=>
  refine hc.mono λe W' ⟨he,hg⟩=>?_;subst he;refine⟨_,rfl,post_of_below (pa:=p) (pv:=[]) hW' (λ_ _ _=>(trodAll_cons_mk (shut_bool Tryz.underlying4 _) trodAll_mk0)) (λsp hsp=>?_) (λ_ _=>rfl) rfl hg (ok_one (by kernel_rfl) rfl (okWide_bool_mk Tryz.underlying4 _))⟩;rw[Tryz.params3];exact args_stay kids hg [25,26,26,3,3] args.toList [d0,d1,d2,d3,d4] p hA (by decide) (λx hx=>hlt x (by simp[hx])) (λx hx=>hsp x (by simp[hx]))
theorem over:Rows.asmRunsRow.holds Tryz.pinned (OpenSpec.ofChange Rows.asmRunsSpec) :=
 OpenClaim.holds_of_wide 3 Tryz.f3 rfl rfl rfl rfl rfl rfl rfl ⟨rfl,rfl,rfl,rfl,rfl⟩ rfl rfl rfl rfl rfl (by kernel_rfl) Tryz.func3 (by kernel_rfl)
  (of_decide_eq_true (by kernel_rfl)) (by unfold Func.isWrapper;first|(rw[if_pos (by decide +kernel)];kernel_rfl)|(rw[if_neg (by decide +kernel)];exact⟨rfl,rfl⟩))
  (λos started H enc _=>lifted os started H enc)
theorem plain (f:FuncId) (fn:Func) (hf:Tryz.pinned.checked.prog.funcNamed "plumbob/plumboblaw20.AsmRuns" = some f) (hfn:Tryz.pinned.checked.prog.funcs[f]? = some fn) :
  false=Tryz.pinned.checked.prog.looks [] ∧ ∀(j:Nat) t,fn.params[j]? = some t → Tryz.pinned.checked.prog.wantsStandIn t=false:=by
 obtain rfl:f=3:=Option.some.inj ((show Tryz.prog.funcNamed "plumbob/plumboblaw20.AsmRuns" = some 3 by kernel_rfl).symm.trans hf) |>.symm
 obtain rfl:fn=Tryz.f3:=(Option.some.inj (Tryz.func3.symm.trans hfn)).symm;refine⟨by kernel_rfl,λj t ht=>?_⟩;rw[Tryz.params3]at ht;have hm:=List.mem_of_getElem? (l:=[25,26,26,3,3]) (i:=j) (a:=t) (by simpa using ht);simp only[List.mem_cons,List.not_mem_nil,or_false]at hm;clear ht hfn hf;rcases hm with rfl|rfl|rfl|rfl|rfl
 ·show _=false
  kernel_rfl
 ·show _=false
  kernel_rfl
 ·show _=false
  kernel_rfl
 ·show _=false
  kernel_rfl
 ·show _=false
  kernel_rfl
theorem proved:Rows.AsmRunsCardSaid :=
 Claim7.holds_tied_plain_at .later [] _ _ _ _ over (λ_ h=>by cases h) (by kernel_rfl) (λ_ h=>by cases h) asmRuns_row_tie rfl ⟨rfl,rfl⟩ (by kernel_rfl) rfl plain (by kernel_rfl)
#print axioms proved
end Go.Proofs.YtcecapkbglnejaaGreatDoor.asmRuns
