import Derived.Test.YtpjjmindjodknaaGreatRows
import Derived.WalkKit
import Derived.OpenShut
import Derived.ChangeCalls
import Derived.Test.YtpjjmindjodknaaGreatTO
set_option linter.unusedVariables false
set_option linter.unusedSimpArgs false
set_option maxRecDepth 100000
namespace Go.Proofs.YtpjjmindjodknaaGreat.encOne
open Go.ChangeShapes Go.WideShapes Go.ChangeAt Go.RowKit Go.Ai Go.As
theorem own:ownKnob Tryz.prog.godebug=none:=by kernel_rfl
theorem kids:kidsOk Tryz.prog [42,3,2,48,4]=true:=by kernel_rfl
theorem walk{av:List Value}{w:World}(r:RWs Tryz.prog (absH Tryz.prog w) [42,48] av):TC Tryz.prog 5 av (absH Tryz.prog w) (λv _=>v=.bool true):=by
 match av,r with
 |[a0,a1],⟨r0,r1,_⟩=>
  obtain⟨x,e0,K⟩:=Go.Ef.rd_ins64 r0.1;have:=agg_of e0 (by show(7:Nat)≠1;decide);subst this;obtain⟨l,A⟩:=Go.Ef.rd_code (absH_lt w) (rw_one (by kernel_rfl) r1);exact(Go.Ef.one_law K A).tc.mono λv _ e=>e
set_option maxRecDepth 100000 in
theorem lifted(os:Os)(started:os.Started)(H:Type)(enc:TypeId×Value → H) :
  ReturnsInHanded {} Tryz.checked os 5 .any (Rows.encOneSpec.pre6 enc Tryz.prog Tryz.f5 Rows.encOneRow.domain false) (Rows.encOneSpec.post enc Tryz.prog Tryz.f5 false true false false):=by
 refine returnsInHanded_of_change_sized (C:=Tryz.checked) own started (by kernel_rfl) Tryz.func5
  (ChangeSpec.witness6 (enc:=enc) (C:=Tryz.checked) false ⟨#[],#[.agg #[.int .i64 0,.int .i64 0,.int .i64 0,.int .i64 0,.int .i64 0,.int .i64 0,.int .i64 0],.slice none 0 0],[]⟩ 8 (by kernel_rfl) (by kernel_rfl) (by kernel_rfl) (by kernel_rfl)) ?_
 intro W base args ds gs before hval0 hW hcnd hsz _;have hW':=hW;have hlt:=hW.lt;obtain⟨p,q,hA0,hV,rfl,hfz,hnd⟩:=hW;obtain⟨rfl,rfl⟩:=trodVars_none hV;have hA:DataW.TrodAll enc Tryz.prog W 0 (λ_=>true) true Tryz.f5.params.toList args.toList ds p:=hA0;rw[Tryz.params5]at hA;replace hA:DataW.TrodAll enc Tryz.prog W 0 (λ_=>true) true [42,48] args.toList ds p:=hA
 have hm:∀m∈DataW.weightsEach Tryz.prog [42,48] ds,m≤reachBytes:=by
  rw[Tryz.params5,List.append_nil]at hsz;have h0:(DataW.weightsEach Tryz.prog [42,48] ds).all (· ≤ reachBytes)=true:=hsz;intro m hm;exact of_decide_eq_true (List.all_eq_true.mp h0 m hm)
 obtain⟨a1,a2⟩:=args_rw (P:=Tryz.prog) (λ_=>rfl) [42,48] args.toList ds p hA (λj t v hj hv=>hval0 j t v (by rw[Tryz.params5];simpa using hj) (by simpa using hv)) hm;have hc:=Calls_of_TCW W a1 rfl (walk a2);rw[Array.toArray_toList]at hc;obtain⟨hl1,hl2⟩:=trodAll_length hA
 match ds,hl2,hA,hW' with
 |[d0,d1],_,hA,hW'=>
  refine hc.mono λe W' ⟨he,hg⟩=>?_;subst he;refine⟨_,rfl,post_of_below (pa:=p) (pv:=[]) hW' (λ_ _ _=>(trodAll_cons_mk (shut_bool Tryz.underlying4 _) trodAll_mk0)) (λsp hsp=>?_) (λ_ _=>rfl) rfl hg (ok_one (by kernel_rfl) rfl (okWide_bool_mk Tryz.underlying4 _))⟩;rw[Tryz.params5];exact args_stay kids hg [42,48] args.toList [d0,d1] p hA (by decide) (λx hx=>hlt x (by simp[hx])) (λx hx=>hsp x (by simp[hx]))
theorem over:Rows.encOneRow.holds Tryz.pinned (OpenSpec.ofChange Rows.encOneSpec) :=
 OpenClaim.holds_of_wide 5 Tryz.f5 rfl rfl rfl rfl rfl rfl rfl ⟨rfl,rfl,rfl,rfl,rfl⟩ rfl rfl rfl rfl rfl (by kernel_rfl) Tryz.func5 (by kernel_rfl)
  (of_decide_eq_true (by kernel_rfl)) (by unfold Func.isWrapper;first|(rw[if_pos (by decide +kernel)];kernel_rfl)|(rw[if_neg (by decide +kernel)];exact⟨rfl,rfl⟩))
  (λos started H enc _=>lifted os started H enc)
theorem proved:Rows.EncOneSaid :=
 over
#print axioms proved
end Go.Proofs.YtpjjmindjodknaaGreat.encOne
