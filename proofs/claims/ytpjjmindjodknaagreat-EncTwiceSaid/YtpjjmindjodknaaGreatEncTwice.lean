import Derived.Test.YtpjjmindjodknaaGreatRows
import Derived.WalkKit
import Derived.OpenShut
import Derived.ChangeCalls
import Derived.Test.YtpjjmindjodknaaGreatTO
set_option linter.unusedVariables false
set_option linter.unusedSimpArgs false
set_option maxRecDepth 100000
namespace Go.Proofs.YtpjjmindjodknaaGreat.encTwice
open Go.ChangeShapes Go.WideShapes Go.ChangeAt Go.RowKit Go.Ai Go.As
theorem own:ownKnob Tryz.prog.godebug=none:=by kernel_rfl
theorem kids:kidsOk Tryz.prog [25,22,23,3,50,9,48,42,2,4]=true:=by kernel_rfl
theorem walk{av:List Value}{w:World}(r:RWs Tryz.prog (absH Tryz.prog w) [25] av):TC Tryz.prog 6 av (absH Tryz.prog w) (λv _=>v=.bool true):=by
 match av,r with
 |[a0],⟨r0,_⟩=>
  obtain⟨p,e0,P,N⟩:=Go.Eg.rd_pg64 (absH_lt w) r0.1;have:=agg_of e0 (by show(4:Nat)≠1;decide);subst this;exact(Go.Eg.twice_law P N).tc.mono λv _ e=>e
set_option maxRecDepth 100000 in
theorem lifted(os:Os)(started:os.Started)(H:Type)(enc:TypeId×Value → H) :
  ReturnsInHanded {} Tryz.checked os 6 .any (Rows.encTwiceSpec.pre6 enc Tryz.prog Tryz.f6 Rows.encTwiceRow.domain false) (Rows.encTwiceSpec.post enc Tryz.prog Tryz.f6 false true false false):=by
 refine returnsInHanded_of_change_sized (C:=Tryz.checked) own started (by kernel_rfl) Tryz.func6
  (ChangeSpec.witness6 (enc:=enc) (C:=Tryz.checked) false ⟨#[],#[.agg #[.slice none 0 0,.slice none 0 0,.int .i64 0,.int .i64 0]],[]⟩ 8 (by kernel_rfl) (by kernel_rfl) (by kernel_rfl) (by kernel_rfl)) ?_
 intro W base args ds gs before hval0 hW hcnd hsz _;have hW':=hW;have hlt:=hW.lt;obtain⟨p,q,hA0,hV,rfl,hfz,hnd⟩:=hW;obtain⟨rfl,rfl⟩:=trodVars_none hV;have hA:DataW.TrodAll enc Tryz.prog W 0 (λ_=>true) true Tryz.f6.params.toList args.toList ds p:=hA0;rw[Tryz.params6]at hA;replace hA:DataW.TrodAll enc Tryz.prog W 0 (λ_=>true) true [25] args.toList ds p:=hA
 have hm:∀m∈DataW.weightsEach Tryz.prog [25] ds,m≤reachBytes:=by
  rw[Tryz.params6,List.append_nil]at hsz;have h0:(DataW.weightsEach Tryz.prog [25] ds).all (· ≤ reachBytes)=true:=hsz;intro m hm;exact of_decide_eq_true (List.all_eq_true.mp h0 m hm)
 obtain⟨a1,a2⟩:=args_rw (P:=Tryz.prog) (λ_=>rfl) [25] args.toList ds p hA (λj t v hj hv=>hval0 j t v (by rw[Tryz.params6];simpa using hj) (by simpa using hv)) hm;have hc:=Calls_of_TCW W a1 rfl (walk a2);rw[Array.toArray_toList]at hc;obtain⟨hl1,hl2⟩:=trodAll_length hA
 match ds,hl2,hA,hW' with
 |[d0],_,hA,hW'=>
  refine hc.mono λe W' ⟨he,hg⟩=>?_;subst he;refine⟨_,rfl,post_of_below (pa:=p) (pv:=[]) hW' (λ_ _ _=>(trodAll_cons_mk (shut_bool Tryz.underlying4 _) trodAll_mk0)) (λsp hsp=>?_) (λ_ _=>rfl) rfl hg (ok_one (by kernel_rfl) rfl (okWide_bool_mk Tryz.underlying4 _))⟩;rw[Tryz.params6];exact args_stay kids hg [25] args.toList [d0] p hA (by decide) (λx hx=>hlt x (by simp[hx])) (λx hx=>hsp x (by simp[hx]))
theorem over:Rows.encTwiceRow.holds Tryz.pinned (OpenSpec.ofChange Rows.encTwiceSpec) :=
 OpenClaim.holds_of_wide 6 Tryz.f6 rfl rfl rfl rfl rfl rfl rfl ⟨rfl,rfl,rfl,rfl,rfl⟩ rfl rfl rfl rfl rfl (by kernel_rfl) Tryz.func6 (by kernel_rfl)
  (of_decide_eq_true (by kernel_rfl)) (by unfold Func.isWrapper;first|(rw[if_pos (by decide +kernel)];kernel_rfl)|(rw[if_neg (by decide +kernel)];exact⟨rfl,rfl⟩))
  (λos started H enc _=>lifted os started H enc)
theorem proved:Rows.EncTwiceSaid :=
 over
#print axioms proved
end Go.Proofs.YtpjjmindjodknaaGreat.encTwice
