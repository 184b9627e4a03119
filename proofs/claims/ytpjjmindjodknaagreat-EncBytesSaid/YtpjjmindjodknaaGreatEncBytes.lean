import Derived.Test.YtpjjmindjodknaaGreatRows
import Derived.WalkKit
import Derived.OpenShut
import Derived.ChangeCalls
import Derived.Test.YtpjjmindjodknaaGreatTO
set_option linter.unusedVariables false
set_option linter.unusedSimpArgs false
set_option maxRecDepth 100000
namespace Go.Proofs.YtpjjmindjodknaaGreat.encBytes
open Go.ChangeShapes Go.WideShapes Go.ChangeAt Go.RowKit Go.Ai Go.As
theorem own:ownKnob Tryz.prog.godebug=none:=by kernel_rfl
theorem kids:kidsOk Tryz.prog [25,22,23,3,50,9,48,42,2,4]=true:=by kernel_rfl
theorem walk {av:List Value} {w:World} (r:RWs Tryz.prog (absH Tryz.prog w) [25] av):TC Tryz.prog 3 av (absH Tryz.prog w) (fun v _=>v = .bool true):=by
 match av,r with
 | [a0],⟨r0,_⟩=>
   obtain ⟨p,e0,P⟩:=rd_pg (absH_lt w) r0.1
   have:=agg_of e0 (by show (4:Nat) ≠ 1;decide)
   subst this
   exact (Go.Ec.bytes_law P).tc.mono fun v _ e=>e
set_option maxRecDepth 100000 in
theorem lifted (os:Os) (started:os.Started) (H:Type) (enc:TypeId × Value → H) :
  ReturnsInHanded {} Tryz.checked os 3 .any (Rows.encBytesSpec.pre6 enc Tryz.prog Tryz.f3 Rows.encBytesRow.domain false) (Rows.encBytesSpec.post enc Tryz.prog Tryz.f3 false true false false):=by
 refine returnsInHanded_of_change_sized (C:=Tryz.checked) own started (by kernel_rfl) Tryz.func3
  (ChangeSpec.witness6 (enc:=enc) (C:=Tryz.checked) false ⟨#[],#[.agg #[.slice none 0 0,.slice none 0 0,.int .i64 0,.int .i64 0]],[]⟩ 8 (by kernel_rfl) (by kernel_rfl) (by kernel_rfl) (by kernel_rfl)) ?_
 intro W base args ds gs before hval0 hW hcnd hsz _
 have hW':=hW
 have hlt:=hW.lt
 obtain ⟨p,q,hA0,hV,rfl,hfz,hnd⟩:=hW
 obtain ⟨rfl,rfl⟩:=trodVars_none hV
 have hA:DataW.TrodAll enc Tryz.prog W 0 (fun _=>true) true Tryz.f3.params.toList args.toList ds p:=hA0
 rw [Tryz.params3] at hA
 replace hA:DataW.TrodAll enc Tryz.prog W 0 (fun _=>true) true [25] args.toList ds p:=hA
 have hm:∀ m ∈ DataW.weightsEach Tryz.prog [25] ds,m ≤ reachBytes:=by
  rw [Tryz.params3,List.append_nil] at hsz
  have h0:(DataW.weightsEach Tryz.prog [25] ds).all (· ≤ reachBytes)=true:=hsz
  intro m hm
  exact of_decide_eq_true (List.all_eq_true.mp h0 m hm)
 obtain ⟨a1,a2⟩:=args_rw (P:=Tryz.prog) (fun _=>rfl) [25] args.toList ds p hA (fun j t v hj hv=>hval0 j t v (by rw [Tryz.params3];simpa using hj) (by simpa using hv)) hm
 have hc:=Calls_of_TCW W a1 rfl (walk a2)
 rw [Array.toArray_toList] at hc
 obtain ⟨hl1,hl2⟩:=trodAll_length hA
 match ds,hl2,hA,hW' with
 | [d0],_,hA,hW'=>
   refine hc.mono fun e W' ⟨he,hg⟩ => ?_
   subst he
   refine ⟨_,rfl,post_of_below (pa:=p) (pv:=[]) hW' (fun _ _ _=>(trodAll_cons_mk (shut_bool Tryz.underlying4 _) trodAll_mk0)) (fun sp hsp => ?_) (fun _ _=>rfl) rfl hg (ok_one (by kernel_rfl) rfl (okWide_bool_mk Tryz.underlying4 _))⟩
   rw [Tryz.params3]
   exact args_stay kids hg [25] args.toList [d0] p hA (by decide) (fun x hx=>hlt x (by simp [hx])) (fun x hx=>hsp x (by simp [hx]))
theorem over:Rows.encBytesRow.holds Tryz.pinned (OpenSpec.ofChange Rows.encBytesSpec) :=
 OpenClaim.holds_of_wide 3 Tryz.f3 rfl rfl rfl rfl rfl rfl rfl ⟨rfl,rfl,rfl,rfl,rfl⟩ rfl rfl rfl rfl rfl (by kernel_rfl) Tryz.func3 (by kernel_rfl)
  (of_decide_eq_true (by kernel_rfl)) (by unfold Func.isWrapper;first | (rw [if_pos (by decide +kernel)];kernel_rfl) | (rw [if_neg (by decide +kernel)];exact ⟨rfl,rfl⟩))
  (fun os started H enc _=>lifted os started H enc)
theorem proved:Rows.EncBytesSaid :=
 over
#print axioms proved
end Go.Proofs.YtpjjmindjodknaaGreat.encBytes
