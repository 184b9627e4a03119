/- A part of the proof. -/
import Derived.Test.YtfhacoddmpbgnaaGreatDoorTH
import Derived.KernelRfl
import Derived.Test.YtfhacoddmpbgnaaGreatDoorChecked
import Derived.Test.YtfhacoddmpbgnaaGreatDoorTE
set_option linter.unusedVariables false
set_option linter.unusedSimpArgs false
set_option maxRecDepth 100000
namespace Go.Ai
open Go.Proofs
noncomputable section
abbrev pu:=Tryz.prog
def zi(op:BinOp)(T:TypeId)(n:Nat)(v:aaa)(k:Int):Option aaa:=nb [v,(.int .i64 k)] (zX Tryz.prog op T (.tmp n) (.const (.int .i64 k)) v (.int .i64 k))
def yo(op:BinOp)(T:TypeId)(n m:Nat)(v w:aaa):Option aaa:=nb [v,w] (zX Tryz.prog op T (.tmp n) (.tmp m) v w)
def yh(U:TypeId)(a w:aaa)(h:za):Option za:=nb [w] (xO Tryz.prog U a w h)
def xE(T:TypeId)(x:aaa)(h:za):Option (aaa×za):=nb [x] (zv Tryz.prog .len [T] 3 [x] h)
def zn(T:TypeId)(v:aaa)(k:Nat)(U:TypeId)(h:za)(K:aaa->Prop):Prop:=opt (zg Tryz.prog T v k) λx=>opt (zd Tryz.prog U x h) K
def jV(T:TypeId)(v:aaa)(k:Nat)(U:TypeId)(w:aaa)(h:za)(K:za->Prop):Prop:=opt (zg Tryz.prog T v k) λx=>opt (nb [w] (xO Tryz.prog U x w h)) K
def vr(T:TypeId)(s i:aaa)(U:TypeId)(h:za)(K:aaa->Prop):Prop:=opt (ym Tryz.prog T s i) λx=>opt (zd Tryz.prog U x h) K
def ze(g:aaa)(b:Bool)(E:Option aaa)(h0:za)(J:aaa->za->Prop)(h:za):Prop:=GD g b (λk=>opt E λx=>k x h0) J h
def qe(T:TypeId)(h:za)(K:aaa->za->Prop):Prop:=opt (Yu Tryz.prog T) λz=>nw h (Value.cells z).toList T K
section
@[congr] theorem zfk {T U:TypeId} {v:aaa} {v':Unit->aaa} {k:Nat} {h:za} {K:aaa->Prop} (e:∀u:Unit,(v,u).1=v' u):zn T v k U h K=zn T (v' ()) k U h K:=by rw[<- e]
@[congr] theorem zfl {T U:TypeId} {v w:aaa} {v':Unit->aaa} {k:Nat} {h:za} {K:za->Prop} (e:∀u:Unit,(v,u).1=v' u):jV T v k U w h K=jV T (v' ()) k U w h K:=by rw[<- e]
@[congr] theorem zfn {T U:TypeId} {v i:aaa} {v':Unit->aaa} {h:za} {K:aaa->Prop} (e:∀u:Unit,(v,u).1=v' u):vr T v i U h K=vr T (v' ()) i U h K:=by rw[<- e]
@[congr] theorem zfm {g:aaa} {g':Unit->aaa} {b:Bool} {E:Option aaa} {h0 h:za} {J:aaa->za->Prop} (e:∀u:Unit,(g,u).1=g' u):ze g b E h0 J h=ze (g' ()) b E h0 J h:=by rw[<- e]
@[congr] theorem zfo {T:TypeId} {h:za} {h':Unit->za} {K:aaa->za->Prop} (e:∀u:Unit,(h,u).1=h' u):qe T h K=qe T (h' ()) K:=by rw[<- e]
theorem OI(op:BinOp)(T:TypeId)(n:Nat)(v:aaa)(k:Int):zi op T n v k=nb [v,(.int .i64 k)] (zX Tryz.prog op T (.tmp n) (.const (.int .i64 k)) v (.int .i64 k)):=rfl
theorem OJ(op:BinOp)(T:TypeId)(n m:Nat)(v w:aaa):yo op T n m v w=nb [v,w] (zX Tryz.prog op T (.tmp n) (.tmp m) v w):=rfl
theorem OQ(U:TypeId)(a w:aaa)(h:za):yh U a w h=nb [w] (xO Tryz.prog U a w h):=rfl
theorem OO(T:TypeId)(x:aaa)(h:za):xE T x h=nb [x] (zv Tryz.prog .len [T] 3 [x] h):=rfl
theorem OK(T:TypeId)(v:aaa)(k:Nat)(U:TypeId)(h:za)(K:aaa->Prop):zn T v k U h K=opt (zg Tryz.prog T v k) λx=>opt (zd Tryz.prog U x h) K:=rfl
theorem OL(T:TypeId)(v:aaa)(k:Nat)(U:TypeId)(w:aaa)(h:za)(K:za->Prop):jV T v k U w h K=opt (zg Tryz.prog T v k) λx=>opt (nb [w] (xO Tryz.prog U x w h)) K:=rfl
theorem ON(T:TypeId)(s i:aaa)(U:TypeId)(h:za)(K:aaa->Prop):vr T s i U h K=opt (ym Tryz.prog T s i) λx=>opt (zd Tryz.prog U x h) K:=rfl
theorem OM(g:aaa)(b:Bool)(E:Option aaa)(h0:za)(J:aaa->za->Prop)(h:za):ze g b E h0 J h=GD g b (λk=>opt E λx=>k x h0) J h:=rfl
theorem OP(T:TypeId)(h:za)(K:aaa->za->Prop):qe T h K=opt (Yu Tryz.prog T) λz=>nw h (Value.cells z).toList T K:=rfl
end
section
variable {Q:Program}{g:FuncId}{args:List aaa}{h:za}{v:aaa}
theorem yp{K:aaa->za->Prop}(hq:yX Q g args h v)(hk:K v h)(hc:xM Q g=true:=by kernel_rfl)(hn:yD args=true:=by exact rfl):zu Q (.func (.func g) #[] #[]) args h K:=Kd hc hn hq hk
theorem Bv{K:aaa->za->Prop}(hn:yD args=true)(hq:yX Q g args h v)(hk:K v h)(hc:xM Q g=true:=by kernel_rfl):zu Q (.func (.func g) #[] #[]) args h K:=Kd hc hn hq hk
theorem CJ{K:aaa->Prop}(hq:yX Q g args h v)(hk:K v)(hc:xM Q g=true:=by kernel_rfl)(hn:yD args=true:=by exact rfl):qd Q g args h K:=tj hc hn hq hk
theorem zcw{K:aaa->Prop}(hn:yD args=true)(hq:yX Q g args h v)(hk:K v)(hc:xM Q g=true:=by kernel_rfl):qd Q g args h K:=tj hc hn hq hk
theorem CK{K R:aaa->za->Prop}(hT:DC Q g args h R)(hk:∀v h1,R v h1->K v h1)(hc:xM Q g=true:=by kernel_rfl)(hn:yD args=true:=by exact rfl):zu Q (.func (.func g) #[] #[]) args h K:=xX hc hn hT hk
theorem nD{K R:aaa->za->Prop}(hn:yD args=true)(hT:DC Q g args h R)(hk:∀v h1,R v h1->K v h1)(hc:xM Q g=true:=by kernel_rfl):zu Q (.func (.func g) #[] #[]) args h K:=xX hc hn hT hk
theorem Iu{K R:aaa->za->Prop}(hT:DC Q g args h R)(hk:∀v h1,R v h1->K v h1)(hc:xM Q g=true:=by kernel_rfl)(hn:yD args=true:=by exact rfl):Yv Q g args h K:=nk hc hn hT hk
end
end
theorem EE:type_of% (And.intro (And.intro (And.intro (And.intro (And.intro (And.intro (And.intro (And.intro @bJ @bK) (And.intro @zD @xe)) (And.intro (And.intro @zK @yg) @yZ)) (And.intro (And.intro (And.intro @yq @j3) (And.intro @kM @Qx)) (And.intro (And.intro @ZV @NN) @xF))) (And.intro (And.intro (And.intro (And.intro @yK @wK) (And.intro @qu @uD)) (And.intro (And.intro @qA @zdB) @Ua)) (And.intro (And.intro (And.intro @Ec @Wx) (And.intro @YV @YU)) (And.intro (And.intro @VV @Kc) @sj)))) (And.intro (And.intro (And.intro (And.intro (And.intro @iT @Ed) (And.intro @Ig @zdA)) (And.intro (And.intro @Rh @zdC) @Ie)) (And.intro (And.intro (And.intro @CA @zb2) (And.intro @zP @yc)) (And.intro (And.intro @Cb @xz) @yH))) (And.intro (And.intro (And.intro (And.intro @Pl @I5) (And.intro @I6 @Ez)) (And.intro (And.intro @I7 @yJ) @EA)) (And.intro (And.intro (And.intro @Ix @qB) (And.intro @Bs @ij)) (And.intro (And.intro @JH @OR) @Iy))))) (And.intro (And.intro (And.intro (And.intro (And.intro (And.intro @EB @Cd) (And.intro @La @od)) (And.intro (And.intro @eQ @Xq) @aaI.{0,0})) (And.intro (And.intro (And.intro @abn.{0,0} @aak.{0}) (And.intro @aap.{0} @aaE.{0})) (And.intro (And.intro @aay @acw) @aaD.{0}))) (And.intro (And.intro (And.intro (And.intro @aaz.{0} @abM.{0}) (And.intro @aaf.{0,0} @aaW.{0})) (And.intro (And.intro @abe.{0} @abD.{0}) @abk.{0})) (And.intro (And.intro (And.intro @aa7.{0} @abA.{0}) (And.intro @acI.{0} @aaV.{0})) (And.intro (And.intro @aco.{0} @abC.{0}) @List.drop_nil.{0})))) (And.intro (And.intro (And.intro (And.intro (And.intro @abg @abl) (And.intro @Nat.lt_irrefl @abc)) (And.intro (And.intro @abP @aam) @ua)) (And.intro (And.intro (And.intro @vm @yG) (And.intro @qU @qt)) (And.intro (And.intro @iA @UM) @Pr))) (And.intro (And.intro (And.intro (And.intro @fC @zk) (And.intro @zM @zt)) (And.intro (And.intro @zW @zJ) @tC)) (And.intro (And.intro (And.intro @pX @aar) (And.intro @not_true_eq_false @abq)) (And.intro (And.intro @aa1 @acJ) @acU)))))) (And.intro (And.intro (And.intro (And.intro @OI @OJ) (And.intro @OQ @OO)) (And.intro (And.intro @OK @OL) (And.intro @ON @OM))) @OP)):=And.intro (And.intro (And.intro (And.intro (And.intro (And.intro (And.intro (And.intro @bJ @bK) (And.intro @zD @xe)) (And.intro (And.intro @zK @yg) @yZ)) (And.intro (And.intro (And.intro @yq @j3) (And.intro @kM @Qx)) (And.intro (And.intro @ZV @NN) @xF))) (And.intro (And.intro (And.intro (And.intro @yK @wK) (And.intro @qu @uD)) (And.intro (And.intro @qA @zdB) @Ua)) (And.intro (And.intro (And.intro @Ec @Wx) (And.intro @YV @YU)) (And.intro (And.intro @VV @Kc) @sj)))) (And.intro (And.intro (And.intro (And.intro (And.intro @iT @Ed) (And.intro @Ig @zdA)) (And.intro (And.intro @Rh @zdC) @Ie)) (And.intro (And.intro (And.intro @CA @zb2) (And.intro @zP @yc)) (And.intro (And.intro @Cb @xz) @yH))) (And.intro (And.intro (And.intro (And.intro @Pl @I5) (And.intro @I6 @Ez)) (And.intro (And.intro @I7 @yJ) @EA)) (And.intro (And.intro (And.intro @Ix @qB) (And.intro @Bs @ij)) (And.intro (And.intro @JH @OR) @Iy))))) (And.intro (And.intro (And.intro (And.intro (And.intro (And.intro @EB @Cd) (And.intro @La @od)) (And.intro (And.intro @eQ @Xq) @aaI.{0,0})) (And.intro (And.intro (And.intro @abn.{0,0} @aak.{0}) (And.intro @aap.{0} @aaE.{0})) (And.intro (And.intro @aay @acw) @aaD.{0}))) (And.intro (And.intro (And.intro (And.intro @aaz.{0} @abM.{0}) (And.intro @aaf.{0,0} @aaW.{0})) (And.intro (And.intro @abe.{0} @abD.{0}) @abk.{0})) (And.intro (And.intro (And.intro @aa7.{0} @abA.{0}) (And.intro @acI.{0} @aaV.{0})) (And.intro (And.intro @aco.{0} @abC.{0}) @List.drop_nil.{0})))) (And.intro (And.intro (And.intro (And.intro (And.intro @abg @abl) (And.intro @Nat.lt_irrefl @abc)) (And.intro (And.intro @abP @aam) @ua)) (And.intro (And.intro (And.intro @vm @yG) (And.intro @qU @qt)) (And.intro (And.intro @iA @UM) @Pr))) (And.intro (And.intro (And.intro (And.intro @fC @zk) (And.intro @zM @zt)) (And.intro (And.intro @zW @zJ) @tC)) (And.intro (And.intro (And.intro @pX @aar) (And.intro @not_true_eq_false @abq)) (And.intro (And.intro @aa1 @acJ) @acU)))))) (And.intro (And.intro (And.intro (And.intro @OI @OJ) (And.intro @OQ @OO)) (And.intro (And.intro @OK @OL) (And.intro @ON @OM))) @OP)
end Go.Ai
