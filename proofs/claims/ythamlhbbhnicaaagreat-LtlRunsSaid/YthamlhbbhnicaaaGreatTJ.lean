/- A part of the proof. -/
import Derived.Test.YthamlhbbhnicaaaGreatTH
import Derived.KernelRfl
import Derived.Test.YthamlhbbhnicaaaGreatChecked
import Derived.Test.YthamlhbbhnicaaaGreatTE
set_option linter.unusedVariables false
set_option linter.unusedSimpArgs false
set_option maxRecDepth 100000
namespace Go.Ai
open Go.Proofs
noncomputable section
abbrev pu:=Tryz.prog
def zh(op:BinOp)(T:TypeId)(n:Nat)(v:aaa)(k:Int):Option aaa:=nb [v,(.int .i64 k)] (zX Tryz.prog op T (.tmp n) (.const (.int .i64 k)) v (.int .i64 k))
def yi(op:BinOp)(T:TypeId)(n m:Nat)(v w:aaa):Option aaa:=nb [v,w] (zX Tryz.prog op T (.tmp n) (.tmp m) v w)
def ye(U:TypeId)(a w:aaa)(h:za):Option za:=nb [w] (xS Tryz.prog U a w h)
def xw(T:TypeId)(x:aaa)(h:za):Option (aaa×za):=nb [x] (zB Tryz.prog .len [T] 3 [x] h)
def zn(T:TypeId)(v:aaa)(k:Nat)(U:TypeId)(h:za)(K:aaa->Prop):Prop:=opt (zg Tryz.prog T v k) λx=>opt (zd Tryz.prog U x h) K
def j5(T:TypeId)(v:aaa)(k:Nat)(U:TypeId)(w:aaa)(h:za)(K:za->Prop):Prop:=opt (zg Tryz.prog T v k) λx=>opt (nb [w] (xS Tryz.prog U x w h)) K
def wP(T:TypeId)(s i:aaa)(U:TypeId)(h:za)(K:aaa->Prop):Prop:=opt (yh Tryz.prog T s i) λx=>opt (zd Tryz.prog U x h) K
def ze(g:aaa)(b:Bool)(E:Option aaa)(h0:za)(J:aaa->za->Prop)(h:za):Prop:=GD g b (λk=>opt E λx=>k x h0) J h
def uH(T:TypeId)(h:za)(K:aaa->za->Prop):Prop:=opt (Yd Tryz.prog T) λz=>nw h (Value.cells z).toList T K
section
@[congr] theorem zhr {T U:TypeId} {v:aaa} {v':Unit->aaa} {k:Nat} {h:za} {K:aaa->Prop} (e:∀u:Unit,(v,u).1=v' u):zn T v k U h K=zn T (v' ()) k U h K:=by rw[<- e]
@[congr] theorem zhs {T U:TypeId} {v w:aaa} {v':Unit->aaa} {k:Nat} {h:za} {K:za->Prop} (e:∀u:Unit,(v,u).1=v' u):j5 T v k U w h K=j5 T (v' ()) k U w h K:=by rw[<- e]
@[congr] theorem zhu {T U:TypeId} {v i:aaa} {v':Unit->aaa} {h:za} {K:aaa->Prop} (e:∀u:Unit,(v,u).1=v' u):wP T v i U h K=wP T (v' ()) i U h K:=by rw[<- e]
@[congr] theorem zht {g:aaa} {g':Unit->aaa} {b:Bool} {E:Option aaa} {h0 h:za} {J:aaa->za->Prop} (e:∀u:Unit,(g,u).1=g' u):ze g b E h0 J h=ze (g' ()) b E h0 J h:=by rw[<- e]
@[congr] theorem zhv {T:TypeId} {h:za} {h':Unit->za} {K:aaa->za->Prop} (e:∀u:Unit,(h,u).1=h' u):uH T h K=uH T (h' ()) K:=by rw[<- e]
theorem Sa(op:BinOp)(T:TypeId)(n:Nat)(v:aaa)(k:Int):zh op T n v k=nb [v,(.int .i64 k)] (zX Tryz.prog op T (.tmp n) (.const (.int .i64 k)) v (.int .i64 k)):=rfl
theorem Sb(op:BinOp)(T:TypeId)(n m:Nat)(v w:aaa):yi op T n m v w=nb [v,w] (zX Tryz.prog op T (.tmp n) (.tmp m) v w):=rfl
theorem Sj(U:TypeId)(a w:aaa)(h:za):ye U a w h=nb [w] (xS Tryz.prog U a w h):=rfl
theorem Sg(T:TypeId)(x:aaa)(h:za):xw T x h=nb [x] (zB Tryz.prog .len [T] 3 [x] h):=rfl
theorem Sc(T:TypeId)(v:aaa)(k:Nat)(U:TypeId)(h:za)(K:aaa->Prop):zn T v k U h K=opt (zg Tryz.prog T v k) λx=>opt (zd Tryz.prog U x h) K:=rfl
theorem Sd(T:TypeId)(v:aaa)(k:Nat)(U:TypeId)(w:aaa)(h:za)(K:za->Prop):j5 T v k U w h K=opt (zg Tryz.prog T v k) λx=>opt (nb [w] (xS Tryz.prog U x w h)) K:=rfl
theorem Sf(T:TypeId)(s i:aaa)(U:TypeId)(h:za)(K:aaa->Prop):wP T s i U h K=opt (yh Tryz.prog T s i) λx=>opt (zd Tryz.prog U x h) K:=rfl
theorem Se(g:aaa)(b:Bool)(E:Option aaa)(h0:za)(J:aaa->za->Prop)(h:za):ze g b E h0 J h=GD g b (λk=>opt E λx=>k x h0) J h:=rfl
theorem Si(T:TypeId)(h:za)(K:aaa->za->Prop):uH T h K=opt (Yd Tryz.prog T) λz=>nw h (Value.cells z).toList T K:=rfl
end
section
variable {Q:Program}{g:FuncId}{args:List aaa}{h:za}{v:aaa}
theorem yq{K:aaa->za->Prop}(hq:yO Q g args h v)(hk:K v h)(hc:xO Q g=true:=by kernel_rfl)(hn:yC args=true:=by exact rfl):zq Q (.func (.func g) #[] #[]) args h K:=w8 hc hn hq hk
theorem zcv{K:aaa->za->Prop}(hn:yC args=true)(hq:yO Q g args h v)(hk:K v h)(hc:xO Q g=true:=by kernel_rfl):zq Q (.func (.func g) #[] #[]) args h K:=w8 hc hn hq hk
theorem El{K:aaa->Prop}(hq:yO Q g args h v)(hk:K v)(hc:xO Q g=true:=by kernel_rfl)(hn:yC args=true:=by exact rfl):uT Q g args h K:=lP hc hn hq hk
theorem zew{K:aaa->Prop}(hn:yC args=true)(hq:yO Q g args h v)(hk:K v)(hc:xO Q g=true:=by kernel_rfl):uT Q g args h K:=lP hc hn hq hk
theorem Em{K R:aaa->za->Prop}(hT:DC Q g args h R)(hk:∀v h1,R v h1->K v h1)(hc:xO Q g=true:=by kernel_rfl)(hn:yC args=true:=by exact rfl):zq Q (.func (.func g) #[] #[]) args h K:=y5 hc hn hT hk
theorem EI{K R:aaa->za->Prop}(hn:yC args=true)(hT:DC Q g args h R)(hk:∀v h1,R v h1->K v h1)(hc:xO Q g=true:=by kernel_rfl):zq Q (.func (.func g) #[] #[]) args h K:=y5 hc hn hT hk
theorem Mt{K R:aaa->za->Prop}(hT:DC Q g args h R)(hk:∀v h1,R v h1->K v h1)(hc:xO Q g=true:=by kernel_rfl)(hn:yC args=true:=by exact rfl):YO Q g args h K:=pL hc hn hT hk
end
end
theorem EE:type_of% (And.intro (And.intro (And.intro (And.intro (And.intro (And.intro (And.intro (And.intro @dK @dL) (And.intro @zD @xg)) (And.intro (And.intro @zN @yg) @yZ)) (And.intro (And.intro (And.intro @yr @j9) (And.intro @kV @Kb)) (And.intro (And.intro @Yb @PO) @xI))) (And.intro (And.intro (And.intro (And.intro @yL @wS) (And.intro @qD @uL)) (And.intro (And.intro @qJ @zfH) @UK)) (And.intro (And.intro (And.intro @F6 @WY) (And.intro @Xk @Xj)) (And.intro (And.intro @Uu @KP) @AA)))) (And.intro (And.intro (And.intro (And.intro (And.intro @mD @F7) (And.intro @Mh @zfG)) (And.intro (And.intro @T4 @zfI) @Mg)) (And.intro (And.intro (And.intro @Ed @zd0) (And.intro @zO @yb)) (And.intro (And.intro @DM @xF) @yH))) (And.intro (And.intro (And.intro (And.intro @SZ @M8) (And.intro @M9 @Gu)) (And.intro (And.intro @Na @yK) @Gv)) (And.intro (And.intro (And.intro @Mx @qK) (And.intro @C8 @lR)) (And.intro (And.intro @aW @Sk) @My))))) (And.intro (And.intro (And.intro (And.intro (And.intro (And.intro @Gw @DO) (And.intro @Nd @rF)) (And.intro (And.intro @gW @XN) @aaI.{0,0})) (And.intro (And.intro (And.intro @abn.{0,0} @aak.{0}) (And.intro @aap.{0} @aaF.{0})) (And.intro (And.intro @aay @acA) @aaE.{0}))) (And.intro (And.intro (And.intro (And.intro @aaz.{0} @abN.{0}) (And.intro @aaf.{0,0} @aaW.{0})) (And.intro (And.intro @aa6.{0} @abC.{0}) @abl.{0})) (And.intro (And.intro (And.intro @aa9.{0} @abA.{0}) (And.intro @acK.{0} @aaU.{0})) (And.intro (And.intro @acr.{0} @abD.{0}) @List.drop_nil.{0})))) (And.intro (And.intro (And.intro (And.intro (And.intro @abb @aa2) (And.intro @Nat.lt_irrefl @abg)) (And.intro (And.intro @abQ @aam) @uj)) (And.intro (And.intro (And.intro @vw @yD) (And.intro @kf @qC)) (And.intro (And.intro @lY @Qp) @S6))) (And.intro (And.intro (And.intro (And.intro @bE @zk) (And.intro @zI @zt)) (And.intro (And.intro @zR @zK) @Bn)) (And.intro (And.intro (And.intro @tG @aas) (And.intro @not_true_eq_false @abq)) (And.intro (And.intro @aaZ @ab3) @aco)))))) (And.intro (And.intro (And.intro (And.intro @Sa @Sb) (And.intro @Sj @Sg)) (And.intro (And.intro @Sc @Sd) (And.intro @Sf @Se))) @Si)):=And.intro (And.intro (And.intro (And.intro (And.intro (And.intro (And.intro (And.intro @dK @dL) (And.intro @zD @xg)) (And.intro (And.intro @zN @yg) @yZ)) (And.intro (And.intro (And.intro @yr @j9) (And.intro @kV @Kb)) (And.intro (And.intro @Yb @PO) @xI))) (And.intro (And.intro (And.intro (And.intro @yL @wS) (And.intro @qD @uL)) (And.intro (And.intro @qJ @zfH) @UK)) (And.intro (And.intro (And.intro @F6 @WY) (And.intro @Xk @Xj)) (And.intro (And.intro @Uu @KP) @AA)))) (And.intro (And.intro (And.intro (And.intro (And.intro @mD @F7) (And.intro @Mh @zfG)) (And.intro (And.intro @T4 @zfI) @Mg)) (And.intro (And.intro (And.intro @Ed @zd0) (And.intro @zO @yb)) (And.intro (And.intro @DM @xF) @yH))) (And.intro (And.intro (And.intro (And.intro @SZ @M8) (And.intro @M9 @Gu)) (And.intro (And.intro @Na @yK) @Gv)) (And.intro (And.intro (And.intro @Mx @qK) (And.intro @C8 @lR)) (And.intro (And.intro @aW @Sk) @My))))) (And.intro (And.intro (And.intro (And.intro (And.intro (And.intro @Gw @DO) (And.intro @Nd @rF)) (And.intro (And.intro @gW @XN) @aaI.{0,0})) (And.intro (And.intro (And.intro @abn.{0,0} @aak.{0}) (And.intro @aap.{0} @aaF.{0})) (And.intro (And.intro @aay @acA) @aaE.{0}))) (And.intro (And.intro (And.intro (And.intro @aaz.{0} @abN.{0}) (And.intro @aaf.{0,0} @aaW.{0})) (And.intro (And.intro @aa6.{0} @abC.{0}) @abl.{0})) (And.intro (And.intro (And.intro @aa9.{0} @abA.{0}) (And.intro @acK.{0} @aaU.{0})) (And.intro (And.intro @acr.{0} @abD.{0}) @List.drop_nil.{0})))) (And.intro (And.intro (And.intro (And.intro (And.intro @abb @aa2) (And.intro @Nat.lt_irrefl @abg)) (And.intro (And.intro @abQ @aam) @uj)) (And.intro (And.intro (And.intro @vw @yD) (And.intro @kf @qC)) (And.intro (And.intro @lY @Qp) @S6))) (And.intro (And.intro (And.intro (And.intro @bE @zk) (And.intro @zI @zt)) (And.intro (And.intro @zR @zK) @Bn)) (And.intro (And.intro (And.intro @tG @aas) (And.intro @not_true_eq_false @abq)) (And.intro (And.intro @aaZ @ab3) @aco)))))) (And.intro (And.intro (And.intro (And.intro @Sa @Sb) (And.intro @Sj @Sg)) (And.intro (And.intro @Sc @Sd) (And.intro @Sf @Se))) @Si)
end Go.Ai
