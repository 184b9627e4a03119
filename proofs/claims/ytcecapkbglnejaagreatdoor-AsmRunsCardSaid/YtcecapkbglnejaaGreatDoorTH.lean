import Derived.Test.YtcecapkbglnejaaGreatDoorTF
import Derived.Test.YtcecapkbglnejaaGreatDoorTE
set_option linter.unusedVariables false
set_option linter.unusedSimpArgs false
set_option maxRecDepth 100000
namespace Go.Ai
open Go.Proofs
noncomputable section
abbrev pu:=Tryz.prog
def zh(op:BinOp)(T:TypeId)(n:Nat)(v:aaa)(k:Int):Option aaa:=nb [v,(.int .i64 k)] (zS Tryz.prog op T (.tmp n) (.const (.int .i64 k)) v (.int .i64 k))
def yz(op:BinOp)(T:TypeId)(n m:Nat)(v w:aaa):Option aaa:=nb [v,w] (zS Tryz.prog op T (.tmp n) (.tmp m) v w)
def yn(U:TypeId)(a w:aaa)(h:za):Option za:=nb [w] (wx Tryz.prog U a w h)
def v8(T:TypeId)(x:aaa)(h:za):Option (aaa×za):=nb [x] (zP Tryz.prog .len [T] 3 [x] h)
def zt(T:TypeId)(v:aaa)(k:Nat)(U:TypeId)(h:za)(K:aaa->Prop):Prop:=opt (ze Tryz.prog T v k) λx=>opt (zd Tryz.prog U x h) K
def UF(T:TypeId)(v:aaa)(k:Nat)(U:TypeId)(w:aaa)(h:za)(K:za->Prop):Prop:=opt (ze Tryz.prog T v k) λx=>opt (nb [w] (wx Tryz.prog U x w h)) K
def vx(T:TypeId)(s i:aaa)(U:TypeId)(h:za)(K:aaa->Prop):Prop:=opt (zJ Tryz.prog T s i) λx=>opt (zd Tryz.prog U x h) K
def zg(g:aaa)(b:Bool)(E:Option aaa)(h0:za)(J:aaa->za->Prop)(h:za):Prop:=GD g b (λk=>opt E λx=>k x h0) J h
def xD(T:TypeId)(v:aaa)(k:Nat)(U:TypeId)(h:za)(K:aaa->Prop):Prop:=opt (vy v) λx=>zt T x k U h K
def kG(T:TypeId)(v:aaa)(k:Nat)(U:TypeId)(w:aaa)(h:za)(K:za->Prop):Prop:=opt (vy v) λx=>UF T x k U w h K
def qa(T:TypeId)(h:za)(K:aaa->za->Prop):Prop:=opt (Ye Tryz.prog T) λz=>nw h (Value.cells z).toList T K
section
@[congr] theorem zfA {T U:TypeId} {v:aaa} {v':Unit->aaa} {k:Nat} {h:za} {K:aaa->Prop} (e:∀u:Unit,(v,u).1=v' u):zt T v k U h K=zt T (v' ()) k U h K:=by rw[<- e]
@[congr] theorem zfB {T U:TypeId} {v w:aaa} {v':Unit->aaa} {k:Nat} {h:za} {K:za->Prop} (e:∀u:Unit,(v,u).1=v' u):UF T v k U w h K=UF T (v' ()) k U w h K:=by rw[<- e]
@[congr] theorem zfE {T U:TypeId} {v:aaa} {v':Unit->aaa} {k:Nat} {h:za} {K:aaa->Prop} (e:∀u:Unit,(v,u).1=v' u):xD T v k U h K=xD T (v' ()) k U h K:=by rw[<- e]
@[congr] theorem zfF {T U:TypeId} {v w:aaa} {v':Unit->aaa} {k:Nat} {h:za} {K:za->Prop} (e:∀u:Unit,(v,u).1=v' u):kG T v k U w h K=kG T (v' ()) k U w h K:=by rw[<- e]
@[congr] theorem zfD {T U:TypeId} {v i:aaa} {v':Unit->aaa} {h:za} {K:aaa->Prop} (e:∀u:Unit,(v,u).1=v' u):vx T v i U h K=vx T (v' ()) i U h K:=by rw[<- e]
@[congr] theorem zfC {g:aaa} {g':Unit->aaa} {b:Bool} {E:Option aaa} {h0 h:za} {J:aaa->za->Prop} (e:∀u:Unit,(g,u).1=g' u):zg g b E h0 J h=zg (g' ()) b E h0 J h:=by rw[<- e]
@[congr] theorem zfG {T:TypeId} {h:za} {h':Unit->za} {K:aaa->za->Prop} (e:∀u:Unit,(h,u).1=h' u):qa T h K=qa T (h' ()) K:=by rw[<- e]
theorem Ny(op:BinOp)(T:TypeId)(n:Nat)(v:aaa)(k:Int):zh op T n v k=nb [v,(.int .i64 k)] (zS Tryz.prog op T (.tmp n) (.const (.int .i64 k)) v (.int .i64 k)):=rfl
theorem Nz(op:BinOp)(T:TypeId)(n m:Nat)(v w:aaa):yz op T n m v w=nb [v,w] (zS Tryz.prog op T (.tmp n) (.tmp m) v w):=rfl
theorem NJ(U:TypeId)(a w:aaa)(h:za):yn U a w h=nb [w] (wx Tryz.prog U a w h):=rfl
theorem NF(T:TypeId)(x:aaa)(h:za):v8 T x h=nb [x] (zP Tryz.prog .len [T] 3 [x] h):=rfl
theorem NA(T:TypeId)(v:aaa)(k:Nat)(U:TypeId)(h:za)(K:aaa->Prop):zt T v k U h K=opt (ze Tryz.prog T v k) λx=>opt (zd Tryz.prog U x h) K:=rfl
theorem NB(T:TypeId)(v:aaa)(k:Nat)(U:TypeId)(w:aaa)(h:za)(K:za->Prop):UF T v k U w h K=opt (ze Tryz.prog T v k) λx=>opt (nb [w] (wx Tryz.prog U x w h)) K:=rfl
theorem NG(T:TypeId)(v:aaa)(k:Nat)(U:TypeId)(h:za)(K:aaa->Prop):xD T v k U h K=opt (vy v) λx=>zt T x k U h K:=rfl
theorem NH(T:TypeId)(v:aaa)(k:Nat)(U:TypeId)(w:aaa)(h:za)(K:za->Prop):kG T v k U w h K=opt (vy v) λx=>UF T x k U w h K:=rfl
theorem ND(T:TypeId)(s i:aaa)(U:TypeId)(h:za)(K:aaa->Prop):vx T s i U h K=opt (zJ Tryz.prog T s i) λx=>opt (zd Tryz.prog U x h) K:=rfl
theorem NC(g:aaa)(b:Bool)(E:Option aaa)(h0:za)(J:aaa->za->Prop)(h:za):zg g b E h0 J h=GD g b (λk=>opt E λx=>k x h0) J h:=rfl
theorem NI(T:TypeId)(h:za)(K:aaa->za->Prop):qa T h K=opt (Ye Tryz.prog T) λz=>nw h (Value.cells z).toList T K:=rfl
end
section
variable {Q:Program}{g:FuncId}{args:List aaa}{h:za}{v:aaa}
theorem xU{K:aaa->za->Prop}(hq:xC Q g args h v)(hk:K v h)(hc:wk Q g=true:=by kernel_rfl)(hn:yy args=true:=by exact rfl):zq Q (.func (.func g) #[] #[]) args h K:=Ey hc hn hq hk
theorem iS{K:aaa->za->Prop}(hn:yy args=true)(hq:xC Q g args h v)(hk:K v h)(hc:wk Q g=true:=by kernel_rfl):zq Q (.func (.func g) #[] #[]) args h K:=Ey hc hn hq hk
theorem JC{K:aaa->Prop}(hq:xC Q g args h v)(hk:K v)(hc:wk Q g=true:=by kernel_rfl)(hn:yy args=true:=by exact rfl):vL Q g args h K:=Nw hc hn hq hk
theorem zgc{K:aaa->Prop}(hn:yy args=true)(hq:xC Q g args h v)(hk:K v)(hc:wk Q g=true:=by kernel_rfl):vL Q g args h K:=Nw hc hn hq hk
theorem dM{K R:aaa->za->Prop}(hT:DC Q g args h R)(hk:∀v h1,R v h1->K v h1)(hc:wk Q g=true:=by kernel_rfl)(hn:yy args=true:=by exact rfl):zq Q (.func (.func g) #[] #[]) args h K:=vM hc hn hT hk
theorem EC{K R:aaa->za->Prop}(hn:yy args=true)(hT:DC Q g args h R)(hk:∀v h1,R v h1->K v h1)(hc:wk Q g=true:=by kernel_rfl):zq Q (.func (.func g) #[] #[]) args h K:=vM hc hn hT hk
theorem BQ{K R:aaa->za->Prop}(hT:DC Q g args h R)(hk:∀v h1,R v h1->K v h1)(hc:wk Q g=true:=by kernel_rfl)(hn:yy args=true:=by exact rfl):jN Q g args h K:=Ak hc hn hT hk
theorem zhw{K R:aaa->za->Prop}(hn:yy args=true)(hT:DC Q g args h R)(hk:∀v h1,R v h1->K v h1)(hc:wk Q g=true:=by kernel_rfl):jN Q g args h K:=Ak hc hn hT hk
end
end
theorem EE:type_of% (And.intro (And.intro (And.intro (And.intro (And.intro (And.intro (And.intro (And.intro (And.intro (And.intro (And.intro (And.intro (And.intro (And.intro (And.intro (And.intro (And.intro (And.intro (And.intro (And.intro (And.intro (And.intro (And.intro (And.intro (And.intro (And.intro @J5 @J6) (And.intro @zw @xf)) (And.intro (And.intro @zF @yc) @y6)) (And.intro (And.intro (And.intro @yj @Zi) (And.intro @jn @Q2)) (And.intro (And.intro @Yu @Mz) @xX))) (And.intro (And.intro (And.intro (And.intro @yO @vg) (And.intro @kU @ql)) (And.intro (And.intro @ks @zcZ) @UK)) (And.intro (And.intro (And.intro @Dc @WZ) (And.intro @Xt @Xs)) (And.intro (And.intro @Un @Kk) @pV)))) (And.intro (And.intro (And.intro (And.intro (And.intro @gj @Dd) (And.intro @G5 @zcY)) (And.intro (And.intro @Pv @zc0) @G4)) (And.intro (And.intro (And.intro @BJ @zbb) (And.intro @zI @z8)) (And.intro (And.intro @Bk @wt) @yD))) (And.intro (And.intro (And.intro (And.intro @Oi @HT) (And.intro @HU @DD)) (And.intro (And.intro @HV @yY) @DE)) (And.intro (And.intro (And.intro @Hj @jm) (And.intro @At @fD)) (And.intro (And.intro @Jp @NK) @Hk))))) (And.intro (And.intro (And.intro (And.intro (And.intro (And.intro @DF @Bm) (And.intro @HY @m8)) (And.intro (And.intro @Kg @Y3) @aaK.{0,0})) (And.intro (And.intro (And.intro @abg.{0,0} @aaf.{0}) (And.intro @aal.{0} @aaH.{0})) (And.intro (And.intro @aay @ab8) @aaE.{0}))) (And.intro (And.intro (And.intro (And.intro @aaC.{0} @abM.{0}) (And.intro @aav.{0,0} @abd.{0})) (And.intro (And.intro @abf.{0} @abD.{0}) @abb.{0})) (And.intro (And.intro (And.intro @aa0.{0} @aby.{0}) (And.intro @List.take_zero.{0} @aaT.{0})) (And.intro (And.intro @acj.{0} @abx.{0}) @List.drop_nil.{0})))) (And.intro (And.intro (And.intro (And.intro (And.intro @abe @abY) (And.intro @Nat.lt_irrefl @aba)) (And.intro (And.intro @ab1 @aam) @uD)) (And.intro (And.intro (And.intro @vN @yN) (And.intro @kQ @qZ)) (And.intro (And.intro @fP @Ql) @Ox))) (And.intro (And.intro (And.intro (And.intro @mU @zv) (And.intro @zM @zD)) (And.intro (And.intro @yr @zU) @sc)) (And.intro (And.intro (And.intro @oT @aap) (And.intro @not_true_eq_false @abv)) (And.intro (And.intro @aa5 @Bool.and_false) @Bool.false_and)))))) (And.intro (And.intro (And.intro (And.intro @Ny @Nz) (And.intro @NJ @NF)) (And.intro (And.intro @NA @NB) (And.intro @ND @NC))) (And.intro @NI (And.intro @NG @NH)))) @if_true.{0}) @if_true.{1}) @if_false.{0}) @if_false.{1}) @cond_true.{0}) @cond_true.{1}) @cond_false.{0}) @cond_false.{1}) u6) WK) pU) uC) Lf) Nv) dG) WY) qU) jr):=(And.intro (And.intro (And.intro (And.intro (And.intro (And.intro (And.intro (And.intro (And.intro (And.intro (And.intro (And.intro (And.intro (And.intro (And.intro (And.intro (And.intro (And.intro (And.intro (And.intro (And.intro (And.intro (And.intro (And.intro (And.intro (And.intro @J5 @J6) (And.intro @zw @xf)) (And.intro (And.intro @zF @yc) @y6)) (And.intro (And.intro (And.intro @yj @Zi) (And.intro @jn @Q2)) (And.intro (And.intro @Yu @Mz) @xX))) (And.intro (And.intro (And.intro (And.intro @yO @vg) (And.intro @kU @ql)) (And.intro (And.intro @ks @zcZ) @UK)) (And.intro (And.intro (And.intro @Dc @WZ) (And.intro @Xt @Xs)) (And.intro (And.intro @Un @Kk) @pV)))) (And.intro (And.intro (And.intro (And.intro (And.intro @gj @Dd) (And.intro @G5 @zcY)) (And.intro (And.intro @Pv @zc0) @G4)) (And.intro (And.intro (And.intro @BJ @zbb) (And.intro @zI @z8)) (And.intro (And.intro @Bk @wt) @yD))) (And.intro (And.intro (And.intro (And.intro @Oi @HT) (And.intro @HU @DD)) (And.intro (And.intro @HV @yY) @DE)) (And.intro (And.intro (And.intro @Hj @jm) (And.intro @At @fD)) (And.intro (And.intro @Jp @NK) @Hk))))) (And.intro (And.intro (And.intro (And.intro (And.intro (And.intro @DF @Bm) (And.intro @HY @m8)) (And.intro (And.intro @Kg @Y3) @aaK.{0,0})) (And.intro (And.intro (And.intro @abg.{0,0} @aaf.{0}) (And.intro @aal.{0} @aaH.{0})) (And.intro (And.intro @aay @ab8) @aaE.{0}))) (And.intro (And.intro (And.intro (And.intro @aaC.{0} @abM.{0}) (And.intro @aav.{0,0} @abd.{0})) (And.intro (And.intro @abf.{0} @abD.{0}) @abb.{0})) (And.intro (And.intro (And.intro @aa0.{0} @aby.{0}) (And.intro @List.take_zero.{0} @aaT.{0})) (And.intro (And.intro @acj.{0} @abx.{0}) @List.drop_nil.{0})))) (And.intro (And.intro (And.intro (And.intro (And.intro @abe @abY) (And.intro @Nat.lt_irrefl @aba)) (And.intro (And.intro @ab1 @aam) @uD)) (And.intro (And.intro (And.intro @vN @yN) (And.intro @kQ @qZ)) (And.intro (And.intro @fP @Ql) @Ox))) (And.intro (And.intro (And.intro (And.intro @mU @zv) (And.intro @zM @zD)) (And.intro (And.intro @yr @zU) @sc)) (And.intro (And.intro (And.intro @oT @aap) (And.intro @not_true_eq_false @abv)) (And.intro (And.intro @aa5 @Bool.and_false) @Bool.false_and)))))) (And.intro (And.intro (And.intro (And.intro @Ny @Nz) (And.intro @NJ @NF)) (And.intro (And.intro @NA @NB) (And.intro @ND @NC))) (And.intro @NI (And.intro @NG @NH)))) @if_true.{0}) @if_true.{1}) @if_false.{0}) @if_false.{1}) @cond_true.{0}) @cond_true.{1}) @cond_false.{0}) @cond_false.{1}) u6) WK) pU) uC) Lf) Nv) dG) WY) qU) jr)
end Go.Ai
