import Derived.Test.YtpjjmindjodknaaGreatTF
import Derived.KernelRfl
import Derived.Test.YtpjjmindjodknaaGreatChecked
set_option linter.unusedVariables false
set_option linter.unusedSimpArgs false
set_option maxRecDepth 100000
namespace Go.Ai
open Go.Proofs
noncomputable section
abbrev pu:=Tryz.prog
def zi(op:BinOp)(T:TypeId)(n:Nat)(v:aaa)(k:Int):Option aaa:=nb [v,(.int .i64 k)] (zK Tryz.prog op T (.tmp n) (.const (.int .i64 k)) v (.int .i64 k))
def xL(op:BinOp)(T:TypeId)(n m:Nat)(v w:aaa):Option aaa:=nb [v,w] (zK Tryz.prog op T (.tmp n) (.tmp m) v w)
def wg(U:TypeId)(a w:aaa)(h:za):Option za:=nb [w] (ux Tryz.prog U a w h)
def uy(T:TypeId)(x:aaa)(h:za):Option (aaa×za):=nb [x] (zG Tryz.prog .len [T] 3 [x] h)
def zI(T:TypeId)(v:aaa)(k:Nat)(U:TypeId)(h:za)(K:aaa->Prop):Prop:=opt (zp Tryz.prog T v k) λx=>opt (zd Tryz.prog U x h) K
def Z1(T:TypeId)(v:aaa)(k:Nat)(U:TypeId)(w:aaa)(h:za)(K:za->Prop):Prop:=opt (zp Tryz.prog T v k) λx=>opt (nb [w] (ux Tryz.prog U x w h)) K
def qk(T:TypeId)(s i:aaa)(U:TypeId)(h:za)(K:aaa->Prop):Prop:=opt (xR Tryz.prog T s i) λx=>opt (zd Tryz.prog U x h) K
def zg(g:aaa)(b:Bool)(E:Option aaa)(h0:za)(J:aaa->za->Prop)(h:za):Prop:=GD g b (λk=>opt E λx=>k x h0) J h
def UI(T:TypeId)(v:aaa)(k:Nat)(U:TypeId)(h:za)(K:aaa->Prop):Prop:=opt (Ps v) λx=>zI T x k U h K
def WE(T:TypeId)(v:aaa)(k:Nat)(U:TypeId)(w:aaa)(h:za)(K:za->Prop):Prop:=opt (Ps v) λx=>Z1 T x k U w h K
def jz(T:TypeId)(h:za)(K:aaa->za->Prop):Prop:=opt (YT Tryz.prog T) λz=>nw h (Value.cells z).toList T K
section
@[congr] theorem zaS {T U:TypeId} {v:aaa} {v':Unit->aaa} {k:Nat} {h:za} {K:aaa->Prop} (e:∀u:Unit,(v,u).1=v' u):zI T v k U h K=zI T (v' ()) k U h K:=by rw[<- e]
@[congr] theorem zaT {T U:TypeId} {v w:aaa} {v':Unit->aaa} {k:Nat} {h:za} {K:za->Prop} (e:∀u:Unit,(v,u).1=v' u):Z1 T v k U w h K=Z1 T (v' ()) k U w h K:=by rw[<- e]
@[congr] theorem zaW {T U:TypeId} {v:aaa} {v':Unit->aaa} {k:Nat} {h:za} {K:aaa->Prop} (e:∀u:Unit,(v,u).1=v' u):UI T v k U h K=UI T (v' ()) k U h K:=by rw[<- e]
@[congr] theorem zaX {T U:TypeId} {v w:aaa} {v':Unit->aaa} {k:Nat} {h:za} {K:za->Prop} (e:∀u:Unit,(v,u).1=v' u):WE T v k U w h K=WE T (v' ()) k U w h K:=by rw[<- e]
@[congr] theorem zaV {T U:TypeId} {v i:aaa} {v':Unit->aaa} {h:za} {K:aaa->Prop} (e:∀u:Unit,(v,u).1=v' u):qk T v i U h K=qk T (v' ()) i U h K:=by rw[<- e]
@[congr] theorem zaU {g:aaa} {g':Unit->aaa} {b:Bool} {E:Option aaa} {h0 h:za} {J:aaa->za->Prop} (e:∀u:Unit,(g,u).1=g' u):zg g b E h0 J h=zg (g' ()) b E h0 J h:=by rw[<- e]
@[congr] theorem zaY {T:TypeId} {h:za} {h':Unit->za} {K:aaa->za->Prop} (e:∀u:Unit,(h,u).1=h' u):jz T h K=jz T (h' ()) K:=by rw[<- e]
theorem HI(op:BinOp)(T:TypeId)(n:Nat)(v:aaa)(k:Int):zi op T n v k=nb [v,(.int .i64 k)] (zK Tryz.prog op T (.tmp n) (.const (.int .i64 k)) v (.int .i64 k)):=rfl
theorem HJ(op:BinOp)(T:TypeId)(n m:Nat)(v w:aaa):xL op T n m v w=nb [v,w] (zK Tryz.prog op T (.tmp n) (.tmp m) v w):=rfl
theorem HT(U:TypeId)(a w:aaa)(h:za):wg U a w h=nb [w] (ux Tryz.prog U a w h):=rfl
theorem HO(T:TypeId)(x:aaa)(h:za):uy T x h=nb [x] (zG Tryz.prog .len [T] 3 [x] h):=rfl
theorem HK(T:TypeId)(v:aaa)(k:Nat)(U:TypeId)(h:za)(K:aaa->Prop):zI T v k U h K=opt (zp Tryz.prog T v k) λx=>opt (zd Tryz.prog U x h) K:=rfl
theorem HL(T:TypeId)(v:aaa)(k:Nat)(U:TypeId)(w:aaa)(h:za)(K:za->Prop):Z1 T v k U w h K=opt (zp Tryz.prog T v k) λx=>opt (nb [w] (ux Tryz.prog U x w h)) K:=rfl
theorem HQ(T:TypeId)(v:aaa)(k:Nat)(U:TypeId)(h:za)(K:aaa->Prop):UI T v k U h K=opt (Ps v) λx=>zI T x k U h K:=rfl
theorem HR(T:TypeId)(v:aaa)(k:Nat)(U:TypeId)(w:aaa)(h:za)(K:za->Prop):WE T v k U w h K=opt (Ps v) λx=>Z1 T x k U w h K:=rfl
theorem HN(T:TypeId)(s i:aaa)(U:TypeId)(h:za)(K:aaa->Prop):qk T s i U h K=opt (xR Tryz.prog T s i) λx=>opt (zd Tryz.prog U x h) K:=rfl
theorem HM(g:aaa)(b:Bool)(E:Option aaa)(h0:za)(J:aaa->za->Prop)(h:za):zg g b E h0 J h=GD g b (λk=>opt E λx=>k x h0) J h:=rfl
theorem HS(T:TypeId)(h:za)(K:aaa->za->Prop):jz T h K=opt (YT Tryz.prog T) λz=>nw h (Value.cells z).toList T K:=rfl
end
section
variable {Q:Program}{g:FuncId}{args:List aaa}{h:za}{v:aaa}
theorem YL{K:aaa->za->Prop}(hq:wX Q g args h v)(hk:K v h)(hc:xS Q g=true:=by kernel_rfl)(hn:yi args=true:=by exact rfl):zP Q (.func (.func g) #[] #[]) args h K:=HH hc hn hq hk
theorem gL{K:aaa->za->Prop}(hn:yi args=true)(hq:wX Q g args h v)(hk:K v h)(hc:xS Q g=true:=by kernel_rfl):zP Q (.func (.func g) #[] #[]) args h K:=HH hc hn hq hk
theorem gK{K:aaa->Prop}(hq:wX Q g args h v)(hk:K v)(hc:xS Q g=true:=by kernel_rfl)(hn:yi args=true:=by exact rfl):qu Q g args h K:=HG hc hn hq hk
theorem T0{K:aaa->Prop}(hn:yi args=true)(hq:wX Q g args h v)(hk:K v)(hc:xS Q g=true:=by kernel_rfl):qu Q g args h K:=HG hc hn hq hk
theorem QJ{K R:aaa->za->Prop}(hT:DC Q g args h R)(hk:∀v h1,R v h1->K v h1)(hc:xS Q g=true:=by kernel_rfl)(hn:yi args=true:=by exact rfl):zP Q (.func (.func g) #[] #[]) args h K:=oN hc hn hT hk
theorem lG{K R:aaa->za->Prop}(hn:yi args=true)(hT:DC Q g args h R)(hk:∀v h1,R v h1->K v h1)(hc:xS Q g=true:=by kernel_rfl):zP Q (.func (.func g) #[] #[]) args h K:=oN hc hn hT hk
theorem cdo{K R:aaa->za->Prop}(hT:DC Q g args h R)(hk:∀v h1,R v h1->K v h1)(hc:xS Q g=true:=by kernel_rfl)(hn:yi args=true:=by exact rfl):i5 Q g args h K:=NJ hc hn hT hk
end
end
theorem EE:type_of% (And.intro (And.intro (And.intro (And.intro (And.intro (And.intro (And.intro (And.intro (And.intro (And.intro (And.intro (And.intro (And.intro (And.intro (And.intro (And.intro @Nw @Nx) (And.intro @ER @AA)) (And.intro (And.intro @Xx @cJ) @GX)) (And.intro (And.intro (And.intro @Ck @Sj) (And.intro @Sg @Si)) (And.intro (And.intro @Sh @Sk) @Iy))) (And.intro (And.intro (And.intro (And.intro @ES @Im) (And.intro @O6 @O7)) (And.intro (And.intro @SJ @SI) @SH)) (And.intro (And.intro (And.intro @SG @SF) (And.intro @SL @SD)) (And.intro (And.intro @SQ @SK) @SM)))) (And.intro (And.intro (And.intro (And.intro (And.intro @SN @SO) (And.intro @SP @SE)) (And.intro (And.intro @zbh @SR) @DQ)) (And.intro (And.intro (And.intro @To @Tn) (And.intro @EH @Iq)) (And.intro (And.intro @pS @Is) @Au))) (And.intro (And.intro (And.intro (And.intro @Ir @EI) (And.intro @EJ @At)) (And.intro (And.intro @EK @Ip) @Av)) (And.intro (And.intro (And.intro @D1 @HW) (And.intro @oS @HY)) (And.intro (And.intro @t7 @HX) @D2))))) (And.intro (And.intro (And.intro (And.intro (And.intro (And.intro @Aw @pU) (And.intro @fe @fh)) (And.intro (And.intro @VO @W3) @abf.{0,0})) (And.intro (And.intro (And.intro @Option.bind_none.{0,0} @aay.{0}) (And.intro @aaT.{0} @List.toList_toArray.{0})) (And.intro (And.intro @abz @Nat.add_zero) @aa3.{0}))) (And.intro (And.intro (And.intro (And.intro @abr.{0} @List.length_replicate.{0}) (And.intro @aau.{0,0} @aco.{0})) (And.intro (And.intro @ab8.{0} @List.all_nil.{0}) @List.set_cons_zero.{0})) (And.intro (And.intro (And.intro @List.set_cons_succ.{0} @abH.{0}) (And.intro @List.take_zero.{0} @ab9.{0})) (And.intro (And.intro @aca.{0} @List.take_nil.{0}) @List.drop_nil.{0})))) (And.intro (And.intro (And.intro (And.intro (And.intro @ab7 @abq) (And.intro @Nat.lt_irrefl @acv)) (And.intro (And.intro @true_and @aaj) @SY)) (And.intro (And.intro (And.intro @SX @pV) (And.intro @It @E0)) (And.intro (And.intro @IF @Ap) @IE))) (And.intro (And.intro (And.intro (And.intro @UO @uz) (And.intro @i9 @x6)) (And.intro (And.intro @YB @Zi) @Ij)) (And.intro (And.intro (And.intro @Ow @not_false_eq_true) (And.intro @not_true_eq_false @Bool.not_true)) (And.intro (And.intro @ab4 @Bool.and_false) @Bool.false_and)))))) (And.intro (And.intro (And.intro (And.intro @HI @HJ) (And.intro @HT @HO)) (And.intro (And.intro @HK @HL) (And.intro @HN @HM))) (And.intro @HS (And.intro @HQ @HR)))) @if_true.{0}) @if_true.{1}) @if_false.{0}) @if_false.{1}) @cond_true.{0}) @cond_true.{1}) @cond_false.{0}) @cond_false.{1}):=(And.intro (And.intro (And.intro (And.intro (And.intro (And.intro (And.intro (And.intro (And.intro (And.intro (And.intro (And.intro (And.intro (And.intro (And.intro (And.intro @Nw @Nx) (And.intro @ER @AA)) (And.intro (And.intro @Xx @cJ) @GX)) (And.intro (And.intro (And.intro @Ck @Sj) (And.intro @Sg @Si)) (And.intro (And.intro @Sh @Sk) @Iy))) (And.intro (And.intro (And.intro (And.intro @ES @Im) (And.intro @O6 @O7)) (And.intro (And.intro @SJ @SI) @SH)) (And.intro (And.intro (And.intro @SG @SF) (And.intro @SL @SD)) (And.intro (And.intro @SQ @SK) @SM)))) (And.intro (And.intro (And.intro (And.intro (And.intro @SN @SO) (And.intro @SP @SE)) (And.intro (And.intro @zbh @SR) @DQ)) (And.intro (And.intro (And.intro @To @Tn) (And.intro @EH @Iq)) (And.intro (And.intro @pS @Is) @Au))) (And.intro (And.intro (And.intro (And.intro @Ir @EI) (And.intro @EJ @At)) (And.intro (And.intro @EK @Ip) @Av)) (And.intro (And.intro (And.intro @D1 @HW) (And.intro @oS @HY)) (And.intro (And.intro @t7 @HX) @D2))))) (And.intro (And.intro (And.intro (And.intro (And.intro (And.intro @Aw @pU) (And.intro @fe @fh)) (And.intro (And.intro @VO @W3) @abf.{0,0})) (And.intro (And.intro (And.intro @Option.bind_none.{0,0} @aay.{0}) (And.intro @aaT.{0} @List.toList_toArray.{0})) (And.intro (And.intro @abz @Nat.add_zero) @aa3.{0}))) (And.intro (And.intro (And.intro (And.intro @abr.{0} @List.length_replicate.{0}) (And.intro @aau.{0,0} @aco.{0})) (And.intro (And.intro @ab8.{0} @List.all_nil.{0}) @List.set_cons_zero.{0})) (And.intro (And.intro (And.intro @List.set_cons_succ.{0} @abH.{0}) (And.intro @List.take_zero.{0} @ab9.{0})) (And.intro (And.intro @aca.{0} @List.take_nil.{0}) @List.drop_nil.{0})))) (And.intro (And.intro (And.intro (And.intro (And.intro @ab7 @abq) (And.intro @Nat.lt_irrefl @acv)) (And.intro (And.intro @true_and @aaj) @SY)) (And.intro (And.intro (And.intro @SX @pV) (And.intro @It @E0)) (And.intro (And.intro @IF @Ap) @IE))) (And.intro (And.intro (And.intro (And.intro @UO @uz) (And.intro @i9 @x6)) (And.intro (And.intro @YB @Zi) @Ij)) (And.intro (And.intro (And.intro @Ow @not_false_eq_true) (And.intro @not_true_eq_false @Bool.not_true)) (And.intro (And.intro @ab4 @Bool.and_false) @Bool.false_and)))))) (And.intro (And.intro (And.intro (And.intro @HI @HJ) (And.intro @HT @HO)) (And.intro (And.intro @HK @HL) (And.intro @HN @HM))) (And.intro @HS (And.intro @HQ @HR)))) @if_true.{0}) @if_true.{1}) @if_false.{0}) @if_false.{1}) @cond_true.{0}) @cond_true.{1}) @cond_false.{0}) @cond_false.{1})
end Go.Ai
