import Derived.Test.YtpjjmindjodknaaGreatTF
import Derived.KernelRfl
import Derived.Test.YtpjjmindjodknaaGreatChecked
set_option linter.unusedVariables false
set_option linter.unusedSimpArgs false
set_option maxRecDepth 100000
namespace Go.Ai
open Go.Proofs
noncomputable section
abbrev pu:=Tryz.prog
def zi(op:BinOp)(T:TypeId)(n:Nat)(v:aaa)(k:Int):Option aaa:=nb [v,(.int .i64 k)] (zM Tryz.prog op T (.tmp n) (.const (.int .i64 k)) v (.int .i64 k))
def x6(op:BinOp)(T:TypeId)(n m:Nat)(v w:aaa):Option aaa:=nb [v,w] (zM Tryz.prog op T (.tmp n) (.tmp m) v w)
def wz(U:TypeId)(a w:aaa)(h:za):Option za:=nb [w] (uv Tryz.prog U a w h)
def uy(T:TypeId)(x:aaa)(h:za):Option (aaa×za):=nb [x] (zB Tryz.prog .len [T] 3 [x] h)
def zD(T:TypeId)(v:aaa)(k:Nat)(U:TypeId)(h:za)(K:aaa->Prop):Prop:=opt (zl Tryz.prog T v k) λx=>opt (zf Tryz.prog U x h) K
def YU(T:TypeId)(v:aaa)(k:Nat)(U:TypeId)(w:aaa)(h:za)(K:za->Prop):Prop:=opt (zl Tryz.prog T v k) λx=>opt (nb [w] (uv Tryz.prog U x w h)) K
def qL(T:TypeId)(s i:aaa)(U:TypeId)(h:za)(K:aaa->Prop):Prop:=opt (vf Tryz.prog T s i) λx=>opt (zf Tryz.prog U x h) K
def zh(g:aaa)(b:Bool)(E:Option aaa)(h0:za)(J:aaa->za->Prop)(h:za):Prop:=GD g b (λk=>opt E λx=>k x h0) J h
def Kz(T:TypeId)(v:aaa)(k:Nat)(U:TypeId)(h:za)(K:aaa->Prop):Prop:=opt (nck v) λx=>zD T x k U h K
def Uh(T:TypeId)(v:aaa)(k:Nat)(U:TypeId)(w:aaa)(h:za)(K:za->Prop):Prop:=opt (nck v) λx=>YU T x k U w h K
def kq(T:TypeId)(h:za)(K:aaa->za->Prop):Prop:=opt (Y7 Tryz.prog T) λz=>nw h (Value.cells z).toList T K
section
@[congr] theorem zeK {T U:TypeId} {v:aaa} {v':Unit->aaa} {k:Nat} {h:za} {K:aaa->Prop} (e:∀u:Unit,(v,u).1=v' u):zD T v k U h K=zD T (v' ()) k U h K:=by rw[<- e]
@[congr] theorem zeL {T U:TypeId} {v w:aaa} {v':Unit->aaa} {k:Nat} {h:za} {K:za->Prop} (e:∀u:Unit,(v,u).1=v' u):YU T v k U w h K=YU T (v' ()) k U w h K:=by rw[<- e]
@[congr] theorem zeO {T U:TypeId} {v:aaa} {v':Unit->aaa} {k:Nat} {h:za} {K:aaa->Prop} (e:∀u:Unit,(v,u).1=v' u):Kz T v k U h K=Kz T (v' ()) k U h K:=by rw[<- e]
@[congr] theorem zeP {T U:TypeId} {v w:aaa} {v':Unit->aaa} {k:Nat} {h:za} {K:za->Prop} (e:∀u:Unit,(v,u).1=v' u):Uh T v k U w h K=Uh T (v' ()) k U w h K:=by rw[<- e]
@[congr] theorem zeN {T U:TypeId} {v i:aaa} {v':Unit->aaa} {h:za} {K:aaa->Prop} (e:∀u:Unit,(v,u).1=v' u):qL T v i U h K=qL T (v' ()) i U h K:=by rw[<- e]
@[congr] theorem zeM {g:aaa} {g':Unit->aaa} {b:Bool} {E:Option aaa} {h0 h:za} {J:aaa->za->Prop} (e:∀u:Unit,(g,u).1=g' u):zh g b E h0 J h=zh (g' ()) b E h0 J h:=by rw[<- e]
@[congr] theorem zeQ {T:TypeId} {h:za} {h':Unit->za} {K:aaa->za->Prop} (e:∀u:Unit,(h,u).1=h' u):kq T h K=kq T (h' ()) K:=by rw[<- e]
theorem NP(op:BinOp)(T:TypeId)(n:Nat)(v:aaa)(k:Int):zi op T n v k=nb [v,(.int .i64 k)] (zM Tryz.prog op T (.tmp n) (.const (.int .i64 k)) v (.int .i64 k)):=rfl
theorem NQ(op:BinOp)(T:TypeId)(n m:Nat)(v w:aaa):x6 op T n m v w=nb [v,w] (zM Tryz.prog op T (.tmp n) (.tmp m) v w):=rfl
theorem NZ(U:TypeId)(a w:aaa)(h:za):wz U a w h=nb [w] (uv Tryz.prog U a w h):=rfl
theorem NV(T:TypeId)(x:aaa)(h:za):uy T x h=nb [x] (zB Tryz.prog .len [T] 3 [x] h):=rfl
theorem NR(T:TypeId)(v:aaa)(k:Nat)(U:TypeId)(h:za)(K:aaa->Prop):zD T v k U h K=opt (zl Tryz.prog T v k) λx=>opt (zf Tryz.prog U x h) K:=rfl
theorem NS(T:TypeId)(v:aaa)(k:Nat)(U:TypeId)(w:aaa)(h:za)(K:za->Prop):YU T v k U w h K=opt (zl Tryz.prog T v k) λx=>opt (nb [w] (uv Tryz.prog U x w h)) K:=rfl
theorem NW(T:TypeId)(v:aaa)(k:Nat)(U:TypeId)(h:za)(K:aaa->Prop):Kz T v k U h K=opt (nck v) λx=>zD T x k U h K:=rfl
theorem NX(T:TypeId)(v:aaa)(k:Nat)(U:TypeId)(w:aaa)(h:za)(K:za->Prop):Uh T v k U w h K=opt (nck v) λx=>YU T x k U w h K:=rfl
theorem NU(T:TypeId)(s i:aaa)(U:TypeId)(h:za)(K:aaa->Prop):qL T s i U h K=opt (vf Tryz.prog T s i) λx=>opt (zf Tryz.prog U x h) K:=rfl
theorem NT(g:aaa)(b:Bool)(E:Option aaa)(h0:za)(J:aaa->za->Prop)(h:za):zh g b E h0 J h=GD g b (λk=>opt E λx=>k x h0) J h:=rfl
theorem NY(T:TypeId)(h:za)(K:aaa->za->Prop):kq T h K=opt (Y7 Tryz.prog T) λz=>nw h (Value.cells z).toList T K:=rfl
end
section
variable {Q:Program}{g:FuncId}{args:List aaa}{h:za}{v:aaa}
theorem X2{K:aaa->za->Prop}(hq:vt Q g args h v)(hk:K v h)(hc:wA Q g=true:=by kernel_rfl)(hn:yi args=true:=by exact rfl):zF Q (.func (.func g) #[] #[]) args h K:=NM hc hn hq hk
theorem aq{K:aaa->za->Prop}(hn:yi args=true)(hq:vt Q g args h v)(hk:K v h)(hc:wA Q g=true:=by kernel_rfl):zF Q (.func (.func g) #[] #[]) args h K:=NM hc hn hq hk
theorem eL{K:aaa->Prop}(hq:vt Q g args h v)(hk:K v)(hc:wA Q g=true:=by kernel_rfl)(hn:yi args=true:=by exact rfl):qt Q g args h K:=NL hc hn hq hk
theorem zgr{K:aaa->Prop}(hn:yi args=true)(hq:vt Q g args h v)(hk:K v)(hc:wA Q g=true:=by kernel_rfl):qt Q g args h K:=NL hc hn hq hk
theorem Kd{K R:aaa->za->Prop}(hT:DC Q g args h R)(hk:∀v h1,R v h1->K v h1)(hc:wA Q g=true:=by kernel_rfl)(hn:yi args=true:=by exact rfl):zF Q (.func (.func g) #[] #[]) args h K:=Ax hc hn hT hk
theorem mK{K R:aaa->za->Prop}(hn:yi args=true)(hT:DC Q g args h R)(hk:∀v h1,R v h1->K v h1)(hc:wA Q g=true:=by kernel_rfl):zF Q (.func (.func g) #[] #[]) args h K:=Ax hc hn hT hk
theorem cdo{K R:aaa->za->Prop}(hT:DC Q g args h R)(hk:∀v h1,R v h1->K v h1)(hc:wA Q g=true:=by kernel_rfl)(hn:yi args=true:=by exact rfl):oZ Q g args h K:=SZ hc hn hT hk
end
end
theorem EE:type_of% (And.intro (And.intro (And.intro (And.intro (And.intro (And.intro (And.intro (And.intro (And.intro (And.intro (And.intro (And.intro (And.intro (And.intro (And.intro (And.intro @SP @SQ) (And.intro @IH @D5)) (And.intro (And.intro @ZW @JP) @MU)) (And.intro (And.intro (And.intro @FV @zcu) (And.intro @zcr @zct)) (And.intro (And.intro @zcs @zcv) @OF))) (And.intro (And.intro (And.intro (And.intro @II @Ov) (And.intro @zau @zav)) (And.intro (And.intro @zcQ @zcP) @zcO)) (And.intro (And.intro (And.intro @zcN @zcM) (And.intro @zcS @zcK)) (And.intro (And.intro @zcX @zcR) @zcT)))) (And.intro (And.intro (And.intro (And.intro (And.intro @zcU @zcV) (And.intro @zcW @zcL)) (And.intro (And.intro @ze5 @zcY) @HQ)) (And.intro (And.intro (And.intro @zdg @zdf) (And.intro @IA @Oy)) (And.intro (And.intro @Bv @OA) @DZ))) (And.intro (And.intro (And.intro (And.intro @Oz @IB) (And.intro @IC @DY)) (And.intro (And.intro @ID @Ox) @D0)) (And.intro (And.intro (And.intro @HZ @N1) (And.intro @AE @N3)) (And.intro (And.intro @DF @N2) @H0))))) (And.intro (And.intro (And.intro (And.intro (And.intro (And.intro @D1 @Bx) (And.intro @lp @lq)) (And.intro (And.intro @Qx @UE) @abg.{0,0})) (And.intro (And.intro (And.intro @Option.bind_none.{0,0} @aaA.{0}) (And.intro @aaU.{0} @List.toList_toArray.{0})) (And.intro (And.intro @abt @Nat.add_zero) @aa3.{0}))) (And.intro (And.intro (And.intro (And.intro @abk.{0} @List.length_replicate.{0}) (And.intro @aau.{0,0} @List.length_set.{0})) (And.intro (And.intro @acq.{0} @List.all_nil.{0}) @List.set_cons_zero.{0})) (And.intro (And.intro (And.intro @List.set_cons_succ.{0} @abT.{0}) (And.intro @List.take_zero.{0} @List.take_succ_cons.{0})) (And.intro (And.intro @List.drop_succ_cons.{0} @List.take_nil.{0}) @List.drop_nil.{0})))) (And.intro (And.intro (And.intro (And.intro (And.intro @acp @abu) (And.intro @Nat.lt_irrefl @and_true)) (And.intro (And.intro @true_and @aaj) @zc3)) (And.intro (And.intro (And.intro @zc2 @Bz) (And.intro @OB @IS)) (And.intro (And.intro @ON @DW) @OM))) (And.intro (And.intro (And.intro (And.intro @KF @wt) (And.intro @pd @yq)) (And.intro (And.intro @YN @q9) @Oq)) (And.intro (And.intro (And.intro @TQ @not_false_eq_true) (And.intro @not_true_eq_false @Bool.not_true)) (And.intro (And.intro @ab7 @Bool.and_false) @Bool.false_and)))))) (And.intro (And.intro (And.intro (And.intro @NP @NQ) (And.intro @NZ @NV)) (And.intro (And.intro @NR @NS) (And.intro @NU @NT))) (And.intro @NY (And.intro @NW @NX)))) @if_true.{0}) @if_true.{1}) @if_false.{0}) @if_false.{1}) @cond_true.{0}) @cond_true.{1}) @cond_false.{0}) @cond_false.{1}):=(And.intro (And.intro (And.intro (And.intro (And.intro (And.intro (And.intro (And.intro (And.intro (And.intro (And.intro (And.intro (And.intro (And.intro (And.intro (And.intro @SP @SQ) (And.intro @IH @D5)) (And.intro (And.intro @ZW @JP) @MU)) (And.intro (And.intro (And.intro @FV @zcu) (And.intro @zcr @zct)) (And.intro (And.intro @zcs @zcv) @OF))) (And.intro (And.intro (And.intro (And.intro @II @Ov) (And.intro @zau @zav)) (And.intro (And.intro @zcQ @zcP) @zcO)) (And.intro (And.intro (And.intro @zcN @zcM) (And.intro @zcS @zcK)) (And.intro (And.intro @zcX @zcR) @zcT)))) (And.intro (And.intro (And.intro (And.intro (And.intro @zcU @zcV) (And.intro @zcW @zcL)) (And.intro (And.intro @ze5 @zcY) @HQ)) (And.intro (And.intro (And.intro @zdg @zdf) (And.intro @IA @Oy)) (And.intro (And.intro @Bv @OA) @DZ))) (And.intro (And.intro (And.intro (And.intro @Oz @IB) (And.intro @IC @DY)) (And.intro (And.intro @ID @Ox) @D0)) (And.intro (And.intro (And.intro @HZ @N1) (And.intro @AE @N3)) (And.intro (And.intro @DF @N2) @H0))))) (And.intro (And.intro (And.intro (And.intro (And.intro (And.intro @D1 @Bx) (And.intro @lp @lq)) (And.intro (And.intro @Qx @UE) @abg.{0,0})) (And.intro (And.intro (And.intro @Option.bind_none.{0,0} @aaA.{0}) (And.intro @aaU.{0} @List.toList_toArray.{0})) (And.intro (And.intro @abt @Nat.add_zero) @aa3.{0}))) (And.intro (And.intro (And.intro (And.intro @abk.{0} @List.length_replicate.{0}) (And.intro @aau.{0,0} @List.length_set.{0})) (And.intro (And.intro @acq.{0} @List.all_nil.{0}) @List.set_cons_zero.{0})) (And.intro (And.intro (And.intro @List.set_cons_succ.{0} @abT.{0}) (And.intro @List.take_zero.{0} @List.take_succ_cons.{0})) (And.intro (And.intro @List.drop_succ_cons.{0} @List.take_nil.{0}) @List.drop_nil.{0})))) (And.intro (And.intro (And.intro (And.intro (And.intro @acp @abu) (And.intro @Nat.lt_irrefl @and_true)) (And.intro (And.intro @true_and @aaj) @zc3)) (And.intro (And.intro (And.intro @zc2 @Bz) (And.intro @OB @IS)) (And.intro (And.intro @ON @DW) @OM))) (And.intro (And.intro (And.intro (And.intro @KF @wt) (And.intro @pd @yq)) (And.intro (And.intro @YN @q9) @Oq)) (And.intro (And.intro (And.intro @TQ @not_false_eq_true) (And.intro @not_true_eq_false @Bool.not_true)) (And.intro (And.intro @ab7 @Bool.and_false) @Bool.false_and)))))) (And.intro (And.intro (And.intro (And.intro @NP @NQ) (And.intro @NZ @NV)) (And.intro (And.intro @NR @NS) (And.intro @NU @NT))) (And.intro @NY (And.intro @NW @NX)))) @if_true.{0}) @if_true.{1}) @if_false.{0}) @if_false.{1}) @cond_true.{0}) @cond_true.{1}) @cond_false.{0}) @cond_false.{1})
end Go.Ai
