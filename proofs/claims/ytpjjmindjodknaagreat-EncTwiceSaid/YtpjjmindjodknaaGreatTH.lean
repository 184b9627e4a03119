import Derived.Test.YtpjjmindjodknaaGreatTF
import Derived.KernelRfl
import Derived.Test.YtpjjmindjodknaaGreatChecked
set_option linter.unusedVariables false
set_option linter.unusedSimpArgs false
set_option maxRecDepth 100000
namespace Go.Ai
open Go.Proofs
noncomputable section
abbrev pu:=Tryz.prog
def zi(op:BinOp)(T:TypeId)(n:Nat)(v:aaa)(k:Int):Option aaa:=nb [v,(.int .i64 k)] (zT Tryz.prog op T (.tmp n) (.const (.int .i64 k)) v (.int .i64 k))
def wZ(op:BinOp)(T:TypeId)(n m:Nat)(v w:aaa):Option aaa:=nb [v,w] (zT Tryz.prog op T (.tmp n) (.tmp m) v w)
def wa(U:TypeId)(a w:aaa)(h:za):Option za:=nb [w] (vH Tryz.prog U a w h)
def qo(T:TypeId)(x:aaa)(h:za):Option (aaa×za):=nb [x] (zF Tryz.prog .len [T] 3 [x] h)
def zJ(T:TypeId)(v:aaa)(k:Nat)(U:TypeId)(h:za)(K:aaa->Prop):Prop:=opt (zk Tryz.prog T v k) λx=>opt (zd Tryz.prog U x h) K
def YZ(T:TypeId)(v:aaa)(k:Nat)(U:TypeId)(w:aaa)(h:za)(K:za->Prop):Prop:=opt (zk Tryz.prog T v k) λx=>opt (nb [w] (vH Tryz.prog U x w h)) K
def Z8(T:TypeId)(s i:aaa)(U:TypeId)(h:za)(K:aaa->Prop):Prop:=opt (vG Tryz.prog T s i) λx=>opt (zd Tryz.prog U x h) K
def zf(g:aaa)(b:Bool)(E:Option aaa)(h0:za)(J:aaa->za->Prop)(h:za):Prop:=GD g b (λk=>opt E λx=>k x h0) J h
def Qa(T:TypeId)(v:aaa)(k:Nat)(U:TypeId)(h:za)(K:aaa->Prop):Prop:=opt (Pt v) λx=>zJ T x k U h K
def WW(T:TypeId)(v:aaa)(k:Nat)(U:TypeId)(w:aaa)(h:za)(K:za->Prop):Prop:=opt (Pt v) λx=>YZ T x k U w h K
def qO(T:TypeId)(h:za)(K:aaa->za->Prop):Prop:=opt (kX Tryz.prog T) λz=>nw h (Value.cells z).toList T K
section
@[congr] theorem zbI {T U:TypeId} {v:aaa} {v':Unit->aaa} {k:Nat} {h:za} {K:aaa->Prop} (e:∀u:Unit,(v,u).1=v' u):zJ T v k U h K=zJ T (v' ()) k U h K:=by rw[<- e]
@[congr] theorem zbJ {T U:TypeId} {v w:aaa} {v':Unit->aaa} {k:Nat} {h:za} {K:za->Prop} (e:∀u:Unit,(v,u).1=v' u):YZ T v k U w h K=YZ T (v' ()) k U w h K:=by rw[<- e]
@[congr] theorem zbM {T U:TypeId} {v:aaa} {v':Unit->aaa} {k:Nat} {h:za} {K:aaa->Prop} (e:∀u:Unit,(v,u).1=v' u):Qa T v k U h K=Qa T (v' ()) k U h K:=by rw[<- e]
@[congr] theorem zbN {T U:TypeId} {v w:aaa} {v':Unit->aaa} {k:Nat} {h:za} {K:za->Prop} (e:∀u:Unit,(v,u).1=v' u):WW T v k U w h K=WW T (v' ()) k U w h K:=by rw[<- e]
@[congr] theorem zbL {T U:TypeId} {v i:aaa} {v':Unit->aaa} {h:za} {K:aaa->Prop} (e:∀u:Unit,(v,u).1=v' u):Z8 T v i U h K=Z8 T (v' ()) i U h K:=by rw[<- e]
@[congr] theorem zbK {g:aaa} {g':Unit->aaa} {b:Bool} {E:Option aaa} {h0 h:za} {J:aaa->za->Prop} (e:∀u:Unit,(g,u).1=g' u):zf g b E h0 J h=zf (g' ()) b E h0 J h:=by rw[<- e]
@[congr] theorem zbO {T:TypeId} {h:za} {h':Unit->za} {K:aaa->za->Prop} (e:∀u:Unit,(h,u).1=h' u):qO T h K=qO T (h' ()) K:=by rw[<- e]
theorem Ii(op:BinOp)(T:TypeId)(n:Nat)(v:aaa)(k:Int):zi op T n v k=nb [v,(.int .i64 k)] (zT Tryz.prog op T (.tmp n) (.const (.int .i64 k)) v (.int .i64 k)):=rfl
theorem Ij(op:BinOp)(T:TypeId)(n m:Nat)(v w:aaa):wZ op T n m v w=nb [v,w] (zT Tryz.prog op T (.tmp n) (.tmp m) v w):=rfl
theorem It(U:TypeId)(a w:aaa)(h:za):wa U a w h=nb [w] (vH Tryz.prog U a w h):=rfl
theorem Ip(T:TypeId)(x:aaa)(h:za):qo T x h=nb [x] (zF Tryz.prog .len [T] 3 [x] h):=rfl
theorem Ik(T:TypeId)(v:aaa)(k:Nat)(U:TypeId)(h:za)(K:aaa->Prop):zJ T v k U h K=opt (zk Tryz.prog T v k) λx=>opt (zd Tryz.prog U x h) K:=rfl
theorem Il(T:TypeId)(v:aaa)(k:Nat)(U:TypeId)(w:aaa)(h:za)(K:za->Prop):YZ T v k U w h K=opt (zk Tryz.prog T v k) λx=>opt (nb [w] (vH Tryz.prog U x w h)) K:=rfl
theorem Iq(T:TypeId)(v:aaa)(k:Nat)(U:TypeId)(h:za)(K:aaa->Prop):Qa T v k U h K=opt (Pt v) λx=>zJ T x k U h K:=rfl
theorem Ir(T:TypeId)(v:aaa)(k:Nat)(U:TypeId)(w:aaa)(h:za)(K:za->Prop):WW T v k U w h K=opt (Pt v) λx=>YZ T x k U w h K:=rfl
theorem Io(T:TypeId)(s i:aaa)(U:TypeId)(h:za)(K:aaa->Prop):Z8 T s i U h K=opt (vG Tryz.prog T s i) λx=>opt (zd Tryz.prog U x h) K:=rfl
theorem Im(g:aaa)(b:Bool)(E:Option aaa)(h0:za)(J:aaa->za->Prop)(h:za):zf g b E h0 J h=GD g b (λk=>opt E λx=>k x h0) J h:=rfl
theorem Is(T:TypeId)(h:za)(K:aaa->za->Prop):qO T h K=opt (kX Tryz.prog T) λz=>nw h (Value.cells z).toList T K:=rfl
end
section
variable {Q:Program}{g:FuncId}{args:List aaa}{h:za}{v:aaa}
theorem VM{K:aaa->za->Prop}(hq:vw Q g args h v)(hk:K v h)(hc:xW Q g=true:=by kernel_rfl)(hn:yk args=true:=by exact rfl):zL Q (.func (.func g) #[] #[]) args h K:=Ig hc hn hq hk
theorem gZ{K:aaa->za->Prop}(hn:yk args=true)(hq:vw Q g args h v)(hk:K v h)(hc:xW Q g=true:=by kernel_rfl):zL Q (.func (.func g) #[] #[]) args h K:=Ig hc hn hq hk
theorem cqq{K:aaa->Prop}(hq:vw Q g args h v)(hk:K v)(hc:xW Q g=true:=by kernel_rfl)(hn:yk args=true:=by exact rfl):U8 Q g args h K:=RU hc hn hq hk
theorem KI{K R:aaa->za->Prop}(hT:DC Q g args h R)(hk:∀v h1,R v h1->K v h1)(hc:xW Q g=true:=by kernel_rfl)(hn:yk args=true:=by exact rfl):zL Q (.func (.func g) #[] #[]) args h K:=oW hc hn hT hk
theorem sE{K R:aaa->za->Prop}(hn:yk args=true)(hT:DC Q g args h R)(hk:∀v h1,R v h1->K v h1)(hc:xW Q g=true:=by kernel_rfl):zL Q (.func (.func g) #[] #[]) args h K:=oW hc hn hT hk
theorem cdo{K R:aaa->za->Prop}(hT:DC Q g args h R)(hk:∀v h1,R v h1->K v h1)(hc:xW Q g=true:=by kernel_rfl)(hn:yk args=true:=by exact rfl):bB Q g args h K:=El hc hn hT hk
theorem zdh{K R:aaa->za->Prop}(hn:yk args=true)(hT:DC Q g args h R)(hk:∀v h1,R v h1->K v h1)(hc:xW Q g=true:=by kernel_rfl):bB Q g args h K:=El hc hn hT hk
end
end
theorem EE:type_of% (And.intro (And.intro (And.intro (And.intro (And.intro (And.intro (And.intro (And.intro (And.intro (And.intro (And.intro (And.intro (And.intro (And.intro (And.intro (And.intro @Oi @Oj) (And.intro @Fm @AX)) (And.intro (And.intro @Zl @Ka) @Hr)) (And.intro (And.intro (And.intro @CH @Tv) (And.intro @Ts @Tu)) (And.intro (And.intro @Tt @Tw) @I6))) (And.intro (And.intro (And.intro (And.intro @Fo @IT) (And.intro @PZ @P0)) (And.intro (And.intro @TU @TT) @TS)) (And.intro (And.intro (And.intro @TR @TQ) (And.intro @TW @TN)) (And.intro (And.intro @T3 @TV) @TX)))) (And.intro (And.intro (And.intro (And.intro (And.intro @TZ @T0) (And.intro @T2 @TP)) (And.intro (And.intro @zca @T4) @Eh)) (And.intro (And.intro (And.intro @zaj @zai) (And.intro @Fa @IW)) (And.intro (And.intro @rf @IZ) @AS))) (And.intro (And.intro (And.intro (And.intro @IY @Fb) (And.intro @Fc @AR)) (And.intro (And.intro @Fe @IV) @AT)) (And.intro (And.intro (And.intro @Ev @Iv) (And.intro @pc @Ix)) (And.intro (And.intro @Av @Iw) @Ew))))) (And.intro (And.intro (And.intro (And.intro (And.intro (And.intro @AU @rj) (And.intro @Fi @Fj)) (And.intro (And.intro @Ja @cK) @acg.{0,0})) (And.intro (And.intro (And.intro @Option.bind_none.{0,0} @aaC.{0}) (And.intro @aaR.{0} @List.toList_toArray.{0})) (And.intro (And.intro @abf @Nat.add_zero) @abc.{0}))) (And.intro (And.intro (And.intro (And.intro @abH.{0} @List.length_replicate.{0}) (And.intro @aaq.{0,0} @List.length_set.{0})) (And.intro (And.intro @acd.{0} @List.all_nil.{0}) @List.set_cons_zero.{0})) (And.intro (And.intro (And.intro @List.set_cons_succ.{0} @abG.{0}) (And.intro @acu.{0} @ab0.{0})) (And.intro (And.intro @ace.{0} @List.take_nil.{0}) @List.drop_nil.{0})))) (And.intro (And.intro (And.intro (And.intro (And.intro @acz @abr) (And.intro @Nat.lt_irrefl @acB)) (And.intro (And.intro @true_and @aaj) @T9)) (And.intro (And.intro (And.intro @T8 @Fg) (And.intro @I3 @Fv)) (And.intro (And.intro @Lf @AP) @Ld))) (And.intro (And.intro (And.intro (And.intro @Qg @wQ) (And.intro @lp @yR)) (And.intro (And.intro @Z3 @qL) @IN)) (And.intro (And.intro (And.intro @Pk @not_false_eq_true) (And.intro @not_true_eq_false @Bool.not_true)) (And.intro (And.intro @acj @Bool.and_false) @Bool.false_and)))))) (And.intro (And.intro (And.intro (And.intro @Ii @Ij) (And.intro @It @Ip)) (And.intro (And.intro @Ik @Il) (And.intro @Io @Im))) (And.intro @Is (And.intro @Iq @Ir)))) @if_true.{0}) @if_true.{1}) @if_false.{0}) @if_false.{1}) @cond_true.{0}) @cond_true.{1}) @cond_false.{0}) @cond_false.{1}):=(And.intro (And.intro (And.intro (And.intro (And.intro (And.intro (And.intro (And.intro (And.intro (And.intro (And.intro (And.intro (And.intro (And.intro (And.intro (And.intro @Oi @Oj) (And.intro @Fm @AX)) (And.intro (And.intro @Zl @Ka) @Hr)) (And.intro (And.intro (And.intro @CH @Tv) (And.intro @Ts @Tu)) (And.intro (And.intro @Tt @Tw) @I6))) (And.intro (And.intro (And.intro (And.intro @Fo @IT) (And.intro @PZ @P0)) (And.intro (And.intro @TU @TT) @TS)) (And.intro (And.intro (And.intro @TR @TQ) (And.intro @TW @TN)) (And.intro (And.intro @T3 @TV) @TX)))) (And.intro (And.intro (And.intro (And.intro (And.intro @TZ @T0) (And.intro @T2 @TP)) (And.intro (And.intro @zca @T4) @Eh)) (And.intro (And.intro (And.intro @zaj @zai) (And.intro @Fa @IW)) (And.intro (And.intro @rf @IZ) @AS))) (And.intro (And.intro (And.intro (And.intro @IY @Fb) (And.intro @Fc @AR)) (And.intro (And.intro @Fe @IV) @AT)) (And.intro (And.intro (And.intro @Ev @Iv) (And.intro @pc @Ix)) (And.intro (And.intro @Av @Iw) @Ew))))) (And.intro (And.intro (And.intro (And.intro (And.intro (And.intro @AU @rj) (And.intro @Fi @Fj)) (And.intro (And.intro @Ja @cK) @acg.{0,0})) (And.intro (And.intro (And.intro @Option.bind_none.{0,0} @aaC.{0}) (And.intro @aaR.{0} @List.toList_toArray.{0})) (And.intro (And.intro @abf @Nat.add_zero) @abc.{0}))) (And.intro (And.intro (And.intro (And.intro @abH.{0} @List.length_replicate.{0}) (And.intro @aaq.{0,0} @List.length_set.{0})) (And.intro (And.intro @acd.{0} @List.all_nil.{0}) @List.set_cons_zero.{0})) (And.intro (And.intro (And.intro @List.set_cons_succ.{0} @abG.{0}) (And.intro @acu.{0} @ab0.{0})) (And.intro (And.intro @ace.{0} @List.take_nil.{0}) @List.drop_nil.{0})))) (And.intro (And.intro (And.intro (And.intro (And.intro @acz @abr) (And.intro @Nat.lt_irrefl @acB)) (And.intro (And.intro @true_and @aaj) @T9)) (And.intro (And.intro (And.intro @T8 @Fg) (And.intro @I3 @Fv)) (And.intro (And.intro @Lf @AP) @Ld))) (And.intro (And.intro (And.intro (And.intro @Qg @wQ) (And.intro @lp @yR)) (And.intro (And.intro @Z3 @qL) @IN)) (And.intro (And.intro (And.intro @Pk @not_false_eq_true) (And.intro @not_true_eq_false @Bool.not_true)) (And.intro (And.intro @acj @Bool.and_false) @Bool.false_and)))))) (And.intro (And.intro (And.intro (And.intro @Ii @Ij) (And.intro @It @Ip)) (And.intro (And.intro @Ik @Il) (And.intro @Io @Im))) (And.intro @Is (And.intro @Iq @Ir)))) @if_true.{0}) @if_true.{1}) @if_false.{0}) @if_false.{1}) @cond_true.{0}) @cond_true.{1}) @cond_false.{0}) @cond_false.{1})
end Go.Ai
