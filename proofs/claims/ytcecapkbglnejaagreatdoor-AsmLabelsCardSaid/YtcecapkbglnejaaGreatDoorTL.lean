/- A part of the proof. -/
import Derived.Test.YtcecapkbglnejaaGreatDoorChecked
import Derived.KernelRfl
import Derived.Test.YtcecapkbglnejaaGreatDoorTH
import Derived.Test.YtcecapkbglnejaaGreatDoorTI
set_option linter.unusedVariables false
set_option linter.unusedSimpArgs false
set_option maxRecDepth 100000
namespace Go.As
open Go.Ai Go.Proofs
def qs:FuncId->Nat:=λg=>[0,0,0,0,0,0,0,0,0,0,0,0,0,0,0,0,0,0,0,0,0,0,0,0,0,0,0,0,0,0,0,0,0,0,0,0,0,0,0,0,0,0,0,0,0,0,0,0,0,0,0,0,0,0,0,0,0,0,0,0,3,3,0,0,2,0,0,0,0,0,0,0,0,0,0,0,0,0,0,0,0,0,0,0,0,0,0,2,0,2,0,2,0,0,0,0,0,0,0,0,0,0,0,0,0,0,0,0,3,2].getD g 0
theorem mixed:Tryz.prog.follows .mixedOrders=true:=ab6 Tryz.checked
def J6:=λc (R:Value->za->Prop) d (e:List Value->za->Prop) f (a:za)=>
 opt (pk c (.bool true) f) λg=>CD g (λb=>rv [.bool false] a R)
 (λb=>b [nth d 0] a)
 (λh i=>e [nth h 0] i)
def J7:=λa (R:Value->za->Prop) d (e:List Value->za->Prop) b (c:za)=>
 GD a false (λf=>opt (nb [b,.int .i64 65536] (ze Tryz.prog .gtr 3 (.tmp 50) (.const (.int .i64 65536)) b (.int .i64 65536))) λg=>f g c) (J6 a R d e) c
def J8:=λe c (a:za) (R:Value->za->Prop) (f:List Value->za->Prop)=>
 opt (zA Tryz.prog 22 e (nth c 1)) λg=>opt (zd Tryz.prog 3 g a) λb=>opt (nb [b,.int .i64 0] (ze Tryz.prog .lss 3 (.tmp 47) (.const (.int .i64 0)) b (.int .i64 0))) λd=>GD d false (λh=>h b a) (J7 d R c f) a
def tw:=λa (b:List Value->za->Prop) c (d:za)=>
 opt (nb [nth a 1,.int .i64 1] (ze Tryz.prog .add 3 (.tmp 43) (.const (.int .i64 1)) (nth a 1) (.int .i64 1))) λe=>b [nth c 0,e] d
def tA:=λb (e:List Value->za->Prop) f (R:Value->za->Prop) a (c:za) (g:List Value->za->Prop)=>
 opt (nb [nth a 1,b] (ze Tryz.prog .lss 3 (.tmp 43) (.tmp 42) (nth a 1) b)) λh=>CD h (λd=>d [] c)
 (λd=>e [nth a 0] c)
 (λj i=>BK (J8 f a i R)
 (tw a g))
def gj:=λ(R:Value->za->Prop) c (d:List Value->za->Prop) e (a:za)=>
 opt (dH Tryz.prog .not e) λf=>CD f (λb=>rv [.bool false] a R)
 (λb=>b [nth c 0] a)
 (λg h=>d [nth g 0] h)
def tB:=λf b (c:za) g (R:Value->za->Prop) (h:List Value->za->Prop)=>
 opt (zA Tryz.prog 23 f (nth b 1)) λi=>opt (zd Tryz.prog 47 i c) λd=>opt (wD Tryz.prog 47) λj=>nw c (Value.cells j).toList 47 λe k=>opt (nb [d] (zn Tryz.prog 47 e d k)) λa=>opt (zd Tryz.prog 25 g a) λl=>opt (zd Tryz.prog 47 e a) λm=>zR Tryz.prog (.func (.func 31) #[] #[]) [l,m] a (gj R b h)
def tC:=λa (b:List Value->za->Prop) c (d:za)=>
 opt (nb [nth a 1,.int .i64 1] (ze Tryz.prog .add 3 (.tmp 57) (.const (.int .i64 1)) (nth a 1) (.int .i64 1))) λe=>b [nth c 0,e] d
def tD:=λb (e:List Value->za->Prop) f g (R:Value->za->Prop) a (c:za) (h:List Value->za->Prop)=>
 opt (nb [nth a 1,b] (ze Tryz.prog .lss 3 (.tmp 57) (.tmp 56) (nth a 1) b)) λi=>CD i (λd=>d [] c)
 (λd=>e [nth a 0] c)
 (λk j=>BK (tB f a j g R)
 (tC a h))
def cH:=λb (R:Value->za->Prop) d (c:za)=>
 opt (zb Tryz.prog 25 b 1) λe=>opt (zd Tryz.prog 23 e c) λa=>xK (nb [a] (zk Tryz.prog .len [23] 3 [a] c)) λf g=>BK (λh=>LP (tD f h a b R)
 [nth d 0,.int .i64 0] g)
 (λj i=>rv [.bool true] i R)
def cI:=λb (R:Value->za->Prop) d (c:za)=>
 opt (zb Tryz.prog 25 b 0) λe=>opt (zd Tryz.prog 22 e c) λa=>xK (nb [a] (zk Tryz.prog .len [22] 3 [a] c)) λf g=>BK (λh=>LP (tA f h a R)
 [nth d 0,.int .i64 0] g)
 (cH b R)
def YA:=λb (R:Value->za->Prop) g c (d:za)=>
 GD b false (λh=>opt (nb [c,.int .i64 6] (ze Tryz.prog .gtr 3 (.tmp 37) (.const (.int .i64 6)) c (.int .i64 6))) λa=>h a d) (λa e=>opt (pk b (.bool true) a) λi=>CD i (λf=>rv [.bool false] e R)
 (λf=>f [.bool false] e)
 (cI g R)) d
def YB:=λf d (R:Value->za->Prop) g (e:za)=>
 opt (pk f (.bool true) g) λa=>GD a false (λh=>opt (zb Tryz.prog 25 d 3) λb=>h b e) (λb c=>GD a false (λi=>opt (zd Tryz.prog 3 b c) λj=>i j c) (YA a R d) c) e
def YC:=λa d (R:Value->za->Prop) b (c:za)=>
 GD a false (λe=>opt (nb [b,.int .i64 0] (ze Tryz.prog .lss 3 (.tmp 32) (.const (.int .i64 0)) b (.int .i64 0))) λf=>e f c) (YB a d R) c
def YD:=λf d (R:Value->za->Prop) g (e:za)=>
 opt (pk f (.bool true) g) λa=>GD a false (λh=>opt (zb Tryz.prog 25 d 3) λb=>h b e) (λb c=>GD a false (λi=>opt (zd Tryz.prog 3 b c) λj=>i j c) (YC a d R) c) e
def YE:=λa d (R:Value->za->Prop) b (c:za)=>
 GD a false (λe=>opt (nb [b,.int .i64 200] (ze Tryz.prog .gtr 3 (.tmp 27) (.const (.int .i64 200)) b (.int .i64 200))) λf=>e f c) (YD a d R) c
def YF:=λb e (R:Value->za->Prop) f (c:za)=>
 GD b false (λg=>opt (zd Tryz.prog 22 f c) λa=>g a c) (λa d=>GD b false (λh=>xK (nb [a] (zk Tryz.prog .len [22] 3 [a] d)) λi j=>h i j) (YE b e R) d) c
def YG:=λb c (R:Value->za->Prop) d (e:za)=>
 GD b false (λh=>opt (nb [d,.int .i64 100] (ze Tryz.prog .gtr 3 (.tmp 21) (.const (.int .i64 100)) d (.int .i64 100))) λa=>h a e) (λa f=>opt (pk b (.bool true) a) λg=>GD g false (λi=>opt (zb Tryz.prog 25 c 0) λj=>i j f) (YF g c R) f) e
def YH:=λb e (R:Value->za->Prop) f (c:za)=>
 GD b false (λg=>opt (zd Tryz.prog 23 f c) λa=>g a c) (λa d=>GD b false (λh=>xK (nb [a] (zk Tryz.prog .len [23] 3 [a] d)) λi j=>h i j) (YG b e R) d) c
def YI:=λb c d (R:Value->za->Prop) e (f:za)=>
 GD b false (λi=>opt (nb [c,e] (ze Tryz.prog .geq 3 (.tmp 12) (.tmp 15) c e)) λa=>i a f) (λa g=>opt (pk b (.bool true) a) λh=>GD h false (λj=>opt (zb Tryz.prog 25 d 1) λk=>j k g) (YH h d R) g) f
def YJ:=λb e f (R:Value->za->Prop) g (c:za)=>
 GD b false (λh=>opt (zd Tryz.prog 23 g c) λa=>h a c) (λa d=>GD b false (λi=>xK (nb [a] (zk Tryz.prog .len [23] 3 [a] d)) λj k=>i j k) (YI b e f R) d) c
def YK:=λa d (R:Value->za->Prop) f (b:za)=>
 GD a false (λg=>opt (zd Tryz.prog 3 f b) λc=>g c b) (λc e=>GD a false (λh=>opt (zb Tryz.prog 25 d 1) λi=>h i e) (YJ a c d R) e) b
def Cc:=λ(h:za) c (R:Value->za->Prop)=>
 opt (nb [c] (some (Value.cells c).toList)) λf=>nw h f 25 λa b=>opt (zb Tryz.prog 25 a 2) λg=>opt (zd Tryz.prog 3 g b) λd=>opt (nb [d,.int .i64 0] (ze Tryz.prog .lss 3 (.tmp 8) (.const (.int .i64 0)) d (.int .i64 0))) λe=>GD e false (λi=>opt (zb Tryz.prog 25 a 2) λj=>i j b) (YK e a R) b
theorem Fu(h:za)(t0:Value)(R:Value->za->Prop):Vz Tryz.prog (uI Tryz.prog qs) 200 17 [t0] h R=Cc h t0 R:=by kernel_rfl
theorem Fv{h:za}{t0:Value}{R:Value->za->Prop}(hw:Cc h t0 R):DC Tryz.prog 17 [t0] h R:=yT mixed (n:=200) (by rw[Fu];exact hw)
def aC:=λd (a:za) (e:List Value->za->Prop) f g (b:za)=>
 opt (zb Tryz.prog 50 d 5) λh=>opt (zd Tryz.prog 3 h b) λc=>opt (nb [(vS a).1,c,.bool true] (jj Tryz.prog 122 (vS a).1 c (.bool true) b)) λi=>e [nth g 0,nth f 0] i
def aD:=λc (b:za) (R:Value->za->Prop) f (g:List Value->za->Prop) h (a:za)=>
 opt (zb Tryz.prog 50 c 5) λi=>opt (zd Tryz.prog 3 i a) λd=>opt (nb [(vS b).1,d] (Ym Tryz.prog 122 (vS b).1 d false a)) λj=>CD j (λe=>rv [.bool false] a R)
 (λe=>e [nth f 0] a)
 (aC c b g h)
def aE:=λb (c:List Value->za->Prop) g (h:za) (R:Value->za->Prop) d (a:za)=>
 opt (zb Tryz.prog 50 b 0) λi=>opt (zd Tryz.prog 3 i a) λe=>opt (nb [e,.int .i64 20] (ze Tryz.prog .neq 3 (.tmp 29) (.const (.int .i64 20)) e (.int .i64 20))) λj=>CD j (λf=>c [nth d 0,.bool true] a)
 (λf=>f [nth g 1] a)
 (aD b h R d c)
def aF:=λh a (d:za) i (R:Value->za->Prop) (j:za) (k:List Value->za->Prop)=>
 opt (zA Tryz.prog 45 h (nth a 2)) λl=>opt (zd Tryz.prog 50 l d) λe=>opt (wD Tryz.prog 50) λm=>nw d (Value.cells m).toList 50 λb n=>opt (nb [e] (zn Tryz.prog 50 b e n)) λc=>opt (zd Tryz.prog 50 b c) λo=>opt (zb Tryz.prog 25 i 0) λp=>opt (zd Tryz.prog 22 p c) λq=>zR Tryz.prog (.func (.func 56) #[] #[]) [o,q] c (λr f=>opt (dH Tryz.prog .not r) λs=>CD s (λg=>rv [.bool false] f R)
 (λg=>g [nth a 0] f)
 (aE b k a j R))
def UU:=λa (c:List Value->za->Prop) b (d:za)=>
 opt (nb [nth a 2,.int .i64 1] (ze Tryz.prog .add 3 (.tmp 19) (.const (.int .i64 1)) (nth a 2) (.int .i64 1))) λe=>c [nth b 0,nth b 1,e] d
def aG:=λb (e:List Value->za->Prop) f g (R:Value->za->Prop) (h:za) a (c:za) (i:List Value->za->Prop)=>
 opt (nb [nth a 2,b] (ze Tryz.prog .lss 3 (.tmp 19) (.tmp 18) (nth a 2) b)) λj=>CD j (λd=>d [] c)
 (λd=>e [nth a 0,nth a 1] c)
 (λl k=>BK (aF f a k g R h)
 (UU a i))
def jY:=λc (R:Value->za->Prop) d (e:List Value->za->Prop) f (a:za)=>
 opt (pk c f (.bool false)) λg=>CD g (λb=>rv [.bool false] a R)
 (λb=>b [nth d 0] a)
 (λh i=>e [nth h 0] i)
def jZ:=λb c d (R:Value->za->Prop) h (i:List Value->za->Prop) e (f:za)=>
 GD b false (λj=>opt (nb [c,e] (ze Tryz.prog .geq 3 (.tmp 72) (.tmp 75) c e)) λa=>j a f) (λa g=>GD d true (λk=>opt (pk b (.bool true) a) λl=>k l g) (jY d R h i) g) f
def j0:=λb e f (R:Value->za->Prop) g (h:List Value->za->Prop) i (c:za)=>
 GD b false (λj=>opt (zd Tryz.prog 23 i c) λa=>j a c) (λa d=>GD b false (λk=>xK (nb [a] (zk Tryz.prog .len [23] 3 [a] d)) λl m=>k l m) (jZ b e f R g h) d) c
def kS:=λa e f (R:Value->za->Prop) g (h:List Value->za->Prop) i (b:za)=>
 GD a false (λj=>opt (zd Tryz.prog 3 i b) λc=>j c b) (λc d=>GD a false (λk=>opt (zb Tryz.prog 25 e 1) λl=>k l d) (j0 a c f R g h) d) b
def kU:=λa e f (R:Value->za->Prop) g (h:List Value->za->Prop) i (b:za)=>
 GD a true (λj=>j i b) (λc d=>GD c false (λk=>opt (zb Tryz.prog 50 e 3) λl=>k l d) (kS c f a R g h) d) b
def kV:=λa d e (R:Value->za->Prop) f (g:List Value->za->Prop) b (c:za)=>
 GD a true (λh=>opt (nb [b,.int .i64 0] (ze Tryz.prog .lss 3 (.tmp 68) (.const (.int .i64 0)) b (.int .i64 0))) λi=>h i c) (kU a d e R f g) c
def kW:=λa (b:za) g (R:Value->za->Prop) h (i:List Value->za->Prop)=>
 opt (zb Tryz.prog 50 a 0) λj=>opt (zd Tryz.prog 3 j b) λf=>opt (nb [f,.int .i64 21] (ze Tryz.prog .eql 3 (.tmp 64) (.const (.int .i64 21)) f (.int .i64 21))) λc=>GD c true (λk=>opt (zb Tryz.prog 50 a 3) λd=>k d b) (λd e=>GD c true (λl=>opt (zd Tryz.prog 3 d e) λm=>l m e) (kV c a g R h i) e) b
def kX:=λb (R:Value->za->Prop) c d e (f:List Value->za->Prop) g (a:za)=>
 opt (pk b g (.bool false)) λh=>CD h (λk=>rv [.bool false] a R)
 (kW c a d R e)
 (λi j=>f [nth i 0] j)
def kY:=λa d (R:Value->za->Prop) g h i (j:List Value->za->Prop) e (b:za)=>
 GD a true (λk=>opt (nb [d,e] (Ym Tryz.prog 122 d e false b)) λc=>k c b) (λc f=>GD a true (λl=>opt (dH Tryz.prog .not c) λm=>l m f) (kX a R g h i j) f) b
def kZ:=λa d (R:Value->za->Prop) f g (h:List Value->za->Prop) i (e:za)=>
 GD a true (λj=>opt (zb Tryz.prog 50 d 5) λb=>j b e) (λb c=>GD a true (λk=>opt (zd Tryz.prog 3 b c) λl=>k l c) (kY a i R d f g h) c) e
def k7:=λb (g:za) h (R:Value->za->Prop) i j (k:List Value->za->Prop) c (d:za)=>
 GD b false (λl=>opt (nb [c,.int .i64 19] (ze Tryz.prog .eql 3 (.tmp 52) (.const (.int .i64 19)) c (.int .i64 19))) λa=>l a d) (λa e=>opt (pk b (.bool true) a) λf=>GD f true (λm=>m (vS g).1 e) (kZ f h R i j k) e) d
def k8:=λa (b g:za) (R:Value->za->Prop) h i (j:List Value->za->Prop)=>
 opt (zb Tryz.prog 50 a 0) λk=>opt (zd Tryz.prog 3 k b) λf=>opt (nb [f,.int .i64 18] (ze Tryz.prog .eql 3 (.tmp 48) (.const (.int .i64 18)) f (.int .i64 18))) λc=>GD c false (λl=>opt (zb Tryz.prog 50 a 0) λd=>l d b) (λd e=>GD c false (λm=>opt (zd Tryz.prog 3 d e) λn=>m n e) (k7 c g a R h i j) e) b
def K5:=λe a (b f:za) (R:Value->za->Prop) g (h:List Value->za->Prop)=>
 opt (zA Tryz.prog 45 e (nth a 1)) λi=>opt (zd Tryz.prog 50 i b) λc=>opt (wD Tryz.prog 50) λj=>nw b (Value.cells j).toList 50 λd k=>opt (nb [c] (zn Tryz.prog 50 d c k)) λl=>BK (k8 d l f R g a)
 (λm n=>h [nth m 0] n)
def Yi:=λa (b:List Value->za->Prop) c (d:za)=>
 opt (nb [nth a 1,.int .i64 1] (ze Tryz.prog .add 3 (.tmp 42) (.const (.int .i64 1)) (nth a 1) (.int .i64 1))) λe=>b [nth c 0,e] d
def K6:=λb (e:List Value->za->Prop) f (g:za) (R:Value->za->Prop) h a (c:za) (i:List Value->za->Prop)=>
 opt (nb [nth a 1,b] (ze Tryz.prog .lss 3 (.tmp 42) (.tmp 41) (nth a 1) b)) λj=>CD j (λd=>d [] c)
 (λd=>e [nth a 0] c)
 (λl k=>BK (K5 f a k g R h)
 (Yi a i))
def K7:=λd (e:za) (R:Value->za->Prop) f b (c:za)=>
 opt (zb Tryz.prog 47 d 1) λg=>opt (zd Tryz.prog 45 g c) λa=>xK (nb [a] (zk Tryz.prog .len [45] 3 [a] c)) λh i=>BK (λj=>LP (K6 h j a e R f)
 [nth b 0,.int .i64 0] i)
 (λl k=>rv [nth b 1] k R)
def K8:=λc d (R:Value->za->Prop) e (a:za)=>
 opt (zb Tryz.prog 47 c 1) λf=>opt (zd Tryz.prog 45 f (vS a).2) λb=>xK (nb [b] (zk Tryz.prog .len [45] 3 [b] (vS a).2)) λg h=>BK (λi=>LP (aG g i b d R a)
 [nth e 0,.bool false,.int .i64 0] h)
 (K7 c a R d)
def JD:=λ(h:za) a b (R:Value->za->Prop)=>
 opt (nb [a] (some (Value.cells a).toList)) λj=>nw h j 25 λk l=>opt (nb [b] (some (Value.cells b).toList)) λm=>nw l m 47 λc d=>opt (zb Tryz.prog 47 c 1) λn=>opt (zd Tryz.prog 45 n d) λe=>xK (nb [e] (zk Tryz.prog .len [45] 3 [e] d)) λf g=>opt (nb [f,.int .i64 100000] (ze Tryz.prog .gtr 3 (.tmp 13) (.const (.int .i64 100000)) f (.int .i64 100000))) λo=>CD o (λi=>rv [.bool false] g R)
 (λi=>i [.bool false] g)
 (K8 c k R)
theorem mE(h:za)(t0 t1:Value)(R:Value->za->Prop):Vz Tryz.prog (uI Tryz.prog qs) 200 31 [t0,t1] h R=JD h t0 t1 R:=by kernel_rfl
theorem mF{h:za}{t0 t1:Value}{R:Value->za->Prop}(hw:JD h t0 t1 R):DC Tryz.prog 31 [t0,t1] h R:=yT mixed (n:=200) (by rw[mE];exact hw)
def kA:=λb (R:Value->za->Prop) d (c:za)=>
 GD b true (λe=>zR Tryz.prog (.func (.func 75) #[] #[]) [d] c (λa f=>e a f)) (λa g=>opt (pk b a (.bool false)) λh=>rv [h] g R) c
def kD:=λe f (R:Value->za->Prop) g (d:za)=>
 opt (pk e (.bool true) g) λa=>GD a true (λh=>opt (zb Tryz.prog 50 f 6) λb=>h b d) (λb c=>GD a true (λi=>opt (zd Tryz.prog 2 b c) λj=>i j c) (kA a R) c) d
def kI:=λa d (R:Value->za->Prop) b (c:za)=>
 GD a false (λe=>opt (nb [b,.int .i64 8] (ze Tryz.prog .eql 3 (.tmp 33) (.const (.int .i64 8)) b (.int .i64 8))) λf=>e f c) (kD a d R) c
def kK:=λf d (R:Value->za->Prop) g (e:za)=>
 opt (pk f (.bool true) g) λa=>GD a false (λh=>opt (zb Tryz.prog 50 d 3) λb=>h b e) (λb c=>GD a false (λi=>opt (zd Tryz.prog 3 b c) λj=>i j c) (kI a d R) c) e
def kL:=λa d (R:Value->za->Prop) b (c:za)=>
 GD a false (λe=>opt (nb [b,.int .i64 4] (ze Tryz.prog .eql 3 (.tmp 28) (.const (.int .i64 4)) b (.int .i64 4))) λf=>e f c) (kK a d R) c
def Yw:=λb c (R:Value->za->Prop) d (e:za)=>
 GD b true (λf=>opt (nb [c,d] (ze Tryz.prog .leq 2 (.tmp 66) (.tmp 71) c d)) λa=>f a e) (λa g=>opt (pk b a (.bool false)) λh=>rv [h] g R) e
def Yx:=λa e f (R:Value->za->Prop) g (d:za)=>
 GD a true (λh=>opt (zA Tryz.prog 22 e g) λb=>h b d) (λb c=>GD a true (λi=>opt (zd Tryz.prog 3 b c) λj=>i j c) (Yw a f R) c) d
def Yy:=λa e f (R:Value->za->Prop) g (d:za)=>
 GD a true (λh=>opt (zb Tryz.prog 50 e 3) λb=>h b d) (λb c=>GD a true (λi=>opt (zd Tryz.prog 3 b c) λj=>i j c) (Yx a g f R) c) d
def Yz:=λa e f (R:Value->za->Prop) g (b:za)=>
 GD a true (λh=>opt (zd Tryz.prog 2 g b) λc=>h c b) (λc d=>GD a true (λi=>i e d) (Yy a f c R) d) b
def ZP:=λb c h (R:Value->za->Prop) d (e:za)=>
 GD b true (λi=>opt (nb [d,.int .i64 0] (ze Tryz.prog .geq 2 (.tmp 61) (.const (.int .i64 0)) d (.int .i64 0))) λa=>i a e) (λa f=>opt (pk b a (.bool false)) λg=>GD g true (λj=>opt (zb Tryz.prog 50 c 6) λk=>j k f) (Yz g h c R) f) e
def ZQ:=λf d g (R:Value->za->Prop) h (e:za)=>
 opt (pk f h (.bool false)) λa=>GD a true (λi=>opt (zb Tryz.prog 50 d 6) λb=>i b e) (λb c=>GD a true (λj=>opt (zd Tryz.prog 2 b c) λk=>j k c) (ZP a d g R) c) e
def ZR:=λb d g h (R:Value->za->Prop) e (c:za)=>
 GD b true (λi=>xK (nb [e] (zk Tryz.prog .len [22] 3 [e] c)) λa _=>i a c) (λa f=>GD b true (λj=>opt (nb [d,a] (ze Tryz.prog .lss 3 (.tmp 54) (.tmp 56) d a)) λk=>j k f) (ZQ b g h R) f) c
def ZS:=λa d f (R:Value->za->Prop) g (b:za)=>
 GD a true (λh=>opt (zd Tryz.prog 3 g b) λc=>h c b) (λc e=>GD a true (λi=>i d e) (ZR a c f d R) e) b
def UI:=λb (R:Value->za->Prop) d (c:za)=>
 GD b true (λe=>zR Tryz.prog (.func (.func 75) #[] #[]) [d] c (λa f=>e a f)) (λa g=>opt (pk b a (.bool false)) λh=>rv [h] g R) c
def UJ:=λe (R:Value->za->Prop) a (d:za)=>
 GD a true (λf=>opt (zb Tryz.prog 50 e 6) λb=>f b d) (λb c=>GD a true (λg=>opt (zd Tryz.prog 2 b c) λh=>g h c) (UI a R) c) d
def Wz:=λb (R:Value->za->Prop) c (d:za)=>
 GD b false (λe=>opt (nb [c,.int .i64 2] (ze Tryz.prog .eql 3 (.tmp 96) (.const (.int .i64 2)) c (.int .i64 2))) λa=>e a d) (λa f=>opt (pk b (.bool true) a) λg=>rv [g] f R) d
def WA:=λb (R:Value->za->Prop) c (d:za)=>
 GD b false (λe=>opt (nb [c,.int .i64 4] (ze Tryz.prog .eql 3 (.tmp 106) (.const (.int .i64 4)) c (.int .i64 4))) λa=>e a d) (λa f=>opt (pk b (.bool true) a) λg=>rv [g] f R) d
def kB:=λb (R:Value->za->Prop) c (d:za)=>
 GD b true (λe=>opt (nb [c,.int .i64 63] (ze Tryz.prog .leq 2 (.tmp 126) (.const (.int .i64 63)) c (.int .i64 63))) λa=>e a d) (λa f=>opt (pk b a (.bool false)) λg=>rv [g] f R) d
def kC:=λe f (R:Value->za->Prop) g (d:za)=>
 opt (pk e g (.bool false)) λa=>GD a true (λh=>opt (zb Tryz.prog 50 f 6) λb=>h b d) (λb c=>GD a true (λi=>opt (zd Tryz.prog 2 b c) λj=>i j c) (kB a R) c) d
def kE:=λa d (R:Value->za->Prop) b (c:za)=>
 GD a true (λe=>opt (nb [b,.int .i64 0] (ze Tryz.prog .geq 2 (.tmp 121) (.const (.int .i64 0)) b (.int .i64 0))) λf=>e f c) (kC a d R) c
def kF:=λf d (R:Value->za->Prop) g (e:za)=>
 opt (pk f (.bool true) g) λa=>GD a true (λh=>opt (zb Tryz.prog 50 d 6) λb=>h b e) (λb c=>GD a true (λi=>opt (zd Tryz.prog 2 b c) λj=>i j c) (kE a d R) c) e
def kG:=λa d (R:Value->za->Prop) b (c:za)=>
 GD a false (λe=>opt (nb [b,.int .i64 20] (ze Tryz.prog .eql 3 (.tmp 116) (.const (.int .i64 20)) b (.int .i64 20))) λf=>e f c) (kF a d R) c
def WB:=λb (R:Value->za->Prop) c (d:za)=>
 GD b false (λe=>opt (nb [c,.int .i64 20] (ze Tryz.prog .eql 3 (.tmp 136) (.const (.int .i64 20)) c (.int .i64 20))) λa=>e a d) (λa f=>opt (pk b (.bool true) a) λg=>rv [g] f R) d
def WC:=λb (R:Value->za->Prop) c (d:za)=>
 GD b true (λe=>opt (nb [c,.int .i64 10000000] (ze Tryz.prog .leq 3 (.tmp 152) (.const (.int .i64 10000000)) c (.int .i64 10000000))) λa=>e a d) (λa f=>opt (pk b a (.bool false)) λg=>rv [g] f R) d
def jR:=λb (R:Value->za->Prop) c (d:za)=>
 GD b true (λe=>opt (nb [c,.int .i64 65536] (ze Tryz.prog .leq 2 (.tmp 163) (.const (.int .i64 65536)) c (.int .i64 65536))) λa=>e a d) (λa f=>opt (pk b a (.bool false)) λg=>rv [g] f R) d
def jS:=λe (a:za) (R:Value->za->Prop) (k:List Value->za->Prop)=>
 opt (zb Tryz.prog 50 e 6) λg=>opt (zd Tryz.prog 2 g a) λf=>opt (nb [f,.int .i64 0] (ze Tryz.prog .geq 2 (.tmp 159) (.const (.int .i64 0)) f (.int .i64 0))) λb=>GD b true (λh=>opt (zb Tryz.prog 50 e 6) λc=>h c a) (λc d=>GD b true (λi=>opt (zd Tryz.prog 2 c d) λj=>i j d) (jR b R) d) a
def WD:=λe (a:za) (R:Value->za->Prop) (k:List Value->za->Prop)=>
 opt (zb Tryz.prog 50 e 5) λg=>opt (zd Tryz.prog 3 g a) λf=>opt (nb [f,.int .i64 0] (ze Tryz.prog .geq 3 (.tmp 148) (.const (.int .i64 0)) f (.int .i64 0))) λb=>GD b true (λh=>opt (zb Tryz.prog 50 e 5) λc=>h c a) (λc d=>GD b true (λi=>opt (zd Tryz.prog 3 c d) λj=>i j d) (WC b R) d) a
def kH:=λa (c:za) f (R:Value->za->Prop) g (h:List Value->za->Prop)=>
 opt (nb [a,.int .i64 23] (ze Tryz.prog .eql 3 (.tmp 19) (.const (.int .i64 23)) a (.int .i64 23))) λd=>CD d (λb=>b [d] c)
 (λb=>opt (nb [a,.int .i64 24] (ze Tryz.prog .eql 3 (.tmp 19) (.const (.int .i64 24)) a (.int .i64 24))) λi=>b [i] c)
 (λj e=>CD (nth j 0) (jS f e R)
 (λk=>k [nth g 0] e)
 (λl m=>h [nth l 0] m))
def UK:=λb (a:za) (R:Value->za->Prop) (g:List Value->za->Prop)=>
 opt (zb Tryz.prog 50 b 4) λc=>opt (zd Tryz.prog 3 c a) λd=>zR Tryz.prog (.func (.func 77) #[] #[]) [d] a (λe f=>rv [e] f R)
def uO:=λa b (c:za) (R:Value->za->Prop) d (e:List Value->za->Prop)=>
 opt (nb [a,.int .i64 20] (ze Tryz.prog .eql 3 (.tmp 19) (.const (.int .i64 20)) a (.int .i64 20))) λf=>CD f (WD b c R)
 (kH a c b R d)
 (λg h=>e [nth g 0] h)
def WE:=λe (a:za) (R:Value->za->Prop) (k:List Value->za->Prop)=>
 opt (zb Tryz.prog 50 e 3) λg=>opt (zd Tryz.prog 3 g a) λf=>opt (nb [f,.int .i64 19] (ze Tryz.prog .eql 3 (.tmp 132) (.const (.int .i64 19)) f (.int .i64 19))) λb=>GD b false (λh=>opt (zb Tryz.prog 50 e 3) λc=>h c a) (λc d=>GD b false (λi=>opt (zd Tryz.prog 3 c d) λj=>i j d) (WB b R) d) a
def vO:=λa (c:za) d (R:Value->za->Prop) g (h:List Value->za->Prop)=>
 opt (nb [a,.int .i64 17] (ze Tryz.prog .eql 3 (.tmp 19) (.const (.int .i64 17)) a (.int .i64 17))) λe=>CD e (λb=>b [e] c)
 (λb=>opt (nb [a,.int .i64 19] (ze Tryz.prog .eql 3 (.tmp 19) (.const (.int .i64 19)) a (.int .i64 19))) λi=>b [i] c)
 (λj f=>CD (nth j 0) (UK d f R)
 (uO a d f R g)
 (λk l=>h [nth k 0] l))
def kJ:=λa (b:za) (R:Value->za->Prop) (k:List Value->za->Prop)=>
 opt (zb Tryz.prog 50 a 3) λg=>opt (zd Tryz.prog 3 g b) λf=>opt (nb [f,.int .i64 19] (ze Tryz.prog .eql 3 (.tmp 112) (.const (.int .i64 19)) f (.int .i64 19))) λc=>GD c false (λh=>opt (zb Tryz.prog 50 a 3) λd=>h d b) (λd e=>GD c false (λi=>opt (zd Tryz.prog 3 d e) λj=>i j e) (kG c a R) e) b
def w5:=λa b (c:za) (R:Value->za->Prop) d (e:List Value->za->Prop)=>
 opt (nb [a,.int .i64 12] (ze Tryz.prog .eql 3 (.tmp 19) (.const (.int .i64 12)) a (.int .i64 12))) λf=>CD f (WE b c R)
 (vO a c b R d)
 (λg h=>e [nth g 0] h)
def WG:=λe (a:za) (R:Value->za->Prop) (k:List Value->za->Prop)=>
 opt (zb Tryz.prog 50 e 3) λg=>opt (zd Tryz.prog 3 g a) λf=>opt (nb [f,.int .i64 3] (ze Tryz.prog .eql 3 (.tmp 102) (.const (.int .i64 3)) f (.int .i64 3))) λb=>GD b false (λh=>opt (zb Tryz.prog 50 e 3) λc=>h c a) (λc d=>GD b false (λi=>opt (zd Tryz.prog 3 c d) λj=>i j d) (WA b R) d) a
def yL:=λa b (c:za) (R:Value->za->Prop) d (e:List Value->za->Prop)=>
 opt (nb [a,.int .i64 11] (ze Tryz.prog .eql 3 (.tmp 19) (.const (.int .i64 11)) a (.int .i64 11))) λf=>CD f (kJ b c R)
 (w5 a b c R d)
 (λg h=>e [nth g 0] h)
def WH:=λe (a:za) (R:Value->za->Prop) (k:List Value->za->Prop)=>
 opt (zb Tryz.prog 50 e 3) λg=>opt (zd Tryz.prog 3 g a) λf=>opt (nb [f,.int .i64 1] (ze Tryz.prog .eql 3 (.tmp 92) (.const (.int .i64 1)) f (.int .i64 1))) λb=>GD b false (λh=>opt (zb Tryz.prog 50 e 3) λc=>h c a) (λc d=>GD b false (λi=>opt (zd Tryz.prog 3 c d) λj=>i j d) (Wz b R) d) a
def yk:=λa b (c:za) (R:Value->za->Prop) d (e:List Value->za->Prop)=>
 opt (nb [a,.int .i64 10] (ze Tryz.prog .eql 3 (.tmp 19) (.const (.int .i64 10)) a (.int .i64 10))) λf=>CD f (WG b c R)
 (yL a b c R d)
 (λg h=>e [nth g 0] h)
def yd:=λa b (c:za) (R:Value->za->Prop) d (e:List Value->za->Prop)=>
 opt (nb [a,.int .i64 9] (ze Tryz.prog .eql 3 (.tmp 19) (.const (.int .i64 9)) a (.int .i64 9))) λf=>CD f (WH b c R)
 (yk a b c R d)
 (λg h=>e [nth g 0] h)
def J5:=λb (a:za) (R:Value->za->Prop) (g:List Value->za->Prop)=>
 opt (zb Tryz.prog 50 b 3) λc=>opt (zd Tryz.prog 3 c a) λd=>zR Tryz.prog (.func (.func 76) #[] #[]) [d] a (λe f=>rv [e] f R)
def z8:=λa b (c:za) (R:Value->za->Prop) d (e:List Value->za->Prop)=>
 opt (nb [a,.int .i64 8] (ze Tryz.prog .eql 3 (.tmp 19) (.const (.int .i64 8)) a (.int .i64 8))) λf=>CD f (λk=>opt (zb Tryz.prog 50 b 3) λg=>opt (zd Tryz.prog 3 g c) λh=>zR Tryz.prog (.func (.func 76) #[] #[]) [h] c (UJ b R))
 (yd a b c R d)
 (λi j=>e [nth i 0] j)
def ZT:=λa (b:za) e (R:Value->za->Prop) (i:List Value->za->Prop)=>
 opt (zb Tryz.prog 50 a 3) λf=>opt (zd Tryz.prog 3 f b) λc=>opt (nb [c,.int .i64 0] (ze Tryz.prog .geq 3 (.tmp 50) (.const (.int .i64 0)) c (.int .i64 0))) λd=>GD d true (λg=>opt (zb Tryz.prog 50 a 3) λh=>g h b) (ZS d e a R) b
def zY:=λa b (c:za) (R:Value->za->Prop) d (e:List Value->za->Prop)=>
 opt (nb [a,.int .i64 7] (ze Tryz.prog .eql 3 (.tmp 19) (.const (.int .i64 7)) a (.int .i64 7))) λf=>CD f (J5 b c R)
 (z8 a b c R d)
 (λg h=>e [nth g 0] h)
def UL:=λb (a:za) (R:Value->za->Prop) (g:List Value->za->Prop)=>
 opt (zb Tryz.prog 50 b 6) λc=>opt (zd Tryz.prog 2 c a) λd=>zR Tryz.prog (.func (.func 75) #[] #[]) [d] a (λe f=>rv [e] f R)
def zQ:=λa b (c:za) d (R:Value->za->Prop) e (f:List Value->za->Prop)=>
 opt (nb [a,.int .i64 6] (ze Tryz.prog .eql 3 (.tmp 19) (.const (.int .i64 6)) a (.int .i64 6))) λg=>CD g (ZT b c d R)
 (zY a b c R e)
 (λh i=>f [nth h 0] i)
def qO:=λa (b:za) (R:Value->za->Prop) (k:List Value->za->Prop)=>
 opt (zb Tryz.prog 50 a 3) λg=>opt (zd Tryz.prog 3 g b) λf=>opt (nb [f,.int .i64 1] (ze Tryz.prog .eql 3 (.tmp 24) (.const (.int .i64 1)) f (.int .i64 1))) λc=>GD c false (λh=>opt (zb Tryz.prog 50 a 3) λd=>h d b) (λd e=>GD c false (λi=>opt (zd Tryz.prog 3 d e) λj=>i j e) (kL c a R) e) b
def zN:=λa (c:za) d (R:Value->za->Prop) g h (i:List Value->za->Prop)=>
 opt (nb [a,.int .i64 5] (ze Tryz.prog .eql 3 (.tmp 19) (.const (.int .i64 5)) a (.int .i64 5))) λe=>CD e (λb=>b [e] c)
 (λb=>opt (nb [a,.int .i64 16] (ze Tryz.prog .eql 3 (.tmp 19) (.const (.int .i64 16)) a (.int .i64 16))) λj=>b [j] c)
 (λk f=>CD (nth k 0) (UL d f R)
 (zQ a d f g R h)
 (λl m=>i [nth l 0] m))
def zC:=λa (c:za) d (R:Value->za->Prop) g h (i:List Value->za->Prop)=>
 opt (nb [a,.int .i64 3] (ze Tryz.prog .eql 3 (.tmp 19) (.const (.int .i64 3)) a (.int .i64 3))) λe=>CD e (λb=>b [e] c)
 (λb=>opt (nb [a,.int .i64 4] (ze Tryz.prog .eql 3 (.tmp 19) (.const (.int .i64 4)) a (.int .i64 4))) λj=>b [j] c)
 (λk f=>CD (nth k 0) (qO d f R)
 (zN a f d R g h)
 (λl m=>i [nth l 0] m))
def zo:=λa (R:Value->za->Prop) c d (b:za)=>
 opt (zb Tryz.prog 50 a 0) λe=>opt (zd Tryz.prog 3 e b) λf=>BK (zC f b a R c d)
 (λh g=>rv [.bool true] g R)
def Y6:=λb (R:Value->za->Prop) f g h (c:za)=>
 GD b false (λi=>opt (dH Tryz.prog .not h) λa=>i a c) (λa d=>opt (pk b (.bool true) a) λj=>CD j (λe=>rv [.bool false] d R)
 (λe=>e [.bool false] d)
 (zo f R g)) c
def WI:=λf d (R:Value->za->Prop) g h (a:za)=>
 opt (pk f (.bool true) h) λb=>GD b false (λi=>opt (zd Tryz.prog 50 d a) λc=>i c a) (λc e=>GD b false (λj=>zR Tryz.prog (.func (.func 74) #[] #[]) [c] e (λk l=>j k l)) (Y6 b R d g) e) a
def WJ:=λa d (R:Value->za->Prop) e b (c:za)=>
 GD a false (λf=>opt (nb [b,.int .i64 26] (ze Tryz.prog .gtr 3 (.tmp 10) (.const (.int .i64 26)) b (.int .i64 26))) λg=>f g c) (WI a d R e) c
def cG:=λ(h:za) f i (R:Value->za->Prop)=>
 opt (nb [f] (some (Value.cells f).toList)) λj=>nw h j 50 λa b=>opt (zb Tryz.prog 50 a 0) λk=>opt (zd Tryz.prog 3 k b) λg=>opt (nb [g,.int .i64 1] (ze Tryz.prog .lss 3 (.tmp 6) (.const (.int .i64 1)) g (.int .i64 1))) λc=>GD c false (λl=>opt (zb Tryz.prog 50 a 0) λd=>l d b) (λd e=>GD c false (λm=>opt (zd Tryz.prog 3 d e) λn=>m n e) (WJ c a R i) e) b
theorem pP(h:za)(t0 t1:Value)(R:Value->za->Prop):Vz Tryz.prog (uI Tryz.prog qs) 200 56 [t0,t1] h R=cG h t0 t1 R:=by kernel_rfl
theorem pQ{h:za}{t0 t1:Value}{R:Value->za->Prop}(hw:cG h t0 t1 R):DC Tryz.prog 56 [t0,t1] h R:=yT mixed (n:=200) (by rw[pP];exact hw)
def xf:=λf b (R:Value->za->Prop) c (d:za)=>
 GD c false (λg=>g f d) (λh e=>GD b true (λi=>opt (pk c (.bool true) h) λa=>i a e) (λa j=>opt (pk b a (.bool false)) λk=>rv [k] j R) e) d
def xg:=λa f (R:Value->za->Prop) c (d:za)=>
 GD a true (λg=>opt (nb [c,.int .i64 4] (ze Tryz.prog .neq 3 (.tmp 62) (.const (.int .i64 4)) c (.int .i64 4))) λb=>g b d) (λb e=>GD a true (λh=>h b e) (xf f a R) e) d
def xh:=λe f g (R:Value->za->Prop) h (d:za)=>
 opt (pk e h (.bool false)) λa=>GD a true (λi=>opt (zb Tryz.prog 50 f 2) λb=>i b d) (λb c=>GD a true (λj=>opt (zd Tryz.prog 3 b c) λk=>j k c) (xg a g R) c) d
def xi:=λa d e (R:Value->za->Prop) b (c:za)=>
 GD a true (λf=>opt (nb [b,.int .i64 16] (ze Tryz.prog .lss 3 (.tmp 57) (.const (.int .i64 16)) b (.int .i64 16))) λg=>f g c) (xh a d e R) c
def xj:=λg a (R:Value->za->Prop) h (b:za)=>
 opt (pk g (.bool true) h) λi=>opt (zb Tryz.prog 50 a 2) λj=>opt (zd Tryz.prog 3 j b) λf=>opt (nb [f,.int .i64 0] (ze Tryz.prog .geq 3 (.tmp 53) (.const (.int .i64 0)) f (.int .i64 0))) λc=>GD c true (λk=>opt (zb Tryz.prog 50 a 2) λd=>k d b) (λd e=>GD c true (λl=>opt (zd Tryz.prog 3 d e) λm=>l m e) (xi c a i R) e) b
def xk:=λa d (R:Value->za->Prop) b (c:za)=>
 GD a false (λe=>opt (nb [b,.int .i64 1] (ze Tryz.prog .eql 3 (.tmp 49) (.const (.int .i64 1)) b (.int .i64 1))) λf=>e f c) (xj a d R) c
def xl:=λf d (R:Value->za->Prop) g (e:za)=>
 opt (pk f (.bool true) g) λa=>GD a false (λh=>opt (zb Tryz.prog 50 d 0) λb=>h b e) (λb c=>GD a false (λi=>opt (zd Tryz.prog 3 b c) λj=>i j c) (xk a d R) c) e
def xn:=λa d (R:Value->za->Prop) b (c:za)=>
 GD a false (λe=>opt (nb [b,.int .i64 5] (ze Tryz.prog .eql 3 (.tmp 44) (.const (.int .i64 5)) b (.int .i64 5))) λf=>e f c) (xl a d R) c
def xo:=λf d (R:Value->za->Prop) g (e:za)=>
 opt (pk f (.bool true) g) λa=>GD a false (λh=>opt (zb Tryz.prog 50 d 0) λb=>h b e) (λb c=>GD a false (λi=>opt (zd Tryz.prog 3 b c) λj=>i j c) (xn a d R) c) e
def yJ:=λa d (R:Value->za->Prop) b (c:za)=>
 GD a false (λe=>opt (nb [b,.int .i64 4] (ze Tryz.prog .eql 3 (.tmp 39) (.const (.int .i64 4)) b (.int .i64 4))) λf=>e f c) (xo a d R) c
def yn:=λa (R:Value->za->Prop) (k:List Value) (b:za)=>
 opt (zb Tryz.prog 50 a 0) λg=>opt (zd Tryz.prog 3 g b) λf=>opt (nb [f,.int .i64 3] (ze Tryz.prog .eql 3 (.tmp 35) (.const (.int .i64 3)) f (.int .i64 3))) λc=>GD c false (λh=>opt (zb Tryz.prog 50 a 0) λd=>h d b) (λd e=>GD c false (λi=>opt (zd Tryz.prog 3 d e) λj=>i j e) (yJ c a R) e) b
def qo:=λe (R:Value->za->Prop) f g h (a:za)=>
 opt (pk e h (.bool false)) λi=>CD i (λb=>rv [.bool false] a R)
 (λb=>b [.bool false] a)
 (λj c=>opt (dH Tryz.prog .not f) λk=>CD k (λd=>rv [.bool true] c R)
 (λd=>d [nth j 0] c)
 (yn g R))
def k9:=λb f c (R:Value->za->Prop) g h i (d:za)=>
 GD b false (λj=>opt (pk f i (.bool false)) λa=>j a d) (λa e=>GD c true (λk=>opt (pk b (.bool true) a) λl=>k l e) (qo c R g h) e) d
def ja:=λa d e (R:Value->za->Prop) f g b (c:za)=>
 GD a true (λh=>opt (nb [b,.int .i64 4] (ze Tryz.prog .eql 3 (.tmp 27) (.const (.int .i64 4)) b (.int .i64 4))) λi=>h i c) (k9 d a e R f g) c
def jb:=λd f g (R:Value->za->Prop) h a (e:za)=>
 GD a true (λi=>opt (zb Tryz.prog 50 d 1) λb=>i b e) (λb c=>GD a true (λj=>opt (zd Tryz.prog 3 b c) λk=>j k c) (ja a f g R h d) c) e
def jc:=λb f g (R:Value->za->Prop) h i (c:za)=>
 GD b true (λj=>j i c) (λa d=>GD a false (λk=>k f d) (λl e=>GD a false (λm=>m l e) (jb g a b R h) e) d) c
def jd:=λb c g h (R:Value->za->Prop) i d (e:za)=>
 GD b false (λj=>opt (nb [d,.int .i64 16] (ze Tryz.prog .geq 3 (.tmp 20) (.const (.int .i64 16)) d (.int .i64 16))) λa=>j a e) (λa f=>GD c true (λk=>opt (pk b (.bool true) a) λl=>k l f) (jc c g h R i) f) e
def jf:=λd f g (R:Value->za->Prop) h a (e:za)=>
 GD a false (λi=>opt (zb Tryz.prog 50 d 1) λb=>i b e) (λb c=>GD a false (λj=>opt (zd Tryz.prog 3 b c) λk=>j k c) (jd a f g d R h) c) e
def jg:=λa f g (R:Value->za->Prop) h c (d:za)=>
 GD a true (λi=>opt (nb [c,.int .i64 0] (ze Tryz.prog .lss 3 (.tmp 16) (.const (.int .i64 0)) c (.int .i64 0))) λb=>i b d) (λb e=>GD a true (λj=>j b e) (jf f a g R h) e) d
def jh:=λe (R:Value->za->Prop) a (f:za)=>
 opt (WM a 0) λb=>opt (WM a 1) λg=>opt (WM a 2) λh=>GD b true (λi=>opt (zb Tryz.prog 50 e 1) λc=>i c f) (λc d=>GD b true (λj=>opt (zd Tryz.prog 3 c d) λk=>j k d) (jg b e h R g) d) f
def JE:=λ(h:za) a (R:Value->za->Prop)=>
 opt (nb [a] (some (Value.cells a).toList)) λd=>nw h d 50 λb c=>opt (zd Tryz.prog 50 b c) λe=>zR Tryz.prog (.func (.func 99) #[] #[]) [e] c (jh b R)
theorem mG(h:za)(t0:Value)(R:Value->za->Prop):Vz Tryz.prog (uI Tryz.prog qs) 200 74 [t0] h R=JE h t0 R:=by kernel_rfl
theorem mH{h:za}{t0:Value}{R:Value->za->Prop}(hw:JE h t0 R):DC Tryz.prog 74 [t0] h R:=yT mixed (n:=200) (by rw[mG];exact hw)
def qa:=λa (c:za) (e:List Value->za->Prop)=>
 opt (nb [a,.int .i64 7] (ze Tryz.prog .eql 3 (.tmp 6) (.const (.int .i64 7)) a (.int .i64 7))) λd=>CD d (λb=>b [d] c)
 (λb=>opt (nb [a,.int .i64 10] (ze Tryz.prog .eql 3 (.tmp 6) (.const (.int .i64 10)) a (.int .i64 10))) λf=>b [f] c)
 (λg h=>e [nth g 0] h)
def uX:=λa (b:za) (d:List Value->za->Prop)=>
 opt (nb [a,.int .i64 5] (ze Tryz.prog .eql 3 (.tmp 6) (.const (.int .i64 5)) a (.int .i64 5))) λc=>CD c (λe=>e [c] b)
 (qa a b)
 (λf g=>d [nth f 0] g)
def uC:=λa (b:za) (d:List Value->za->Prop)=>
 opt (nb [a,.int .i64 3] (ze Tryz.prog .eql 3 (.tmp 6) (.const (.int .i64 3)) a (.int .i64 3))) λc=>CD c (λe=>e [c] b)
 (uX a b)
 (λf g=>d [nth f 0] g)
def YN:=λa (c:za) (e:List Value->za->Prop)=>
 opt (nb [a,.int .i64 12] (ze Tryz.prog .eql 3 (.tmp 6) (.const (.int .i64 12)) a (.int .i64 12))) λd=>CD d (λb=>b [d] c)
 (λb=>opt (nb [a,.int .i64 17] (ze Tryz.prog .eql 3 (.tmp 6) (.const (.int .i64 17)) a (.int .i64 17))) λf=>b [f] c)
 (λg h=>e [nth g 0] h)
def ZV:=λa (b:za) (d:List Value->za->Prop)=>
 opt (nb [a,.int .i64 11] (ze Tryz.prog .eql 3 (.tmp 6) (.const (.int .i64 11)) a (.int .i64 11))) λc=>CD c (λe=>e [c] b)
 (YN a b)
 (λf g=>d [nth f 0] g)
def Zg:=λa (b:za) (d:List Value->za->Prop)=>
 opt (nb [a,.int .i64 9] (ze Tryz.prog .eql 3 (.tmp 6) (.const (.int .i64 9)) a (.int .i64 9))) λc=>CD c (λe=>e [c] b)
 (ZV a b)
 (λf g=>d [nth f 0] g)
def jq:=λa (b:za) (d:List Value->za->Prop)=>
 opt (nb [a,.int .i64 8] (ze Tryz.prog .eql 3 (.tmp 6) (.const (.int .i64 8)) a (.int .i64 8))) λc=>CD c (λe=>e [c] b)
 (Zg a b)
 (λf g=>d [nth f 0] g)
def ko:=λa (b:za) (d:List Value->za->Prop)=>
 opt (nb [a,.int .i64 6] (ze Tryz.prog .eql 3 (.tmp 6) (.const (.int .i64 6)) a (.int .i64 6))) λc=>CD c (λe=>e [c] b)
 (jq a b)
 (λf g=>d [nth f 0] g)
def cX:=λb (c:za) (R:Value->za->Prop) (e:List Value->za->Prop)=>
 opt (nb [b,.int .i64 14] (ze Tryz.prog .eql 3 (.tmp 6) (.const (.int .i64 14)) b (.int .i64 14))) λf=>CD f (λd=>rv [.bool false,.bool true,.bool false] c R)
 (λd=>d [.bool false,.bool false,.bool false] c)
 (λa g=>e [nth a 0,nth a 1,nth a 2] g)
def UW:=λa (c:za) (R:Value->za->Prop) (d:List Value->za->Prop)=>
 opt (nb [a,.int .i64 16] (ze Tryz.prog .eql 3 (.tmp 6) (.const (.int .i64 16)) a (.int .i64 16))) λe=>CD e (λg=>rv [.bool true,.bool false,.bool false] c R)
 (cX a c R)
 (λb f=>d [nth b 0,nth b 1,nth b 2] f)
def Xu:=λ(R:Value->za->Prop) c (d:List Value->za->Prop) e (b:za)=>
 CD (nth e 0) (λg=>rv [.bool true,.bool true,.bool false] b R)
 (UW c b R)
 (λa f=>d [nth a 0,nth a 1,nth a 2] f)
def Xv:=λa (c:za) (R:Value->za->Prop) (e:List Value->za->Prop)=>
 opt (nb [a,.int .i64 4] (ze Tryz.prog .eql 3 (.tmp 6) (.const (.int .i64 4)) a (.int .i64 4))) λd=>CD d (λb=>b [d] c)
 (λb=>opt (nb [a,.int .i64 15] (ze Tryz.prog .eql 3 (.tmp 6) (.const (.int .i64 15)) a (.int .i64 15))) λf=>b [f] c)
 (Xu R a e)
def qb:=λ(R:Value->za->Prop) c (d:List Value->za->Prop) e (b:za)=>
 CD (nth e 0) (λg=>rv [.bool true,.bool false,.bool true] b R)
 (Xv c b R)
 (λa f=>d [nth a 0,nth a 1,nth a 2] f)
def qc:=λa (b:za) (R:Value->za->Prop) (d:List Value->za->Prop)=>
 opt (nb [a,.int .i64 2] (ze Tryz.prog .eql 3 (.tmp 6) (.const (.int .i64 2)) a (.int .i64 2))) λc=>CD c (λe=>e [c] b)
 (ko a b)
 (qb R a d)
def vr:=λ(R:Value->za->Prop) c (d:List Value->za->Prop) e (b:za)=>
 CD (nth e 0) (λg=>rv [.bool true,.bool true,.bool true] b R)
 (qc c b R)
 (λa f=>d [nth a 0,nth a 1,nth a 2] f)
def vt:=λa (b:za) (R:Value->za->Prop) (d:List Value->za->Prop)=>
 opt (nb [a,.int .i64 1] (ze Tryz.prog .eql 3 (.tmp 6) (.const (.int .i64 1)) a (.int .i64 1))) λc=>CD c (λe=>e [c] b)
 (uC a b)
 (vr R a d)
def p8:=λ(h:za) a (R:Value->za->Prop)=>
 opt (nb [a] (some (Value.cells a).toList)) λc=>nw h c 50 λd b=>opt (zb Tryz.prog 50 d 0) λe=>opt (zd Tryz.prog 3 e b) λf=>BK (vt f b R)
 (λi g=>rv [.bool false,.bool false,.bool false] g R)
theorem CF(h:za)(t0:Value)(R:Value->za->Prop):Vz Tryz.prog (uI Tryz.prog qs) 200 99 [t0] h R=p8 h t0 R:=by kernel_rfl
theorem CG{h:za}{t0:Value}{R:Value->za->Prop}(hw:p8 h t0 R):DC Tryz.prog 99 [t0] h R:=yT mixed (n:=200) (by rw[CF];exact hw)
def Cv:=λ(h:za) a (R:Value->za->Prop)=>
 xK (nb [a] (qE Tryz.prog 2 21 a h)) λb d=>xK (nb [b] (qE Tryz.prog 21 2 b d)) λc e=>opt (nb [a,c] (ze Tryz.prog .eql 2 (.tmp 3) (.tmp 6) a c)) λf=>rv [f] e R
theorem FD(h:za)(t0:Value)(R:Value->za->Prop):Vz Tryz.prog (uI Tryz.prog qs) 200 75 [t0] h R=Cv h t0 R:=by kernel_rfl
theorem FE{h:za}{t0:Value}{R:Value->za->Prop}(hw:Cv h t0 R):DC Tryz.prog 75 [t0] h R:=yT mixed (n:=200) (by rw[FD];exact hw)
def fD:=λa (h:za) (d:List Value->za->Prop)=>
 opt (nb [a,.int .i64 17] (ze Tryz.prog .eql 3 (.tmp 3) (.const (.int .i64 17)) a (.int .i64 17))) λc=>CD c (λb=>b [c] h)
 (λb=>opt (nb [a,.int .i64 18] (ze Tryz.prog .eql 3 (.tmp 3) (.const (.int .i64 18)) a (.int .i64 18))) λe=>b [e] h)
 (λf g=>d [nth f 0] g)
def J9:=λa (h:za) (c:List Value->za->Prop)=>
 opt (nb [a,.int .i64 16] (ze Tryz.prog .eql 3 (.tmp 3) (.const (.int .i64 16)) a (.int .i64 16))) λb=>CD b (λd=>d [b] h)
 (fD a h)
 (λe f=>c [nth e 0] f)
def Kt:=λa (h:za) (c:List Value->za->Prop)=>
 opt (nb [a,.int .i64 13] (ze Tryz.prog .eql 3 (.tmp 3) (.const (.int .i64 13)) a (.int .i64 13))) λb=>CD b (λd=>d [b] h)
 (J9 a h)
 (λe f=>c [nth e 0] f)
def UN:=λa (h:za) (c:List Value->za->Prop)=>
 opt (nb [a,.int .i64 12] (ze Tryz.prog .eql 3 (.tmp 3) (.const (.int .i64 12)) a (.int .i64 12))) λb=>CD b (λd=>d [b] h)
 (Kt a h)
 (λe f=>c [nth e 0] f)
def VE:=λa (h:za) (R:Value->za->Prop) (e:List Value->za->Prop)=>
 opt (nb [a,.int .i64 11] (ze Tryz.prog .eql 3 (.tmp 3) (.const (.int .i64 11)) a (.int .i64 11))) λb=>CD b (λf=>f [b] h)
 (UN a h)
 (λg c=>CD (nth g 0) (λd=>rv [.bool true] c R)
 (λd=>d [.bool false] c)
 (λi j=>e [nth i 0] j))
def HA:=λ(h:za) a (R:Value->za->Prop)=>
 BK (VE a h R)
 (λc b=>rv [.bool false] b R)
theorem HB(h:za)(t0:Value)(R:Value->za->Prop):Vz Tryz.prog (uI Tryz.prog qs) 200 76 [t0] h R=HA h t0 R:=by kernel_rfl
theorem HC{h:za}{t0:Value}{R:Value->za->Prop}(hw:HA h t0 R):DC Tryz.prog 76 [t0] h R:=yT mixed (n:=200) (by rw[HB];exact hw)
def Js:=λ(h:za) b (R:Value->za->Prop)=>
 zR Tryz.prog (.func (.func 100) #[] #[]) [b] h (λa c=>opt (WM a 0) λe=>opt (WM a 1) λd=>rv [d] c R)
theorem mC(h:za)(t0:Value)(R:Value->za->Prop):Vz Tryz.prog (uI Tryz.prog qs) 200 77 [t0] h R=Js h t0 R:=by kernel_rfl
theorem mD{h:za}{t0:Value}{R:Value->za->Prop}(hw:Js h t0 R):DC Tryz.prog 77 [t0] h R:=yT mixed (n:=200) (by rw[mC];exact hw)
def gi:=λa (h:za) (R:Value->za->Prop) (d:List Value->za->Prop)=>
 opt (nb [a,.int .i64 25] (ze Tryz.prog .eql 3 (.tmp 4) (.const (.int .i64 25)) a (.int .i64 25))) λe=>CD e (λb=>rv [.int .i64 24,.bool true] h R)
 (λb=>b [.int .i64 0,.bool false] h)
 (λc f=>d [nth c 0,nth c 1] f)
def J4:=λa (h:za) (R:Value->za->Prop) (c:List Value->za->Prop)=>
 opt (nb [a,.int .i64 24] (ze Tryz.prog .eql 3 (.tmp 4) (.const (.int .i64 24)) a (.int .i64 24))) λd=>CD d (λf=>rv [.int .i64 25,.bool true] h R)
 (gi a h R)
 (λb e=>c [nth b 0,nth b 1] e)
def QJ:=λa (h:za) (R:Value->za->Prop) (c:List Value->za->Prop)=>
 opt (nb [a,.int .i64 26] (ze Tryz.prog .eql 3 (.tmp 4) (.const (.int .i64 26)) a (.int .i64 26))) λd=>CD d (λf=>rv [.int .i64 23,.bool true] h R)
 (J4 a h R)
 (λb e=>c [nth b 0,nth b 1] e)
def Uh:=λa (h:za) (R:Value->za->Prop) (c:List Value->za->Prop)=>
 opt (nb [a,.int .i64 23] (ze Tryz.prog .eql 3 (.tmp 4) (.const (.int .i64 23)) a (.int .i64 23))) λd=>CD d (λf=>rv [.int .i64 26,.bool true] h R)
 (QJ a h R)
 (λb e=>c [nth b 0,nth b 1] e)
def Va:=λa (h:za) (R:Value->za->Prop) (c:List Value->za->Prop)=>
 opt (nb [a,.int .i64 22] (ze Tryz.prog .eql 3 (.tmp 4) (.const (.int .i64 22)) a (.int .i64 22))) λd=>CD d (λf=>rv [.int .i64 21,.bool true] h R)
 (Uh a h R)
 (λb e=>c [nth b 0,nth b 1] e)
def XS:=λa (h:za) (R:Value->za->Prop) (c:List Value->za->Prop)=>
 opt (nb [a,.int .i64 21] (ze Tryz.prog .eql 3 (.tmp 4) (.const (.int .i64 21)) a (.int .i64 21))) λd=>CD d (λf=>rv [.int .i64 22,.bool true] h R)
 (Va a h R)
 (λb e=>c [nth b 0,nth b 1] e)
def Cb:=λ(h:za) a (R:Value->za->Prop)=>
 BK (XS a h R)
 (λc b=>rv [.int .i64 0,.bool false] b R)
theorem Fs(h:za)(t0:Value)(R:Value->za->Prop):Vz Tryz.prog (uI Tryz.prog qs) 200 100 [t0] h R=Cb h t0 R:=by kernel_rfl
theorem Ft{h:za}{t0:Value}{R:Value->za->Prop}(hw:Cb h t0 R):DC Tryz.prog 100 [t0] h R:=yT mixed (n:=200) (by rw[Fs];exact hw)
def pT:=λb (R:Value->za->Prop) a (h:za)=>
 opt (WM a 0) λc=>opt (WM a 1) λm=>opt (WM a 2) λi=>opt (wD Tryz.prog 33) λj=>nw h (Value.cells j).toList 33 λd k=>opt (nb [c] (zn Tryz.prog 33 d c k)) λe=>opt (zd Tryz.prog 33 d e) λf=>opt (nb [f] (zn Tryz.prog 33 b f e)) λg=>opt (zd Tryz.prog 33 b g) λl=>rv [l,i] g R
def Hs:=λ(h:za) a c d e f (R:Value->za->Prop)=>
 opt (nb [a] (some (Value.cells a).toList)) λg=>nw h g 25 λi j=>opt (wD Tryz.prog 33) λk=>nw j (Value.cells k).toList 33 λl b=>opt (zd Tryz.prog 25 i b) λm=>zR Tryz.prog (.func (.func 21) #[] #[]) [m,c,d,e,f,.bool true] b (pT l R)
theorem Ht(h:za)(t0 t1 t2 t3 t4:Value)(R:Value->za->Prop):Vz Tryz.prog (uI Tryz.prog qs) 200 9 [t0,t1,t2,t3,t4] h R=Hs h t0 t1 t2 t3 t4 R:=by kernel_rfl
theorem Hu{h:za}{t0 t1 t2 t3 t4:Value}{R:Value->za->Prop}(hw:Hs h t0 t1 t2 t3 t4 R):DC Tryz.prog 9 [t0,t1,t2,t3,t4] h R:=yT mixed (n:=200) (by rw[Ht];exact hw)
def gk:=λa (d:za) (R:Value->za->Prop) (f:List Value->za->Prop)=>
 opt (nb [] (yU Tryz.prog 33 [])) λb=>opt (nb [b] (zn Tryz.prog 33 a b d)) λc=>opt (zd Tryz.prog 33 a c) λe=>rv [e,.int .i64 0,.int .i64 1] c R
def tF:=λc a (R:Value->za->Prop) (l:Value) (b:za)=>
 opt (vd c) λg=>opt (zb Tryz.prog 108 g 4) λh=>opt (zd Tryz.prog 33 h b) λd=>opt (vd c) λi=>opt (zb Tryz.prog 108 i 13) λe=>opt (zd Tryz.prog 3 e b) λj=>(Hb 5 a 1 e/\opt (nb [d] (zn Tryz.prog 33 a d b)) λf=>opt (zd Tryz.prog 33 a f) λk=>rv [k,j,.int .i64 0] f R)
def tG:=λc d e f g h i (R:Value->za->Prop) (l:List Value) (a:za)=>
 opt (zd Tryz.prog 25 c a) λj=>zR Tryz.prog (.func (.func 38) #[] #[]) [j,d,e,f] a (λb k=>zR Tryz.prog (.func (.func 39) #[] #[]) [b,g,h] k (tF b i R))
def XT:=λb c (R:Value->za->Prop) g h i j k l d (e:za)=>
 GD b false (λm=>opt (nb [d,.int .i64 2147483647] (ze Tryz.prog .gtr 3 (.tmp 39) (.const (.int .i64 2147483647)) d (.int .i64 2147483647))) λa=>m a e) (λa f=>opt (pk b (.bool true) a) λn=>CD n (gk c f R)
 (λo=>o [.int .i64 0,.int .i64 0] f)
 (tG g h i j k l c R)) e
def XU:=λb c h (R:Value->za->Prop) i j k l m d (e:za)=>
 GD b false (λn=>opt (nb [d,.int .i64 0] (ze Tryz.prog .lss 3 (.tmp 35) (.const (.int .i64 0)) d (.int .i64 0))) λa=>n a e) (λa f=>opt (pk b (.bool true) a) λg=>GD g false (λo=>o c f) (XT g h R i j k c l m) f) e
def XV:=λb c h (R:Value->za->Prop) i j k l m d (e:za)=>
 GD b false (λn=>opt (nb [d,.int .i64 100000000] (ze Tryz.prog .gtr 3 (.tmp 31) (.const (.int .i64 100000000)) d (.int .i64 100000000))) λa=>n a e) (λa f=>opt (pk b (.bool true) a) λg=>GD g false (λo=>o c f) (XU g c h R i j k l m) f) e
def XW:=λb c h i (R:Value->za->Prop) j k l m d (e:za)=>
 GD b false (λn=>opt (nb [d,.int .i64 0] (ze Tryz.prog .lss 3 (.tmp 27) (.const (.int .i64 0)) d (.int .i64 0))) λa=>n a e) (λa f=>opt (pk b (.bool true) a) λg=>GD g false (λo=>o c f) (XV g h i R j k l c m) f) e
def XX:=λb c d i j (R:Value->za->Prop) k l m n e (f:za)=>
 GD b false (λo=>opt (nb [c,e] (ze Tryz.prog .neq 3 (.tmp 21) (.tmp 23) c e)) λa=>o a f) (λa g=>opt (pk b (.bool true) a) λh=>GD h false (λp=>p d g) (XW h d i j R k l m n) g) f
def XY:=λa d f g h (R:Value->za->Prop) i j k l (e:za)=>
 GD a false (λm=>opt (zb Tryz.prog 25 d 3) λb=>m b e) (λb c=>GD a false (λn=>opt (zd Tryz.prog 3 b c) λo=>n o c) (XX a l f g h R d i j k) c) e
def YL:=λb f g h i (R:Value->za->Prop) j k l (c:za)=>
 opt (dH Tryz.prog .not l) λa=>GD a false (λm=>m b c) (λd e=>GD a false (λn=>xK (nb [d] (zk Tryz.prog .len [26] 3 [d] e)) λo p=>n o p) (XY a f g h i R b j k) e) c
def Ch:=λ(h:za) a d e f g i (R:Value->za->Prop)=>
 opt (nb [a] (some (Value.cells a).toList)) λj=>nw h j 25 λb k=>opt (wD Tryz.prog 33) λl=>nw k (Value.cells l).toList 33 λm c=>opt (zd Tryz.prog 25 b c) λn=>zR Tryz.prog (.func (.func 17) #[] #[]) [n] c (YL d b f g m R e i)
theorem Fx(h:za)(t0 t1 t2 t3 t4 t5:Value)(R:Value->za->Prop):Vz Tryz.prog (oT Tryz.prog qs) 200 21 [t0,t1,t2,t3,t4,t5] h R=Ch h t0 t1 t2 t3 t4 t5 R:=by kernel_rfl
theorem Fy{h:za}{t0 t1 t2 t3 t4 t5:Value}{R:Value->za->Prop}(hw:Ch h t0 t1 t2 t3 t4 t5 R):DC Tryz.prog 21 [t0,t1,t2,t3,t4,t5] h R:=cE mixed (n:=200) (by rw[Fx];exact hw)
def nd:=λa b (g:List Value->za->Prop) (o:Value) (c:za)=>
 opt (vd a) λh=>opt (zb Tryz.prog 108 h 5) λi=>opt (zd Tryz.prog 22 i c) λd=>xK (nb [b] (yC Tryz.prog 22 1 [(0,b)] c)) λe j=>xK (nb [d,e] (zk Tryz.prog .append [22,22] 22 [d,e] j)) λf k=>opt (vd a) λl=>opt (zb Tryz.prog 108 l 5) λm=>opt (nb [f] (zn Tryz.prog 22 m f k)) λn=>g [] n
def nf:=λa (e:List Value->za->Prop) b (c:za)=>
 opt (WM b 0) λd=>opt (WM b 1) λi=>opt (vd a) λf=>opt (zb Tryz.prog 108 f 2) λg=>opt (zd Tryz.prog 104 g c) λh=>zR Tryz.prog (.func (.func 63) #[] #[]) [h,d] c (nd a d e)
def ng:=λc d (a:za) b (e:List Value->za->Prop)=>
 opt (zA Tryz.prog 22 c (nth d 0)) λf=>opt (zd Tryz.prog 3 f a) λg=>opt (vd b) λh=>opt (zb Tryz.prog 108 h 2) λi=>opt (zd Tryz.prog 104 i a) λj=>zR Tryz.prog (.func (.func 62) #[] #[]) [j,g] a (nf b e)
def nh:=λb a c (d:List Value->za->Prop) (h:List Value) (e:za)=>
 BK (ng b a e c)
 (λi f=>opt (nb [nth a 0,.int .i64 1] (ze Tryz.prog .add 3 (.tmp 32) (.const (.int .i64 1)) (nth a 0) (.int .i64 1))) λg=>d [g] f)
def cR:=λb (e:List Value->za->Prop) f g a (c:za) (h:List Value->za->Prop)=>
 opt (nb [nth a 0,b] (ze Tryz.prog .lss 3 (.tmp 32) (.tmp 31) (nth a 0) b)) λi=>CD i (λd=>d [] c)
 (λd=>e [] c)
 (nh f a g h)
def ni:=λe (a b:za) c (f:List Value->za->Prop)=>
 opt (zb Tryz.prog 50 e 5) λg=>opt (zd Tryz.prog 3 g a) λd=>opt (nb [(vS b).1,d,nth c 0] (jj Tryz.prog 129 (vS b).1 d (nth c 0) a)) λh=>f [] h
def nj:=λg c (d h:za) (i:List Value->za->Prop)=>
 opt (zA Tryz.prog 45 g (nth c 0)) λj=>opt (zd Tryz.prog 50 j d) λe=>opt (wD Tryz.prog 50) λk=>nw d (Value.cells k).toList 50 λa l=>opt (nb [e] (zn Tryz.prog 50 a e l)) λb=>opt (zb Tryz.prog 50 a 0) λm=>opt (zd Tryz.prog 3 m b) λf=>opt (nb [f,.int .i64 20] (ze Tryz.prog .eql 3 (.tmp 79) (.const (.int .i64 20)) f (.int .i64 20))) λn=>CD n (ni a b h c)
 (λo=>o [] b)
 (λq p=>i [] p)
def nk:=λb a (c:za) (d:List Value->za->Prop) (h:List Value) (e:za)=>
 BK (nj b a e c)
 (λi f=>opt (nb [nth a 0,.int .i64 1] (ze Tryz.prog .add 3 (.tmp 73) (.const (.int .i64 1)) (nth a 0) (.int .i64 1))) λg=>d [g] f)
def cS:=λb (e:List Value->za->Prop) f (g:za) a (c:za) (h:List Value->za->Prop)=>
 opt (nb [nth a 0,b] (ze Tryz.prog .lss 3 (.tmp 73) (.tmp 72) (nth a 0) b)) λi=>CD i (λd=>d [] c)
 (λd=>e [] c)
 (nk f a g h)
def gE:=λa (b:za) (g:List Value->za->Prop) (o:List Value) (c:za)=>
 opt (vd a) λh=>opt (zb Tryz.prog 108 h 1) λi=>opt (zd Tryz.prog 103 i c) λd=>xK (nb [(vS b).1] (yC Tryz.prog 103 1 [(0,(vS b).1)] c)) λe j=>xK (nb [d,e] (zk Tryz.prog .append [103,103] 103 [d,e] j)) λf k=>opt (vd a) λl=>opt (zb Tryz.prog 108 l 1) λm=>opt (nb [f] (zn Tryz.prog 103 m f k)) λn=>g [] n
def gF:=λf g (c:za) h (i:List Value->za->Prop)=>
 opt (zA Tryz.prog 23 f (nth g 0)) λj=>opt (zd Tryz.prog 47 j c) λd=>opt (wD Tryz.prog 47) λk=>nw c (Value.cells k).toList 47 λe l=>opt (nb [d] (zn Tryz.prog 47 e d l)) λa=>opt (zb Tryz.prog 47 e 1) λm=>opt (zd Tryz.prog 45 m (vS a).2) λb=>xK (nb [b] (zk Tryz.prog .len [45] 3 [b] (vS a).2)) λn o=>BK (λp=>LP (cS n p b a)
 [.int .i64 0] o)
 (gE h a i)
def gG:=λb a c (d:List Value->za->Prop) (h:List Value) (e:za)=>
 BK (gF b a e c)
 (λi f=>opt (nb [nth a 0,.int .i64 1] (ze Tryz.prog .add 3 (.tmp 65) (.const (.int .i64 1)) (nth a 0) (.int .i64 1))) λg=>d [g] f)
def Jq:=λb (e:List Value->za->Prop) f g a (c:za) (h:List Value->za->Prop)=>
 opt (nb [nth a 0,b] (ze Tryz.prog .lss 3 (.tmp 65) (.tmp 64) (nth a 0) b)) λi=>CD i (λd=>d [] c)
 (λd=>e [] c)
 (gG f a g h)
def gH:=λb c (d:za) (e:List Value->za->Prop) a=>
 opt (vd b) λf=>opt (zb Tryz.prog 108 f 7) λg=>opt (zA Tryz.prog 65 g c) λh=>opt (nb [a] (zn Tryz.prog 64 h a d)) λi=>e [] i
def gI:=λc b (a:za) d e (f:List Value->za->Prop)=>
 opt (zA Tryz.prog 26 c (nth b 0)) λg=>opt (zd Tryz.prog 2 g a) λh=>opt (zA Tryz.prog 130 d (nth b 0)) λi=>opt (zd Tryz.prog 3 i a) λj=>Z4 Tryz.prog 64 [h] a (gH e j a f)
def gJ:=λb a c d (e:List Value->za->Prop) (i:List Value) (f:za)=>
 BK (gI b a f c d)
 (λj g=>opt (nb [nth a 0,.int .i64 1] (ze Tryz.prog .add 3 (.tmp 100) (.const (.int .i64 1)) (nth a 0) (.int .i64 1))) λh=>e [h] g)
def Jr:=λb (e:List Value->za->Prop) f g h a (c:za) (i:List Value->za->Prop)=>
 opt (nb [nth a 0,b] (ze Tryz.prog .lss 3 (.tmp 100) (.tmp 99) (nth a 0) b)) λj=>CD j (λd=>d [] c)
 (λd=>e [] c)
 (gJ f a g h i)
def gK:=λa b (R:Value->za->Prop) (m:List Value) (e:za)=>
 opt (nb [.int .i64 7,.int .i64 6,.int .i64 2,.int .i64 1,.int .i64 8,.int .i64 9] (yU Tryz.prog 130 [(0,(.int .i64 7)),(1,(.int .i64 6)),(2,(.int .i64 2)),(3,(.int .i64 1)),(4,(.int .i64 8)),(5,(.int .i64 9))])) λc=>opt (wD Tryz.prog 130) λf=>nw e (Value.cells f).toList 130 λd g=>opt (nb [c] (zn Tryz.prog 130 d c g)) λh=>xK (nb [a] (zk Tryz.prog .len [26] 3 [a] h)) λi j=>BK (λk=>LP (Jr i k a d b)
 [.int .i64 0] j)
 (λn l=>rv [b] l R)
def gL:=λd b e (R:Value->za->Prop) (j:List Value) (c:za)=>
 opt (zb Tryz.prog 25 d 1) λf=>opt (zd Tryz.prog 23 f c) λa=>xK (nb [a] (zk Tryz.prog .len [23] 3 [a] c)) λg h=>BK (λi=>LP (Jq g i a b)
 [.int .i64 0] h)
 (gK e b R)
def gN:=λb c d e j (R:Value->za->Prop) f (k:za)=>
 opt (nb [b,c,f,d] (yU Tryz.prog 108 [(0,b),(2,c),(3,f),(12,d)])) λg=>opt (nb [g] (some (Value.cells g).toList)) λl=>nw k l 108 λh i=>opt (zb Tryz.prog 25 e 0) λm=>opt (zd Tryz.prog 22 m i) λa=>xK (nb [a] (zk Tryz.prog .len [22] 3 [a] i)) λn o=>BK (λp=>LP (cR n p a h)
 [.int .i64 0] o)
 (gL e h j R)
def pV:=λ(h:za) a d e f (R:Value->za->Prop)=>
 opt (nb [a] (some (Value.cells a).toList)) λg=>nw h g 25 λb c=>opt (zd Tryz.prog 25 b c) λi=>iF Tryz.prog 60 [] c (λj k=>iF Tryz.prog 61 [e] k (gN i j f b d R))
theorem Cm(h:za)(t0 t1 t2 t3:Value)(R:Value->za->Prop):Vz Tryz.prog (uI Tryz.prog qs) 200 38 [t0,t1,t2,t3] h R=pV h t0 t1 t2 t3 R:=by kernel_rfl
theorem Cn{h:za}{t0 t1 t2 t3:Value}{R:Value->za->Prop}(hw:pV h t0 t1 t2 t3 R):DC Tryz.prog 38 [t0,t1,t2,t3] h R:=yT mixed (n:=200) (by rw[Cm];exact hw)
def t7:=λa (b:za) (R:Value->za->Prop) (g:List Value->za->Prop)=>
 opt (vd a) λc=>opt (zb Tryz.prog 108 c 4) λd=>opt (zb Tryz.prog 33 d 0) λe=>opt (nb [.int .i64 3] (zn Tryz.prog 3 e (.int .i64 3) b)) λf=>rv [] f R
def t8:=λa (b:za) (e:List Value->za->Prop) (k:List Value->za->Prop)=>
 opt (vd a) λf=>opt (zb Tryz.prog 134 f 1) λg=>opt (zd Tryz.prog 3 g b) λc=>opt (nb [c,.int .i64 1] (ze Tryz.prog .add 3 (.tmp 73) (.const (.int .i64 1)) c (.int .i64 1))) λd=>opt (vd a) λh=>opt (zb Tryz.prog 134 h 1) λi=>opt (nb [d] (zn Tryz.prog 3 i d b)) λj=>e [] j
def t9:=λa (b:za) (R:Value->za->Prop) (g:List Value->za->Prop)=>
 opt (vd a) λc=>opt (zb Tryz.prog 108 c 4) λd=>opt (zb Tryz.prog 33 d 0) λe=>opt (nb [.int .i64 2] (zn Tryz.prog 3 e (.int .i64 2) b)) λf=>rv [] f R
def Aa:=λa (b:za) (c:List Value->za->Prop)=>
 opt (vd a) λd=>opt (zb Tryz.prog 108 d 4) λe=>opt (zb Tryz.prog 33 e 0) λf=>opt (nb [.int .i64 3] (zn Tryz.prog 3 f (.int .i64 3) b)) λg=>c [] g
def Ab:=λa b k (l:List Value->za->Prop) (B:List Value) (c:za)=>
 opt (vd a) λm=>opt (zb Tryz.prog 108 m 4) λn=>opt (zb Tryz.prog 33 n 4) λo=>opt (zd Tryz.prog 3 o c) λd=>opt (nb [d,.int .i64 1] (ze Tryz.prog .add 3 (.tmp 92) (.const (.int .i64 1)) d (.int .i64 1))) λe=>opt (vd a) λp=>opt (zb Tryz.prog 108 p 4) λq=>opt (zb Tryz.prog 33 q 4) λr=>opt (nb [e] (zn Tryz.prog 3 r e c)) λf=>opt (vd b) λs=>opt (zb Tryz.prog 134 s 1) λt=>opt (zd Tryz.prog 3 t f) λg=>opt (nb [g,.int .i64 1] (ze Tryz.prog .add 3 (.tmp 100) (.const (.int .i64 1)) g (.int .i64 1))) λh=>opt (vd b) λu=>opt (zb Tryz.prog 134 u 1) λv=>opt (nb [h] (zn Tryz.prog 3 v h f)) λi=>opt (zd Tryz.prog 50 k i) λw=>zR Tryz.prog (.func (.func 66) #[] #[]) [a,b,w] i (λx j=>opt (dH Tryz.prog .not x) λy=>CD y (Aa a j)
 (λz=>z [] j)
 (λC A=>l [] A))
def hU:=λa c (R:Value->za->Prop) e f (g:List Value->za->Prop) (m:List Value) (b:za)=>
 opt (vd a) λh=>opt (zb Tryz.prog 108 h 4) λi=>opt (zb Tryz.prog 33 i 4) λj=>opt (zd Tryz.prog 3 j b) λd=>opt (nb [d,c] (ze Tryz.prog .eql 3 (.tmp 81) (.tmp 82) d c)) λk=>CD k (t9 a b R)
 (λl=>l [] b)
 (Ab a e f g)
def aH:=λb c (d:List Value->za->Prop) g h (R:Value->za->Prop) i j (e:za)=>
 GD b true (λk=>opt (dH Tryz.prog .not j) λa=>k a e) (λa f=>opt (pk b a (.bool false)) λl=>CD l (t8 c f d)
 (λm=>m [] f)
 (hU g h R c i d)) e
def Ad:=λd h i (j:List Value->za->Prop) k l (R:Value->za->Prop) (u:List Value) (a:za)=>
 opt (vd d) λm=>opt (zb Tryz.prog 134 m 1) λn=>opt (zd Tryz.prog 3 n a) λo=>opt (zA Tryz.prog 45 h o) λp=>opt (zd Tryz.prog 50 p a) λe=>opt (wD Tryz.prog 50) λq=>nw a (Value.cells q).toList 50 λb r=>opt (nb [e] (zn Tryz.prog 50 b e r)) λc=>opt (zb Tryz.prog 50 b 0) λs=>opt (zd Tryz.prog 3 s c) λf=>opt (nb [f,.int .i64 20] (ze Tryz.prog .eql 3 (.tmp 64) (.const (.int .i64 20)) f (.int .i64 20))) λg=>GD g true (λt=>t i c) (aH g d j k l R b) c
def Ae:=λb (a:za) (R:Value->za->Prop) j k (l:List Value->za->Prop)=>
 opt (vd b) λm=>opt (zb Tryz.prog 108 m 6) λn=>opt (zd Tryz.prog 106 n a) λo=>opt (vd b) λp=>opt (zb Tryz.prog 108 p 6) λq=>opt (zd Tryz.prog 106 q a) λe=>xK (nb [e] (zk Tryz.prog .len [106] 3 [e] a)) λf _=>opt (nb [f,.int .i64 1] (ze Tryz.prog .sub 3 (.tmp 30) (.const (.int .i64 1)) f (.int .i64 1))) λr=>opt (zA Tryz.prog 106 o r) λc=>opt (vd b) λs=>opt (zb Tryz.prog 108 s 0) λt=>opt (zb Tryz.prog 25 t 1) λu=>opt (zd Tryz.prog 23 u a) λv=>opt (vd c) λw=>opt (zb Tryz.prog 134 w 0) λx=>opt (zd Tryz.prog 3 x a) λy=>opt (zA Tryz.prog 23 v y) λz=>opt (zb Tryz.prog 47 z 1) λA=>opt (zd Tryz.prog 45 A a) λd=>opt (vd c) λB=>opt (zb Tryz.prog 134 B 1) λC=>opt (zd Tryz.prog 3 C a) λg=>xK (nb [d] (zk Tryz.prog .len [45] 3 [d] a)) λh i=>opt (nb [g,h] (ze Tryz.prog .eql 3 (.tmp 48) (.tmp 50) g h)) λD=>CD D (t7 b i R)
 (λE=>E [] i)
 (Ad c d j l b k R)
def cY:=λb (e:List Value->za->Prop) (R:Value->za->Prop) f g (o:List Value) (a:za) (h:List Value->za->Prop)=>
 opt (vd b) λi=>opt (zb Tryz.prog 108 i 4) λj=>opt (zb Tryz.prog 33 j 0) λk=>opt (zd Tryz.prog 3 k a) λc=>opt (nb [c,.int .i64 0] (ze Tryz.prog .eql 3 (.tmp 20) (.const (.int .i64 0)) c (.int .i64 0))) λl=>CD l (λd=>d [] a)
 (λd=>e [] a)
 (λp m=>BK (Ae b m R f g)
 (λq n=>h [] n))
def CJ:=λ(h:za) a b c (R:Value->za->Prop)=>
 opt (vd a) λd=>opt (zb Tryz.prog 108 d 0) λe=>opt (zb Tryz.prog 25 e 2) λf=>opt (zd Tryz.prog 3 f h) λg=>zR Tryz.prog (.func (.func 65) #[] #[]) [a,g] h (λl i=>BK (λj=>LP (cY a j R c b)
 [] i)
 (λm k=>rv [] k R))
theorem FK(h:za)(t0 t1 t2:Value)(R:Value->za->Prop):Vz Tryz.prog (uI Tryz.prog qs) 200 39 [t0,t1,t2] h R=CJ h t0 t1 t2 R:=by kernel_rfl
theorem FL{h:za}{t0 t1 t2:Value}{R:Value->za->Prop}(hw:CJ h t0 t1 t2 R):DC Tryz.prog 39 [t0,t1,t2] h R:=yT mixed (n:=200) (by rw[FK];exact hw)
def Af:=λb c (d:za) (e:List Value->za->Prop) a=>
 opt (vd b) λf=>opt (zb Tryz.prog 108 f 7) λg=>opt (zA Tryz.prog 65 g c) λh=>opt (nb [a] (zn Tryz.prog 64 h a d)) λi=>e [.bool false] i
def Ag:=λb c (d:za) (e:List Value->za->Prop) a=>
 opt (vd b) λf=>opt (zb Tryz.prog 108 f 7) λg=>opt (zA Tryz.prog 65 g c) λh=>opt (nb [a] (zn Tryz.prog 64 h a d)) λi=>e [.bool false] i
def hZ:=λb d e f g (R:Value->za->Prop) h (c:za)=>
 GD b true (λi=>Xa Tryz.prog 86 [d,e,f,g,h] c (λa j=>i a j)) (λa k=>opt (pk b a (.bool false)) λl=>rv [l] k R) c
def ic:=λa f g h i (R:Value->za->Prop) d (e:za)=>
 GD a true (λj=>opt (nb [d,.int .i64 63] (ze Tryz.prog .and 2 (.tmp 175) (.const (.int .i64 63)) d (.int .i64 63))) λb=>j b e) (λb c=>GD a true (λk=>Z4 Tryz.prog 64 [b] c (λl=>k l c)) (hZ a f g h i R) c) e
def ie:=λa e f g h (R:Value->za->Prop) i (d:za)=>
 GD a true (λj=>opt (zb Tryz.prog 64 e 1) λb=>j b d) (λb c=>GD a true (λk=>opt (zd Tryz.prog 2 b c) λl=>k l c) (ic a f g h i R) c) d
def ig:=λa e f g h i (R:Value->za->Prop) j (d:za)=>
 GD a true (λk=>opt (zA Tryz.prog 65 j e) λb=>k b d) (λb c=>GD a true (λl=>opt (zd Tryz.prog 64 b c) λm=>l m c) (ie a f g h i R) c) d
def ij:=λa e f g h i (R:Value->za->Prop) j (c:za)=>
 GD a true (λk=>opt (vd e) λb=>k b c) (λb d=>GD a true (λl=>opt (zb Tryz.prog 108 b 7) λm=>l m d) (ig a j f g h i R) d) c
def ik:=λa e f g h i (R:Value->za->Prop) j (d:za)=>
 GD a true (λk=>opt (zb Tryz.prog 50 e 1) λb=>k b d) (λb c=>GD a true (λl=>opt (zd Tryz.prog 3 b c) λm=>l m c) (ij a j f g h i R) c) d
def il:=λa e f g h i (R:Value->za->Prop) j (b:za)=>
 GD a true (λk=>opt (zd Tryz.prog 3 j b) λc=>k c b) (λc d=>GD a true (λl=>l e d) (ik a f g h i c R) d) b
def cZ:=λa d f g h (R:Value->za->Prop) i (b:za)=>
 GD a true (λj=>opt (zd Tryz.prog 3 i b) λc=>j c b) (λc e=>GD a true (λk=>opt (zb Tryz.prog 50 d 1) λl=>k l e) (il a f d g h c R) e) b
def nT:=λa (e:za) (R:Value->za->Prop) b=>
 opt (vd a) λf=>opt (zb Tryz.prog 108 f 7) λg=>opt (zA Tryz.prog 65 g (.int .i64 2)) λh=>opt (nb [b] (zn Tryz.prog 64 h b e)) λc=>opt (vd a) λi=>opt (zb Tryz.prog 108 i 7) λj=>opt (zA Tryz.prog 65 j (.int .i64 0)) λk=>opt (zb Tryz.prog 64 k 0) λl=>opt (zd Tryz.prog 3 l c) λd=>opt (nb [d,.int .i64 1] (ze Tryz.prog .eql 3 (.tmp 197) (.const (.int .i64 1)) d (.int .i64 1))) λm=>rv [m] c R
def nU:=λa (d:za) b (e:List Value->za->Prop) c=>
 opt (vd a) λf=>opt (zb Tryz.prog 108 f 8) λg=>opt (nb [.bool true] (zn Tryz.prog 4 g (.bool true) d)) λh=>opt (vd a) λi=>opt (zb Tryz.prog 108 i 9) λj=>opt (nb [b] (zn Tryz.prog 64 j b h)) λk=>opt (vd a) λl=>opt (zb Tryz.prog 108 l 10) λm=>opt (nb [c] (zn Tryz.prog 64 m c k)) λn=>e [.bool false] n
def dk:=λb d e f g (R:Value->za->Prop) h (c:za)=>
 GD b true (λi=>Xa Tryz.prog 86 [d,e,f,g,h] c (λa j=>i a j)) (λa k=>opt (pk b a (.bool false)) λl=>rv [l] k R) c
def dm:=λa e f g h (R:Value->za->Prop) i (d:za)=>
 GD a true (λj=>opt (zb Tryz.prog 108 i 10) λb=>j b d) (λb c=>GD a true (λk=>opt (zd Tryz.prog 64 b c) λl=>k l c) (dk a e f g h R) c) d
def dp:=λa d e f g (R:Value->za->Prop) h (b:za)=>
 GD a true (λi=>i d b) (λj c=>GD a true (λk=>opt (vd j) λl=>k l c) (dm a e f g h R) c) b
def dq:=λa e f g h (R:Value->za->Prop) i (d:za)=>
 GD a true (λj=>opt (zb Tryz.prog 108 i 9) λb=>j b d) (λb c=>GD a true (λk=>opt (zd Tryz.prog 64 b c) λl=>k l c) (dp a e f g h R) c) d
def dr:=λa b e f (R:Value->za->Prop) g (c:za)=>
 GD a true (λh=>h b c) (λi d=>GD a true (λj=>opt (vd i) λk=>j k d) (dq a b e f g R) d) c
def dt:=λa e f g (R:Value->za->Prop) h (d:za)=>
 GD a true (λi=>opt (zb Tryz.prog 50 e 1) λb=>i b d) (λb c=>GD a true (λj=>opt (zd Tryz.prog 3 b c) λk=>j k c) (dr a f g h R) c) d
def du:=λa d f (R:Value->za->Prop) g (e:za)=>
 GD a true (λh=>opt (zb Tryz.prog 50 d 4) λb=>h b e) (λb c=>GD a true (λi=>opt (zd Tryz.prog 3 b c) λj=>i j c) (dt a d f g R) c) e
def nV:=λf (a:za) b g (h:List Value->za->Prop)=>
 opt (vd f) λi=>opt (zb Tryz.prog 108 i 1) λj=>opt (zd Tryz.prog 103 j a) λk=>opt (vd b) λl=>opt (zb Tryz.prog 134 l 0) λm=>opt (zd Tryz.prog 3 m a) λn=>opt (zA Tryz.prog 103 k n) λo=>opt (zd Tryz.prog 129 o a) λc=>opt (zb Tryz.prog 50 g 5) λp=>opt (zd Tryz.prog 3 p a) λd=>opt (nb [c,d] (Ym Tryz.prog 129 c d false a)) λe=>opt (vd b) λq=>opt (zb Tryz.prog 134 q 1) λr=>opt (nb [e] (zn Tryz.prog 3 r e a)) λs=>h [] s
def dv:=λc d e f (g:List Value->za->Prop) h (m:Value) (a:za)=>
 opt (zb Tryz.prog 64 c 1) λi=>opt (zd Tryz.prog 2 i a) λb=>opt (nb [b,.int .i64 0] (ze Tryz.prog .neq 2 (.tmp 326) (.const (.int .i64 0)) b (.int .i64 0))) λj=>CD j (nV d a e f)
 (λk=>k [] a)
 (λn l=>g [nth h 0] l)
def nW:=λa b d e (f:List Value->za->Prop) g (c:za)=>
 opt (zb Tryz.prog 64 a 1) λh=>opt (zd Tryz.prog 2 h c) λi=>zR Tryz.prog (.func (.func 92) #[] #[]) [b,.int .i64 1,i,.int .i64 0] c (dv a b d e f g)
def KE:=λc (R:Value->za->Prop) d e f g (h:List Value->za->Prop) i (a:za)=>
 opt (pk c (.bool true) i) λj=>CD j (λb=>rv [.bool false] a R)
 (λb=>b [.bool false] a)
 (nW d e f g h)
def KF:=λa (R:Value->za->Prop) e f g h (i:List Value->za->Prop) j (b:za)=>
 GD a false (λk=>opt (zd Tryz.prog 4 j b) λc=>k c b) (λc d=>GD a false (λl=>opt (dH Tryz.prog .not c) λm=>l m d) (KE a R e f g h i) d) b
def KG:=λa (R:Value->za->Prop) e f g h (i:List Value->za->Prop) j (c:za)=>
 GD a false (λk=>opt (vd j) λb=>k b c) (λb d=>GD a false (λl=>opt (zb Tryz.prog 108 b 8) λm=>l m d) (KF a R e f g h i) d) c
def nX:=λ(g:za) a (R:Value->za->Prop) h i (j:List Value->za->Prop) b=>
 opt (WM b 0) λc=>opt (WM b 1) λk=>opt (wD Tryz.prog 64) λl=>nw g (Value.cells l).toList 64 λd m=>opt (nb [c] (zn Tryz.prog 64 d c m)) λe=>opt (dH Tryz.prog .not k) λf=>GD f false (λn=>n a e) (KG f R d a h i j) e
def nY:=λb c (d:List Value->za->Prop) (h:Value) (a:za)=>
 opt (zb Tryz.prog 50 b 3) λe=>opt (zd Tryz.prog 3 e a) λf=>zR Tryz.prog (.func (.func 65) #[] #[]) [c,f] a (λi g=>d [.bool false] g)
def nZ:=λb (c:za) (d:List Value->za->Prop) a=>
 opt (vd b) λe=>opt (zb Tryz.prog 108 e 7) λf=>opt (zA Tryz.prog 65 f (.int .i64 0)) λg=>opt (nb [a] (zn Tryz.prog 64 g a c)) λh=>d [.bool false] h
def n5:=λa (c:List Value->za->Prop) d (b:za)=>
 opt (vd a) λe=>opt (zb Tryz.prog 108 e 7) λf=>opt (zA Tryz.prog 65 f (.int .i64 0)) λg=>opt (zb Tryz.prog 64 g 1) λh=>opt (zd Tryz.prog 2 h b) λi=>zR Tryz.prog (.func (.func 96) #[] #[]) [a,.int .i64 2,i] b (λk j=>c [nth d 0] j)
def dw:=λb (a:za) (R:Value->za->Prop) (e:List Value->za->Prop)=>
 opt (vd b) λf=>opt (zb Tryz.prog 108 f 7) λg=>opt (zA Tryz.prog 65 g (.int .i64 0)) λh=>opt (zb Tryz.prog 64 h 0) λi=>opt (zd Tryz.prog 3 i a) λc=>opt (nb [c,.int .i64 1] (ze Tryz.prog .neq 3 (.tmp 392) (.const (.int .i64 1)) c (.int .i64 1))) λj=>CD j (λd=>rv [.bool false] a R)
 (λd=>d [.bool false] a)
 (n5 b e)
def n6:=λa (b:za) (e:List Value->za->Prop)=>
 opt (vd a) λf=>opt (zb Tryz.prog 108 f 3) λg=>opt (zd Tryz.prog 105 g b) λh=>zR Tryz.prog (.func (.func 95) #[] #[]) [h] b (λc i=>zR Tryz.prog (.func (.func 96) #[] #[]) [a,.int .i64 1,c] i (λj d=>Z4 Tryz.prog 64 [c] d (nZ a d e)))
def KH:=λa c (b:za) (R:Value->za->Prop) (d:List Value->za->Prop)=>
 opt (nb [a,.int .i64 26] (ze Tryz.prog .eql 3 (.tmp 12) (.const (.int .i64 26)) a (.int .i64 26))) λe=>CD e (dw c b R)
 (λf=>f [.bool false] b)
 (λg h=>d [nth g 0] h)
def Uj:=λa b (c:za) (R:Value->za->Prop) (d:List Value->za->Prop)=>
 opt (nb [a,.int .i64 25] (ze Tryz.prog .eql 3 (.tmp 12) (.const (.int .i64 25)) a (.int .i64 25))) λe=>CD e (n6 b c)
 (KH a b c R)
 (λf g=>d [nth f 0] g)
def Xw:=λc b d (R:Value->za->Prop) e (f:List Value->za->Prop) g (a:za)=>
 CD (nth g 0) (λm=>opt (zd Tryz.prog 50 c a) λh=>zR Tryz.prog (.func (.func 94) #[] #[]) [b,d,h] a (λi j=>rv [i] j R))
 (Uj e b a R)
 (λk l=>f [nth k 0] l)
def Xx:=λa (c:za) e f g (R:Value->za->Prop) (h:List Value->za->Prop)=>
 opt (nb [a,.int .i64 23] (ze Tryz.prog .eql 3 (.tmp 12) (.const (.int .i64 23)) a (.int .i64 23))) λd=>CD d (λb=>b [d] c)
 (λb=>opt (nb [a,.int .i64 24] (ze Tryz.prog .eql 3 (.tmp 12) (.const (.int .i64 24)) a (.int .i64 24))) λi=>b [i] c)
 (Xw e f g R a h)
def n7:=λa (d:za) b (e:List Value->za->Prop)=>
 opt (vd a) λf=>opt (zb Tryz.prog 108 f 8) λg=>opt (nb [.bool false] (zn Tryz.prog 4 g (.bool false) d)) λc=>opt (zb Tryz.prog 50 b 3) λh=>opt (zd Tryz.prog 3 h c) λi=>zR Tryz.prog (.func (.func 92) #[] #[]) [a,.int .i64 4,i,.int .i64 0] c (nY b a e)
def YO:=λa b c (d:za) (R:Value->za->Prop) e (f:List Value->za->Prop)=>
 opt (nb [a,.int .i64 22] (ze Tryz.prog .eql 3 (.tmp 12) (.const (.int .i64 22)) a (.int .i64 22))) λg=>CD g (λl=>zR Tryz.prog (.func (.func 93) #[] #[]) [b,c] d (λh i=>rv [h] i R))
 (Xx a d e b c R)
 (λj k=>f [nth j 0] k)
def n9:=λc (a:za) b (R:Value->za->Prop) d (e:List Value->za->Prop)=>
 opt (zb Tryz.prog 50 c 4) λf=>opt (zd Tryz.prog 3 f a) λg=>opt (vd b) λh=>opt (zb Tryz.prog 108 h 9) λi=>opt (zd Tryz.prog 64 i a) λj=>opt (vd b) λk=>opt (zb Tryz.prog 108 k 10) λl=>opt (zd Tryz.prog 64 l a) λm=>Z4 Tryz.prog 91 [g,j,m] a (nX a b R d c e)
def ZW:=λa b (c:za) d e (R:Value->za->Prop) (f:List Value->za->Prop)=>
 opt (nb [a,.int .i64 21] (ze Tryz.prog .eql 3 (.tmp 12) (.const (.int .i64 21)) a (.int .i64 21))) λg=>CD g (n7 b c d)
 (YO a b e c R d)
 (λh i=>f [nth h 0] i)
def oa:=λf (a:za) b g (h:List Value->za->Prop)=>
 opt (vd f) λi=>opt (zb Tryz.prog 108 i 1) λj=>opt (zd Tryz.prog 103 j a) λk=>opt (vd b) λl=>opt (zb Tryz.prog 134 l 0) λm=>opt (zd Tryz.prog 3 m a) λn=>opt (zA Tryz.prog 103 k n) λo=>opt (zd Tryz.prog 129 o a) λc=>opt (zb Tryz.prog 50 g 5) λp=>opt (zd Tryz.prog 3 p a) λd=>opt (nb [c,d] (Ym Tryz.prog 129 c d false a)) λe=>opt (vd b) λq=>opt (zb Tryz.prog 134 q 1) λr=>opt (nb [e] (zn Tryz.prog 3 r e a)) λs=>h [.bool false] s
def Zh:=λa b (c:za) d (R:Value->za->Prop) e (f:List Value->za->Prop)=>
 opt (nb [a,.int .i64 19] (ze Tryz.prog .eql 3 (.tmp 12) (.const (.int .i64 19)) a (.int .i64 19))) λg=>CD g (n9 b c d R e)
 (ZW a d c b e R)
 (λh i=>f [nth h 0] i)
def dx:=λa (b:za) d (R:Value->za->Prop) (h:List Value->za->Prop)=>
 opt (vd a) λe=>opt (zb Tryz.prog 108 e 8) λf=>opt (zd Tryz.prog 4 f b) λc=>GD c true (λg=>g a b) (du c d a R) b
def jr:=λa b (c:za) d e (R:Value->za->Prop) (f:List Value->za->Prop)=>
 opt (nb [a,.int .i64 18] (ze Tryz.prog .eql 3 (.tmp 12) (.const (.int .i64 18)) a (.int .i64 18))) λg=>CD g (oa b c d e)
 (Zh a e c b R d)
 (λh i=>f [nth h 0] i)
def oc:=λb (a:za) c (d:List Value->za->Prop)=>
 opt (zb Tryz.prog 50 b 1) λe=>opt (zd Tryz.prog 3 e a) λf=>opt (vd c) λg=>opt (zb Tryz.prog 108 g 7) λh=>opt (zA Tryz.prog 65 h f) λi=>opt (zd Tryz.prog 64 i a) λj=>opt (zb Tryz.prog 50 b 6) λk=>opt (zd Tryz.prog 2 k a) λl=>Z4 Tryz.prog 64 [l] a (nU c a j d)
def qY:=λa b (c:za) d (R:Value->za->Prop) e (f:List Value->za->Prop)=>
 opt (nb [a,.int .i64 17] (ze Tryz.prog .eql 3 (.tmp 12) (.const (.int .i64 17)) a (.int .i64 17))) λg=>CD g (dx b c d R)
 (jr a b c e d R)
 (λh i=>f [nth h 0] i)
def od:=λc (a:za) b (f:List Value->za->Prop)=>
 opt (zb Tryz.prog 50 c 1) λg=>opt (zd Tryz.prog 3 g a) λh=>opt (vd b) λi=>opt (zb Tryz.prog 108 i 7) λj=>opt (zA Tryz.prog 65 j h) λk=>opt (zd Tryz.prog 64 k a) λd=>opt (zb Tryz.prog 50 c 2) λl=>opt (zd Tryz.prog 3 l a) λm=>opt (vd b) λn=>opt (zb Tryz.prog 108 n 7) λo=>opt (zA Tryz.prog 65 o m) λp=>opt (zd Tryz.prog 64 p a) λe=>opt (vd b) λq=>opt (zb Tryz.prog 108 q 8) λr=>opt (nb [.bool true] (zn Tryz.prog 4 r (.bool true) a)) λs=>opt (vd b) λt=>opt (zb Tryz.prog 108 t 9) λu=>opt (nb [d] (zn Tryz.prog 64 u d s)) λv=>opt (vd b) λw=>opt (zb Tryz.prog 108 w 10) λx=>opt (nb [e] (zn Tryz.prog 64 x e v)) λy=>f [.bool false] y
def qD:=λa b (c:za) d (R:Value->za->Prop) e (f:List Value->za->Prop)=>
 opt (nb [a,.int .i64 16] (ze Tryz.prog .eql 3 (.tmp 12) (.const (.int .i64 16)) a (.int .i64 16))) λg=>CD g (oc b c d)
 (qY a d c b R e)
 (λh i=>f [nth h 0] i)
def oe:=λc (a:za) b (R:Value->za->Prop) (l:List Value->za->Prop)=>
 opt (zb Tryz.prog 50 c 2) λd=>opt (zd Tryz.prog 3 d a) λe=>opt (vd b) λf=>opt (zb Tryz.prog 108 f 7) λg=>opt (zA Tryz.prog 65 g e) λh=>opt (zd Tryz.prog 64 h a) λi=>Xa Tryz.prog 90 [b,i] a (λj k=>rv [j] k R)
def qe:=λa b (c:za) d (R:Value->za->Prop) e (f:List Value->za->Prop)=>
 opt (nb [a,.int .i64 15] (ze Tryz.prog .eql 3 (.tmp 12) (.const (.int .i64 15)) a (.int .i64 15))) λg=>CD g (od b c d)
 (qD a b c d R e)
 (λh i=>f [nth h 0] i)
def og:=λb (a:za) (R:Value->za->Prop) (g:List Value->za->Prop)=>
 opt (vd b) λc=>opt (zb Tryz.prog 108 c 7) λd=>opt (zA Tryz.prog 65 d (.int .i64 0)) λe=>opt (zd Tryz.prog 64 e a) λf=>Z4 Tryz.prog 89 [f] a (nT b a R)
def uZ:=λa b (c:za) d (R:Value->za->Prop) e (f:List Value->za->Prop)=>
 opt (nb [a,.int .i64 14] (ze Tryz.prog .eql 3 (.tmp 12) (.const (.int .i64 14)) a (.int .i64 14))) λg=>CD g (oe b c d R)
 (qe a b c d R e)
 (λh i=>f [nth h 0] i)
def oh:=λa (e:za) f (R:Value->za->Prop) (t:List Value->za->Prop)=>
 opt (vd a) λj=>opt (zb Tryz.prog 108 j 7) λk=>opt (zA Tryz.prog 65 k (.int .i64 1)) λl=>opt (zd Tryz.prog 64 l e) λg=>opt (wD Tryz.prog 64) λm=>nw e (Value.cells m).toList 64 λb n=>opt (nb [g] (zn Tryz.prog 64 b g n)) λc=>opt (zb Tryz.prog 64 b 0) λo=>opt (zd Tryz.prog 3 o c) λh=>opt (nb [h,.int .i64 1] (ze Tryz.prog .eql 3 (.tmp 159) (.const (.int .i64 1)) h (.int .i64 1))) λd=>GD d true (λp=>p a c) (λq i=>GD d true (λr=>opt (zb Tryz.prog 50 f 3) λs=>r s i) (cZ d f a b q R) i) c
def uE:=λa b (c:za) (R:Value->za->Prop) d e (f:List Value->za->Prop)=>
 opt (nb [a,.int .i64 13] (ze Tryz.prog .eql 3 (.tmp 12) (.const (.int .i64 13)) a (.int .i64 13))) λg=>CD g (og b c R)
 (uZ a d c b R e)
 (λh i=>f [nth h 0] i)
def oj:=λb (a:za) c (R:Value->za->Prop) (p:List Value->za->Prop)=>
 opt (zb Tryz.prog 50 b 3) λd=>opt (zd Tryz.prog 3 d a) λe=>opt (zb Tryz.prog 50 b 1) λf=>opt (zd Tryz.prog 3 f a) λg=>opt (zb Tryz.prog 50 b 2) λh=>opt (zd Tryz.prog 3 h a) λi=>opt (vd c) λj=>opt (zb Tryz.prog 108 j 7) λk=>opt (zA Tryz.prog 65 k i) λl=>opt (zd Tryz.prog 64 l a) λm=>Xa Tryz.prog 88 [c,e,g,m] a (λn o=>rv [n] o R)
def ud:=λa b (c:za) d (R:Value->za->Prop) e (f:List Value->za->Prop)=>
 opt (nb [a,.int .i64 12] (ze Tryz.prog .eql 3 (.tmp 12) (.const (.int .i64 12)) a (.int .i64 12))) λg=>CD g (oh b c d R)
 (uE a b c R d e)
 (λh i=>f [nth h 0] i)
def om:=λb (a:za) c (R:Value->za->Prop) (p:List Value->za->Prop)=>
 opt (zb Tryz.prog 50 b 3) λd=>opt (zd Tryz.prog 3 d a) λe=>opt (zb Tryz.prog 50 b 1) λf=>opt (zd Tryz.prog 3 f a) λg=>opt (zb Tryz.prog 50 b 1) λh=>opt (zd Tryz.prog 3 h a) λi=>opt (vd c) λj=>opt (zb Tryz.prog 108 j 7) λk=>opt (zA Tryz.prog 65 k i) λl=>opt (zd Tryz.prog 64 l a) λm=>Xa Tryz.prog 88 [c,e,g,m] a (λn o=>rv [n] o R)
def vP:=λa b (c:za) d (R:Value->za->Prop) e (f:List Value->za->Prop)=>
 opt (nb [a,.int .i64 10] (ze Tryz.prog .eql 3 (.tmp 12) (.const (.int .i64 10)) a (.int .i64 10))) λg=>CD g (oj b c d R)
 (ud a d c b R e)
 (λh i=>f [nth h 0] i)
def dy:=λb (a:za) c (R:Value->za->Prop) (s:List Value->za->Prop)=>
 opt (zb Tryz.prog 50 b 3) λd=>opt (zd Tryz.prog 3 d a) λe=>opt (zb Tryz.prog 50 b 1) λf=>opt (zd Tryz.prog 3 f a) λg=>opt (zb Tryz.prog 50 b 1) λh=>opt (zd Tryz.prog 3 h a) λi=>opt (vd c) λj=>opt (zb Tryz.prog 108 j 7) λk=>opt (zA Tryz.prog 65 k i) λl=>opt (zd Tryz.prog 64 l a) λm=>opt (zb Tryz.prog 50 b 6) λn=>opt (zd Tryz.prog 2 n a) λo=>Z4 Tryz.prog 64 [o] a (λp=>Xa Tryz.prog 86 [c,e,g,m,p] a (λq r=>rv [q] r R))
def vF:=λa b (c:za) d (R:Value->za->Prop) e (f:List Value->za->Prop)=>
 opt (nb [a,.int .i64 9] (ze Tryz.prog .eql 3 (.tmp 12) (.const (.int .i64 9)) a (.int .i64 9))) λg=>CD g (om b c d R)
 (vP a b c d R e)
 (λh i=>f [nth h 0] i)
def oq:=λb (a:za) c (R:Value->za->Prop) (v:List Value->za->Prop)=>
 opt (zb Tryz.prog 50 b 3) λd=>opt (zd Tryz.prog 3 d a) λe=>opt (zb Tryz.prog 50 b 1) λf=>opt (zd Tryz.prog 3 f a) λg=>opt (zb Tryz.prog 50 b 1) λh=>opt (zd Tryz.prog 3 h a) λi=>opt (vd c) λj=>opt (zb Tryz.prog 108 j 7) λk=>opt (zA Tryz.prog 65 k i) λl=>opt (zd Tryz.prog 64 l a) λm=>opt (zb Tryz.prog 50 b 2) λn=>opt (zd Tryz.prog 3 n a) λo=>opt (vd c) λp=>opt (zb Tryz.prog 108 p 7) λq=>opt (zA Tryz.prog 65 q o) λr=>opt (zd Tryz.prog 64 r a) λs=>Xa Tryz.prog 86 [c,e,g,m,s] a (λt u=>rv [t] u R)
def vf:=λa (c:za) d e (R:Value->za->Prop) h (i:List Value->za->Prop)=>
 opt (nb [a,.int .i64 8] (ze Tryz.prog .eql 3 (.tmp 12) (.const (.int .i64 8)) a (.int .i64 8))) λf=>CD f (λb=>b [f] c)
 (λb=>opt (nb [a,.int .i64 11] (ze Tryz.prog .eql 3 (.tmp 12) (.const (.int .i64 11)) a (.int .i64 11))) λj=>b [j] c)
 (λk g=>CD (nth k 0) (dy d g e R)
 (vF a d g e R h)
 (λl m=>i [nth l 0] m))
def ot:=λb (a:za) c (d:List Value->za->Prop)=>
 opt (zb Tryz.prog 50 b 1) λe=>opt (zd Tryz.prog 3 e a) λf=>opt (vd c) λg=>opt (zb Tryz.prog 108 g 5) λh=>opt (zd Tryz.prog 22 h a) λi=>opt (zb Tryz.prog 50 b 3) λj=>opt (zd Tryz.prog 3 j a) λk=>opt (zA Tryz.prog 22 i k) λl=>opt (zd Tryz.prog 3 l a) λm=>opt (zb Tryz.prog 50 b 6) λn=>opt (zd Tryz.prog 2 n a) λo=>Z4 Tryz.prog 87 [m,o] a (Ag c f a d)
def w6:=λa b (c:za) d (R:Value->za->Prop) e (f:List Value->za->Prop)=>
 opt (nb [a,.int .i64 7] (ze Tryz.prog .eql 3 (.tmp 12) (.const (.int .i64 7)) a (.int .i64 7))) λg=>CD g (oq b c d R)
 (vf a c b d R e)
 (λh i=>f [nth h 0] i)
def ou:=λb (a:za) c (R:Value->za->Prop) (q:List Value->za->Prop)=>
 opt (zb Tryz.prog 50 b 1) λd=>opt (zd Tryz.prog 3 d a) λe=>opt (zb Tryz.prog 50 b 2) λf=>opt (zd Tryz.prog 3 f a) λg=>opt (vd c) λh=>opt (zb Tryz.prog 108 h 7) λi=>opt (zA Tryz.prog 65 i g) λj=>opt (zd Tryz.prog 64 j a) λk=>opt (zb Tryz.prog 50 b 6) λl=>opt (zd Tryz.prog 2 l a) λm=>Z4 Tryz.prog 64 [m] a (λn=>Xa Tryz.prog 86 [c,.int .i64 11,e,k,n] a (λo p=>rv [o] p R))
def wY:=λa b (c:za) d (R:Value->za->Prop) e (f:List Value->za->Prop)=>
 opt (nb [a,.int .i64 6] (ze Tryz.prog .eql 3 (.tmp 12) (.const (.int .i64 6)) a (.int .i64 6))) λg=>CD g (ot b c d)
 (w6 a b c d R e)
 (λh i=>f [nth h 0] i)
def wG:=λa b (c:za) d (R:Value->za->Prop) e (f:List Value->za->Prop)=>
 opt (nb [a,.int .i64 5] (ze Tryz.prog .eql 3 (.tmp 12) (.const (.int .i64 5)) a (.int .i64 5))) λg=>CD g (ou b c d R)
 (wY a b c d R e)
 (λh i=>f [nth h 0] i)
def wg:=λb c (R:Value->za->Prop) d e (f:List Value->za->Prop) g (a:za)=>
 CD (nth g 0) (λm=>opt (zd Tryz.prog 50 b a) λh=>zR Tryz.prog (.func (.func 85) #[] #[]) [c,h] a (λi j=>rv [i] j R))
 (wG d b a c R e)
 (λk l=>f [nth k 0] l)
def ov:=λb (a:za) c (d:List Value->za->Prop)=>
 opt (zb Tryz.prog 50 b 1) λe=>opt (zd Tryz.prog 3 e a) λf=>opt (zb Tryz.prog 50 b 6) λg=>opt (zd Tryz.prog 2 g a) λh=>Z4 Tryz.prog 64 [h] a (Af c f a d)
def wh:=λa (c:za) e f (R:Value->za->Prop) g (h:List Value->za->Prop)=>
 opt (nb [a,.int .i64 3] (ze Tryz.prog .eql 3 (.tmp 12) (.const (.int .i64 3)) a (.int .i64 3))) λd=>CD d (λb=>b [d] c)
 (λb=>opt (nb [a,.int .i64 4] (ze Tryz.prog .eql 3 (.tmp 12) (.const (.int .i64 4)) a (.int .i64 4))) λi=>b [i] c)
 (wg e f R a g h)
def ow:=λb (a:za) c (e:List Value->za->Prop)=>
 opt (zb Tryz.prog 50 b 1) λf=>opt (zd Tryz.prog 3 f a) λg=>opt (zb Tryz.prog 50 b 2) λh=>opt (zd Tryz.prog 3 h a) λi=>opt (vd c) λj=>opt (zb Tryz.prog 108 j 7) λk=>opt (zA Tryz.prog 65 k i) λl=>opt (zd Tryz.prog 64 l a) λd=>opt (vd c) λm=>opt (zb Tryz.prog 108 m 7) λn=>opt (zA Tryz.prog 65 n g) λo=>opt (nb [d] (zn Tryz.prog 64 o d a)) λp=>e [.bool false] p
def xP:=λa b (c:za) d (R:Value->za->Prop) e (f:List Value->za->Prop)=>
 opt (nb [a,.int .i64 2] (ze Tryz.prog .eql 3 (.tmp 12) (.const (.int .i64 2)) a (.int .i64 2))) λg=>CD g (ov b c d)
 (wh a c b d R e)
 (λh i=>f [nth h 0] i)
def xx:=λa b (c:za) d (R:Value->za->Prop) e (f:List Value->za->Prop)=>
 opt (nb [a,.int .i64 1] (ze Tryz.prog .eql 3 (.tmp 12) (.const (.int .i64 1)) a (.int .i64 1))) λg=>CD g (ow b c d)
 (xP a b c d R e)
 (λh i=>f [nth h 0] i)
def u2:=λ(h:za) d e a (R:Value->za->Prop)=>
 opt (nb [a] (some (Value.cells a).toList)) λf=>nw h f 50 λb c=>opt (zb Tryz.prog 50 b 0) λg=>opt (zd Tryz.prog 3 g c) λi=>BK (xx i b c d R e)
 (λk j=>rv [.bool true] j R)
theorem FP(h:za)(t0 t1 t2:Value)(R:Value->za->Prop):Vz Tryz.prog (uI Tryz.prog qs) 200 66 [t0,t1,t2] h R=u2 h t0 t1 t2 R:=by kernel_rfl
theorem wz{h:za}{t0 t1 t2:Value}{R:Value->za->Prop}(hw:u2 h t0 t1 t2 R):DC Tryz.prog 66 [t0,t1,t2] h R:=yT mixed (n:=200) (by rw[FP];exact hw)
def nq:=λa (b:za) c (h:List Value->za->Prop)=>
 opt (vd a) λi=>opt (zb Tryz.prog 108 i 6) λj=>opt (zd Tryz.prog 106 j b) λd=>opt (nb [c] (yU Tryz.prog 134 [(0,c)])) λe=>xK (nb [e] (yC Tryz.prog 106 1 [(0,e)] b)) λf k=>xK (nb [d,f] (zk Tryz.prog .append [106,106] 106 [d,f] k)) λg l=>opt (vd a) λm=>opt (zb Tryz.prog 108 m 6) λn=>opt (nb [g] (zn Tryz.prog 106 n g l)) λo=>h [] o
def pX:=λ(h:za) a c (R:Value->za->Prop)=>
 zR Tryz.prog (.func (.func 84) #[] #[]) [a,.int .i64 8] h (λd b=>CD d (nq a b c)
 (λe=>e [] b)
 (λg f=>rv [] f R))
theorem Cr(h:za)(t0 t1:Value)(R:Value->za->Prop):Vz Tryz.prog (uI Tryz.prog qs) 200 65 [t0,t1] h R=pX h t0 t1 R:=by kernel_rfl
theorem Cs{h:za}{t0 t1:Value}{R:Value->za->Prop}(hw:pX h t0 t1 R):DC Tryz.prog 65 [t0,t1] h R:=yT mixed (n:=200) (by rw[Cr];exact hw)
def tX:=λa (h:za) (R:Value->za->Prop) (f:List Value->za->Prop)=>
 opt (vd a) λb=>opt (zb Tryz.prog 108 b 4) λc=>opt (zb Tryz.prog 33 c 0) λd=>opt (nb [.int .i64 4] (zn Tryz.prog 3 d (.int .i64 4) h)) λe=>rv [.bool false] e R
def tY:=λa c (R:Value->za->Prop) (u:List Value) (d:za)=>
 opt (vd a) λj=>opt (zb Tryz.prog 108 j 11) λk=>opt (zd Tryz.prog 3 k d) λe=>opt (nb [e,c] (ze Tryz.prog .add 3 (.tmp 23) (.tmp 24) e c)) λf=>opt (vd a) λl=>opt (zb Tryz.prog 108 l 11) λm=>opt (nb [f] (zn Tryz.prog 3 m f d)) λb=>opt (vd a) λn=>opt (zb Tryz.prog 108 n 13) λo=>opt (zd Tryz.prog 3 o b) λg=>opt (vd a) λp=>opt (zb Tryz.prog 108 p 11) λq=>opt (zd Tryz.prog 3 q b) λh=>xK (nb [g,h] (zk Tryz.prog .max [3,3] 3 [g,h] b)) λi _=>opt (vd a) λr=>opt (zb Tryz.prog 108 r 13) λs=>opt (nb [i] (zn Tryz.prog 3 s i b)) λt=>rv [.bool true] t R
def Cy:=λ(h:za) a b (R:Value->za->Prop)=>
 opt (vd a) λf=>opt (zb Tryz.prog 108 f 12) λg=>opt (zd Tryz.prog 3 g h) λc=>opt (vd a) λi=>opt (zb Tryz.prog 108 i 11) λj=>opt (zd Tryz.prog 3 j h) λd=>opt (nb [c,d] (ze Tryz.prog .sub 3 (.tmp 9) (.tmp 13) c d)) λe=>opt (nb [b,e] (ze Tryz.prog .gtr 3 (.tmp 5) (.tmp 14) b e)) λk=>CD k (tX a h R)
 (λl=>l [.bool false] h)
 (tY a b R)
theorem FF(h:za)(t0 t1:Value)(R:Value->za->Prop):Vz Tryz.prog (uI Tryz.prog qs) 200 84 [t0,t1] h R=Cy h t0 t1 R:=by kernel_rfl
theorem FG{h:za}{t0 t1:Value}{R:Value->za->Prop}(hw:Cy h t0 t1 R):DC Tryz.prog 84 [t0,t1] h R:=yT mixed (n:=200) (by rw[FF];exact hw)
def gy:=λb (a:za) c d (R:Value->za->Prop) (s:List Value->za->Prop)=>
 opt (vd b) λe=>opt (zb Tryz.prog 108 e 2) λf=>opt (zd Tryz.prog 104 f a) λg=>opt (zb Tryz.prog 50 c 3) λh=>opt (zd Tryz.prog 3 h a) λi=>opt (zd Tryz.prog 64 d a) λj=>opt (zb Tryz.prog 50 c 1) λk=>opt (zd Tryz.prog 3 k a) λl=>opt (vd b) λm=>opt (zb Tryz.prog 108 m 7) λn=>opt (zA Tryz.prog 65 n l) λo=>opt (zd Tryz.prog 64 o a) λp=>Xa Tryz.prog 107 [g,i,j,p] a (λq r=>rv [q] r R)
def gz:=λc d (R:Value->za->Prop) a (e:za)=>
 opt (WM a 0) λb=>opt (WM a 1) λf=>opt (vd c) λg=>opt (zb Tryz.prog 108 g 7) λh=>opt (zA Tryz.prog 65 h d) λi=>opt (nb [b] (zn Tryz.prog 64 i b e)) λj=>rv [f] j R
def gB:=λb c d (R:Value->za->Prop) (m:List Value) (a:za)=>
 opt (zb Tryz.prog 50 b 1) λe=>opt (zd Tryz.prog 3 e a) λf=>opt (vd c) λg=>opt (zb Tryz.prog 108 g 2) λh=>opt (zd Tryz.prog 104 h a) λi=>opt (zb Tryz.prog 50 b 3) λj=>opt (zd Tryz.prog 3 j a) λk=>opt (zd Tryz.prog 64 d a) λl=>iF Tryz.prog 108 [i,k,l] a (gz c f R)
def Jp:=λa c d (R:Value->za->Prop) f (j:Value) (b:za)=>
 opt (zb Tryz.prog 50 a 0) λg=>opt (zd Tryz.prog 3 g b) λe=>opt (nb [e,.int .i64 4] (ze Tryz.prog .eql 3 (.tmp 35) (.const (.int .i64 4)) e (.int .i64 4))) λh=>CD h (gy c b a d R)
 (λi=>i [nth f 0] b)
 (gB a c d R)
def gC:=λa c d (R:Value->za->Prop) e (b:za)=>
 opt (zb Tryz.prog 64 a 2) λf=>opt (zd Tryz.prog 3 f b) λg=>opt (zb Tryz.prog 64 a 1) λh=>opt (zd Tryz.prog 2 h b) λi=>zR Tryz.prog (.func (.func 92) #[] #[]) [c,.int .i64 2,g,i] b (Jp d c a R e)
def UM:=λb (R:Value->za->Prop) g h i c (d:za)=>
 GD b false (λj=>opt (nb [c,.int .i64 2] (ze Tryz.prog .neq 3 (.tmp 25) (.const (.int .i64 2)) c (.int .i64 2))) λa=>j a d) (λa e=>opt (pk b (.bool true) a) λk=>CD k (λf=>rv [.bool false] e R)
 (λf=>f [.bool false] e)
 (gC g h i R)) d
def gD:=λ(h:za) (R:Value->za->Prop) i j e=>
 opt (WM e 0) λf=>opt (WM e 1) λk=>opt (wD Tryz.prog 64) λl=>nw h (Value.cells l).toList 64 λa m=>opt (nb [f] (zn Tryz.prog 64 a f m)) λg=>opt (dH Tryz.prog .not k) λb=>GD b false (λn=>opt (zb Tryz.prog 64 a 0) λc=>n c g) (λc d=>GD b false (λo=>opt (zd Tryz.prog 3 c d) λp=>o p d) (UM b R a i j) d) g
def gx:=λ(h:za) c d (R:Value->za->Prop)=>
 opt (nb [d] (some (Value.cells d).toList)) λe=>nw h e 50 λb a=>opt (zb Tryz.prog 50 b 2) λf=>opt (zd Tryz.prog 3 f a) λg=>opt (vd c) λi=>opt (zb Tryz.prog 108 i 7) λj=>opt (zA Tryz.prog 65 j g) λk=>opt (zd Tryz.prog 64 k a) λl=>opt (zb Tryz.prog 50 b 6) λm=>opt (zd Tryz.prog 2 m a) λn=>Z4 Tryz.prog 64 [n] a (λo=>Z4 Tryz.prog 91 [.int .i64 11,l,o] a (gD a R c b))
theorem tM(h:za)(t0 t1:Value)(R:Value->za->Prop):Vz Tryz.prog (uI Tryz.prog qs) 200 85 [t0,t1] h R=gx h t0 t1 R:=by kernel_rfl
theorem tN{h:za}{t0 t1:Value}{R:Value->za->Prop}(hw:gx h t0 t1 R):DC Tryz.prog 85 [t0,t1] h R:=yT mixed (n:=200) (by rw[tM];exact hw)
def Ei:=λf g (R:Value->za->Prop) a (h:za)=>
 opt (WM a 0) λb=>opt (WM a 1) λi=>opt (wD Tryz.prog 64) λj=>nw h (Value.cells j).toList 64 λc k=>opt (nb [b] (zn Tryz.prog 64 c b k)) λd=>opt (zd Tryz.prog 64 c d) λe=>opt (vd f) λl=>opt (zb Tryz.prog 108 l 7) λm=>opt (zA Tryz.prog 65 m g) λn=>opt (nb [e] (zn Tryz.prog 64 n e d)) λo=>rv [i] o R
def HD:=λ(h:za) d e f b c (R:Value->za->Prop)=>
 opt (nb [b] (some (Value.cells b).toList)) λg=>nw h g 64 λi j=>opt (nb [c] (some (Value.cells c).toList)) λk=>nw j k 64 λl a=>opt (zd Tryz.prog 64 i a) λm=>opt (zd Tryz.prog 64 l a) λn=>zR Tryz.prog (.func (.func 91) #[] #[]) [e,m,n] a (Ei d f R)
theorem HE(h:za)(t0 t1 t2 t3 t4:Value)(R:Value->za->Prop):Vz Tryz.prog (uI Tryz.prog qs) 200 86 [t0,t1,t2,t3,t4] h R=HD h t0 t1 t2 t3 t4 R:=by kernel_rfl
theorem HF{h:za}{t0 t1 t2 t3 t4:Value}{R:Value->za->Prop}(hw:HD h t0 t1 t2 t3 t4 R):DC Tryz.prog 86 [t0,t1,t2,t3,t4] h R:=yT mixed (n:=200) (by rw[HE];exact hw)
def HO:=λf g (R:Value->za->Prop) a (h:za)=>
 opt (WM a 0) λb=>opt (WM a 1) λi=>opt (wD Tryz.prog 64) λj=>nw h (Value.cells j).toList 64 λc k=>opt (nb [b] (zn Tryz.prog 64 c b k)) λd=>opt (zd Tryz.prog 64 c d) λe=>opt (vd f) λl=>opt (zb Tryz.prog 108 l 7) λm=>opt (zA Tryz.prog 65 m g) λn=>opt (nb [e] (zn Tryz.prog 64 n e d)) λo=>rv [i] o R
def Oe:=λ(h:za) c d e a (R:Value->za->Prop)=>
 opt (nb [a] (some (Value.cells a).toList)) λf=>nw h f 64 λg b=>opt (zd Tryz.prog 64 g b) λi=>zR Tryz.prog (.func (.func 109) #[] #[]) [d,i] b (HO c e R)
theorem Mf(h:za)(t0 t1 t2 t3:Value)(R:Value->za->Prop):Vz Tryz.prog (uI Tryz.prog qs) 200 88 [t0,t1,t2,t3] h R=Oe h t0 t1 t2 t3 R:=by kernel_rfl
theorem Mg{h:za}{t0 t1 t2 t3:Value}{R:Value->za->Prop}(hw:Oe h t0 t1 t2 t3 R):DC Tryz.prog 88 [t0,t1,t2,t3] h R:=yT mixed (n:=200) (by rw[Mf];exact hw)
def CK:=λ(h:za) a (R:Value->za->Prop)=>
 opt (nb [a] (some (Value.cells a).toList)) λg=>nw h g 64 λi j=>opt (wD Tryz.prog 64) λk=>nw j (Value.cells k).toList 64 λb c=>opt (zb Tryz.prog 64 i 1) λl=>opt (zd Tryz.prog 2 l c) λd=>opt (nb [d,.int .u64 63] (ze Tryz.prog .shr 2 (.tmp 4) (.const (.int .u64 63)) d (.int .u64 63))) λm=>zR Tryz.prog (.func (.func 64) #[] #[]) [m] c (λe n=>opt (nb [e] (zn Tryz.prog 64 b e n)) λf=>opt (zd Tryz.prog 64 b f) λo=>rv [o] f R)
theorem FM(h:za)(t0:Value)(R:Value->za->Prop):Vz Tryz.prog (uI Tryz.prog qs) 200 89 [t0] h R=CK h t0 R:=by kernel_rfl
theorem FO{h:za}{t0:Value}{R:Value->za->Prop}(hw:CK h t0 R):DC Tryz.prog 89 [t0] h R:=yT mixed (n:=200) (by rw[FM];exact hw)
def Jy:=λb d e (R:Value->za->Prop) f (c:za)=>
 GD b true (λg=>zR Tryz.prog (.func (.func 86) #[] #[]) [d,.int .i64 15,.int .i64 2,e,f] c (λa h=>g a h)) (λa i=>opt (pk b a (.bool false)) λj=>rv [j] i R) c
def Jz:=λa e f (R:Value->za->Prop) g (b:za)=>
 GD a true (λh=>opt (zd Tryz.prog 64 e b) λc=>h c b) (λc d=>GD a true (λi=>opt (zd Tryz.prog 64 f d) λj=>i j d) (Jy a g c R) d) b
def gT:=λb c d (R:Value->za->Prop) (j:List Value) (a:za)=>
 opt (zd Tryz.prog 64 b a) λg=>opt (zd Tryz.prog 64 c a) λh=>zR Tryz.prog (.func (.func 86) #[] #[]) [d,.int .i64 14,.int .i64 0,g,h] a (λe f=>GD e true (λi=>i d f) (Jz e b c R) f)
def JA:=λa (b:za) (R:Value->za->Prop) e f g h c=>
 opt (nb [a,c] (ze Tryz.prog .neq 64 (.tmp 29) (.tmp 31) a c)) λi=>CD i (λd=>rv [.bool false] b R)
 (λd=>d [nth e 0] b)
 (gT f g h R)
def gU:=λb c (R:Value->za->Prop) d e (k:Value) (a:za)=>
 opt (vd b) λf=>opt (zb Tryz.prog 108 f 7) λg=>opt (zA Tryz.prog 65 g (.int .i64 2)) λh=>opt (zd Tryz.prog 64 h a) λi=>opt (zd Tryz.prog 64 c a) λj=>Z4 Tryz.prog 89 [j] a (JA i a R d c e b)
def gV:=λb c d (R:Value->za->Prop) e (a:za)=>
 opt (zb Tryz.prog 64 b 1) λf=>opt (zd Tryz.prog 2 f a) λg=>opt (zb Tryz.prog 64 c 1) λh=>opt (zd Tryz.prog 2 h a) λi=>zR Tryz.prog (.func (.func 92) #[] #[]) [d,.int .i64 3,g,i] a (gU d b R e c)
def UR:=λb (R:Value->za->Prop) g h i c (d:za)=>
 GD b false (λj=>opt (nb [c,.int .i64 1] (ze Tryz.prog .neq 3 (.tmp 16) (.const (.int .i64 1)) c (.int .i64 1))) λa=>j a d) (λa e=>opt (pk b (.bool true) a) λk=>CD k (λf=>rv [.bool false] e R)
 (λf=>f [.bool false] e)
 (gV g h i R)) d
def gS:=λ(h:za) f g (R:Value->za->Prop)=>
 opt (nb [g] (some (Value.cells g).toList)) λm=>nw h m 64 λi j=>opt (vd f) λn=>opt (zb Tryz.prog 108 n 7) λo=>opt (zA Tryz.prog 65 o (.int .i64 0)) λp=>opt (zd Tryz.prog 64 p j) λk=>opt (wD Tryz.prog 64) λq=>nw j (Value.cells q).toList 64 λa r=>opt (nb [k] (zn Tryz.prog 64 a k r)) λb=>opt (zb Tryz.prog 64 a 0) λs=>opt (zd Tryz.prog 3 s b) λl=>opt (nb [l,.int .i64 1] (ze Tryz.prog .neq 3 (.tmp 12) (.const (.int .i64 1)) l (.int .i64 1))) λc=>GD c false (λt=>opt (zb Tryz.prog 64 i 0) λd=>t d b) (λd e=>GD c false (λu=>opt (zd Tryz.prog 3 d e) λv=>u v e) (UR c R a i f) e) b
theorem tO(h:za)(t0 t1:Value)(R:Value->za->Prop):Vz Tryz.prog (uI Tryz.prog qs) 200 90 [t0,t1] h R=gS h t0 t1 R:=by kernel_rfl
theorem tP{h:za}{t0 t1:Value}{R:Value->za->Prop}(hw:gS h t0 t1 R):DC Tryz.prog 90 [t0,t1] h R:=yT mixed (n:=200) (by rw[tO];exact hw)
def CB:=λ(h:za) a b c d (R:Value->za->Prop)=>
 opt (vd a) λj=>opt (zb Tryz.prog 108 j 4) λk=>opt (zb Tryz.prog 33 k 3) λl=>opt (zd Tryz.prog 31 l h) λe=>opt (nb [b,c,d] (yU Tryz.prog 80 [(0,b),(1,c),(2,d)])) λf=>xK (nb [f] (yC Tryz.prog 31 1 [(0,f)] h)) λg m=>xK (nb [e,g] (zk Tryz.prog .append [31,31] 31 [e,g] m)) λi n=>opt (vd a) λo=>opt (zb Tryz.prog 108 o 4) λp=>opt (zb Tryz.prog 33 p 3) λq=>opt (nb [i] (zn Tryz.prog 31 q i n)) λr=>rv [] r R
theorem FI(h:za)(t0 t1 t2 t3:Value)(R:Value->za->Prop):Vz Tryz.prog (uI Tryz.prog qs) 200 92 [t0,t1,t2,t3] h R=CB h t0 t1 t2 t3 R:=by kernel_rfl
theorem FJ{h:za}{t0 t1 t2 t3:Value}{R:Value->za->Prop}(hw:CB h t0 t1 t2 t3 R):DC Tryz.prog 92 [t0,t1,t2,t3] h R:=yT mixed (n:=200) (by rw[FI];exact hw)
def pY:=λ(h:za) a b c (R:Value->za->Prop)=>
 opt (vd a) λi=>opt (zb Tryz.prog 108 i 4) λj=>opt (zb Tryz.prog 33 j 2) λk=>opt (zd Tryz.prog 30 k h) λd=>opt (nb [b,c] (yU Tryz.prog 85 [(0,b),(1,c)])) λe=>xK (nb [e] (yC Tryz.prog 30 1 [(0,e)] h)) λf l=>xK (nb [d,f] (zk Tryz.prog .append [30,30] 30 [d,f] l)) λg m=>opt (vd a) λn=>opt (zb Tryz.prog 108 n 4) λo=>opt (zb Tryz.prog 33 o 2) λp=>opt (nb [g] (zn Tryz.prog 30 p g m)) λq=>rv [] q R
theorem Ct(h:za)(t0 t1 t2:Value)(R:Value->za->Prop):Vz Tryz.prog (uI Tryz.prog qs) 200 96 [t0,t1,t2] h R=pY h t0 t1 t2 R:=by kernel_rfl
theorem Cu{h:za}{t0 t1 t2:Value}{R:Value->za->Prop}(hw:pY h t0 t1 t2 R):DC Tryz.prog 96 [t0,t1,t2] h R:=yT mixed (n:=200) (by rw[Ct];exact hw)
def nQ:=λf a (R:Value->za->Prop) (n:List Value) (b:za)=>
 opt (zb Tryz.prog 64 f 1) λc=>opt (zd Tryz.prog 2 c b) λd=>opt (vd a) λg=>opt (zb Tryz.prog 108 g 4) λh=>opt (zb Tryz.prog 33 h 0) λe=>(Hb 1 e 1 c/\opt (nb [.int .i64 1] (zn Tryz.prog 3 e (.int .i64 1) b)) λi=>opt (vd a) λj=>opt (zb Tryz.prog 108 j 4) λk=>opt (zb Tryz.prog 33 k 1) λl=>opt (nb [d] (zn Tryz.prog 2 l d i)) λm=>rv [.bool true] m R)
def nR:=λc (R:Value->za->Prop) h (d:za)=>
 opt (vd c) λi=>opt (zb Tryz.prog 108 i 7) λj=>opt (zA Tryz.prog 65 j (.int .i64 0)) λk=>opt (zd Tryz.prog 64 k d) λe=>opt (wD Tryz.prog 64) λl=>nw d (Value.cells l).toList 64 λa m=>opt (nb [e] (zn Tryz.prog 64 a e m)) λb=>opt (zb Tryz.prog 64 a 0) λn=>opt (zd Tryz.prog 3 n b) λf=>opt (nb [f,.int .i64 1] (ze Tryz.prog .neq 3 (.tmp 47) (.const (.int .i64 1)) f (.int .i64 1))) λo=>CD o (λg=>rv [.bool false] b R)
 (λg=>g [nth h 0] b)
 (nQ a c R)
def nS:=λa (R:Value->za->Prop) p (q:za)=>
 opt (vd a) λr=>opt (zb Tryz.prog 108 r 8) λs=>opt (nb [.bool false] (zn Tryz.prog 4 s (.bool false) q)) λc=>opt (vd a) λt=>opt (zb Tryz.prog 108 t 11) λu=>opt (zd Tryz.prog 3 u c) λd=>opt (nb [d,.int .i64 8] (ze Tryz.prog .sub 3 (.tmp 17) (.const (.int .i64 8)) d (.int .i64 8))) λe=>opt (vd a) λv=>opt (zb Tryz.prog 108 v 11) λw=>opt (nb [e] (zn Tryz.prog 3 w e c)) λb=>opt (vd a) λx=>opt (zb Tryz.prog 108 x 6) λy=>opt (zd Tryz.prog 106 y b) λf=>opt (vd a) λz=>opt (zb Tryz.prog 108 z 6) λA=>opt (zd Tryz.prog 106 A b) λg=>xK (nb [g] (zk Tryz.prog .len [106] 3 [g] b)) λh _=>opt (nb [h,.int .i64 1] (ze Tryz.prog .sub 3 (.tmp 30) (.const (.int .i64 1)) h (.int .i64 1))) λi=>opt (nb [f] (cond (Lq none&&Lq (some i)) (Il Tryz.prog 106 f none (some i) b) none)) λj=>opt (vd a) λB=>opt (zb Tryz.prog 108 B 6) λC=>opt (nb [j] (zn Tryz.prog 106 C j b)) λk=>opt (vd a) λD=>opt (zb Tryz.prog 108 D 6) λE=>opt (zd Tryz.prog 106 E k) λl=>xK (nb [l] (zk Tryz.prog .len [106] 3 [l] k)) λm n=>opt (nb [m,.int .i64 0] (ze Tryz.prog .gtr 3 (.tmp 39) (.const (.int .i64 0)) m (.int .i64 0))) λF=>CD F (λo=>rv [.bool true] n R)
 (λo=>o [nth p 0] n)
 (nR a R)
def p7:=λ(h:za) c d (R:Value->za->Prop)=>
 opt (vd d) λe=>opt (zb Tryz.prog 134 e 2) λf=>opt (zd Tryz.prog 3 f h) λa=>opt (nb [a,.int .i64 0] (ze Tryz.prog .neq 3 (.tmp 9) (.const (.int .i64 0)) a (.int .i64 0))) λg=>CD g (λb=>rv [.bool false] h R)
 (λb=>b [.bool false] h)
 (nS c R)
theorem CC(h:za)(t0 t1:Value)(R:Value->za->Prop):Vz Tryz.prog (oT Tryz.prog qs) 200 93 [t0,t1] h R=p7 h t0 t1 R:=by kernel_rfl
theorem CE{h:za}{t0 t1:Value}{R:Value->za->Prop}(hw:p7 h t0 t1 R):DC Tryz.prog 93 [t0,t1] h R:=cE mixed (n:=200) (by rw[CC];exact hw)
def nt:=λa b (R:Value->za->Prop) (x:Value) (c:za)=>
 opt (vd a) λi=>opt (zb Tryz.prog 108 i 11) λj=>opt (zd Tryz.prog 3 j c) λd=>opt (vd b) λk=>opt (zb Tryz.prog 134 k 3) λl=>opt (zd Tryz.prog 3 l c) λe=>opt (nb [d,e] (ze Tryz.prog .sub 3 (.tmp 38) (.tmp 42) d e)) λf=>opt (vd a) λm=>opt (zb Tryz.prog 108 m 11) λn=>opt (nb [f] (zn Tryz.prog 3 n f c)) λg=>opt (vd b) λo=>opt (zb Tryz.prog 134 o 4) λp=>opt (zd Tryz.prog 64 p g) λh=>opt (vd a) λq=>opt (zb Tryz.prog 108 q 7) λr=>opt (zA Tryz.prog 65 r (.int .i64 4)) λs=>opt (nb [h] (zn Tryz.prog 64 s h g)) λt=>opt (vd b) λu=>opt (zb Tryz.prog 134 u 2) λv=>opt (nb [.int .i64 0] (zn Tryz.prog 3 v (.int .i64 0) t)) λw=>rv [.bool true] w R
def nu:=λb c (R:Value->za->Prop) (j:List Value) (a:za)=>
 opt (vd b) λd=>opt (zb Tryz.prog 108 d 2) λe=>opt (zd Tryz.prog 104 e a) λf=>opt (vd c) λg=>opt (zb Tryz.prog 134 g 2) λh=>opt (zd Tryz.prog 3 h a) λi=>Xa Tryz.prog 114 [f,i] a (nt b c R)
def Kz:=λb c (R:Value->za->Prop) h i d (e:za)=>
 GD b false (λj=>opt (nb [c,d] (ze Tryz.prog .neq 3 (.tmp 21) (.tmp 23) c d)) λa=>j a e) (λa f=>opt (pk b (.bool true) a) λk=>CD k (λg=>rv [.bool false] f R)
 (λg=>g [.bool false] f)
 (nu h i R)) e
def KA:=λa e (R:Value->za->Prop) f g h (d:za)=>
 GD a false (λi=>opt (zb Tryz.prog 50 e 6) λb=>i b d) (λb c=>GD a false (λj=>opt (zd Tryz.prog 2 b c) λk=>j k c) (Kz a h R f g) c) d
def KB:=λa e (R:Value->za->Prop) f g h (d:za)=>
 GD a false (λi=>opt (zb Tryz.prog 134 h 3) λb=>i b d) (λb c=>GD a false (λj=>opt (zd Tryz.prog 3 b c) λk=>j k c) (KA a e R f g) c) d
def nv:=λa (b:za) f (R:Value->za->Prop) g (n:List Value->za->Prop)=>
 opt (vd a) λh=>opt (zb Tryz.prog 134 h 2) λi=>opt (zd Tryz.prog 3 i b) λd=>opt (nb [d,.int .i64 0] (ze Tryz.prog .eql 3 (.tmp 15) (.const (.int .i64 0)) d (.int .i64 0))) λc=>GD c false (λj=>j a b) (λk e=>GD c false (λl=>opt (vd k) λm=>l m e) (KB c f R g a) e) b
def nz:=λc (d:za) a (R:Value->za->Prop) b=>
 opt (vd c) λe=>opt (zb Tryz.prog 108 e 7) λf=>opt (zA Tryz.prog 65 f (.int .i64 4)) λg=>opt (nb [b] (zn Tryz.prog 64 g b d)) λh=>opt (nb [a,.int .i64 0] (ze Tryz.prog .eql 34 (.tmp 100) (.const (.int .i64 0)) a (.int .i64 0))) λi=>rv [i] h R
def nB:=λk d a (R:Value->za->Prop) e (b:za)=>
 opt (WM e 0) λc=>opt (WM e 1) λl=>opt (zb Tryz.prog 50 k 6) λf=>opt (zd Tryz.prog 2 f b) λg=>opt (vd d) λm=>opt (zb Tryz.prog 108 m 7) λn=>opt (zA Tryz.prog 65 n (.int .i64 4)) λo=>opt (zd Tryz.prog 64 o b) λh=>opt (vd a) λp=>opt (zb Tryz.prog 134 p 2) λi=>(Hb 1 i 1 f/\opt (nb [c] (zn Tryz.prog 3 i c b)) λq=>opt (vd a) λr=>opt (zb Tryz.prog 134 r 3) λs=>opt (nb [g] (zn Tryz.prog 3 s g q)) λt=>opt (vd a) λu=>opt (zb Tryz.prog 134 u 4) λv=>opt (nb [h] (zn Tryz.prog 64 v h t)) λj=>Z4 Tryz.prog 87 [c,.int .i64 0] j (nz d j l R))
def nC:=λb c d (R:Value->za->Prop) (j:List Value) (a:za)=>
 opt (vd b) λe=>opt (zb Tryz.prog 108 e 2) λf=>opt (zd Tryz.prog 104 f a) λg=>opt (zb Tryz.prog 50 c 6) λh=>opt (zd Tryz.prog 2 h a) λi=>Xa Tryz.prog 62 [g,i] a (nB c b d R)
def gZ:=λa b (R:Value->za->Prop) f g (c:za)=>
 opt (zb Tryz.prog 50 a 6) λh=>opt (zd Tryz.prog 2 h c) λi=>zR Tryz.prog (.func (.func 84) #[] #[]) [b,i] c (λj d=>opt (dH Tryz.prog .not j) λk=>CD k (λe=>rv [.bool true] d R)
 (λe=>e [nth g 0] d)
 (nC b a f R))
def hE:=λb (R:Value->za->Prop) e f g (a:za)=>
 opt (vd b) λh=>opt (zb Tryz.prog 134 h 2) λi=>opt (zd Tryz.prog 3 i a) λc=>opt (nb [c,.int .i64 0] (ze Tryz.prog .neq 3 (.tmp 60) (.const (.int .i64 0)) c (.int .i64 0))) λj=>CD j (λd=>rv [.bool false] a R)
 (λd=>d [nth g 0] a)
 (gZ e f R b)
def p6:=λ(h:za) c d e (R:Value->za->Prop)=>
 opt (nb [e] (some (Value.cells e).toList)) λg=>nw h g 50 λa b=>opt (zb Tryz.prog 50 a 0) λi=>opt (zd Tryz.prog 3 i b) λf=>opt (nb [f,.int .i64 24] (ze Tryz.prog .eql 3 (.tmp 10) (.const (.int .i64 24)) f (.int .i64 24))) λj=>CD j (nv d b a R c)
 (λk=>k [.bool false] b)
 (hE d R a c)
theorem Cw(h:za)(t0 t1 t2:Value)(R:Value->za->Prop):Vz Tryz.prog (oT Tryz.prog qs) 200 94 [t0,t1,t2] h R=p6 h t0 t1 t2 R:=by kernel_rfl
theorem Cx{h:za}{t0 t1 t2:Value}{R:Value->za->Prop}(hw:p6 h t0 t1 t2 R):DC Tryz.prog 94 [t0,t1,t2] h R:=cE mixed (n:=200) (by rw[Cw];exact hw)
end Go.As
