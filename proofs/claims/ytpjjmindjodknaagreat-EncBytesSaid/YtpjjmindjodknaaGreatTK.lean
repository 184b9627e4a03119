import Derived.Test.YtpjjmindjodknaaGreatTH
import Derived.Test.YtpjjmindjodknaaGreatTI
import Derived.Test.YtpjjmindjodknaaGreatTF
set_option linter.unusedVariables false
set_option linter.unusedSimpArgs false
set_option maxRecDepth 100000
namespace Go.Ar
open Go.Ai Go.Proofs Go.Proofs.Tryz
noncomputable abbrev zz:=prog
abbrev VK:=Value->za->Prop
abbrev LK:=List Value->za->Prop
abbrev ci (n:Int):Operand := .const (.int .i64 n)
abbrev fn (n:Nat):Value := .func (.func n) #[] #[]
variable {h:za} {t0 t1 t2 t3 t4 t5 t6:Value} {R:VK}
def qs:FuncId->Nat:=fun g=>[0].getD g 0
theorem mixed:prog.follows .mixedOrders=true:=Pm Tryz.checked
theorem xB {f:FuncId} {args:List Value} {X:Prop} (e:Fi zz (U8 zz qs) 200 f args h R=X) (hw:X):DC zz f args h R:=XY mixed (q:=qs) (n:=200) (Eq.mpr e hw)
def Ue:=fun c (R:VK) d (e:LK) f (a:za)=>
 opt (pk c (.bool true) f) fun g=>CD g (fun b=>rv [.bool false] a R)
 (fun b=>b [nth d 0] a)
 (fun h i=>e [nth h 0] i)
def Uf:=fun a (R:VK) d (e:LK) b (c:za)=>
 GD a false (fun f=>opt (nb [b,.int .i64 65536] (zd zz .gtr 3 (.tmp 60) (.const (.int .i64 65536)) b (.int .i64 65536))) fun g=>f g c) (Ue a R d e) c
def Ug:=fun a e (R:VK) f (g:LK) h (d:za)=>
 GD a false (fun i=>opt (zI zz 22 e h) fun b=>i b d) (fun b c=>GD a false (fun j=>opt (zc zz 3 b c) fun k=>j k c) (Uf a R f g) c) d
def Uh:=fun a d (R:VK) (f:LK) g (b:za)=>
 GD a false (fun h=>opt (zc zz 22 g b) fun c=>h c b) (fun c e=>GD a false (fun i=>i (nth d 1) e) (Ug a c R d f) e) b
def Ui:=fun b (a:za) c (R:VK) (f:LK)=>
 opt (zb zz 25 b 0) fun g=>opt (zc zz 22 g a) fun h=>opt (zI zz 22 h (nth c 1)) fun i=>opt (zc zz 3 i a) fun d=>opt (nb [d,.int .i64 0] (zd zz .lss 3 (.tmp 53) (ci 0) d (.int .i64 0))) fun e=>GD e false (fun j=>opt (zb zz 25 b 0) fun k=>j k a) (Uh e c R f) a
def hP:=fun a (b:LK) c (d:za)=>
 opt (nb [nth a 1,.int .i64 1] (zd zz .add 3 (.tmp 47) (ci 1) (nth a 1) (.int .i64 1))) fun e=>b [nth c 0,e] d
def hQ:=fun b (h:LK) (R:VK) a (c:za) (i:LK)=>
 opt (zb zz 25 b 0) fun j=>opt (zc zz 22 j c) fun d=>zB (nb [d] (zg zz .len [22] 3 [d] c)) fun e f=>opt (nb [nth a 1,e] (zd zz .lss 3 (.tmp 42) (.tmp 45) (nth a 1) e)) fun k=>CD k (fun g=>g [] f)
 (fun g=>h [nth a 0] f)
 (fun m l=>BK (Ui b l a R)
 (hP a i))
def wt:=fun c (R:VK) d (e:LK) f g (a:za)=>
 opt (pk c g (.bool false)) fun h=>CD h (fun b=>rv [.bool false] a R)
 (fun b=>b [nth d 0] a)
 (fun i j=>e [nth i 0,f] j)
def wx:=fun b c d (R:VK) h (i:LK) j e (f:za)=>
 GD b false (fun k=>opt (nb [c,e] (zd zz .gtr 2 (.tmp 162) (.tmp 168) c e)) fun a=>k a f) (fun a g=>GD d true (fun l=>opt (pk b (.bool true) a) fun m=>l m g) (wt d R h i j) g) f
def xG:=fun a e f g (R:VK) h (i:LK) j k (d:za)=>
 GD a false (fun l=>opt (zI zz 22 e k) fun b=>l b d) (fun b c=>GD a false (fun m=>opt (zc zz 3 b c) fun n=>m n c) (wx a f g R h i j) c) d
def xH:=fun a e f g (R:VK) h (i:LK) j k (d:za)=>
 GD a false (fun l=>opt (zb zz 42 e 3) fun b=>l b d) (fun b c=>GD a false (fun m=>opt (zc zz 3 b c) fun n=>m n c) (xG a k f g R h i j) c) d
def xI:=fun a e f g (R:VK) h (i:LK) j k (d:za)=>
 GD a false (fun l=>opt (zb zz 25 e 0) fun b=>l b d) (fun b c=>GD a false (fun m=>opt (zc zz 22 b c) fun n=>m n c) (xH a f k g R h i j) c) d
def xJ:=fun d f g (R:VK) h (i:LK) j a (e:za)=>
 GD a false (fun k=>opt (zb zz 42 d 6) fun b=>k b e) (fun b c=>GD a false (fun l=>opt (zc zz 2 b c) fun m=>l m c) (xI a f d g R h i j) c) e
def xK:=fun a e f g (R:VK) h (i:LK) j k (c:za)=>
 GD a true (fun l=>opt (pk e (.bool true) k) fun b=>l b c) (fun b d=>GD a true (fun m=>m b d) (xJ f g a R h i j) d) c
def xL:=fun a d e f (R:VK) g (h:LK) i b (c:za)=>
 GD a false (fun j=>opt (nb [b,.int .i64 0] (zd zz .lss 2 (.tmp 157) (ci 0) b (.int .i64 0))) fun k=>j k c) (xK d a e f R g h i) c
def xM:=fun d f g (R:VK) h (i:LK) j a (e:za)=>
 GD a false (fun k=>opt (zb zz 42 d 6) fun b=>k b e) (fun b c=>GD a false (fun l=>opt (zc zz 2 b c) fun m=>l m c) (xL a f d g R h i j) c) e
def xN:=fun a e f g (R:VK) h (i:LK) j k (c:za)=>
 GD a true (fun l=>opt (pk e (.bool true) k) fun b=>l b c) (fun b d=>GD a true (fun m=>m b d) (xM f a g R h i j) d) c
def xO:=fun a b e f g (R:VK) h (i:LK) j c (d:za)=>
 GD a false (fun k=>opt (nb [b,c] (zd zz .geq 3 (.tmp 149) (.tmp 152) b c)) fun l=>k l d) (xN e a f g R h i j) d
def xP:=fun b d e f g (R:VK) h (i:LK) j c (a:za)=>
 GD b false (fun k=>zB (nb [c] (zg zz .len [22] 3 [c] a)) fun l _=>k l a) (xO b d e f g R h i j) a
def xQ:=fun a d f g (R:VK) h (i:LK) j k (e:za)=>
 GD a false (fun l=>opt (zb zz 25 d 0) fun b=>l b e) (fun b c=>GD a false (fun m=>opt (zc zz 22 b c) fun n=>m n c) (xP a k f g d R h i j) c) e
def xR:=fun d f g (R:VK) h (i:LK) j a (e:za)=>
 GD a false (fun k=>opt (zb zz 42 d 3) fun b=>k b e) (fun b c=>GD a false (fun l=>opt (zc zz 3 b c) fun m=>l m c) (xQ a f g d R h i j) c) e
def xS:=fun a f g (R:VK) h (i:LK) j c (d:za)=>
 GD a true (fun k=>opt (nb [c,.int .i64 0] (zd zz .lss 3 (.tmp 145) (ci 0) c (.int .i64 0))) fun b=>k b d) (fun b e=>GD a true (fun l=>l b e) (xR f g a R h i j) e) d
def xU:=fun a g (R:VK) (h:LK) i j (b:za)=>
 opt (zb zz 42 a 0) fun k=>opt (zc zz 3 k b) fun f=>opt (nb [f,.int .i64 6] (zd zz .eql 3 (.tmp 141) (.const (.int .i64 6)) f (.int .i64 6))) fun c=>GD c true (fun l=>opt (zb zz 42 a 3) fun d=>l d b) (fun d e=>GD c true (fun m=>opt (zc zz 3 d e) fun n=>m n e) (xS c a g R j h i) e) b
def y7:=fun c (R:VK) d e f (g:LK) h i (a:za)=>
 opt (pk c i (.bool false)) fun j=>CD j (fun b=>rv [.bool false] a R)
 (fun b=>b [nth d 0] a)
 (xU e f R g h)
def y8:=fun b c d (R:VK) h i j (k:LK) l e (f:za)=>
 GD b false (fun m=>opt (nb [c,e] (zd zz .geq 3 (.tmp 133) (.tmp 136) c e)) fun a=>m a f) (fun a g=>GD d true (fun n=>opt (pk b (.bool true) a) fun o=>n o g) (y7 d R h i j k l) g) f
def y9:=fun a d e (R:VK) f g h (i:LK) j b (c:za)=>
 GD a false (fun k=>zB (nb [b] (zg zz .len [23] 3 [b] c)) fun l m=>k l m) (y8 a d e R f g h i j) c
def xa:=fun a d f (R:VK) g h (i:LK) j k (e:za)=>
 GD a false (fun l=>opt (zb zz 25 d 1) fun b=>l b e) (fun b c=>GD a false (fun m=>opt (zc zz 23 b c) fun n=>m n c) (y9 a k f R g h d i j) c) e
def xb:=fun d f g (R:VK) h (i:LK) j a (e:za)=>
 GD a false (fun k=>opt (zb zz 42 d 3) fun b=>k b e) (fun b c=>GD a false (fun l=>opt (zc zz 3 b c) fun m=>l m c) (xa a f g R h d i j) c) e
def xc:=fun a f g (R:VK) h (i:LK) j c (d:za)=>
 GD a true (fun k=>opt (nb [c,.int .i64 0] (zd zz .lss 3 (.tmp 129) (ci 0) c (.int .i64 0))) fun b=>k b d) (fun b e=>GD a true (fun l=>l b e) (xb f g a R h i j) e) d
def xe:=fun a g (R:VK) (h:LK) i j (b:za)=>
 opt (zb zz 42 a 0) fun k=>opt (zc zz 3 k b) fun f=>opt (nb [f,.int .i64 21] (zd zz .eql 3 (.tmp 125) (.const (.int .i64 21)) f (.int .i64 21))) fun c=>GD c true (fun l=>opt (zb zz 42 a 3) fun d=>l d b) (fun d e=>GD c true (fun m=>opt (zc zz 3 d e) fun n=>m n e) (xc c a g R j h i) e) b
def yg:=fun c (R:VK) d e f (g:LK) h i (a:za)=>
 opt (pk c (.bool true) i) fun j=>CD j (fun b=>rv [.bool false] a R)
 (fun b=>b [nth d 0] a)
 (xe e f R g h)
def yh:=fun b c (R:VK) g h i (j:LK) k d (e:za)=>
 GD b true (fun l=>opt (nb [d,.int .i64 0] (zd zz .lss 3 (.tmp 120) (ci 0) d (.int .i64 0))) fun a=>l a e) (fun a f=>GD c false (fun m=>opt (pk b a (.bool false)) fun n=>m n f) (yg c R g h i j k) f) e
def yE:=fun a c d (R:VK) e f g (h:LK) i j (b:za)=>
 GD a true (fun k=>zH zz (fn 28) [c,j] b (fun l m=>k l m)) (yh a d R e f g h i) b
def yF:=fun a d f (R:VK) g h (i:LK) j k (e:za)=>
 GD a true (fun l=>opt (zb zz 42 d 5) fun b=>l b e) (fun b c=>GD a true (fun m=>opt (zc zz 3 b c) fun n=>m n c) (yE a k f R g d h i j) c) e
def yG:=fun b e f (R:VK) g h (i:LK) j k (c:za)=>
 GD b false (fun l=>l k c) (fun d a=>GD d true (fun m=>opt (zc zz 50 e a) fun n=>m n a) (yF d f b R g h i j) a) c
def yH:=fun b c g h (R:VK) i j (k:LK) l d (e:za)=>
 GD b false (fun m=>opt (nb [d,.int .i64 19] (zd zz .eql 3 (.tmp 113) (.const (.int .i64 19)) d (.int .i64 19))) fun a=>m a e) (fun a f=>GD c false (fun n=>opt (pk b (.bool true) a) fun o=>n o f) (yG c g h R i j k l) f) e
def yI:=fun d f g (R:VK) h i (j:LK) k a (e:za)=>
 GD a false (fun l=>opt (zb zz 42 d 0) fun b=>l b e) (fun b c=>GD a false (fun m=>opt (zc zz 3 b c) fun n=>m n c) (yH a f g d R h i j k) c) e
def yJ:=fun a f g (R:VK) h i (j:LK) k c (d:za)=>
 GD a false (fun l=>opt (nb [c,.int .i64 18] (zd zz .eql 3 (.tmp 109) (.const (.int .i64 18)) c (.int .i64 18))) fun b=>l b d) (fun b e=>GD a false (fun m=>m b e) (yI f a g R h i j k) e) d
def yK:=fun f d g (R:VK) h i (j:LK) k l (e:za)=>
 opt (pk f l (.bool false)) fun a=>GD a false (fun m=>opt (zb zz 42 d 0) fun b=>m b e) (fun b c=>GD a false (fun n=>opt (zc zz 3 b c) fun o=>n o c) (yJ a d g R h i j k) c) e
def yL:=fun a b e f (R:VK) g h (i:LK) j c (d:za)=>
 GD a true (fun k=>opt (nb [b,c] (zd zz .neq 3 (.tmp 103) (.tmp 104) b c)) fun l=>k l d) (yK a e f R g h i j) d
def xf:=fun a e f g h (R:VK) i j (k:LK) l m (c:za)=>
 GD a true (fun n=>zH zz (fn 28) [e,m] c (fun b o=>n b o)) (fun b d=>GD a true (fun p=>p (nth f 2) d) (yL a b g h R i j k l) d) c
def xg:=fun a d f g (R:VK) h i (j:LK) k l (e:za)=>
 GD a true (fun m=>opt (zb zz 42 d 5) fun b=>m b e) (fun b c=>GD a true (fun n=>opt (zc zz 3 b c) fun o=>n o c) (xf a l f d g R h i j k) c) e
def xh:=fun b c f (R:VK) g (h:LK) i j (a:za)=>
 opt (zb zz 42 b 0) fun k=>opt (zc zz 3 k a) fun d=>opt (nb [d,.int .i64 20] (zd zz .eql 3 (.tmp 97) (.const (.int .i64 20)) d (.int .i64 20))) fun e=>GD e true (fun l=>opt (zc zz 50 c a) fun m=>l m a) (xg e b f c R j g h i) a
def yM:=fun (R:VK) a d e f (g:LK) h i (b:za)=>
 opt (rB zz .not i) fun j=>CD j (fun c=>rv [.bool false] b R)
 (fun c=>c [nth a 0] b)
 (xh d e a R f g h)
def Qs:=fun a b (R:VK) d e (f:LK) g (c:za)=>
 opt (pk (nth a 1) (.bool true) g) fun h=>opt (zc zz 42 b c) fun i=>zH zz (fn 27) [i] c (yM R a b d e f h)
def Qt:=fun a d (R:VK) e f (g:LK) b (c:za)=>
 GD (nth a 1) false (fun h=>opt (nb [b,.int .i64 20] (zd zz .neq 3 (.tmp 90) (.const (.int .i64 20)) b (.int .i64 20))) fun i=>h i c) (Qs a d R e f g) c
def dg:=fun f (b:za) a (R:VK) i (j:LK)=>
 opt (zb zz 50 f 1) fun k=>opt (zc zz 48 k b) fun l=>opt (zI zz 48 l (nth a 2)) fun m=>opt (zc zz 42 m b) fun g=>opt (vK zz 42) fun n=>nw b (Value.cells n).toList 42 fun c o=>opt (nb [g] (zZ zz 42 c g o)) fun h=>GD (nth a 1) false (fun p=>opt (zb zz 42 c 0) fun d=>p d h) (fun d e=>GD (nth a 1) false (fun q=>opt (zc zz 3 d e) fun r=>q r e) (Qt a c R f i j) e) h
def vZ:=fun a (c:LK) b (d:za)=>
 opt (nb [nth a 2,.int .i64 1] (zd zz .add 3 (.tmp 80) (ci 1) (nth a 2) (.int .i64 1))) fun e=>c [nth b 0,nth b 1,e] d
def Qu:=fun b (h:LK) (R:VK) i a (c:za) (j:LK)=>
 opt (zb zz 50 b 1) fun k=>opt (zc zz 48 k c) fun d=>zB (nb [d] (zg zz .len [48] 3 [d] c)) fun e f=>opt (nb [nth a 2,e] (zd zz .lss 3 (.tmp 75) (.tmp 78) (nth a 2) e)) fun l=>CD l (fun g=>g [] f)
 (fun g=>h [nth a 0,nth a 1] f)
 (fun n m=>BK (dg b m a R i)
 (vZ a j))
def WB:=fun c (R:VK) d (e:LK) f (a:za)=>
 opt (pk c (.bool true) f) fun g=>CD g (fun b=>rv [.bool false] a R)
 (fun b=>b [nth d 0] a)
 (fun h i=>e [nth h 0] i)
def WC:=fun a (R:VK) d (e:LK) b (c:za)=>
 GD a false (fun f=>opt (nb [b,.int .i64 100000] (zd zz .gtr 3 (.tmp 177) (.const (.int .i64 100000)) b (.int .i64 100000))) fun g=>f g c) (WB a R d e) c
def WD:=fun b (R:VK) e (f:LK) g (c:za)=>
 GD b false (fun h=>opt (zc zz 48 g c) fun a=>h a c) (fun a d=>GD b false (fun i=>zB (nb [a] (zg zz .len [48] 3 [a] d)) fun j k=>i j k) (WC b R e f) d) c
def dh:=fun d (R:VK) (e:LK) a (b:za)=>
 opt (rB zz .not (nth a 1)) fun c=>GD c false (fun f=>opt (zb zz 50 d 1) fun g=>f g b) (WD c R a e) b
def di:=fun c (a:za) d (R:VK) (f:LK)=>
 opt (zb zz 25 c 1) fun g=>opt (zc zz 23 g a) fun h=>opt (zI zz 23 h (nth d 1)) fun i=>opt (zc zz 50 i a) fun e=>opt (vK zz 50) fun j=>nw a (Value.cells j).toList 50 fun b k=>opt (nb [e] (zZ zz 50 b e k)) fun l=>BK (fun m=>LP (Qu b m R c)
 [nth d 0,.bool false,.int .i64 0] l)
 (dh b R f)
def dk:=fun a (b:LK) c (d:za)=>
 opt (nb [nth a 1,.int .i64 1] (zd zz .add 3 (.tmp 68) (ci 1) (nth a 1) (.int .i64 1))) fun e=>b [nth c 0,e] d
def Qv:=fun b (h:LK) (R:VK) a (c:za) (i:LK)=>
 opt (zb zz 25 b 1) fun j=>opt (zc zz 23 j c) fun d=>zB (nb [d] (zg zz .len [23] 3 [d] c)) fun e f=>opt (nb [nth a 1,e] (zd zz .lss 3 (.tmp 63) (.tmp 66) (nth a 1) e)) fun k=>CD k (fun g=>g [] f)
 (fun g=>h [nth a 0] f)
 (fun m l=>BK (di b l a R)
 (dk a i))
def Qw:=fun a (R:VK) b (c:za)=>
 BK (fun d=>LP (hQ a d R)
 [nth b 0,.int .i64 0] c)
 (fun e f=>BK (fun g=>LP (Qv a g R)
 [nth e 0,.int .i64 0] f)
 (fun i h=>rv [.bool true] h R))
def kQ:=fun b (R:VK) g c (d:za)=>
 GD b false (fun h=>opt (nb [c,.int .i64 6] (zd zz .gtr 3 (.tmp 39) (.const (.int .i64 6)) c (.int .i64 6))) fun a=>h a d) (fun a e=>opt (pk b (.bool true) a) fun i=>CD i (fun f=>rv [.bool false] e R)
 (fun f=>f [.bool false] e)
 (Qw g R)) d
def kR:=fun f d (R:VK) g (e:za)=>
 opt (pk f (.bool true) g) fun a=>GD a false (fun h=>opt (zb zz 25 d 3) fun b=>h b e) (fun b c=>GD a false (fun i=>opt (zc zz 3 b c) fun j=>i j c) (kQ a R d) c) e
def kS:=fun a d (R:VK) b (c:za)=>
 GD a false (fun e=>opt (nb [b,.int .i64 0] (zd zz .lss 3 (.tmp 34) (ci 0) b (.int .i64 0))) fun f=>e f c) (kR a d R) c
def kT:=fun f d (R:VK) g (e:za)=>
 opt (pk f (.bool true) g) fun a=>GD a false (fun h=>opt (zb zz 25 d 3) fun b=>h b e) (fun b c=>GD a false (fun i=>opt (zc zz 3 b c) fun j=>i j c) (kS a d R) c) e
def kU:=fun b c g (R:VK) d (e:za)=>
 GD b false (fun h=>zB (nb [d] (zg zz .len [23] 3 [d] e)) fun a i=>h a i) (fun a f=>GD b false (fun j=>opt (nb [c,a] (zd zz .geq 3 (.tmp 26) (.tmp 29) c a)) fun k=>j k f) (kT b g R) f) e
def kV:=fun a d (R:VK) f (e:za)=>
 GD a false (fun g=>opt (zb zz 25 d 1) fun b=>g b e) (fun b c=>GD a false (fun h=>opt (zc zz 23 b c) fun i=>h i c) (kU a f d R) c) e
def kW:=fun f d (R:VK) g (e:za)=>
 opt (pk f (.bool true) g) fun a=>GD a false (fun h=>opt (zb zz 25 d 2) fun b=>h b e) (fun b c=>GD a false (fun i=>opt (zc zz 3 b c) fun j=>i j c) (kV a d R) c) e
def kX:=fun a d (R:VK) b (c:za)=>
 GD a false (fun e=>opt (nb [b,.int .i64 0] (zd zz .lss 3 (.tmp 21) (ci 0) b (.int .i64 0))) fun f=>e f c) (kW a d R) c
def kY:=fun f d (R:VK) g (e:za)=>
 opt (pk f (.bool true) g) fun a=>GD a false (fun h=>opt (zb zz 25 d 2) fun b=>h b e) (fun b c=>GD a false (fun i=>opt (zc zz 3 b c) fun j=>i j c) (kX a d R) c) e
def kZ:=fun a d (R:VK) b (c:za)=>
 GD a false (fun e=>opt (nb [b,.int .i64 100] (zd zz .gtr 3 (.tmp 16) (.const (.int .i64 100)) b (.int .i64 100))) fun f=>e f c) (kY a d R) c
def k7:=fun b e (R:VK) f (c:za)=>
 GD b false (fun g=>opt (zc zz 23 f c) fun a=>g a c) (fun a d=>GD b false (fun h=>zB (nb [a] (zg zz .len [23] 3 [a] d)) fun i j=>h i j) (kZ b e R) d) c
def tB:=fun (h:za) b (R:VK)=>
 opt (nb [b] (some (Value.cells b).toList)) fun i=>nw h i 25 fun a c=>opt (zb zz 25 a 0) fun j=>opt (zc zz 22 j c) fun d=>zB (nb [d] (zg zz .len [22] 3 [d] c)) fun e f=>opt (nb [e,.int .i64 200] (zd zz .gtr 3 (.tmp 11) (.const (.int .i64 200)) e (.int .i64 200))) fun g=>GD g false (fun k=>opt (zb zz 25 a 1) fun l=>k l f) (k7 g a R) f
theorem rH (hw:tB h t0 R):DC zz 11 [t0] h R:=xB (by kernel_rfl) hw
def km:=fun b (R:VK) d (c:za)=>
 GD b true (fun e=>zH zz (fn 37) [d] c (fun a f=>e a f)) (fun a g=>opt (pk b a (.bool false)) fun h=>rv [h] g R) c
def kn:=fun e f (R:VK) g (d:za)=>
 opt (pk e (.bool true) g) fun a=>GD a true (fun h=>opt (zb zz 42 f 6) fun b=>h b d) (fun b c=>GD a true (fun i=>opt (zc zz 2 b c) fun j=>i j c) (km a R) c) d
def ko:=fun a d (R:VK) b (c:za)=>
 GD a false (fun e=>opt (nb [b,.int .i64 8] (zd zz .eql 3 (.tmp 94) (.const (.int .i64 8)) b (.int .i64 8))) fun f=>e f c) (kn a d R) c
def kp:=fun f d (R:VK) g (e:za)=>
 opt (pk f (.bool true) g) fun a=>GD a false (fun h=>opt (zb zz 42 d 3) fun b=>h b e) (fun b c=>GD a false (fun i=>opt (zc zz 3 b c) fun j=>i j c) (ko a d R) c) e
def kq:=fun a d (R:VK) b (c:za)=>
 GD a false (fun e=>opt (nb [b,.int .i64 4] (zd zz .eql 3 (.tmp 89) (.const (.int .i64 4)) b (.int .i64 4))) fun f=>e f c) (kp a d R) c
def Qx:=fun b (R:VK) d (c:za)=>
 GD b true (fun e=>zH zz (fn 37) [d] c (fun a f=>e a f)) (fun a g=>opt (pk b a (.bool false)) fun h=>rv [h] g R) c
def Qy:=fun e (R:VK) a (d:za)=>
 GD a true (fun f=>opt (zb zz 42 e 6) fun b=>f b d) (fun b c=>GD a true (fun g=>opt (zc zz 2 b c) fun h=>g h c) (Qx a R) c) d
def WE:=fun b (R:VK) c (d:za)=>
 GD b false (fun e=>opt (nb [c,.int .i64 2] (zd zz .eql 3 (.tmp 130) (.const (.int .i64 2)) c (.int .i64 2))) fun a=>e a d) (fun a f=>opt (pk b (.bool true) a) fun g=>rv [g] f R) d
def WG:=fun b (R:VK) c (d:za)=>
 GD b false (fun e=>opt (nb [c,.int .i64 4] (zd zz .eql 3 (.tmp 140) (.const (.int .i64 4)) c (.int .i64 4))) fun a=>e a d) (fun a f=>opt (pk b (.bool true) a) fun g=>rv [g] f R) d
def qQ:=fun b (R:VK) c (d:za)=>
 GD b true (fun e=>opt (nb [c,.int .i64 63] (zd zz .leq 2 (.tmp 160) (.const (.int .i64 63)) c (.int .i64 63))) fun a=>e a d) (fun a f=>opt (pk b a (.bool false)) fun g=>rv [g] f R) d
def qR:=fun e f (R:VK) g (d:za)=>
 opt (pk e g (.bool false)) fun a=>GD a true (fun h=>opt (zb zz 42 f 6) fun b=>h b d) (fun b c=>GD a true (fun i=>opt (zc zz 2 b c) fun j=>i j c) (qQ a R) c) d
def qS:=fun a d (R:VK) b (c:za)=>
 GD a true (fun e=>opt (nb [b,.int .i64 0] (zd zz .geq 2 (.tmp 155) (ci 0) b (.int .i64 0))) fun f=>e f c) (qR a d R) c
def qT:=fun f d (R:VK) g (e:za)=>
 opt (pk f (.bool true) g) fun a=>GD a true (fun h=>opt (zb zz 42 d 6) fun b=>h b e) (fun b c=>GD a true (fun i=>opt (zc zz 2 b c) fun j=>i j c) (qS a d R) c) e
def qU:=fun a d (R:VK) b (c:za)=>
 GD a false (fun e=>opt (nb [b,.int .i64 20] (zd zz .eql 3 (.tmp 150) (.const (.int .i64 20)) b (.int .i64 20))) fun f=>e f c) (qT a d R) c
def Xq:=fun b (R:VK) c (d:za)=>
 GD b false (fun e=>opt (nb [c,.int .i64 20] (zd zz .eql 3 (.tmp 170) (.const (.int .i64 20)) c (.int .i64 20))) fun a=>e a d) (fun a f=>opt (pk b (.bool true) a) fun g=>rv [g] f R) d
def Yc:=fun b (R:VK) c (d:za)=>
 GD b true (fun e=>opt (nb [c,.int .i64 10000000] (zd zz .leq 3 (.tmp 190) (.const (.int .i64 10000000)) c (.int .i64 10000000))) fun a=>e a d) (fun a f=>opt (pk b a (.bool false)) fun g=>rv [g] f R) d
def Yd:=fun e f (R:VK) g (d:za)=>
 opt (pk e g (.bool false)) fun a=>GD a true (fun h=>opt (zb zz 42 f 5) fun b=>h b d) (fun b c=>GD a true (fun i=>opt (zc zz 3 b c) fun j=>i j c) (Yc a R) c) d
def Ye:=fun a d (R:VK) b (c:za)=>
 GD a true (fun e=>opt (nb [b,.int .i64 0] (zd zz .geq 3 (.tmp 185) (ci 0) b (.int .i64 0))) fun f=>e f c) (Yd a d R) c
def Yf:=fun d (R:VK) a (e:za)=>
 GD a true (fun f=>opt (zb zz 42 d 5) fun b=>f b e) (fun b c=>GD a true (fun g=>opt (zc zz 3 b c) fun h=>g h c) (Ye a d R) c) e
def k8:=fun b (R:VK) c (d:za)=>
 GD b true (fun e=>opt (nb [c,.int .i64 10000000] (zd zz .leq 3 (.tmp 201) (.const (.int .i64 10000000)) c (.int .i64 10000000))) fun a=>e a d) (fun a f=>opt (pk b a (.bool false)) fun g=>rv [g] f R) d
def k9:=fun b (R:VK) c (d:za)=>
 GD b true (fun e=>opt (nb [c,.int .i64 65536] (zd zz .leq 2 (.tmp 212) (.const (.int .i64 65536)) c (.int .i64 65536))) fun a=>e a d) (fun a f=>opt (pk b a (.bool false)) fun g=>rv [g] f R) d
def ja:=fun e (a:za) (R:VK) (k:LK)=>
 opt (zb zz 42 e 6) fun g=>opt (zc zz 2 g a) fun f=>opt (nb [f,.int .i64 0] (zd zz .geq 2 (.tmp 208) (ci 0) f (.int .i64 0))) fun b=>GD b true (fun h=>opt (zb zz 42 e 6) fun c=>h c a) (fun c d=>GD b true (fun i=>opt (zc zz 2 c d) fun j=>i j d) (k9 b R) d) a
def jb:=fun e (a:za) (R:VK) (k:LK)=>
 opt (zb zz 42 e 5) fun g=>opt (zc zz 3 g a) fun f=>opt (nb [f,.int .i64 0] (zd zz .geq 3 (.tmp 197) (ci 0) f (.int .i64 0))) fun b=>GD b true (fun h=>opt (zb zz 42 e 5) fun c=>h c a) (fun c d=>GD b true (fun i=>opt (zc zz 3 c d) fun j=>i j d) (k8 b R) d) a
def qV:=fun a (c:za) f (R:VK) g (h:LK)=>
 opt (nb [a,.int .i64 23] (zd zz .eql 3 (.tmp 80) (.const (.int .i64 23)) a (.int .i64 23))) fun d=>CD d (fun b=>b [d] c)
 (fun b=>opt (nb [a,.int .i64 24] (zd zz .eql 3 (.tmp 80) (.const (.int .i64 24)) a (.int .i64 24))) fun i=>b [i] c)
 (fun j e=>CD (nth j 0) (ja f e R)
 (fun k=>k [nth g 0] e)
 (fun l m=>h [nth l 0] m))
def vh:=fun a (c:za) d (R:VK) g (h:LK)=>
 opt (nb [a,.int .i64 18] (zd zz .eql 3 (.tmp 80) (.const (.int .i64 18)) a (.int .i64 18))) fun e=>CD e (fun b=>b [e] c)
 (fun b=>opt (nb [a,.int .i64 20] (zd zz .eql 3 (.tmp 80) (.const (.int .i64 20)) a (.int .i64 20))) fun i=>b [i] c)
 (fun j f=>CD (nth j 0) (jb d f R)
 (qV a f d R g)
 (fun k l=>h [nth k 0] l))
def aL:=fun b (a:za) (R:VK) (g:LK)=>
 opt (zb zz 42 b 4) fun c=>opt (zc zz 3 c a) fun d=>zH zz (fn 56) [d] a (fun e f=>rv [e] f R)
def wQ:=fun a b (c:za) (R:VK) d (e:LK)=>
 opt (nb [a,.int .i64 19] (zd zz .eql 3 (.tmp 80) (.const (.int .i64 19)) a (.int .i64 19))) fun f=>CD f (fun k=>opt (zb zz 42 b 4) fun g=>opt (zc zz 3 g c) fun h=>zH zz (fn 56) [h] c (Yf b R))
 (vh a c b R d)
 (fun i j=>e [nth i 0] j)
def Xr:=fun e (a:za) (R:VK) (k:LK)=>
 opt (zb zz 42 e 3) fun g=>opt (zc zz 3 g a) fun f=>opt (nb [f,.int .i64 19] (zd zz .eql 3 (.tmp 166) (.const (.int .i64 19)) f (.int .i64 19))) fun b=>GD b false (fun h=>opt (zb zz 42 e 3) fun c=>h c a) (fun c d=>GD b false (fun i=>opt (zc zz 3 c d) fun j=>i j d) (Xq b R) d) a
def wz:=fun a b (c:za) (R:VK) d (e:LK)=>
 opt (nb [a,.int .i64 17] (zd zz .eql 3 (.tmp 80) (.const (.int .i64 17)) a (.int .i64 17))) fun f=>CD f (aL b c R)
 (wQ a b c R d)
 (fun g h=>e [nth g 0] h)
def qW:=fun a (b:za) (R:VK) (k:LK)=>
 opt (zb zz 42 a 3) fun g=>opt (zc zz 3 g b) fun f=>opt (nb [f,.int .i64 19] (zd zz .eql 3 (.tmp 146) (.const (.int .i64 19)) f (.int .i64 19))) fun c=>GD c false (fun h=>opt (zb zz 42 a 3) fun d=>h d b) (fun d e=>GD c false (fun i=>opt (zc zz 3 d e) fun j=>i j e) (qU c a R) e) b
def xE:=fun a b (c:za) (R:VK) d (e:LK)=>
 opt (nb [a,.int .i64 12] (zd zz .eql 3 (.tmp 80) (.const (.int .i64 12)) a (.int .i64 12))) fun f=>CD f (Xr b c R)
 (wz a b c R d)
 (fun g h=>e [nth g 0] h)
def Xs:=fun e (a:za) (R:VK) (k:LK)=>
 opt (zb zz 42 e 3) fun g=>opt (zc zz 3 g a) fun f=>opt (nb [f,.int .i64 3] (zd zz .eql 3 (.tmp 136) (.const (.int .i64 3)) f (.int .i64 3))) fun b=>GD b false (fun h=>opt (zb zz 42 e 3) fun c=>h c a) (fun c d=>GD b false (fun i=>opt (zc zz 3 c d) fun j=>i j d) (WG b R) d) a
def yq:=fun a b (c:za) (R:VK) d (e:LK)=>
 opt (nb [a,.int .i64 11] (zd zz .eql 3 (.tmp 80) (.const (.int .i64 11)) a (.int .i64 11))) fun f=>CD f (qW b c R)
 (xE a b c R d)
 (fun g h=>e [nth g 0] h)
def Xt:=fun e (a:za) (R:VK) (k:LK)=>
 opt (zb zz 42 e 3) fun g=>opt (zc zz 3 g a) fun f=>opt (nb [f,.int .i64 1] (zd zz .eql 3 (.tmp 126) (ci 1) f (.int .i64 1))) fun b=>GD b false (fun h=>opt (zb zz 42 e 3) fun c=>h c a) (fun c d=>GD b false (fun i=>opt (zc zz 3 c d) fun j=>i j d) (WE b R) d) a
def yc:=fun a b (c:za) (R:VK) d (e:LK)=>
 opt (nb [a,.int .i64 10] (zd zz .eql 3 (.tmp 80) (.const (.int .i64 10)) a (.int .i64 10))) fun f=>CD f (Xs b c R)
 (yq a b c R d)
 (fun g h=>e [nth g 0] h)
def zY:=fun a b (c:za) (R:VK) d (e:LK)=>
 opt (nb [a,.int .i64 9] (zd zz .eql 3 (.tmp 80) (.const (.int .i64 9)) a (.int .i64 9))) fun f=>CD f (Xt b c R)
 (yc a b c R d)
 (fun g h=>e [nth g 0] h)
def aM:=fun b (a:za) (R:VK) (g:LK)=>
 opt (zb zz 42 b 3) fun c=>opt (zc zz 3 c a) fun d=>zH zz (fn 55) [d] a (fun e f=>rv [e] f R)
def zW:=fun a b (c:za) (R:VK) d (e:LK)=>
 opt (nb [a,.int .i64 8] (zd zz .eql 3 (.tmp 80) (.const (.int .i64 8)) a (.int .i64 8))) fun f=>CD f (fun k=>opt (zb zz 42 b 3) fun g=>opt (zc zz 3 g c) fun h=>zH zz (fn 55) [h] c (Qy b R))
 (zY a b c R d)
 (fun i j=>e [nth i 0] j)
def VG:=fun b (a:za) (R:VK) (g:LK)=>
 opt (zb zz 42 b 6) fun c=>opt (zc zz 2 c a) fun d=>zH zz (fn 37) [d] a (fun e f=>rv [e] f R)
def zU:=fun a b (c:za) (R:VK) d (e:LK)=>
 opt (nb [a,.int .i64 7] (zd zz .eql 3 (.tmp 80) (.const (.int .i64 7)) a (.int .i64 7))) fun f=>CD f (aM b c R)
 (zW a b c R d)
 (fun g h=>e [nth g 0] h)
def qc:=fun a (b:za) (R:VK) (k:LK)=>
 opt (zb zz 42 a 3) fun g=>opt (zc zz 3 g b) fun f=>opt (nb [f,.int .i64 1] (zd zz .eql 3 (.tmp 85) (ci 1) f (.int .i64 1))) fun c=>GD c false (fun h=>opt (zb zz 42 a 3) fun d=>h d b) (fun d e=>GD c false (fun i=>opt (zc zz 3 d e) fun j=>i j e) (kq c a R) e) b
def zN:=fun a (c:za) d (R:VK) g (h:LK)=>
 opt (nb [a,.int .i64 5] (zd zz .eql 3 (.tmp 80) (.const (.int .i64 5)) a (.int .i64 5))) fun e=>CD e (fun b=>b [e] c)
 (fun b=>opt (nb [a,.int .i64 16] (zd zz .eql 3 (.tmp 80) (.const (.int .i64 16)) a (.int .i64 16))) fun i=>b [i] c)
 (fun j f=>CD (nth j 0) (VG d f R)
 (zU a d f R g)
 (fun k l=>h [nth k 0] l))
def zE:=fun a (c:za) d (R:VK) g (h:LK)=>
 opt (nb [a,.int .i64 3] (zd zz .eql 3 (.tmp 80) (.const (.int .i64 3)) a (.int .i64 3))) fun e=>CD e (fun b=>b [e] c)
 (fun b=>opt (nb [a,.int .i64 4] (zd zz .eql 3 (.tmp 80) (.const (.int .i64 4)) a (.int .i64 4))) fun i=>b [i] c)
 (fun j f=>CD (nth j 0) (qc d f R)
 (zN a f d R g)
 (fun k l=>h [nth k 0] l))
def zl:=fun a (R:VK) c (b:za)=>
 opt (zb zz 42 a 0) fun d=>opt (zc zz 3 d b) fun e=>BK (zE e b a R c)
 (fun g f=>rv [.bool true] f R)
def qX:=fun b (R:VK) g h c (d:za)=>
 GD b true (fun i=>opt (nb [c,.int .i64 1] (zd zz .neq 3 (.tmp 76) (ci 1) c (.int .i64 1))) fun a=>i a d) (fun a e=>opt (pk b a (.bool false)) fun j=>CD j (fun f=>rv [.bool false] e R)
 (fun f=>f [nth g 0] e)
 (zl h R)) d
def qY:=fun f d (R:VK) g h (e:za)=>
 opt (pk f h (.bool false)) fun a=>GD a true (fun i=>opt (zb zz 42 d 0) fun b=>i b e) (fun b c=>GD a true (fun j=>opt (zc zz 3 b c) fun k=>j k c) (qX a R g d) c) e
def qZ:=fun a d (R:VK) e b (c:za)=>
 GD a true (fun f=>opt (nb [b,.int .i64 5] (zd zz .neq 3 (.tmp 71) (.const (.int .i64 5)) b (.int .i64 5))) fun g=>f g c) (qY a d R e) c
def q7:=fun f d (R:VK) g h (e:za)=>
 opt (pk f h (.bool false)) fun a=>GD a true (fun i=>opt (zb zz 42 d 0) fun b=>i b e) (fun b c=>GD a true (fun j=>opt (zc zz 3 b c) fun k=>j k c) (qZ a d R g) c) e
def q8:=fun a d (R:VK) e b (c:za)=>
 GD a true (fun f=>opt (nb [b,.int .i64 4] (zd zz .neq 3 (.tmp 66) (.const (.int .i64 4)) b (.int .i64 4))) fun g=>f g c) (q7 a d R e) c
def q9:=fun f d (R:VK) g h (e:za)=>
 opt (pk f h (.bool false)) fun a=>GD a true (fun i=>opt (zb zz 42 d 0) fun b=>i b e) (fun b c=>GD a true (fun j=>opt (zc zz 3 b c) fun k=>j k c) (q8 a d R g) c) e
def ka:=fun a d (R:VK) e b (c:za)=>
 GD a true (fun f=>opt (nb [b,.int .i64 3] (zd zz .neq 3 (.tmp 61) (.const (.int .i64 3)) b (.int .i64 3))) fun g=>f g c) (q9 a d R e) c
def kd:=fun f d (R:VK) g h (e:za)=>
 opt (pk f h (.bool false)) fun a=>GD a true (fun i=>opt (zb zz 42 d 0) fun b=>i b e) (fun b c=>GD a true (fun j=>opt (zc zz 3 b c) fun k=>j k c) (ka a d R g) c) e
def ke:=fun a d (R:VK) e b (c:za)=>
 GD a true (fun f=>opt (nb [b,.int .i64 4] (zd zz .eql 3 (.tmp 56) (.const (.int .i64 4)) b (.int .i64 4))) fun g=>f g c) (kd a d R e) c
def qd:=fun a d (R:VK) f (e:za)=>
 GD a true (fun g=>opt (zb zz 42 d 2) fun b=>g b e) (fun b c=>GD a true (fun h=>opt (zc zz 3 b c) fun i=>h i c) (ke a d R f) c) e
def xq:=fun b f (R:VK) g h i (c:za)=>
 GD b false (fun j=>opt (pk f i (.bool false)) fun a=>j a c) (fun a d=>opt (pk b (.bool true) a) fun k=>CD k (fun e=>rv [.bool false] d R)
 (fun e=>e [.bool false] d)
 (qd g h R)) c
def xr:=fun a d (R:VK) e f b (c:za)=>
 GD a true (fun g=>opt (nb [b,.int .i64 4] (zd zz .eql 3 (.tmp 49) (.const (.int .i64 4)) b (.int .i64 4))) fun h=>g h c) (xq d a R e f) c
def xt:=fun d f (R:VK) g a (e:za)=>
 GD a true (fun h=>opt (zb zz 42 d 1) fun b=>h b e) (fun b c=>GD a true (fun i=>opt (zc zz 3 b c) fun j=>i j c) (xr a f R g d) c) e
def vr:=fun a e (R:VK) f g (c:za)=>
 GD a false (fun h=>zH zz (fn 54) [g] c (fun b i=>h b i)) (fun b d=>GD a false (fun j=>j b d) (xt e a R f) d) c
def vt:=fun c g d (R:VK) h i (e:za)=>
 GD c false (fun j=>opt (pk g i (.bool false)) fun a=>j a e) (fun a b=>opt (pk c (.bool true) a) fun f=>GD f false (fun k=>opt (zc zz 42 d b) fun l=>k l b) (vr f d R h) b) e
def vu:=fun b c g h (R:VK) i d (e:za)=>
 GD b false (fun j=>opt (nb [d,.int .i64 15] (zd zz .gtr 3 (.tmp 39) (.const (.int .i64 15)) d (.int .i64 15))) fun a=>j a e) (fun a f=>GD c true (fun k=>opt (pk b (.bool true) a) fun l=>k l f) (vt g c h R i) f) e
def vv:=fun d f g (R:VK) h a (e:za)=>
 GD a false (fun i=>opt (zb zz 42 d 2) fun b=>i b e) (fun b c=>GD a false (fun j=>opt (zc zz 3 b c) fun k=>j k c) (vu a f g d R h) c) e
def vw:=fun a f g (R:VK) h c (d:za)=>
 GD a true (fun i=>opt (nb [c,.int .i64 0] (zd zz .lss 3 (.tmp 35) (ci 0) c (.int .i64 0))) fun b=>i b d) (fun b e=>GD a true (fun j=>j b e) (vv f a g R h) e) d
def vx:=fun d f (R:VK) g a (e:za)=>
 GD a true (fun h=>opt (zb zz 42 d 2) fun b=>h b e) (fun b c=>GD a true (fun i=>opt (zc zz 3 b c) fun j=>i j c) (vw a d f R g) c) e
def vy:=fun e b f (R:VK) g (c:za)=>
 opt (pk e (.bool true) g) fun a=>GD a false (fun h=>h b c) (fun i d=>GD a false (fun j=>j i d) (vx f a R b) d) c
def vz:=fun b f c g h (R:VK) i (d:za)=>
 GD b true (fun j=>opt (pk f (.bool true) i) fun a=>j a d) (fun a e=>GD c false (fun k=>opt (pk b a (.bool false)) fun l=>k l e) (vy c g h R) e) d
def vA:=fun a d e f g (R:VK) b (c:za)=>
 GD a false (fun h=>opt (nb [b,.int .i64 15] (zd zz .gtr 3 (.tmp 26) (.const (.int .i64 15)) b (.int .i64 15))) fun i=>h i c) (vz d a e f g R) c
def vB:=fun d f g h (R:VK) a (e:za)=>
 GD a false (fun i=>opt (zb zz 42 d 1) fun b=>i b e) (fun b c=>GD a false (fun j=>opt (zc zz 3 b c) fun k=>j k c) (vA a f g h d R) c) e
def vC:=fun a f g h (R:VK) c (d:za)=>
 GD a true (fun i=>opt (nb [c,.int .i64 0] (zd zz .lss 3 (.tmp 22) (ci 0) c (.int .i64 0))) fun b=>i b d) (fun b e=>GD a true (fun j=>j b e) (vB f a g h R) e) d
def vD:=fun d f g (R:VK) a (e:za)=>
 GD a true (fun h=>opt (zb zz 42 d 1) fun b=>h b e) (fun b c=>GD a true (fun i=>opt (zc zz 3 b c) fun j=>i j c) (vC a d f g R) c) e
def vE:=fun d e f g (R:VK) h (b:za)=>
 opt (pk d (.bool true) h) fun a=>GD a false (fun i=>i e b) (fun j c=>GD a false (fun k=>k j c) (vD f a g R) c) b
def vF:=fun a d e f (R:VK) b (c:za)=>
 GD a false (fun g=>opt (nb [b,.int .i64 26] (zd zz .gtr 3 (.tmp 15) (.const (.int .i64 26)) b (.int .i64 26))) fun h=>g h c) (vE a d e f R) c
def vG:=fun a (R:VK) f (b:za)=>
 opt (gi f 0) fun h=>opt (gi f 1) fun i=>opt (zb zz 42 a 0) fun j=>opt (zc zz 3 j b) fun g=>opt (nb [g,.int .i64 1] (zd zz .lss 3 (.tmp 11) (ci 1) g (.int .i64 1))) fun c=>GD c false (fun k=>opt (zb zz 42 a 0) fun d=>k d b) (fun d e=>GD c false (fun l=>opt (zc zz 3 d e) fun m=>l m e) (vF c h a i R) e) b
def np:=fun (h:za) a (R:VK)=>
 opt (nb [a] (some (Value.cells a).toList)) fun d=>nw h d 42 fun b c=>opt (zc zz 42 b c) fun e=>zH zz (fn 53) [e] c (vG b R)
theorem nq (hw:np h t0 R):DC zz 27 [t0] h R:=xB (by kernel_rfl) hw
def WL:=fun a (c:za) (e:LK)=>
 opt (nb [a,.int .i64 12] (zd zz .eql 3 (.tmp 4) (.const (.int .i64 12)) a (.int .i64 12))) fun d=>CD d (fun b=>b [d] c)
 (fun b=>opt (nb [a,.int .i64 17] (zd zz .eql 3 (.tmp 4) (.const (.int .i64 17)) a (.int .i64 17))) fun f=>b [f] c)
 (fun g h=>e [nth g 0] h)
def YV:=fun a (b:za) (d:LK)=>
 opt (nb [a,.int .i64 11] (zd zz .eql 3 (.tmp 4) (.const (.int .i64 11)) a (.int .i64 11))) fun c=>CD c (fun e=>e [c] b)
 (WL a b)
 (fun f g=>d [nth f 0] g)
def ZQ:=fun a (b:za) (d:LK)=>
 opt (nb [a,.int .i64 10] (zd zz .eql 3 (.tmp 4) (.const (.int .i64 10)) a (.int .i64 10))) fun c=>CD c (fun e=>e [c] b)
 (YV a b)
 (fun f g=>d [nth f 0] g)
def jT:=fun a (b:za) (d:LK)=>
 opt (nb [a,.int .i64 9] (zd zz .eql 3 (.tmp 4) (.const (.int .i64 9)) a (.int .i64 9))) fun c=>CD c (fun e=>e [c] b)
 (ZQ a b)
 (fun f g=>d [nth f 0] g)
def jf:=fun a (b:za) (d:LK)=>
 opt (nb [a,.int .i64 8] (zd zz .eql 3 (.tmp 4) (.const (.int .i64 8)) a (.int .i64 8))) fun c=>CD c (fun e=>e [c] b)
 (jT a b)
 (fun f g=>d [nth f 0] g)
def kz:=fun a (b:za) (d:LK)=>
 opt (nb [a,.int .i64 7] (zd zz .eql 3 (.tmp 4) (.const (.int .i64 7)) a (.int .i64 7))) fun c=>CD c (fun e=>e [c] b)
 (jf a b)
 (fun f g=>d [nth f 0] g)
def qD:=fun a (b:za) (d:LK)=>
 opt (nb [a,.int .i64 6] (zd zz .eql 3 (.tmp 4) (.const (.int .i64 6)) a (.int .i64 6))) fun c=>CD c (fun e=>e [c] b)
 (kz a b)
 (fun f g=>d [nth f 0] g)
def uJ:=fun a (b:za) (d:LK)=>
 opt (nb [a,.int .i64 5] (zd zz .eql 3 (.tmp 4) (.const (.int .i64 5)) a (.int .i64 5))) fun c=>CD c (fun e=>e [c] b)
 (qD a b)
 (fun f g=>d [nth f 0] g)
def uA:=fun a (b:za) (d:LK)=>
 opt (nb [a,.int .i64 3] (zd zz .eql 3 (.tmp 4) (.const (.int .i64 3)) a (.int .i64 3))) fun c=>CD c (fun e=>e [c] b)
 (uJ a b)
 (fun f g=>d [nth f 0] g)
def vJ:=fun a (b:za) (d:LK)=>
 opt (nb [a,.int .i64 2] (zd zz .eql 3 (.tmp 4) (.const (.int .i64 2)) a (.int .i64 2))) fun c=>CD c (fun e=>e [c] b)
 (uA a b)
 (fun f g=>d [nth f 0] g)
def vi:=fun a (b:za) (R:VK) (f:LK)=>
 opt (nb [a,.int .i64 1] (zd zz .eql 3 (.tmp 4) (ci 1) a (.int .i64 1))) fun c=>CD c (fun g=>g [c] b)
 (vJ a b)
 (fun h d=>CD (nth h 0) (fun e=>rv [.bool true] d R)
 (fun e=>e [.bool false] d)
 (fun i j=>f [nth i 0] j))
def oh:=fun (h:za) a (R:VK)=>
 opt (nb [a] (some (Value.cells a).toList)) fun c=>nw h c 42 fun d b=>opt (zb zz 42 d 0) fun e=>opt (zc zz 3 e b) fun f=>BK (vi f b R)
 (fun i g=>rv [.bool false] g R)
theorem oj (hw:oh h t0 R):DC zz 54 [t0] h R:=xB (by kernel_rfl) hw
def uV:=fun a (c:za) (e:LK)=>
 opt (nb [a,.int .i64 14] (zd zz .eql 3 (.tmp 23) (.const (.int .i64 14)) a (.int .i64 14))) fun d=>CD d (fun b=>b [d] c)
 (fun b=>opt (nb [a,.int .i64 15] (zd zz .eql 3 (.tmp 23) (.const (.int .i64 15)) a (.int .i64 15))) fun f=>b [f] c)
 (fun g h=>e [nth g 0] h)
def uF:=fun a (b:za) (d:LK)=>
 opt (nb [a,.int .i64 10] (zd zz .eql 3 (.tmp 23) (.const (.int .i64 10)) a (.int .i64 10))) fun c=>CD c (fun e=>e [c] b)
 (uV a b)
 (fun f g=>d [nth f 0] g)
def uu:=fun a (b:za) (d:LK)=>
 opt (nb [a,.int .i64 7] (zd zz .eql 3 (.tmp 23) (.const (.int .i64 7)) a (.int .i64 7))) fun c=>CD c (fun e=>e [c] b)
 (uF a b)
 (fun f g=>d [nth f 0] g)
def ub:=fun a (b:za) (d:LK)=>
 opt (nb [a,.int .i64 5] (zd zz .eql 3 (.tmp 23) (.const (.int .i64 5)) a (.int .i64 5))) fun c=>CD c (fun e=>e [c] b)
 (uu a b)
 (fun f g=>d [nth f 0] g)
def vT:=fun a (b:za) (d:LK)=>
 opt (nb [a,.int .i64 4] (zd zz .eql 3 (.tmp 23) (.const (.int .i64 4)) a (.int .i64 4))) fun c=>CD c (fun e=>e [c] b)
 (ub a b)
 (fun f g=>d [nth f 0] g)
def vI:=fun a (b:za) (d:LK)=>
 opt (nb [a,.int .i64 3] (zd zz .eql 3 (.tmp 23) (.const (.int .i64 3)) a (.int .i64 3))) fun c=>CD c (fun e=>e [c] b)
 (vT a b)
 (fun f g=>d [nth f 0] g)
def vj:=fun d (R:VK) (e:LK) f (a:za)=>
 CD (nth f 0) (fun b=>rv [d,.bool true] a R)
 (fun b=>b [.bool false,.bool false] a)
 (fun c g=>e [nth c 0,nth c 1] g)
def vk:=fun a (b:za) d (R:VK) (e:LK)=>
 opt (nb [a,.int .i64 1] (zd zz .eql 3 (.tmp 23) (ci 1) a (.int .i64 1))) fun c=>CD c (fun f=>f [c] b)
 (vI a b)
 (vj d R e)
def vm:=fun c d (R:VK) e (a:za)=>
 opt (pk c (.bool true) e) fun b=>opt (zb zz 42 d 0) fun f=>opt (zc zz 3 f a) fun g=>BK (vk g a b R)
 (fun i h=>rv [b,.bool false] h R)
def wE:=fun a d (R:VK) b (c:za)=>
 GD a false (fun e=>opt (nb [b,.int .i64 16] (zd zz .eql 3 (.tmp 19) (.const (.int .i64 16)) b (.int .i64 16))) fun f=>e f c) (vm a d R) c
def wF:=fun f d (R:VK) g (e:za)=>
 opt (pk f (.bool true) g) fun a=>GD a false (fun h=>opt (zb zz 42 d 0) fun b=>h b e) (fun b c=>GD a false (fun i=>opt (zc zz 3 b c) fun j=>i j c) (wE a d R) c) e
def wG:=fun a d (R:VK) b (c:za)=>
 GD a false (fun e=>opt (nb [b,.int .i64 15] (zd zz .eql 3 (.tmp 14) (.const (.int .i64 15)) b (.int .i64 15))) fun f=>e f c) (wF a d R) c
def wH:=fun f d (R:VK) g (e:za)=>
 opt (pk f (.bool true) g) fun a=>GD a false (fun h=>opt (zb zz 42 d 0) fun b=>h b e) (fun b c=>GD a false (fun i=>opt (zc zz 3 b c) fun j=>i j c) (wG a d R) c) e
def wI:=fun a d (R:VK) b (c:za)=>
 GD a false (fun e=>opt (nb [b,.int .i64 4] (zd zz .eql 3 (.tmp 9) (.const (.int .i64 4)) b (.int .i64 4))) fun f=>e f c) (wH a d R) c
def wJ:=fun d (R:VK) a (e:za)=>
 GD a false (fun f=>opt (zb zz 42 d 0) fun b=>f b e) (fun b c=>GD a false (fun g=>opt (zc zz 3 b c) fun h=>g h c) (wI a d R) c) e
def tQ:=fun (h:za) a (R:VK)=>
 opt (nb [a] (some (Value.cells a).toList)) fun d=>nw h d 42 fun b c=>opt (zc zz 42 b c) fun e=>zH zz (fn 54) [e] c (wJ b R)
theorem rL (hw:tQ h t0 R):DC zz 53 [t0] h R:=xB (by kernel_rfl) hw
def Uk:=fun b (R:VK) c (d:za)=>
 GD b true (fun e=>opt (nb [c,.int .i64 2147483647] (zd zz .leq 2 (.tmp 6) (.const (.int .i64 2147483647)) c (.int .i64 2147483647))) fun a=>e a d) (fun a f=>opt (pk b a (.bool false)) fun g=>rv [g] f R) d
def tT:=fun (h:za) a (R:VK)=>
 opt (nb [a,.int .i64 (-2147483648)] (zd zz .geq 2 (.tmp 3) (.const (.int .i64 (-2147483648))) a (.int .i64 (-2147483648)))) fun b=>GD b true (fun c=>c a h) (Uk b R) h
theorem rO (hw:tT h t0 R):DC zz 37 [t0] h R:=xB (by kernel_rfl) hw
def bD:=fun b (R:VK) c (d:za)=>
 GD b true (fun e=>opt (nb [c,.int .i64 26] (zd zz .leq 3 (.tmp 6) (.const (.int .i64 26)) c (.int .i64 26))) fun a=>e a d) (fun a f=>opt (pk b a (.bool false)) fun g=>rv [g] f R) d
def GH:=fun (h:za) a (R:VK)=>
 opt (nb [a,.int .i64 21] (zd zz .geq 3 (.tmp 3) (.const (.int .i64 21)) a (.int .i64 21))) fun b=>GD b true (fun c=>c a h) (bD b R) h
theorem C9 (hw:GH h t0 R):DC zz 56 [t0] h R:=xB (by kernel_rfl) hw
def Z7:=fun b (R:VK) c (d:za)=>
 GD b false (fun e=>opt (nb [c,.int .i64 18] (zd zz .eql 3 (.tmp 22) (.const (.int .i64 18)) c (.int .i64 18))) fun a=>e a d) (fun a f=>opt (pk b (.bool true) a) fun g=>rv [g] f R) d
def Z8:=fun b g (R:VK) c (d:za)=>
 GD b false (fun h=>opt (nb [c,.int .i64 17] (zd zz .eql 3 (.tmp 18) (.const (.int .i64 17)) c (.int .i64 17))) fun a=>h a d) (fun a e=>opt (pk b (.bool true) a) fun f=>GD f false (fun i=>i g e) (Z7 f R) e) d
def Z9:=fun b c (R:VK) d (e:za)=>
 GD b false (fun h=>opt (nb [d,.int .i64 16] (zd zz .eql 3 (.tmp 14) (.const (.int .i64 16)) d (.int .i64 16))) fun a=>h a e) (fun a f=>opt (pk b (.bool true) a) fun g=>GD g false (fun i=>i c f) (Z8 g c R) f) e
def Ya:=fun b c (R:VK) d (e:za)=>
 GD b false (fun h=>opt (nb [d,.int .i64 13] (zd zz .eql 3 (.tmp 10) (.const (.int .i64 13)) d (.int .i64 13))) fun a=>h a e) (fun a f=>opt (pk b (.bool true) a) fun g=>GD g false (fun i=>i c f) (Z9 g c R) f) e
def Yb:=fun b c (R:VK) d (e:za)=>
 GD b false (fun h=>opt (nb [d,.int .i64 12] (zd zz .eql 3 (.tmp 6) (.const (.int .i64 12)) d (.int .i64 12))) fun a=>h a e) (fun a f=>opt (pk b (.bool true) a) fun g=>GD g false (fun i=>i c f) (Ya g c R) f) e
def C8:=fun (h:za) a (R:VK)=>
 opt (nb [a,.int .i64 11] (zd zz .eql 3 (.tmp 3) (.const (.int .i64 11)) a (.int .i64 11))) fun b=>GD b false (fun c=>c a h) (Yb b a R) h
theorem Bc (hw:C8 h t0 R):DC zz 55 [t0] h R:=xB (by kernel_rfl) hw
def V8:=fun d a (R:VK) (e:LK) f (b:za)=>
 opt (pk d f (.bool false)) fun g=>CD g (fun c=>rv [nth a 1] b R)
 (fun c=>c [nth a 0] b)
 (fun h i=>e [nth h 0] i)
def V9:=fun a f g (R:VK) (h:LK) b (c:za)=>
 GD a true (fun i=>i f c) (fun d e=>GD a true (fun j=>opt (nb [b,d] (zd zz .eql 3 (.tmp 26) (.tmp 27) b d)) fun k=>j k e) (V8 a g R h) e) c
def Ua:=fun a e f (R:VK) (g:LK) h (d:za)=>
 GD a true (fun i=>opt (zb zz 42 h 5) fun b=>i b d) (fun b c=>GD a true (fun j=>opt (zc zz 3 b c) fun k=>j k c) (V9 a e f R g) c) d
def Ub:=fun a b e (R:VK) (f:LK) g (c:za)=>
 GD a true (fun h=>h (nth b 1) c) (fun i d=>GD a true (fun j=>opt (zI zz 48 g i) fun k=>j k d) (Ua a e b R f) d) c
def Uc:=fun e (a:za) f h (R:VK) (i:LK)=>
 opt (zb zz 50 e 1) fun j=>opt (zc zz 48 j a) fun k=>opt (zI zz 48 k (nth f 1)) fun l=>opt (zb zz 42 l 0) fun m=>opt (zc zz 3 m a) fun g=>opt (nb [g,.int .i64 20] (zd zz .eql 3 (.tmp 18) (.const (.int .i64 20)) g (.int .i64 20))) fun b=>GD b true (fun n=>opt (zb zz 50 e 1) fun c=>n c a) (fun c d=>GD b true (fun o=>opt (zc zz 48 c d) fun p=>o p d) (Ub b f h R i) d) a
def Jt:=fun a (b:LK) c (d:za)=>
 opt (nb [nth a 1,.int .i64 1] (zd zz .add 3 (.tmp 11) (ci 1) (nth a 1) (.int .i64 1))) fun e=>b [nth c 0,e] d
def gN:=fun b (h:LK) i (R:VK) a (c:za) (j:LK)=>
 opt (zb zz 50 b 1) fun k=>opt (zc zz 48 k c) fun d=>zB (nb [d] (zg zz .len [48] 3 [d] c)) fun e f=>opt (nb [nth a 1,e] (zd zz .lss 3 (.tmp 6) (.tmp 9) (nth a 1) e)) fun l=>CD l (fun g=>g [] f)
 (fun g=>h [nth a 0] f)
 (fun n m=>BK (Uc b m a i R)
 (Jt a j))
def tA:=fun (h:za) a b (R:VK)=>
 opt (nb [a] (some (Value.cells a).toList)) fun c=>nw h c 50 fun d e=>BK (fun f=>LP (gN d f b R)
 [.int .i64 0,.int .i64 0] e)
 (fun i g=>rv [.int .i64 (-1)] g R)
theorem rG (hw:tA h t0 t1 R):DC zz 28 [t0,t1] h R:=xB (by kernel_rfl) hw
theorem xA (b off:Nat) (h:za):zc Tryz.prog 2 (.pointer (some ⟨b,off,none⟩)) h=zq h b off:=ym (by kernel_rfl) b off h
theorem wL (b off:Nat) (h:za):zc Tryz.prog 22 (.pointer (some ⟨b,off,none⟩)) h=zq h b off:=ym (by kernel_rfl) b off h
theorem wN (b off:Nat) (h:za):zc Tryz.prog 23 (.pointer (some ⟨b,off,none⟩)) h=zq h b off:=ym (by kernel_rfl) b off h
theorem zi (b off:Nat) (h:za):zc Tryz.prog 3 (.pointer (some ⟨b,off,none⟩)) h=zq h b off:=ym (by kernel_rfl) b off h
theorem qf (b off:Nat) (h:za):zc Tryz.prog 42 (.pointer (some ⟨b,off,none⟩)) h=jF h b off 7:=uW (by kernel_rfl) (by kernel_rfl) b off h
theorem uP (b off:Nat) (h:za):zc Tryz.prog 48 (.pointer (some ⟨b,off,none⟩)) h=zq h b off:=ym (by kernel_rfl) b off h
theorem Yr (b off:Nat) (h:za):zc Tryz.prog 50 (.pointer (some ⟨b,off,none⟩)) h=jF h b off 2:=uW (by kernel_rfl) (by kernel_rfl) b off h
theorem aS (b off:Nat) (l:List Value) (h:za) (hv:l.length=7):zZ Tryz.prog 42 (.pointer (some ⟨b,off,none⟩)) (.agg l.toArray) h=fO h b off l:=qF (by kernel_rfl) b off l h hv
theorem dZ (b off:Nat) (l:List Value) (h:za) (hv:l.length=2):zZ Tryz.prog 50 (.pointer (some ⟨b,off,none⟩)) (.agg l.toArray) h=fO h b off l:=qF (by kernel_rfl) b off l h hv
theorem aT:vK Tryz.prog 42=some (.agg #[(.int .i64 0),(.int .i64 0),(.int .i64 0),(.int .i64 0),(.int .i64 0),(.int .i64 0),(.int .i64 0)]):=zK (by kernel_rfl)
theorem eu:vK Tryz.prog 50=some (.agg #[(.string ⟨#[]⟩),(.slice none 0 0)]):=zK (by kernel_rfl)
theorem yZ (b off:Nat):zb Tryz.prog 25 (.pointer (some ⟨b,off,none⟩)) 0=some (.pointer (some ⟨b,off,none⟩)):=zK (by kernel_rfl)
theorem yo (b off:Nat):zb Tryz.prog 25 (.pointer (some ⟨b,off,none⟩)) 1=some (.pointer (some ⟨b,off + 1,none⟩)):=zK (by kernel_rfl)
theorem ug (b off:Nat):zb Tryz.prog 25 (.pointer (some ⟨b,off,none⟩)) 2=some (.pointer (some ⟨b,off + 2,none⟩)):=zK (by kernel_rfl)
theorem kL (b off:Nat):zb Tryz.prog 25 (.pointer (some ⟨b,off,none⟩)) 3=some (.pointer (some ⟨b,off + 3,none⟩)):=zK (by kernel_rfl)
theorem ze (b off:Nat):zb Tryz.prog 42 (.pointer (some ⟨b,off,none⟩)) 0=some (.pointer (some ⟨b,off,none⟩)):=zK (by kernel_rfl)
theorem zC (b off:Nat):zb Tryz.prog 42 (.pointer (some ⟨b,off,none⟩)) 1=some (.pointer (some ⟨b,off + 1,none⟩)):=zK (by kernel_rfl)
theorem zM (b off:Nat):zb Tryz.prog 42 (.pointer (some ⟨b,off,none⟩)) 2=some (.pointer (some ⟨b,off + 2,none⟩)):=zK (by kernel_rfl)
theorem zk (b off:Nat):zb Tryz.prog 42 (.pointer (some ⟨b,off,none⟩)) 3=some (.pointer (some ⟨b,off + 3,none⟩)):=zK (by kernel_rfl)
theorem Z0 (b off:Nat):zb Tryz.prog 42 (.pointer (some ⟨b,off,none⟩)) 4=some (.pointer (some ⟨b,off + 4,none⟩)):=zK (by kernel_rfl)
theorem x9 (b off:Nat):zb Tryz.prog 42 (.pointer (some ⟨b,off,none⟩)) 5=some (.pointer (some ⟨b,off + 5,none⟩)):=zK (by kernel_rfl)
theorem zu (b off:Nat):zb Tryz.prog 42 (.pointer (some ⟨b,off,none⟩)) 6=some (.pointer (some ⟨b,off + 6,none⟩)):=zK (by kernel_rfl)
theorem wj (b off:Nat):zb Tryz.prog 50 (.pointer (some ⟨b,off,none⟩)) 1=some (.pointer (some ⟨b,off + 1,none⟩)):=zK (by kernel_rfl)
theorem pr (b off len c:Nat) (k:IntKind) (i:Int):zI Tryz.prog 22 (.slice (some ⟨b,off,none⟩) len c) (.int k i)=if 0<=i/\i < len then some (.pointer (some ⟨b,off + i.toNat * 1,none⟩)) else none:=xo (e:=3) (by kernel_rfl) (by kernel_rfl)
theorem pw (b off len c:Nat) (k:IntKind) (i:Int):zI Tryz.prog 23 (.slice (some ⟨b,off,none⟩) len c) (.int k i)=if 0<=i/\i < len then some (.pointer (some ⟨b,off + i.toNat * 2,none⟩)) else none:=xo (e:=50) (by kernel_rfl) (by kernel_rfl)
theorem Am (b off len c:Nat) (k:IntKind) (i:Int):zI Tryz.prog 48 (.slice (some ⟨b,off,none⟩) len c) (.int k i)=if 0<=i/\i < len then some (.pointer (some ⟨b,off + i.toNat * 7,none⟩)) else none:=xo (e:=42) (by kernel_rfl) (by kernel_rfl)
theorem JS (r:TypeId) (a:Option Addr) (n c:Nat) (h:za):zg Tryz.prog .len [22] r [.slice a n c] h=some (.int .i64 n,h):=zK (by kernel_rfl)
theorem JT (r:TypeId) (a:Option Addr) (n c:Nat) (h:za):zg Tryz.prog .len [23] r [.slice a n c] h=some (.int .i64 n,h):=zK (by kernel_rfl)
theorem eX (r:TypeId) (a:Option Addr) (n c:Nat) (h:za):zg Tryz.prog .len [48] r [.slice a n c] h=some (.int .i64 n,h):=zK (by kernel_rfl)
end Go.Ar
namespace Go.As
open Go.Ai Go.Proofs Go.Proofs.Tryz
noncomputable abbrev zz:=prog
abbrev VK:=Value->za->Prop
abbrev LK:=List Value->za->Prop
abbrev ci (n:Int):Operand := .const (.int .i64 n)
abbrev fn (n:Nat):Value := .func (.func n) #[] #[]
variable {h:za} {t0 t1 t2 t3 t4 t5 t6:Value} {R:VK}
def qs:FuncId->Nat:=fun g=>[0,0,0,0,0,0,0,0,0,0,0,0,0,0,0,0,0,0,0,0,0,0,0,0,0,0,0,0,0,0,0,0,0,0,0,0,0,0,0,0,0,0,0,0,0,0,0,0,0,0,0,0,0,0,0,0,0,0,0,0,0,0,0,0,0,0,0,0,0,0,0,0,0,0,0,0,0,0,0,0,0,0,0,0,0,0,0,0,0,3,3,0,0,2,0,0,0,0,0,0,0,0,0,0,2,0,2,0,2,0,0,0,0,0,0,0,3,2].getD g 0
theorem mixed:prog.follows .mixedOrders=true:=Pm Tryz.checked
theorem xB {f:FuncId} {args:List Value} {X:Prop} (e:Fi zz (U8 zz qs) 200 f args h R=X) (hw:X):DC zz f args h R:=XY mixed (q:=qs) (n:=200) (Eq.mpr e hw)
def Kh:=fun c (R:VK) d (e:LK) f (a:za)=>
 opt (pk c (.bool true) f) fun g=>CD g (fun b=>rv [.bool false] a R)
 (fun b=>b [nth d 0] a)
 (fun h i=>e [nth h 0] i)
def Ki:=fun a (R:VK) d (e:LK) b (c:za)=>
 GD a false (fun f=>opt (nb [b,.int .i64 65536] (zd zz .gtr 3 (.tmp 50) (.const (.int .i64 65536)) b (.int .i64 65536))) fun g=>f g c) (Kh a R d e) c
def Kj:=fun e c (a:za) (R:VK) (f:LK)=>
 opt (zI zz 22 e (nth c 1)) fun g=>opt (zc zz 3 g a) fun b=>opt (nb [b,.int .i64 0] (zd zz .lss 3 (.tmp 47) (ci 0) b (.int .i64 0))) fun d=>GD d false (fun h=>h b a) (Ki d R c f) a
def mZ:=fun a (b:LK) c (d:za)=>
 opt (nb [nth a 1,.int .i64 1] (zd zz .add 3 (.tmp 43) (ci 1) (nth a 1) (.int .i64 1))) fun e=>b [nth c 0,e] d
def m3:=fun b (e:LK) f (R:VK) a (c:za) (g:LK)=>
 opt (nb [nth a 1,b] (zd zz .lss 3 (.tmp 43) (.tmp 42) (nth a 1) b)) fun h=>CD h (fun d=>d [] c)
 (fun d=>e [nth a 0] c)
 (fun j i=>BK (Kj f a i R)
 (mZ a g))
def cW:=fun (R:VK) c (d:LK) e (a:za)=>
 opt (rB zz .not e) fun f=>CD f (fun b=>rv [.bool false] a R)
 (fun b=>b [nth c 0] a)
 (fun g h=>d [nth g 0] h)
def m5:=fun f b (c:za) g (R:VK) (h:LK)=>
 opt (zI zz 23 f (nth b 1)) fun i=>opt (zc zz 50 i c) fun d=>opt (vK zz 50) fun j=>nw c (Value.cells j).toList 50 fun e k=>opt (nb [d] (zZ zz 50 e d k)) fun a=>opt (zc zz 25 g a) fun l=>opt (zc zz 50 e a) fun m=>zH zz (fn 46) [l,m] a (cW R b h)
def m6:=fun a (b:LK) c (d:za)=>
 opt (nb [nth a 1,.int .i64 1] (zd zz .add 3 (.tmp 57) (ci 1) (nth a 1) (.int .i64 1))) fun e=>b [nth c 0,e] d
def m7:=fun b (e:LK) f g (R:VK) a (c:za) (h:LK)=>
 opt (nb [nth a 1,b] (zd zz .lss 3 (.tmp 57) (.tmp 56) (nth a 1) b)) fun i=>CD i (fun d=>d [] c)
 (fun d=>e [nth a 0] c)
 (fun k j=>BK (m5 f a j g R)
 (m6 a h))
def Jr:=fun b (R:VK) d (c:za)=>
 opt (zb zz 25 b 1) fun e=>opt (zc zz 23 e c) fun a=>zB (nb [a] (zg zz .len [23] 3 [a] c)) fun f g=>BK (fun h=>LP (m7 f h a b R)
 [nth d 0,.int .i64 0] g)
 (fun j i=>rv [.bool true] i R)
def Js:=fun b (R:VK) d (c:za)=>
 opt (zb zz 25 b 0) fun e=>opt (zc zz 22 e c) fun a=>zB (nb [a] (zg zz .len [22] 3 [a] c)) fun f g=>BK (fun h=>LP (m3 f h a R)
 [nth d 0,.int .i64 0] g)
 (Jr b R)
def j3:=fun b (R:VK) g c (d:za)=>
 GD b false (fun h=>opt (nb [c,.int .i64 6] (zd zz .gtr 3 (.tmp 37) (.const (.int .i64 6)) c (.int .i64 6))) fun a=>h a d) (fun a e=>opt (pk b (.bool true) a) fun i=>CD i (fun f=>rv [.bool false] e R)
 (fun f=>f [.bool false] e)
 (Js g R)) d
def j4:=fun f d (R:VK) g (e:za)=>
 opt (pk f (.bool true) g) fun a=>GD a false (fun h=>opt (zb zz 25 d 3) fun b=>h b e) (fun b c=>GD a false (fun i=>opt (zc zz 3 b c) fun j=>i j c) (j3 a R d) c) e
def j5:=fun a d (R:VK) b (c:za)=>
 GD a false (fun e=>opt (nb [b,.int .i64 0] (zd zz .lss 3 (.tmp 32) (ci 0) b (.int .i64 0))) fun f=>e f c) (j4 a d R) c
def j6:=fun f d (R:VK) g (e:za)=>
 opt (pk f (.bool true) g) fun a=>GD a false (fun h=>opt (zb zz 25 d 3) fun b=>h b e) (fun b c=>GD a false (fun i=>opt (zc zz 3 b c) fun j=>i j c) (j5 a d R) c) e
def j7:=fun a d (R:VK) b (c:za)=>
 GD a false (fun e=>opt (nb [b,.int .i64 200] (zd zz .gtr 3 (.tmp 27) (.const (.int .i64 200)) b (.int .i64 200))) fun f=>e f c) (j6 a d R) c
def j8:=fun b e (R:VK) f (c:za)=>
 GD b false (fun g=>opt (zc zz 22 f c) fun a=>g a c) (fun a d=>GD b false (fun h=>zB (nb [a] (zg zz .len [22] 3 [a] d)) fun i j=>h i j) (j7 b e R) d) c
def j9:=fun b c (R:VK) d (e:za)=>
 GD b false (fun h=>opt (nb [d,.int .i64 100] (zd zz .gtr 3 (.tmp 21) (.const (.int .i64 100)) d (.int .i64 100))) fun a=>h a e) (fun a f=>opt (pk b (.bool true) a) fun g=>GD g false (fun i=>opt (zb zz 25 c 0) fun j=>i j f) (j8 g c R) f) e
def Za:=fun b e (R:VK) f (c:za)=>
 GD b false (fun g=>opt (zc zz 23 f c) fun a=>g a c) (fun a d=>GD b false (fun h=>zB (nb [a] (zg zz .len [23] 3 [a] d)) fun i j=>h i j) (j9 b e R) d) c
def Zb:=fun b c d (R:VK) e (f:za)=>
 GD b false (fun i=>opt (nb [c,e] (zd zz .geq 3 (.tmp 12) (.tmp 15) c e)) fun a=>i a f) (fun a g=>opt (pk b (.bool true) a) fun h=>GD h false (fun j=>opt (zb zz 25 d 1) fun k=>j k g) (Za h d R) g) f
def Zc:=fun b e f (R:VK) g (c:za)=>
 GD b false (fun h=>opt (zc zz 23 g c) fun a=>h a c) (fun a d=>GD b false (fun i=>zB (nb [a] (zg zz .len [23] 3 [a] d)) fun j k=>i j k) (Zb b e f R) d) c
def Zd:=fun a d (R:VK) f (b:za)=>
 GD a false (fun g=>opt (zc zz 3 f b) fun c=>g c b) (fun c e=>GD a false (fun h=>opt (zb zz 25 d 1) fun i=>h i e) (Zc a c d R) e) b
def C4:=fun (h:za) c (R:VK)=>
 opt (nb [c] (some (Value.cells c).toList)) fun f=>nw h f 25 fun a b=>opt (zb zz 25 a 2) fun g=>opt (zc zz 3 g b) fun d=>opt (nb [d,.int .i64 0] (zd zz .lss 3 (.tmp 8) (ci 0) d (.int .i64 0))) fun e=>GD e false (fun i=>opt (zb zz 25 a 2) fun j=>i j b) (Zd e a R) b
theorem A9 (hw:C4 h t0 R):DC zz 23 [t0] h R:=xB (by kernel_rfl) hw
def KA:=fun d (a:za) (e:LK) f g (b:za)=>
 opt (zb zz 42 d 5) fun h=>opt (zc zz 3 h b) fun c=>opt (nb [(vO a).1,c,.bool true] (qE zz 115 (vO a).1 c (.bool true) b)) fun i=>e [nth g 0,nth f 0] i
def KB:=fun c (b:za) (R:VK) f (g:LK) h (a:za)=>
 opt (zb zz 42 c 5) fun i=>opt (zc zz 3 i a) fun d=>opt (nb [(vO b).1,d] (Zw zz 115 (vO b).1 d false a)) fun j=>CD j (fun e=>rv [.bool false] a R)
 (fun e=>e [nth f 0] a)
 (KA c b g h)
def KC:=fun b (c:LK) g (h:za) (R:VK) d (a:za)=>
 opt (zb zz 42 b 0) fun i=>opt (zc zz 3 i a) fun e=>opt (nb [e,.int .i64 20] (zd zz .neq 3 (.tmp 29) (.const (.int .i64 20)) e (.int .i64 20))) fun j=>CD j (fun f=>c [nth d 0,.bool true] a)
 (fun f=>f [nth g 1] a)
 (KB b h R d c)
def KD:=fun h a (d:za) i (R:VK) (j:za) (k:LK)=>
 opt (zI zz 48 h (nth a 2)) fun l=>opt (zc zz 42 l d) fun e=>opt (vK zz 42) fun m=>nw d (Value.cells m).toList 42 fun b n=>opt (nb [e] (zZ zz 42 b e n)) fun c=>opt (zc zz 42 b c) fun o=>opt (zb zz 25 i 0) fun p=>opt (zc zz 22 p c) fun q=>zH zz (fn 34) [o,q] c (fun r f=>opt (rB zz .not r) fun s=>CD s (fun g=>rv [.bool false] f R)
 (fun g=>g [nth a 0] f)
 (KC b k a j R))
def WH:=fun a (c:LK) b (d:za)=>
 opt (nb [nth a 2,.int .i64 1] (zd zz .add 3 (.tmp 19) (ci 1) (nth a 2) (.int .i64 1))) fun e=>c [nth b 0,nth b 1,e] d
def KE:=fun b (e:LK) f g (R:VK) (h:za) a (c:za) (i:LK)=>
 opt (nb [nth a 2,b] (zd zz .lss 3 (.tmp 19) (.tmp 18) (nth a 2) b)) fun j=>CD j (fun d=>d [] c)
 (fun d=>e [nth a 0,nth a 1] c)
 (fun l k=>BK (KD f a k g R h)
 (WH a i))
def kr:=fun c (R:VK) d (e:LK) f (a:za)=>
 opt (pk c f (.bool false)) fun g=>CD g (fun b=>rv [.bool false] a R)
 (fun b=>b [nth d 0] a)
 (fun h i=>e [nth h 0] i)
def ks:=fun b c d (R:VK) h (i:LK) e (f:za)=>
 GD b false (fun j=>opt (nb [c,e] (zd zz .geq 3 (.tmp 72) (.tmp 75) c e)) fun a=>j a f) (fun a g=>GD d true (fun k=>opt (pk b (.bool true) a) fun l=>k l g) (kr d R h i) g) f
def ku:=fun b e f (R:VK) g (h:LK) i (c:za)=>
 GD b false (fun j=>opt (zc zz 23 i c) fun a=>j a c) (fun a d=>GD b false (fun k=>zB (nb [a] (zg zz .len [23] 3 [a] d)) fun l m=>k l m) (ks b e f R g h) d) c
def qi:=fun a e f (R:VK) g (h:LK) i (b:za)=>
 GD a false (fun j=>opt (zc zz 3 i b) fun c=>j c b) (fun c d=>GD a false (fun k=>opt (zb zz 25 e 1) fun l=>k l d) (ku a c f R g h) d) b
def qj:=fun a e f (R:VK) g (h:LK) i (b:za)=>
 GD a true (fun j=>j i b) (fun c d=>GD c false (fun k=>opt (zb zz 42 e 3) fun l=>k l d) (qi c f a R g h) d) b
def qk:=fun a d e (R:VK) f (g:LK) b (c:za)=>
 GD a true (fun h=>opt (nb [b,.int .i64 0] (zd zz .lss 3 (.tmp 68) (ci 0) b (.int .i64 0))) fun i=>h i c) (qj a d e R f g) c
def ql:=fun a (b:za) g (R:VK) h (i:LK)=>
 opt (zb zz 42 a 0) fun j=>opt (zc zz 3 j b) fun f=>opt (nb [f,.int .i64 21] (zd zz .eql 3 (.tmp 64) (.const (.int .i64 21)) f (.int .i64 21))) fun c=>GD c true (fun k=>opt (zb zz 42 a 3) fun d=>k d b) (fun d e=>GD c true (fun l=>opt (zc zz 3 d e) fun m=>l m e) (qk c a g R h i) e) b
def qm:=fun b (R:VK) c d e (f:LK) g (a:za)=>
 opt (pk b g (.bool false)) fun h=>CD h (fun k=>rv [.bool false] a R)
 (ql c a d R e)
 (fun i j=>f [nth i 0] j)
def qo:=fun a d (R:VK) g h i (j:LK) e (b:za)=>
 GD a true (fun k=>opt (nb [d,e] (Zw zz 115 d e false b)) fun c=>k c b) (fun c f=>GD a true (fun l=>opt (rB zz .not c) fun m=>l m f) (qm a R g h i j) f) b
def qp:=fun a d (R:VK) f g (h:LK) i (e:za)=>
 GD a true (fun j=>opt (zb zz 42 d 5) fun b=>j b e) (fun b c=>GD a true (fun k=>opt (zc zz 3 b c) fun l=>k l c) (qo a i R d f g h) c) e
def qq:=fun b (g:za) h (R:VK) i j (k:LK) c (d:za)=>
 GD b false (fun l=>opt (nb [c,.int .i64 19] (zd zz .eql 3 (.tmp 52) (.const (.int .i64 19)) c (.int .i64 19))) fun a=>l a d) (fun a e=>opt (pk b (.bool true) a) fun f=>GD f true (fun m=>m (vO g).1 e) (qp f h R i j k) e) d
def qt:=fun a (b g:za) (R:VK) h i (j:LK)=>
 opt (zb zz 42 a 0) fun k=>opt (zc zz 3 k b) fun f=>opt (nb [f,.int .i64 18] (zd zz .eql 3 (.tmp 48) (.const (.int .i64 18)) f (.int .i64 18))) fun c=>GD c false (fun l=>opt (zb zz 42 a 0) fun d=>l d b) (fun d e=>GD c false (fun m=>opt (zc zz 3 d e) fun n=>m n e) (qq c g a R h i j) e) b
def U2:=fun e a (b f:za) (R:VK) g (h:LK)=>
 opt (zI zz 48 e (nth a 1)) fun i=>opt (zc zz 42 i b) fun c=>opt (vK zz 42) fun j=>nw b (Value.cells j).toList 42 fun d k=>opt (nb [c] (zZ zz 42 d c k)) fun l=>BK (qt d l f R g a)
 (fun m n=>h [nth m 0] n)
def jI:=fun a (b:LK) c (d:za)=>
 opt (nb [nth a 1,.int .i64 1] (zd zz .add 3 (.tmp 42) (ci 1) (nth a 1) (.int .i64 1))) fun e=>b [nth c 0,e] d
def U3:=fun b (e:LK) f (g:za) (R:VK) h a (c:za) (i:LK)=>
 opt (nb [nth a 1,b] (zd zz .lss 3 (.tmp 42) (.tmp 41) (nth a 1) b)) fun j=>CD j (fun d=>d [] c)
 (fun d=>e [nth a 0] c)
 (fun l k=>BK (U2 f a k g R h)
 (jI a i))
def U4:=fun d (e:za) (R:VK) f b (c:za)=>
 opt (zb zz 50 d 1) fun g=>opt (zc zz 48 g c) fun a=>zB (nb [a] (zg zz .len [48] 3 [a] c)) fun h i=>BK (fun j=>LP (U3 h j a e R f)
 [nth b 0,.int .i64 0] i)
 (fun l k=>rv [nth b 1] k R)
def U5:=fun c d (R:VK) e (a:za)=>
 opt (zb zz 50 c 1) fun f=>opt (zc zz 48 f (vO a).2) fun b=>zB (nb [b] (zg zz .len [48] 3 [b] (vO a).2)) fun g h=>BK (fun i=>LP (KE g i b d R a)
 [nth e 0,.bool false,.int .i64 0] h)
 (U4 c a R d)
def dq:=fun (h:za) a b (R:VK)=>
 opt (nb [a] (some (Value.cells a).toList)) fun j=>nw h j 25 fun k l=>opt (nb [b] (some (Value.cells b).toList)) fun m=>nw l m 50 fun c d=>opt (zb zz 50 c 1) fun n=>opt (zc zz 48 n d) fun e=>zB (nb [e] (zg zz .len [48] 3 [e] d)) fun f g=>opt (nb [f,.int .i64 100000] (zd zz .gtr 3 (.tmp 13) (.const (.int .i64 100000)) f (.int .i64 100000))) fun o=>CD o (fun i=>rv [.bool false] g R)
 (fun i=>i [.bool false] g)
 (U5 c k R)
theorem fU (hw:dq h t0 t1 R):DC zz 46 [t0,t1] h R:=xB (by kernel_rfl) hw
def uZ:=fun b (R:VK) d (c:za)=>
 GD b true (fun e=>zH zz (fn 72) [d] c (fun a f=>e a f)) (fun a g=>opt (pk b a (.bool false)) fun h=>rv [h] g R) c
def u2:=fun e f (R:VK) g (d:za)=>
 opt (pk e (.bool true) g) fun a=>GD a true (fun h=>opt (zb zz 42 f 6) fun b=>h b d) (fun b c=>GD a true (fun i=>opt (zc zz 2 b c) fun j=>i j c) (uZ a R) c) d
def u7:=fun a d (R:VK) b (c:za)=>
 GD a false (fun e=>opt (nb [b,.int .i64 8] (zd zz .eql 3 (.tmp 33) (.const (.int .i64 8)) b (.int .i64 8))) fun f=>e f c) (u2 a d R) c
def qa:=fun f d (R:VK) g (e:za)=>
 opt (pk f (.bool true) g) fun a=>GD a false (fun h=>opt (zb zz 42 d 3) fun b=>h b e) (fun b c=>GD a false (fun i=>opt (zc zz 3 b c) fun j=>i j c) (u7 a d R) c) e
def qb:=fun a d (R:VK) b (c:za)=>
 GD a false (fun e=>opt (nb [b,.int .i64 4] (zd zz .eql 3 (.tmp 28) (.const (.int .i64 4)) b (.int .i64 4))) fun f=>e f c) (qa a d R) c
def jZ:=fun b c (R:VK) d (e:za)=>
 GD b true (fun f=>opt (nb [c,d] (zd zz .leq 2 (.tmp 66) (.tmp 71) c d)) fun a=>f a e) (fun a g=>opt (pk b a (.bool false)) fun h=>rv [h] g R) e
def j0:=fun a e f (R:VK) g (d:za)=>
 GD a true (fun h=>opt (zI zz 22 e g) fun b=>h b d) (fun b c=>GD a true (fun i=>opt (zc zz 3 b c) fun j=>i j c) (jZ a f R) c) d
def j1:=fun a e f (R:VK) g (d:za)=>
 GD a true (fun h=>opt (zb zz 42 e 3) fun b=>h b d) (fun b c=>GD a true (fun i=>opt (zc zz 3 b c) fun j=>i j c) (j0 a g f R) c) d
def j2:=fun a e f (R:VK) g (b:za)=>
 GD a true (fun h=>opt (zc zz 2 g b) fun c=>h c b) (fun c d=>GD a true (fun i=>i e d) (j1 a f c R) d) b
def jm:=fun b c h (R:VK) d (e:za)=>
 GD b true (fun i=>opt (nb [d,.int .i64 0] (zd zz .geq 2 (.tmp 61) (ci 0) d (.int .i64 0))) fun a=>i a e) (fun a f=>opt (pk b a (.bool false)) fun g=>GD g true (fun j=>opt (zb zz 42 c 6) fun k=>j k f) (j2 g h c R) f) e
def jn:=fun f d g (R:VK) h (e:za)=>
 opt (pk f h (.bool false)) fun a=>GD a true (fun i=>opt (zb zz 42 d 6) fun b=>i b e) (fun b c=>GD a true (fun j=>opt (zc zz 2 b c) fun k=>j k c) (jm a d g R) c) e
def jo:=fun b d g h (R:VK) e (c:za)=>
 GD b true (fun i=>zB (nb [e] (zg zz .len [22] 3 [e] c)) fun a _=>i a c) (fun a f=>GD b true (fun j=>opt (nb [d,a] (zd zz .lss 3 (.tmp 54) (.tmp 56) d a)) fun k=>j k f) (jn b g h R) f) c
def jq:=fun a d f (R:VK) g (b:za)=>
 GD a true (fun h=>opt (zc zz 3 g b) fun c=>h c b) (fun c e=>GD a true (fun i=>i d e) (jo a c f d R) e) b
def Wr:=fun b (R:VK) d (c:za)=>
 GD b true (fun e=>zH zz (fn 72) [d] c (fun a f=>e a f)) (fun a g=>opt (pk b a (.bool false)) fun h=>rv [h] g R) c
def Ws:=fun e (R:VK) a (d:za)=>
 GD a true (fun f=>opt (zb zz 42 e 6) fun b=>f b d) (fun b c=>GD a true (fun g=>opt (zc zz 2 b c) fun h=>g h c) (Wr a R) c) d
def Yt:=fun b (R:VK) c (d:za)=>
 GD b false (fun e=>opt (nb [c,.int .i64 2] (zd zz .eql 3 (.tmp 96) (.const (.int .i64 2)) c (.int .i64 2))) fun a=>e a d) (fun a f=>opt (pk b (.bool true) a) fun g=>rv [g] f R) d
def Yu:=fun b (R:VK) c (d:za)=>
 GD b false (fun e=>opt (nb [c,.int .i64 4] (zd zz .eql 3 (.tmp 106) (.const (.int .i64 4)) c (.int .i64 4))) fun a=>e a d) (fun a f=>opt (pk b (.bool true) a) fun g=>rv [g] f R) d
def u0:=fun b (R:VK) c (d:za)=>
 GD b true (fun e=>opt (nb [c,.int .i64 63] (zd zz .leq 2 (.tmp 126) (.const (.int .i64 63)) c (.int .i64 63))) fun a=>e a d) (fun a f=>opt (pk b a (.bool false)) fun g=>rv [g] f R) d
def u1:=fun e f (R:VK) g (d:za)=>
 opt (pk e g (.bool false)) fun a=>GD a true (fun h=>opt (zb zz 42 f 6) fun b=>h b d) (fun b c=>GD a true (fun i=>opt (zc zz 2 b c) fun j=>i j c) (u0 a R) c) d
def u3:=fun a d (R:VK) b (c:za)=>
 GD a true (fun e=>opt (nb [b,.int .i64 0] (zd zz .geq 2 (.tmp 121) (ci 0) b (.int .i64 0))) fun f=>e f c) (u1 a d R) c
def u4:=fun f d (R:VK) g (e:za)=>
 opt (pk f (.bool true) g) fun a=>GD a true (fun h=>opt (zb zz 42 d 6) fun b=>h b e) (fun b c=>GD a true (fun i=>opt (zc zz 2 b c) fun j=>i j c) (u3 a d R) c) e
def u5:=fun a d (R:VK) b (c:za)=>
 GD a false (fun e=>opt (nb [b,.int .i64 20] (zd zz .eql 3 (.tmp 116) (.const (.int .i64 20)) b (.int .i64 20))) fun f=>e f c) (u4 a d R) c
def Yv:=fun b (R:VK) c (d:za)=>
 GD b false (fun e=>opt (nb [c,.int .i64 20] (zd zz .eql 3 (.tmp 136) (.const (.int .i64 20)) c (.int .i64 20))) fun a=>e a d) (fun a f=>opt (pk b (.bool true) a) fun g=>rv [g] f R) d
def Yw:=fun b (R:VK) c (d:za)=>
 GD b true (fun e=>opt (nb [c,.int .i64 10000000] (zd zz .leq 3 (.tmp 152) (.const (.int .i64 10000000)) c (.int .i64 10000000))) fun a=>e a d) (fun a f=>opt (pk b a (.bool false)) fun g=>rv [g] f R) d
def ki:=fun b (R:VK) c (d:za)=>
 GD b true (fun e=>opt (nb [c,.int .i64 65536] (zd zz .leq 2 (.tmp 163) (.const (.int .i64 65536)) c (.int .i64 65536))) fun a=>e a d) (fun a f=>opt (pk b a (.bool false)) fun g=>rv [g] f R) d
def kj:=fun e (a:za) (R:VK) (k:LK)=>
 opt (zb zz 42 e 6) fun g=>opt (zc zz 2 g a) fun f=>opt (nb [f,.int .i64 0] (zd zz .geq 2 (.tmp 159) (ci 0) f (.int .i64 0))) fun b=>GD b true (fun h=>opt (zb zz 42 e 6) fun c=>h c a) (fun c d=>GD b true (fun i=>opt (zc zz 2 c d) fun j=>i j d) (ki b R) d) a
def Yx:=fun e (a:za) (R:VK) (k:LK)=>
 opt (zb zz 42 e 5) fun g=>opt (zc zz 3 g a) fun f=>opt (nb [f,.int .i64 0] (zd zz .geq 3 (.tmp 148) (ci 0) f (.int .i64 0))) fun b=>GD b true (fun h=>opt (zb zz 42 e 5) fun c=>h c a) (fun c d=>GD b true (fun i=>opt (zc zz 3 c d) fun j=>i j d) (Yw b R) d) a
def u6:=fun a (c:za) f (R:VK) g (h:LK)=>
 opt (nb [a,.int .i64 23] (zd zz .eql 3 (.tmp 19) (.const (.int .i64 23)) a (.int .i64 23))) fun d=>CD d (fun b=>b [d] c)
 (fun b=>opt (nb [a,.int .i64 24] (zd zz .eql 3 (.tmp 19) (.const (.int .i64 24)) a (.int .i64 24))) fun i=>b [i] c)
 (fun j e=>CD (nth j 0) (kj f e R)
 (fun k=>k [nth g 0] e)
 (fun l m=>h [nth l 0] m))
def Wt:=fun b (a:za) (R:VK) (g:LK)=>
 opt (zb zz 42 b 4) fun c=>opt (zc zz 3 c a) fun d=>zH zz (fn 74) [d] a (fun e f=>rv [e] f R)
def vM:=fun a b (c:za) (R:VK) d (e:LK)=>
 opt (nb [a,.int .i64 20] (zd zz .eql 3 (.tmp 19) (.const (.int .i64 20)) a (.int .i64 20))) fun f=>CD f (Yx b c R)
 (u6 a c b R d)
 (fun g h=>e [nth g 0] h)
def Yy:=fun e (a:za) (R:VK) (k:LK)=>
 opt (zb zz 42 e 3) fun g=>opt (zc zz 3 g a) fun f=>opt (nb [f,.int .i64 19] (zd zz .eql 3 (.tmp 132) (.const (.int .i64 19)) f (.int .i64 19))) fun b=>GD b false (fun h=>opt (zb zz 42 e 3) fun c=>h c a) (fun c d=>GD b false (fun i=>opt (zc zz 3 c d) fun j=>i j d) (Yv b R) d) a
def wX:=fun a (c:za) d (R:VK) g (h:LK)=>
 opt (nb [a,.int .i64 17] (zd zz .eql 3 (.tmp 19) (.const (.int .i64 17)) a (.int .i64 17))) fun e=>CD e (fun b=>b [e] c)
 (fun b=>opt (nb [a,.int .i64 19] (zd zz .eql 3 (.tmp 19) (.const (.int .i64 19)) a (.int .i64 19))) fun i=>b [i] c)
 (fun j f=>CD (nth j 0) (Wt d f R)
 (vM a d f R g)
 (fun k l=>h [nth k 0] l))
def u9:=fun a (b:za) (R:VK) (k:LK)=>
 opt (zb zz 42 a 3) fun g=>opt (zc zz 3 g b) fun f=>opt (nb [f,.int .i64 19] (zd zz .eql 3 (.tmp 112) (.const (.int .i64 19)) f (.int .i64 19))) fun c=>GD c false (fun h=>opt (zb zz 42 a 3) fun d=>h d b) (fun d e=>GD c false (fun i=>opt (zc zz 3 d e) fun j=>i j e) (u5 c a R) e) b
def xX:=fun a b (c:za) (R:VK) d (e:LK)=>
 opt (nb [a,.int .i64 12] (zd zz .eql 3 (.tmp 19) (.const (.int .i64 12)) a (.int .i64 12))) fun f=>CD f (Yy b c R)
 (wX a c b R d)
 (fun g h=>e [nth g 0] h)
def Yz:=fun e (a:za) (R:VK) (k:LK)=>
 opt (zb zz 42 e 3) fun g=>opt (zc zz 3 g a) fun f=>opt (nb [f,.int .i64 3] (zd zz .eql 3 (.tmp 102) (.const (.int .i64 3)) f (.int .i64 3))) fun b=>GD b false (fun h=>opt (zb zz 42 e 3) fun c=>h c a) (fun c d=>GD b false (fun i=>opt (zc zz 3 c d) fun j=>i j d) (Yu b R) d) a
def yx:=fun a b (c:za) (R:VK) d (e:LK)=>
 opt (nb [a,.int .i64 11] (zd zz .eql 3 (.tmp 19) (.const (.int .i64 11)) a (.int .i64 11))) fun f=>CD f (u9 b c R)
 (xX a b c R d)
 (fun g h=>e [nth g 0] h)
def YA:=fun e (a:za) (R:VK) (k:LK)=>
 opt (zb zz 42 e 3) fun g=>opt (zc zz 3 g a) fun f=>opt (nb [f,.int .i64 1] (zd zz .eql 3 (.tmp 92) (ci 1) f (.int .i64 1))) fun b=>GD b false (fun h=>opt (zb zz 42 e 3) fun c=>h c a) (fun c d=>GD b false (fun i=>opt (zc zz 3 c d) fun j=>i j d) (Yt b R) d) a
def yb:=fun a b (c:za) (R:VK) d (e:LK)=>
 opt (nb [a,.int .i64 10] (zd zz .eql 3 (.tmp 19) (.const (.int .i64 10)) a (.int .i64 10))) fun f=>CD f (Yz b c R)
 (yx a b c R d)
 (fun g h=>e [nth g 0] h)
def zX:=fun a b (c:za) (R:VK) d (e:LK)=>
 opt (nb [a,.int .i64 9] (zd zz .eql 3 (.tmp 19) (.const (.int .i64 9)) a (.int .i64 9))) fun f=>CD f (YA b c R)
 (yb a b c R d)
 (fun g h=>e [nth g 0] h)
def Kg:=fun b (a:za) (R:VK) (g:LK)=>
 opt (zb zz 42 b 3) fun c=>opt (zc zz 3 c a) fun d=>zH zz (fn 73) [d] a (fun e f=>rv [e] f R)
def zV:=fun a b (c:za) (R:VK) d (e:LK)=>
 opt (nb [a,.int .i64 8] (zd zz .eql 3 (.tmp 19) (.const (.int .i64 8)) a (.int .i64 8))) fun f=>CD f (fun k=>opt (zb zz 42 b 3) fun g=>opt (zc zz 3 g c) fun h=>zH zz (fn 73) [h] c (Ws b R))
 (zX a b c R d)
 (fun i j=>e [nth i 0] j)
def jr:=fun a (b:za) e (R:VK) (i:LK)=>
 opt (zb zz 42 a 3) fun f=>opt (zc zz 3 f b) fun c=>opt (nb [c,.int .i64 0] (zd zz .geq 3 (.tmp 50) (ci 0) c (.int .i64 0))) fun d=>GD d true (fun g=>opt (zb zz 42 a 3) fun h=>g h b) (jq d e a R) b
def zR:=fun a b (c:za) (R:VK) d (e:LK)=>
 opt (nb [a,.int .i64 7] (zd zz .eql 3 (.tmp 19) (.const (.int .i64 7)) a (.int .i64 7))) fun f=>CD f (Kg b c R)
 (zV a b c R d)
 (fun g h=>e [nth g 0] h)
def Wu:=fun b (a:za) (R:VK) (g:LK)=>
 opt (zb zz 42 b 6) fun c=>opt (zc zz 2 c a) fun d=>zH zz (fn 72) [d] a (fun e f=>rv [e] f R)
def zG:=fun a b (c:za) d (R:VK) e (f:LK)=>
 opt (nb [a,.int .i64 6] (zd zz .eql 3 (.tmp 19) (.const (.int .i64 6)) a (.int .i64 6))) fun g=>CD g (jr b c d R)
 (zR a b c R e)
 (fun h i=>f [nth h 0] i)
def uC:=fun a (b:za) (R:VK) (k:LK)=>
 opt (zb zz 42 a 3) fun g=>opt (zc zz 3 g b) fun f=>opt (nb [f,.int .i64 1] (zd zz .eql 3 (.tmp 24) (ci 1) f (.int .i64 1))) fun c=>GD c false (fun h=>opt (zb zz 42 a 3) fun d=>h d b) (fun d e=>GD c false (fun i=>opt (zc zz 3 d e) fun j=>i j e) (qb c a R) e) b
def zF:=fun a (c:za) d (R:VK) g h (i:LK)=>
 opt (nb [a,.int .i64 5] (zd zz .eql 3 (.tmp 19) (.const (.int .i64 5)) a (.int .i64 5))) fun e=>CD e (fun b=>b [e] c)
 (fun b=>opt (nb [a,.int .i64 16] (zd zz .eql 3 (.tmp 19) (.const (.int .i64 16)) a (.int .i64 16))) fun j=>b [j] c)
 (fun k f=>CD (nth k 0) (Wu d f R)
 (zG a d f g R h)
 (fun l m=>i [nth l 0] m))
def zA:=fun a (c:za) d (R:VK) g h (i:LK)=>
 opt (nb [a,.int .i64 3] (zd zz .eql 3 (.tmp 19) (.const (.int .i64 3)) a (.int .i64 3))) fun e=>CD e (fun b=>b [e] c)
 (fun b=>opt (nb [a,.int .i64 4] (zd zz .eql 3 (.tmp 19) (.const (.int .i64 4)) a (.int .i64 4))) fun j=>b [j] c)
 (fun k f=>CD (nth k 0) (uC d f R)
 (zF a f d R g h)
 (fun l m=>i [nth l 0] m))
def zj:=fun a (R:VK) c d (b:za)=>
 opt (zb zz 42 a 0) fun e=>opt (zc zz 3 e b) fun f=>BK (zA f b a R c d)
 (fun h g=>rv [.bool true] g R)
def Zt:=fun b (R:VK) f g h (c:za)=>
 GD b false (fun i=>opt (rB zz .not h) fun a=>i a c) (fun a d=>opt (pk b (.bool true) a) fun j=>CD j (fun e=>rv [.bool false] d R)
 (fun e=>e [.bool false] d)
 (zj f R g)) c
def YB:=fun f d (R:VK) g h (a:za)=>
 opt (pk f (.bool true) h) fun b=>GD b false (fun i=>opt (zc zz 42 d a) fun c=>i c a) (fun c e=>GD b false (fun j=>zH zz (fn 71) [c] e (fun k l=>j k l)) (Zt b R d g) e) a
def YC:=fun a d (R:VK) e b (c:za)=>
 GD a false (fun f=>opt (nb [b,.int .i64 26] (zd zz .gtr 3 (.tmp 10) (.const (.int .i64 26)) b (.int .i64 26))) fun g=>f g c) (YB a d R e) c
def gK:=fun (h:za) f i (R:VK)=>
 opt (nb [f] (some (Value.cells f).toList)) fun j=>nw h j 42 fun a b=>opt (zb zz 42 a 0) fun k=>opt (zc zz 3 k b) fun g=>opt (nb [g,.int .i64 1] (zd zz .lss 3 (.tmp 6) (ci 1) g (.int .i64 1))) fun c=>GD c false (fun l=>opt (zb zz 42 a 0) fun d=>l d b) (fun d e=>GD c false (fun m=>opt (zc zz 3 d e) fun n=>m n e) (YC c a R i) e) b
theorem lr (hw:gK h t0 t1 R):DC zz 34 [t0,t1] h R:=xB (by kernel_rfl) hw
def yP:=fun f b (R:VK) c (d:za)=>
 GD c false (fun g=>g f d) (fun h e=>GD b true (fun i=>opt (pk c (.bool true) h) fun a=>i a e) (fun a j=>opt (pk b a (.bool false)) fun k=>rv [k] j R) e) d
def yQ:=fun a f (R:VK) c (d:za)=>
 GD a true (fun g=>opt (nb [c,.int .i64 4] (zd zz .neq 3 (.tmp 62) (.const (.int .i64 4)) c (.int .i64 4))) fun b=>g b d) (fun b e=>GD a true (fun h=>h b e) (yP f a R) e) d
def yR:=fun e f g (R:VK) h (d:za)=>
 opt (pk e h (.bool false)) fun a=>GD a true (fun i=>opt (zb zz 42 f 2) fun b=>i b d) (fun b c=>GD a true (fun j=>opt (zc zz 3 b c) fun k=>j k c) (yQ a g R) c) d
def yS:=fun a d e (R:VK) b (c:za)=>
 GD a true (fun f=>opt (nb [b,.int .i64 16] (zd zz .lss 3 (.tmp 57) (.const (.int .i64 16)) b (.int .i64 16))) fun g=>f g c) (yR a d e R) c
def yT:=fun g a (R:VK) h (b:za)=>
 opt (pk g (.bool true) h) fun i=>opt (zb zz 42 a 2) fun j=>opt (zc zz 3 j b) fun f=>opt (nb [f,.int .i64 0] (zd zz .geq 3 (.tmp 53) (ci 0) f (.int .i64 0))) fun c=>GD c true (fun k=>opt (zb zz 42 a 2) fun d=>k d b) (fun d e=>GD c true (fun l=>opt (zc zz 3 d e) fun m=>l m e) (yS c a i R) e) b
def yU:=fun a d (R:VK) b (c:za)=>
 GD a false (fun e=>opt (nb [b,.int .i64 1] (zd zz .eql 3 (.tmp 49) (ci 1) b (.int .i64 1))) fun f=>e f c) (yT a d R) c
def yV:=fun f d (R:VK) g (e:za)=>
 opt (pk f (.bool true) g) fun a=>GD a false (fun h=>opt (zb zz 42 d 0) fun b=>h b e) (fun b c=>GD a false (fun i=>opt (zc zz 3 b c) fun j=>i j c) (yU a d R) c) e
def yW:=fun a d (R:VK) b (c:za)=>
 GD a false (fun e=>opt (nb [b,.int .i64 5] (zd zz .eql 3 (.tmp 44) (.const (.int .i64 5)) b (.int .i64 5))) fun f=>e f c) (yV a d R) c
def yX:=fun f d (R:VK) g (e:za)=>
 opt (pk f (.bool true) g) fun a=>GD a false (fun h=>opt (zb zz 42 d 0) fun b=>h b e) (fun b c=>GD a false (fun i=>opt (zc zz 3 b c) fun j=>i j c) (yW a d R) c) e
def yu:=fun a d (R:VK) b (c:za)=>
 GD a false (fun e=>opt (nb [b,.int .i64 4] (zd zz .eql 3 (.tmp 39) (.const (.int .i64 4)) b (.int .i64 4))) fun f=>e f c) (yX a d R) c
def ye:=fun a (R:VK) (k:List Value) (b:za)=>
 opt (zb zz 42 a 0) fun g=>opt (zc zz 3 g b) fun f=>opt (nb [f,.int .i64 3] (zd zz .eql 3 (.tmp 35) (.const (.int .i64 3)) f (.int .i64 3))) fun c=>GD c false (fun h=>opt (zb zz 42 a 0) fun d=>h d b) (fun d e=>GD c false (fun i=>opt (zc zz 3 d e) fun j=>i j e) (yu c a R) e) b
def uf:=fun e (R:VK) f g h (a:za)=>
 opt (pk e h (.bool false)) fun i=>CD i (fun b=>rv [.bool false] a R)
 (fun b=>b [.bool false] a)
 (fun j c=>opt (rB zz .not f) fun k=>CD k (fun d=>rv [.bool true] c R)
 (fun d=>d [nth j 0] c)
 (ye g R))
def qu:=fun b f c (R:VK) g h i (d:za)=>
 GD b false (fun j=>opt (pk f i (.bool false)) fun a=>j a d) (fun a e=>GD c true (fun k=>opt (pk b (.bool true) a) fun l=>k l e) (uf c R g h) e) d
def qv:=fun a d e (R:VK) f g b (c:za)=>
 GD a true (fun h=>opt (nb [b,.int .i64 4] (zd zz .eql 3 (.tmp 27) (.const (.int .i64 4)) b (.int .i64 4))) fun i=>h i c) (qu d a e R f g) c
def qw:=fun d f g (R:VK) h a (e:za)=>
 GD a true (fun i=>opt (zb zz 42 d 1) fun b=>i b e) (fun b c=>GD a true (fun j=>opt (zc zz 3 b c) fun k=>j k c) (qv a f g R h d) c) e
def qx:=fun b f g (R:VK) h i (c:za)=>
 GD b true (fun j=>j i c) (fun a d=>GD a false (fun k=>k f d) (fun l e=>GD a false (fun m=>m l e) (qw g a b R h) e) d) c
def qy:=fun b c g h (R:VK) i d (e:za)=>
 GD b false (fun j=>opt (nb [d,.int .i64 16] (zd zz .geq 3 (.tmp 20) (.const (.int .i64 16)) d (.int .i64 16))) fun a=>j a e) (fun a f=>GD c true (fun k=>opt (pk b (.bool true) a) fun l=>k l f) (qx c g h R i) f) e
def qz:=fun d f g (R:VK) h a (e:za)=>
 GD a false (fun i=>opt (zb zz 42 d 1) fun b=>i b e) (fun b c=>GD a false (fun j=>opt (zc zz 3 b c) fun k=>j k c) (qy a f g d R h) c) e
def qA:=fun a f g (R:VK) h c (d:za)=>
 GD a true (fun i=>opt (nb [c,.int .i64 0] (zd zz .lss 3 (.tmp 16) (ci 0) c (.int .i64 0))) fun b=>i b d) (fun b e=>GD a true (fun j=>j b e) (qz f a g R h) e) d
def qB:=fun e (R:VK) a (f:za)=>
 opt (gi a 0) fun b=>opt (gi a 1) fun g=>opt (gi a 2) fun h=>GD b true (fun i=>opt (zb zz 42 e 1) fun c=>i c f) (fun c d=>GD b true (fun j=>opt (zc zz 3 c d) fun k=>j k d) (qA b e h R g) d) f
def dr:=fun (h:za) a (R:VK)=>
 opt (nb [a] (some (Value.cells a).toList)) fun d=>nw h d 42 fun b c=>opt (zc zz 42 b c) fun e=>zH zz (fn 87) [e] c (qB b R)
theorem fV (hw:dr h t0 R):DC zz 71 [t0] h R:=xB (by kernel_rfl) hw
def v8:=fun a (c:za) (e:LK)=>
 opt (nb [a,.int .i64 7] (zd zz .eql 3 (.tmp 6) (.const (.int .i64 7)) a (.int .i64 7))) fun d=>CD d (fun b=>b [d] c)
 (fun b=>opt (nb [a,.int .i64 10] (zd zz .eql 3 (.tmp 6) (.const (.int .i64 10)) a (.int .i64 10))) fun f=>b [f] c)
 (fun g h=>e [nth g 0] h)
def vS:=fun a (b:za) (d:LK)=>
 opt (nb [a,.int .i64 5] (zd zz .eql 3 (.tmp 6) (.const (.int .i64 5)) a (.int .i64 5))) fun c=>CD c (fun e=>e [c] b)
 (v8 a b)
 (fun f g=>d [nth f 0] g)
def vH:=fun a (b:za) (d:LK)=>
 opt (nb [a,.int .i64 3] (zd zz .eql 3 (.tmp 6) (.const (.int .i64 3)) a (.int .i64 3))) fun c=>CD c (fun e=>e [c] b)
 (vS a b)
 (fun f g=>d [nth f 0] g)
def Zf:=fun a (c:za) (e:LK)=>
 opt (nb [a,.int .i64 12] (zd zz .eql 3 (.tmp 6) (.const (.int .i64 12)) a (.int .i64 12))) fun d=>CD d (fun b=>b [d] c)
 (fun b=>opt (nb [a,.int .i64 17] (zd zz .eql 3 (.tmp 6) (.const (.int .i64 17)) a (.int .i64 17))) fun f=>b [f] c)
 (fun g h=>e [nth g 0] h)
def jt:=fun a (b:za) (d:LK)=>
 opt (nb [a,.int .i64 11] (zd zz .eql 3 (.tmp 6) (.const (.int .i64 11)) a (.int .i64 11))) fun c=>CD c (fun e=>e [c] b)
 (Zf a b)
 (fun f g=>d [nth f 0] g)
def kH:=fun a (b:za) (d:LK)=>
 opt (nb [a,.int .i64 9] (zd zz .eql 3 (.tmp 6) (.const (.int .i64 9)) a (.int .i64 9))) fun c=>CD c (fun e=>e [c] b)
 (jt a b)
 (fun f g=>d [nth f 0] g)
def qJ:=fun a (b:za) (d:LK)=>
 opt (nb [a,.int .i64 8] (zd zz .eql 3 (.tmp 6) (.const (.int .i64 8)) a (.int .i64 8))) fun c=>CD c (fun e=>e [c] b)
 (kH a b)
 (fun f g=>d [nth f 0] g)
def uU:=fun a (b:za) (d:LK)=>
 opt (nb [a,.int .i64 6] (zd zz .eql 3 (.tmp 6) (.const (.int .i64 6)) a (.int .i64 6))) fun c=>CD c (fun e=>e [c] b)
 (qJ a b)
 (fun f g=>d [nth f 0] g)
def Jv:=fun b (c:za) (R:VK) (e:LK)=>
 opt (nb [b,.int .i64 14] (zd zz .eql 3 (.tmp 6) (.const (.int .i64 14)) b (.int .i64 14))) fun f=>CD f (fun d=>rv [.bool false,.bool true,.bool false] c R)
 (fun d=>d [.bool false,.bool false,.bool false] c)
 (fun a g=>e [nth a 0,nth a 1,nth a 2] g)
def WI:=fun a (c:za) (R:VK) (d:LK)=>
 opt (nb [a,.int .i64 16] (zd zz .eql 3 (.tmp 6) (.const (.int .i64 16)) a (.int .i64 16))) fun e=>CD e (fun g=>rv [.bool true,.bool false,.bool false] c R)
 (Jv a c R)
 (fun b f=>d [nth b 0,nth b 1,nth b 2] f)
def ZM:=fun (R:VK) c (d:LK) e (b:za)=>
 CD (nth e 0) (fun g=>rv [.bool true,.bool true,.bool false] b R)
 (WI c b R)
 (fun a f=>d [nth a 0,nth a 1,nth a 2] f)
def ZN:=fun a (c:za) (R:VK) (e:LK)=>
 opt (nb [a,.int .i64 4] (zd zz .eql 3 (.tmp 6) (.const (.int .i64 4)) a (.int .i64 4))) fun d=>CD d (fun b=>b [d] c)
 (fun b=>opt (nb [a,.int .i64 15] (zd zz .eql 3 (.tmp 6) (.const (.int .i64 15)) a (.int .i64 15))) fun f=>b [f] c)
 (ZM R a e)
def v9:=fun (R:VK) c (d:LK) e (b:za)=>
 CD (nth e 0) (fun g=>rv [.bool true,.bool false,.bool true] b R)
 (ZN c b R)
 (fun a f=>d [nth a 0,nth a 1,nth a 2] f)
def ua:=fun a (b:za) (R:VK) (d:LK)=>
 opt (nb [a,.int .i64 2] (zd zz .eql 3 (.tmp 6) (.const (.int .i64 2)) a (.int .i64 2))) fun c=>CD c (fun e=>e [c] b)
 (uU a b)
 (v9 R a d)
def wC:=fun (R:VK) c (d:LK) e (b:za)=>
 CD (nth e 0) (fun g=>rv [.bool true,.bool true,.bool true] b R)
 (ua c b R)
 (fun a f=>d [nth a 0,nth a 1,nth a 2] f)
def wD:=fun a (b:za) (R:VK) (d:LK)=>
 opt (nb [a,.int .i64 1] (zd zz .eql 3 (.tmp 6) (ci 1) a (.int .i64 1))) fun c=>CD c (fun e=>e [c] b)
 (vH a b)
 (wC R a d)
def tP:=fun (h:za) a (R:VK)=>
 opt (nb [a] (some (Value.cells a).toList)) fun c=>nw h c 42 fun d b=>opt (zb zz 42 d 0) fun e=>opt (zc zz 3 e b) fun f=>BK (wD f b R)
 (fun i g=>rv [.bool false,.bool false,.bool false] g R)
theorem rK (hw:tP h t0 R):DC zz 87 [t0] h R:=xB (by kernel_rfl) hw
def Dc:=fun (h:za) a (R:VK)=>
 zB (nb [a] (wM zz 2 21 a h)) fun b d=>zB (nb [b] (wM zz 21 2 b d)) fun c e=>opt (nb [a,c] (zd zz .eql 2 (.tmp 3) (.tmp 6) a c)) fun f=>rv [f] e R
theorem Be (hw:Dc h t0 R):DC zz 72 [t0] h R:=xB (by kernel_rfl) hw
def bC:=fun a (h:za) (d:LK)=>
 opt (nb [a,.int .i64 17] (zd zz .eql 3 (.tmp 3) (.const (.int .i64 17)) a (.int .i64 17))) fun c=>CD c (fun b=>b [c] h)
 (fun b=>opt (nb [a,.int .i64 18] (zd zz .eql 3 (.tmp 3) (.const (.int .i64 18)) a (.int .i64 18))) fun e=>b [e] h)
 (fun f g=>d [nth f 0] g)
def Kn:=fun a (h:za) (c:LK)=>
 opt (nb [a,.int .i64 16] (zd zz .eql 3 (.tmp 3) (.const (.int .i64 16)) a (.int .i64 16))) fun b=>CD b (fun d=>d [b] h)
 (bC a h)
 (fun e f=>c [nth e 0] f)
def Ud:=fun a (h:za) (c:LK)=>
 opt (nb [a,.int .i64 13] (zd zz .eql 3 (.tmp 3) (.const (.int .i64 13)) a (.int .i64 13))) fun b=>CD b (fun d=>d [b] h)
 (Kn a h)
 (fun e f=>c [nth e 0] f)
def Wv:=fun a (h:za) (c:LK)=>
 opt (nb [a,.int .i64 12] (zd zz .eql 3 (.tmp 3) (.const (.int .i64 12)) a (.int .i64 12))) fun b=>CD b (fun d=>d [b] h)
 (Ud a h)
 (fun e f=>c [nth e 0] f)
def Xp:=fun a (h:za) (R:VK) (e:LK)=>
 opt (nb [a,.int .i64 11] (zd zz .eql 3 (.tmp 3) (.const (.int .i64 11)) a (.int .i64 11))) fun b=>CD b (fun f=>f [b] h)
 (Wv a h)
 (fun g c=>CD (nth g 0) (fun d=>rv [.bool true] c R)
 (fun d=>d [.bool false] c)
 (fun i j=>e [nth i 0] j))
def GG:=fun (h:za) a (R:VK)=>
 BK (Xp a h R)
 (fun c b=>rv [.bool false] b R)
theorem C6 (hw:GG h t0 R):DC zz 73 [t0] h R:=xB (by kernel_rfl) hw
def c8:=fun (h:za) b (R:VK)=>
 zH zz (fn 88) [b] h (fun a c=>opt (gi a 0) fun e=>opt (gi a 1) fun d=>rv [d] c R)
theorem fT (hw:c8 h t0 R):DC zz 74 [t0] h R:=xB (by kernel_rfl) hw
def cV:=fun a (h:za) (R:VK) (d:LK)=>
 opt (nb [a,.int .i64 25] (zd zz .eql 3 (.tmp 4) (.const (.int .i64 25)) a (.int .i64 25))) fun e=>CD e (fun b=>rv [.int .i64 24,.bool true] h R)
 (fun b=>b [.int .i64 0,.bool false] h)
 (fun c f=>d [nth c 0,nth c 1] f)
def Kf:=fun a (h:za) (R:VK) (c:LK)=>
 opt (nb [a,.int .i64 24] (zd zz .eql 3 (.tmp 4) (.const (.int .i64 24)) a (.int .i64 24))) fun d=>CD d (fun f=>rv [.int .i64 25,.bool true] h R)
 (cV a h R)
 (fun b e=>c [nth b 0,nth b 1] e)
def VA:=fun a (h:za) (R:VK) (c:LK)=>
 opt (nb [a,.int .i64 26] (zd zz .eql 3 (.tmp 4) (.const (.int .i64 26)) a (.int .i64 26))) fun d=>CD d (fun f=>rv [.int .i64 23,.bool true] h R)
 (Kf a h R)
 (fun b e=>c [nth b 0,nth b 1] e)
def XZ:=fun a (h:za) (R:VK) (c:LK)=>
 opt (nb [a,.int .i64 23] (zd zz .eql 3 (.tmp 4) (.const (.int .i64 23)) a (.int .i64 23))) fun d=>CD d (fun f=>rv [.int .i64 26,.bool true] h R)
 (VA a h R)
 (fun b e=>c [nth b 0,nth b 1] e)
def YO:=fun a (h:za) (R:VK) (c:LK)=>
 opt (nb [a,.int .i64 22] (zd zz .eql 3 (.tmp 4) (.const (.int .i64 22)) a (.int .i64 22))) fun d=>CD d (fun f=>rv [.int .i64 21,.bool true] h R)
 (XZ a h R)
 (fun b e=>c [nth b 0,nth b 1] e)
def Z5:=fun a (h:za) (R:VK) (c:LK)=>
 opt (nb [a,.int .i64 21] (zd zz .eql 3 (.tmp 4) (.const (.int .i64 21)) a (.int .i64 21))) fun d=>CD d (fun f=>rv [.int .i64 22,.bool true] h R)
 (YO a h R)
 (fun b e=>c [nth b 0,nth b 1] e)
def C3:=fun (h:za) a (R:VK)=>
 BK (Z5 a h R)
 (fun c b=>rv [.int .i64 0,.bool false] b R)
theorem A8 (hw:C3 h t0 R):DC zz 88 [t0] h R:=xB (by kernel_rfl) hw
theorem xA (b off:Nat) (h:za):zc Tryz.prog 2 (.pointer (some ⟨b,off,none⟩)) h=zq h b off:=ym (by kernel_rfl) b off h
theorem wL (b off:Nat) (h:za):zc Tryz.prog 22 (.pointer (some ⟨b,off,none⟩)) h=zq h b off:=ym (by kernel_rfl) b off h
theorem wN (b off:Nat) (h:za):zc Tryz.prog 23 (.pointer (some ⟨b,off,none⟩)) h=zq h b off:=ym (by kernel_rfl) b off h
theorem Xv (b off:Nat) (h:za):zc Tryz.prog 25 (.pointer (some ⟨b,off,none⟩)) h=jF h b off 4:=uW (by kernel_rfl) (by kernel_rfl) b off h
theorem zi (b off:Nat) (h:za):zc Tryz.prog 3 (.pointer (some ⟨b,off,none⟩)) h=zq h b off:=ym (by kernel_rfl) b off h
theorem qf (b off:Nat) (h:za):zc Tryz.prog 42 (.pointer (some ⟨b,off,none⟩)) h=jF h b off 7:=uW (by kernel_rfl) (by kernel_rfl) b off h
theorem uP (b off:Nat) (h:za):zc Tryz.prog 48 (.pointer (some ⟨b,off,none⟩)) h=zq h b off:=ym (by kernel_rfl) b off h
theorem Yr (b off:Nat) (h:za):zc Tryz.prog 50 (.pointer (some ⟨b,off,none⟩)) h=jF h b off 2:=uW (by kernel_rfl) (by kernel_rfl) b off h
theorem oH (r:TypeId) (v x:Value) (n:Nat) (new:List Value) (h:za) (h1:jK x=some n) (h2:wZ h n 1 x=some new) (h3:new.all xp=true) (h4:new.length=n * 1):zg Tryz.prog .append [22,22] r [v,x] h=Yh h 3 1 8 n new v:=jx (e:=3) (e2:=3) (by kernel_rfl) (by kernel_rfl) (by kernel_rfl) (by kernel_rfl) (by decide) h1 h2 h3 h4
theorem GP (b off:Nat) (v:Option Addr) (vl vc:Nat) (h:za):zZ Tryz.prog 22 (.pointer (some ⟨b,off,none⟩)) (.slice v vl vc) h=fO h b off [(.slice v vl vc)]:=Y0 (by kernel_rfl) b off _ h rfl
theorem aS (b off:Nat) (l:List Value) (h:za) (hv:l.length=7):zZ Tryz.prog 42 (.pointer (some ⟨b,off,none⟩)) (.agg l.toArray) h=fO h b off l:=qF (by kernel_rfl) b off l h hv
theorem dZ (b off:Nat) (l:List Value) (h:za) (hv:l.length=2):zZ Tryz.prog 50 (.pointer (some ⟨b,off,none⟩)) (.agg l.toArray) h=fO h b off l:=qF (by kernel_rfl) b off l h hv
theorem aT:vK Tryz.prog 42=some (.agg #[(.int .i64 0),(.int .i64 0),(.int .i64 0),(.int .i64 0),(.int .i64 0),(.int .i64 0),(.int .i64 0)]):=zK (by kernel_rfl)
theorem eu:vK Tryz.prog 50=some (.agg #[(.string ⟨#[]⟩),(.slice none 0 0)]):=zK (by kernel_rfl)
theorem Un (v0:Int) (h:za):zf Tryz.prog 22 1 [(0,(.int .i64 v0))] h=some (.slice (some ⟨h.next,0,none⟩) 1 3,h.push (.cells [(.int .i64 v0)] 3)):=zK (by kernel_rfl)
theorem WX (n:Int) (h:za):wM Tryz.prog 21 2 (.int .i32 n) h=some (.int .i64 (IntKind.wrap .i64 n),h):=zK (by kernel_rfl)
theorem Uq (n:Int) (h:za):wM Tryz.prog 2 21 (.int .i64 n) h=some (.int .i32 (IntKind.wrap .i32 n),h):=zK (by kernel_rfl)
theorem yZ (b off:Nat):zb Tryz.prog 25 (.pointer (some ⟨b,off,none⟩)) 0=some (.pointer (some ⟨b,off,none⟩)):=zK (by kernel_rfl)
theorem yo (b off:Nat):zb Tryz.prog 25 (.pointer (some ⟨b,off,none⟩)) 1=some (.pointer (some ⟨b,off + 1,none⟩)):=zK (by kernel_rfl)
theorem ug (b off:Nat):zb Tryz.prog 25 (.pointer (some ⟨b,off,none⟩)) 2=some (.pointer (some ⟨b,off + 2,none⟩)):=zK (by kernel_rfl)
theorem kL (b off:Nat):zb Tryz.prog 25 (.pointer (some ⟨b,off,none⟩)) 3=some (.pointer (some ⟨b,off + 3,none⟩)):=zK (by kernel_rfl)
theorem ze (b off:Nat):zb Tryz.prog 42 (.pointer (some ⟨b,off,none⟩)) 0=some (.pointer (some ⟨b,off,none⟩)):=zK (by kernel_rfl)
theorem zC (b off:Nat):zb Tryz.prog 42 (.pointer (some ⟨b,off,none⟩)) 1=some (.pointer (some ⟨b,off + 1,none⟩)):=zK (by kernel_rfl)
theorem zM (b off:Nat):zb Tryz.prog 42 (.pointer (some ⟨b,off,none⟩)) 2=some (.pointer (some ⟨b,off + 2,none⟩)):=zK (by kernel_rfl)
theorem zk (b off:Nat):zb Tryz.prog 42 (.pointer (some ⟨b,off,none⟩)) 3=some (.pointer (some ⟨b,off + 3,none⟩)):=zK (by kernel_rfl)
theorem Z0 (b off:Nat):zb Tryz.prog 42 (.pointer (some ⟨b,off,none⟩)) 4=some (.pointer (some ⟨b,off + 4,none⟩)):=zK (by kernel_rfl)
theorem x9 (b off:Nat):zb Tryz.prog 42 (.pointer (some ⟨b,off,none⟩)) 5=some (.pointer (some ⟨b,off + 5,none⟩)):=zK (by kernel_rfl)
theorem zu (b off:Nat):zb Tryz.prog 42 (.pointer (some ⟨b,off,none⟩)) 6=some (.pointer (some ⟨b,off + 6,none⟩)):=zK (by kernel_rfl)
theorem wj (b off:Nat):zb Tryz.prog 50 (.pointer (some ⟨b,off,none⟩)) 1=some (.pointer (some ⟨b,off + 1,none⟩)):=zK (by kernel_rfl)
theorem pr (b off len c:Nat) (k:IntKind) (i:Int):zI Tryz.prog 22 (.slice (some ⟨b,off,none⟩) len c) (.int k i)=if 0<=i/\i < len then some (.pointer (some ⟨b,off + i.toNat * 1,none⟩)) else none:=xo (e:=3) (by kernel_rfl) (by kernel_rfl)
theorem pw (b off len c:Nat) (k:IntKind) (i:Int):zI Tryz.prog 23 (.slice (some ⟨b,off,none⟩) len c) (.int k i)=if 0<=i/\i < len then some (.pointer (some ⟨b,off + i.toNat * 2,none⟩)) else none:=xo (e:=50) (by kernel_rfl) (by kernel_rfl)
theorem Am (b off len c:Nat) (k:IntKind) (i:Int):zI Tryz.prog 48 (.slice (some ⟨b,off,none⟩) len c) (.int k i)=if 0<=i/\i < len then some (.pointer (some ⟨b,off + i.toNat * 7,none⟩)) else none:=xo (e:=42) (by kernel_rfl) (by kernel_rfl)
theorem El (b off len c:Nat) (k:IntKind) (i:Int):zI Tryz.prog 67 (.slice (some ⟨b,off,none⟩) len c) (.int k i)=if 0<=i/\i < len then some (.pointer (some ⟨b,off + i.toNat * 1,none⟩)) else none:=xo (e:=2) (by kernel_rfl) (by kernel_rfl)
theorem JS (r:TypeId) (a:Option Addr) (n c:Nat) (h:za):zg Tryz.prog .len [22] r [.slice a n c] h=some (.int .i64 n,h):=zK (by kernel_rfl)
theorem JT (r:TypeId) (a:Option Addr) (n c:Nat) (h:za):zg Tryz.prog .len [23] r [.slice a n c] h=some (.int .i64 n,h):=zK (by kernel_rfl)
theorem eX (r:TypeId) (a:Option Addr) (n c:Nat) (h:za):zg Tryz.prog .len [48] r [.slice a n c] h=some (.int .i64 n,h):=zK (by kernel_rfl)
end Go.As
namespace Go.Rm
open Go.Ai Go.Proofs Go.Proofs.Tryz
noncomputable abbrev zz:=prog
abbrev VK:=Value->za->Prop
abbrev LK:=List Value->za->Prop
abbrev ci (n:Int):Operand := .const (.int .i64 n)
abbrev fn (n:Nat):Value := .func (.func n) #[] #[]
variable {h:za} {t0 t1 t2 t3 t4 t5 t6:Value} {R:VK}
def qs:FuncId->Nat:=fun g=>[0,0,0,0,0,0,0,0,0,0,0,0,0,0,0,0,0,0,0,0,0,0,0,0,0,0,0,0,0,0,0,0,0,0,0,0,0,0,0,0,0,0,0,0,0,0,0,0,0,0,0,0,0,0,0,0,0,0,0,0,0,0,0,0,0,0,0,0,0,0,0,0,0,0,0,0,0,0,0,0,0,0,0,0,0,0,0,0,0,3,3,0,0,2,0,0,0,0,0,0,0,0,0,0,2,0,0,0,2,0,0,0,0,0,0,0,0,2].getD g 0
theorem mixed:prog.follows .mixedOrders=true:=Pm Tryz.checked
theorem xB {f:FuncId} {args:List Value} {X:Prop} (e:Fi zz (U8 zz qs) 200 f args h R=X) (hw:X):DC zz f args h R:=XY mixed (q:=qs) (n:=200) (Eq.mpr e hw)
def KF:=fun a (d:za) (R:VK) (f:LK)=>
 opt (nb [] (jD zz 125 [])) fun b=>opt (nb [b] (zZ zz 125 a b d)) fun c=>opt (zc zz 125 a c) fun e=>rv [e,.bool false] c R
def KG:=fun a b (f:za) c (R:VK) (j:LK)=>
 opt (nb [a,b] (zd zz .quo 2 (.tmp 43) (.tmp 44) a b)) fun g=>zH zz (fn 93) [g] f (fun d h=>opt (nb [d] (zZ zz 125 c d h)) fun e=>opt (zc zz 125 c e) fun i=>rv [i,.bool true] e R)
def KH:=fun a b c (R:VK) (j:List Value) (f:za)=>
 opt (nb [a,b] (zd zz .rem 2 (.tmp 47) (.tmp 48) a b)) fun g=>zH zz (fn 93) [g] f (fun d h=>opt (nb [d] (zZ zz 125 c d h)) fun e=>opt (zc zz 125 c e) fun i=>rv [i,.bool true] e R)
def Dd:=fun a b c d (R:VK) f (e:za)=>
 opt (nb [a,.int .i64 14] (zd zz .eql 3 (.tmp 41) (.const (.int .i64 14)) a (.int .i64 14))) fun g=>CD g (KG b c e d R)
 (fun h=>h [nth f 0] e)
 (KH b c d R)
def De:=fun b f c (R:VK) g h i j (d:za)=>
 GD b false (fun k=>opt (pk f j (.bool false)) fun a=>k a d) (fun a e=>opt (pk b (.bool true) a) fun l=>CD l (KF c e R)
 (fun m=>m [.bool false] e)
 (Dd g h i c R)) d
def Df:=fun a d e (R:VK) f g h b (c:za)=>
 GD a true (fun i=>opt (nb [b,.int .i64 (-1)] (zd zz .eql 2 (.tmp 36) (.const (.int .i64 (-1))) b (.int .i64 (-1)))) fun j=>i j c) (De d a e R f g h) c
def Dg:=fun a c i (R:VK) j k d (e:za)=>
 GD a false (fun l=>opt (nb [d,.int .i64 (-9223372036854775808)] (zd zz .eql 2 (.tmp 33) (.const (.int .i64 (-9223372036854775808))) d (.int .i64 (-9223372036854775808)))) fun b=>l b e) (fun b f=>GD a false (fun m=>m b f) (fun g h=>GD g true (fun n=>n c h) (Df g a i R j k c) h) f) e
def Dh:=fun a (d:za) (R:VK) (f:LK)=>
 opt (nb [] (jD zz 125 [])) fun b=>opt (nb [b] (zZ zz 125 a b d)) fun c=>opt (zc zz 125 a c) fun e=>rv [e,.bool false] c R
def Di:=fun a b (f:za) c (R:VK) (j:LK)=>
 opt (nb [a,b] (zd zz .shl 2 (.tmp 81) (.tmp 82) a b)) fun g=>zH zz (fn 93) [g] f (fun d h=>opt (nb [d] (zZ zz 125 c d h)) fun e=>opt (zc zz 125 c e) fun i=>rv [i,.bool true] e R)
def Bf:=fun a b c (R:VK) (j:List Value) (f:za)=>
 opt (nb [a,b] (zd zz .shr 2 (.tmp 85) (.tmp 86) a b)) fun g=>zH zz (fn 93) [g] f (fun d h=>opt (nb [d] (zZ zz 125 c d h)) fun e=>opt (zc zz 125 c e) fun i=>rv [i,.bool true] e R)
def Bg:=fun a b c d (R:VK) f (e:za)=>
 opt (nb [a,.int .i64 19] (zd zz .eql 3 (.tmp 79) (.const (.int .i64 19)) a (.int .i64 19))) fun g=>CD g (Di b c e d R)
 (fun h=>h [nth f 0] e)
 (Bf b c d R)
def Bh:=fun b c (R:VK) g h i d (e:za)=>
 GD b false (fun j=>opt (nb [d,.int .i64 63] (zd zz .gtr 2 (.tmp 75) (.const (.int .i64 63)) d (.int .i64 63))) fun a=>j a e) (fun a f=>opt (pk b (.bool true) a) fun k=>CD k (Dh c f R)
 (fun l=>l [.bool false] f)
 (Bg g h i c R)) e
def Bi:=fun a b (f:za) c (R:VK) (j:LK)=>
 opt (nb [a,b] (zd zz .geq 2 (.tmp 121) (.tmp 122) a b)) fun g=>zH zz (fn 125) [g] f (fun d h=>opt (nb [d] (zZ zz 125 c d h)) fun e=>opt (zc zz 125 c e) fun i=>rv [i,.bool true] e R)
def Bj:=fun a b (f:za) c (R:VK) (j:LK)=>
 opt (nb [a,b] (zd zz .gtr 2 (.tmp 115) (.tmp 116) a b)) fun g=>zH zz (fn 125) [g] f (fun d h=>opt (nb [d] (zZ zz 125 c d h)) fun e=>opt (zc zz 125 c e) fun i=>rv [i,.bool true] e R)
def Bk:=fun a c d (b:za) e (R:VK) (f:LK)=>
 opt (nb [a,.int .i64 26] (zd zz .eql 3 (.tmp 8) (.const (.int .i64 26)) a (.int .i64 26))) fun g=>CD g (Bi c d b e R)
 (fun h=>h [.bool false] b)
 (fun i j=>f [nth i 0] j)
def Bl:=fun a b (f:za) c (R:VK) (j:LK)=>
 opt (nb [a,b] (zd zz .leq 2 (.tmp 109) (.tmp 110) a b)) fun g=>zH zz (fn 125) [g] f (fun d h=>opt (nb [d] (zZ zz 125 c d h)) fun e=>opt (zc zz 125 c e) fun i=>rv [i,.bool true] e R)
def Bm:=fun a b c (d:za) e (R:VK) (f:LK)=>
 opt (nb [a,.int .i64 25] (zd zz .eql 3 (.tmp 8) (.const (.int .i64 25)) a (.int .i64 25))) fun g=>CD g (Bj b c d e R)
 (Bk a b c d e R)
 (fun h i=>f [nth h 0] i)
def Bn:=fun a b (f:za) c (R:VK) (j:LK)=>
 opt (nb [a,b] (zd zz .lss 2 (.tmp 103) (.tmp 104) a b)) fun g=>zH zz (fn 125) [g] f (fun d h=>opt (nb [d] (zZ zz 125 c d h)) fun e=>opt (zc zz 125 c e) fun i=>rv [i,.bool true] e R)
def Bo:=fun a b c (d:za) e (R:VK) (f:LK)=>
 opt (nb [a,.int .i64 24] (zd zz .eql 3 (.tmp 8) (.const (.int .i64 24)) a (.int .i64 24))) fun g=>CD g (Bl b c d e R)
 (Bm a b c d e R)
 (fun h i=>f [nth h 0] i)
def Bp:=fun a b (f:za) c (R:VK) (j:LK)=>
 opt (nb [a,b] (zd zz .neq 2 (.tmp 97) (.tmp 98) a b)) fun g=>zH zz (fn 125) [g] f (fun d h=>opt (nb [d] (zZ zz 125 c d h)) fun e=>opt (zc zz 125 c e) fun i=>rv [i,.bool true] e R)
def Bq:=fun a b c (d:za) e (R:VK) (f:LK)=>
 opt (nb [a,.int .i64 23] (zd zz .eql 3 (.tmp 8) (.const (.int .i64 23)) a (.int .i64 23))) fun g=>CD g (Bn b c d e R)
 (Bo a b c d e R)
 (fun h i=>f [nth h 0] i)
def Br:=fun a b (f:za) c (R:VK) (j:LK)=>
 opt (nb [a,b] (zd zz .eql 2 (.tmp 91) (.tmp 92) a b)) fun g=>zH zz (fn 125) [g] f (fun d h=>opt (nb [d] (zZ zz 125 c d h)) fun e=>opt (zc zz 125 c e) fun i=>rv [i,.bool true] e R)
def Bs:=fun a b c (d:za) e (R:VK) (f:LK)=>
 opt (nb [a,.int .i64 22] (zd zz .eql 3 (.tmp 8) (.const (.int .i64 22)) a (.int .i64 22))) fun g=>CD g (Bp b c d e R)
 (Bq a b c d e R)
 (fun h i=>f [nth h 0] i)
def Bt:=fun a (b:za) d (R:VK) e f (h:LK)=>
 opt (nb [a,.int .i64 0] (zd zz .lss 2 (.tmp 72) (ci 0) a (.int .i64 0))) fun c=>GD c false (fun g=>g a b) (Bh c d R e f a) b
def Bu:=fun a b c (d:za) e (R:VK) (f:LK)=>
 opt (nb [a,.int .i64 21] (zd zz .eql 3 (.tmp 8) (.const (.int .i64 21)) a (.int .i64 21))) fun g=>CD g (Br b c d e R)
 (Bs a b c d e R)
 (fun h i=>f [nth h 0] i)
def Bv:=fun a b (f:za) c (R:VK) (j:LK)=>
 opt (nb [a,b] (zd zz .xor 2 (.tmp 65) (.tmp 66) a b)) fun g=>zH zz (fn 93) [g] f (fun d h=>opt (nb [d] (zZ zz 125 c d h)) fun e=>opt (zc zz 125 c e) fun i=>rv [i,.bool true] e R)
def Bw:=fun a (c:za) d e (R:VK) f (i:LK)=>
 opt (nb [a,.int .i64 19] (zd zz .eql 3 (.tmp 8) (.const (.int .i64 19)) a (.int .i64 19))) fun g=>CD g (fun b=>b [g] c)
 (fun b=>opt (nb [a,.int .i64 20] (zd zz .eql 3 (.tmp 8) (.const (.int .i64 20)) a (.int .i64 20))) fun j=>b [j] c)
 (fun k h=>CD (nth k 0) (Bt d h e R a f)
 (Bu a f d h e R)
 (fun l m=>i [nth l 0] m))
def Bx:=fun a b (f:za) c (R:VK) (j:LK)=>
 opt (nb [a,b] (zd zz .or 2 (.tmp 59) (.tmp 60) a b)) fun g=>zH zz (fn 93) [g] f (fun d h=>opt (nb [d] (zZ zz 125 c d h)) fun e=>opt (zc zz 125 c e) fun i=>rv [i,.bool true] e R)
def By:=fun a b c (d:za) e (R:VK) (f:LK)=>
 opt (nb [a,.int .i64 18] (zd zz .eql 3 (.tmp 8) (.const (.int .i64 18)) a (.int .i64 18))) fun g=>CD g (Bv b c d e R)
 (Bw a d c e R b)
 (fun h i=>f [nth h 0] i)
def Bz:=fun a b (f:za) c (R:VK) (j:LK)=>
 opt (nb [a,b] (zd zz .and 2 (.tmp 53) (.tmp 54) a b)) fun g=>zH zz (fn 93) [g] f (fun d h=>opt (nb [d] (zZ zz 125 c d h)) fun e=>opt (zc zz 125 c e) fun i=>rv [i,.bool true] e R)
def BA:=fun a b c (d:za) e (R:VK) (f:LK)=>
 opt (nb [a,.int .i64 17] (zd zz .eql 3 (.tmp 8) (.const (.int .i64 17)) a (.int .i64 17))) fun g=>CD g (Bx b c d e R)
 (By a b c d e R)
 (fun h i=>f [nth h 0] i)
def BB:=fun a b (c:za) e (R:VK) f (h:LK)=>
 opt (nb [a,.int .i64 0] (zd zz .eql 2 (.tmp 30) (ci 0) a (.int .i64 0))) fun d=>GD d false (fun g=>g b c) (Dg d a e R f b) c
def BC:=fun a b c (d:za) e (R:VK) (f:LK)=>
 opt (nb [a,.int .i64 16] (zd zz .eql 3 (.tmp 8) (.const (.int .i64 16)) a (.int .i64 16))) fun g=>CD g (Bz b c d e R)
 (BA a b c d e R)
 (fun h i=>f [nth h 0] i)
def BD:=fun a b (f:za) c (R:VK) (j:LK)=>
 opt (nb [a,b] (zd zz .mul 2 (.tmp 23) (.tmp 24) a b)) fun g=>zH zz (fn 93) [g] f (fun d h=>opt (nb [d] (zZ zz 125 c d h)) fun e=>opt (zc zz 125 c e) fun i=>rv [i,.bool true] e R)
def BE:=fun a (c:za) d e f (R:VK) (i:LK)=>
 opt (nb [a,.int .i64 14] (zd zz .eql 3 (.tmp 8) (.const (.int .i64 14)) a (.int .i64 14))) fun g=>CD g (fun b=>b [g] c)
 (fun b=>opt (nb [a,.int .i64 15] (zd zz .eql 3 (.tmp 8) (.const (.int .i64 15)) a (.int .i64 15))) fun j=>b [j] c)
 (fun k h=>CD (nth k 0) (BB d e h f R a)
 (BC a e d h f R)
 (fun l m=>i [nth l 0] m))
def BF:=fun a b (f:za) c (R:VK) (j:LK)=>
 opt (nb [a,b] (zd zz .sub 2 (.tmp 17) (.tmp 18) a b)) fun g=>zH zz (fn 93) [g] f (fun d h=>opt (nb [d] (zZ zz 125 c d h)) fun e=>opt (zc zz 125 c e) fun i=>rv [i,.bool true] e R)
def BG:=fun a b c (d:za) e (R:VK) (f:LK)=>
 opt (nb [a,.int .i64 13] (zd zz .eql 3 (.tmp 8) (.const (.int .i64 13)) a (.int .i64 13))) fun g=>CD g (BD b c d e R)
 (BE a d c b e R)
 (fun h i=>f [nth h 0] i)
def BH:=fun a b (f:za) c (R:VK) (j:LK)=>
 opt (nb [a,b] (zd zz .add 2 (.tmp 11) (.tmp 12) a b)) fun g=>zH zz (fn 93) [g] f (fun d h=>opt (nb [d] (zZ zz 125 c d h)) fun e=>opt (zc zz 125 c e) fun i=>rv [i,.bool true] e R)
def BI:=fun a b c (d:za) e (R:VK) (f:LK)=>
 opt (nb [a,.int .i64 12] (zd zz .eql 3 (.tmp 8) (.const (.int .i64 12)) a (.int .i64 12))) fun g=>CD g (BF b c d e R)
 (BG a b c d e R)
 (fun h i=>f [nth h 0] i)
def BJ:=fun a b c (d:za) e (R:VK) (f:LK)=>
 opt (nb [a,.int .i64 11] (zd zz .eql 3 (.tmp 8) (.const (.int .i64 11)) a (.int .i64 11))) fun g=>CD g (BH b c d e R)
 (BI a b c d e R)
 (fun h i=>f [nth h 0] i)
def BL:=fun a (R:VK) (f:List Value) (d:za)=>
 opt (nb [] (jD zz 125 [])) fun b=>opt (nb [b] (zZ zz 125 a b d)) fun c=>opt (zc zz 125 a c) fun e=>rv [e,.bool false] c R
def lA:=fun (h:za) b c d (R:VK)=>
 opt (vK zz 125) fun e=>nw h (Value.cells e).toList 125 fun a f=>BK (BJ b c d f a R)
 (BL a R)
theorem hX (hw:lA h t0 t1 t2 R):DC zz 119 [t0,t1,t2] h R:=xB (by kernel_rfl) hw
theorem xA (b off:Nat) (h:za):zc Tryz.prog 2 (.pointer (some ⟨b,off,none⟩)) h=zq h b off:=ym (by kernel_rfl) b off h
theorem zi (b off:Nat) (h:za):zc Tryz.prog 3 (.pointer (some ⟨b,off,none⟩)) h=zq h b off:=ym (by kernel_rfl) b off h
theorem GN (r:TypeId) (v x:Value) (n:Nat) (new:List Value) (h:za) (h1:jK x=some n) (h2:wZ h n 1 x=some new) (h3:new.all xp=true) (h4:new.length=n * 1):zg Tryz.prog .append [67,67] r [v,x] h=Yh h 2 1 8 n new v:=jx (e:=2) (e2:=2) (by kernel_rfl) (by kernel_rfl) (by kernel_rfl) (by kernel_rfl) (by decide) h1 h2 h3 h4
theorem WX (n:Int) (h:za):wM Tryz.prog 21 2 (.int .i32 n) h=some (.int .i64 (IntKind.wrap .i64 n),h):=zK (by kernel_rfl)
theorem Uq (n:Int) (h:za):wM Tryz.prog 2 21 (.int .i64 n) h=some (.int .i32 (IntKind.wrap .i32 n),h):=zK (by kernel_rfl)
theorem El (b off len c:Nat) (k:IntKind) (i:Int):zI Tryz.prog 67 (.slice (some ⟨b,off,none⟩) len c) (.int k i)=if 0<=i/\i < len then some (.pointer (some ⟨b,off + i.toNat * 1,none⟩)) else none:=xo (e:=2) (by kernel_rfl) (by kernel_rfl)
end Go.Rm
namespace Go.Rtl
open Go.Ai Go.Proofs
def xz (b:Bool) (v:Value) (_:za):Prop:=v = .bool b
def LH (n:Int) (v:Value) (_:za):Prop:=v = .int .i64 n
theorem wq {f:FuncId} {args:List Value} {h:za} {b:Bool} (d:DC Tryz.prog f args h.lock (xz b)):wV Tryz.prog f args h (.bool b):=wV.of rfl d
theorem mz {f:FuncId} {args:List Value} {h:za} {n:Int} (d:DC Tryz.prog f args h.lock (LH n)):wV Tryz.prog f args h (.int .i64 n):=wV.of rfl d
structure Old (h h':za):Prop where
 next:h.next<=h'.next
 ro:h'.ro=h.ro
 get:∀ b,b < h.next->h'.get b=h.get b
theorem Old.refl (h:za):Old h h:=⟨NG _,rfl,fun _ _=>rfl⟩
theorem Old.trans {a b c:za} (x:Old a b) (y:Old b c):Old a c:=⟨Oc x.next y.next,y.ro.trans x.ro,fun i hi=>(y.get i (NH hi x.next)).trans (x.get i hi)⟩
theorem Old.push (h:za) (o:wi):Old h (h.push o):=⟨OP _,rfl,fun b hb=>zQ hb⟩
theorem Old.set {h h':za} (x:Old h h') {b:Nat} (hb:h.next<=b) (o:Option wi):Old h (h'.set b o):=⟨x.next,x.ro,fun c hc=>(vf (by omega)).trans (x.get c hc)⟩
def zL (h:za) (sv:Value) (zs:List Int):Prop:=(sv = .slice none 0 0/\zs = []) \/ ∃ b off cp,sv = .slice (some ⟨b,off,none⟩) zs.length cp/\(zs ≠ []->∃ c t,b < h.next/\h.get b=some (.cells c t) /\ ∀ (i:Nat) z,zs[i]? = some z->c[off + i]? = some (.int .i64 z))
section
variable {h h':za} {sv:Value} {zs:List Int}
theorem zL.Zp (S:zL h sv zs):ya sv=false:=by
 rcases S with ⟨rfl,_⟩ | ⟨b,off,cp,rfl,_⟩ <;> rfl
theorem zL.KW (S:zL h sv zs):xp sv=true:=by
 rcases S with ⟨rfl,_⟩ | ⟨b,off,cp,rfl,_⟩ <;> rfl
theorem zL.old (S:zL h sv zs) (e:Old h h'):zL h' sv zs:=by
 rcases S with a | ⟨b,off,cp,rfl,hc⟩
 ·exact .inl a
 ·refine .inr ⟨b,off,cp,rfl,fun hz => ?_⟩
  obtain ⟨c,t,hb,hg,hat⟩:=hc hz
  exact ⟨c,t,NH hb e.next,by rw [e.get b hb];exact hg,hat⟩
theorem zL.lock (S:zL h sv zs):zL h.lock sv zs:=by
 rcases S with a | ⟨b,off,cp,rfl,hc⟩
 ·exact .inl a
 ·refine .inr ⟨b,off,cp,rfl,fun hz => ?_⟩
  obtain ⟨c,t,hb,hg,hat⟩:=hc hz
  exact ⟨c,t,hb,by rw [K6];exact hg,hat⟩
end
theorem XG {h:za} (w:w9 h) (o:wi):w9 (h.push o):=⟨fun b x hb=>by
 rw [za.wT] at hb
 show b < h.next + 1
 split at hb
 ·rename_i e;omega
 ·have:=w.1 b x hb;omega,OS w.2⟩
theorem wf_set {h:za} (w:w9 h) {b:Nat} (hb:b < h.next) (o:Option wi):w9 (h.set b o):=⟨fun c x hc=>by
 rw [za.yj] at hc
 split at hc
 ·rename_i e;subst e;exact hb
 ·exact w.1 c x hc,w.2⟩
theorem inc {i:Nat} (h:i < 4611686018427387904):IntKind.wrap .i64 ((i:Int) + 1)=((i + 1:Nat):Int):=by
 simp only [IntKind.wrap,IntKind.bits,IntKind.signed];simp;omega
def zP (h:za) (sv:Value) (n:Nat) (rows:List (List Value)):Prop:=(sv = .slice none 0 0/\rows = []) \/ ∃ b off cp,sv = .slice (some ⟨b,off,none⟩) rows.length cp /\
 (rows ≠ []->∃ c t,b < h.next/\h.get b=some (.cells c t) /\ ∀ (i:Nat) r,rows[i]? = some r->off + i * n + n<=c.length/\(c.drop (off + i * n)).take n=r)
section
variable {h h':za} {sv:Value} {n:Nat} {rows:List (List Value)}
theorem zP.Zp (S:zP h sv n rows):ya sv=false:=by
 rcases S with ⟨rfl,_⟩ | ⟨b,off,cp,rfl,_⟩ <;> rfl
theorem zP.KW (S:zP h sv n rows):xp sv=true:=by
 rcases S with ⟨rfl,_⟩ | ⟨b,off,cp,rfl,_⟩ <;> rfl
theorem zP.old (S:zP h sv n rows) (e:Old h h'):zP h' sv n rows:=by
 rcases S with a | ⟨b,off,cp,rfl,hc⟩
 ·exact .inl a
 ·refine .inr ⟨b,off,cp,rfl,fun hz => ?_⟩
  obtain ⟨c,t,hb,hg,hat⟩:=hc hz
  exact ⟨c,t,NH hb e.next,by rw [e.get b hb];exact hg,hat⟩
theorem zP.lock (S:zP h sv n rows):zP h.lock sv n rows:=by
 rcases S with a | ⟨b,off,cp,rfl,hc⟩
 ·exact .inl a
 ·refine .inr ⟨b,off,cp,rfl,fun hz => ?_⟩
  obtain ⟨c,t,hb,hg,hat⟩:=hc hz
  exact ⟨c,t,hb,by rw [K6];exact hg,hat⟩
theorem zP.spot (S:zP h sv n rows) {i:Nat} {r:List Value} (hr:rows[i]? = some r) (hn:r.length=n):∃ b o c t,(∃ off cp,sv = .slice (some ⟨b,off,none⟩) rows.length cp/\o=off + i * n)/\i < rows.length/\b < h.next/\h.get b=some (.cells c t)/\o + n<=c.length/\(c.drop o).take n=r /\ ∀ k,k < n->c[o + k]? = r[k]?:=by
 rcases S with ⟨rfl,rfl⟩ | ⟨b,off,cp,rfl,hc⟩
 ·cases hr
 ·have hlt:i < rows.length:=by
   rcases NZ i rows.length with a | a
   ·exact a
   ·rw [NM a] at hr;cases hr
  obtain ⟨c,t,hb,hg,hat⟩:=hc (by intro e;subst e;cases hr)
  obtain ⟨h1,h2⟩:=hat i r hr
  refine ⟨b,off + i * n,c,t,⟨off,cp,rfl,rfl⟩,hlt,hb,hg,h1,h2,fun k hk => ?_⟩
  ·rw [<- h2,Ob hk,Od]
end
theorem CT {step:List Value->za->(List Value->za->Prop)->Prop} (Q:za->Prop) {v:Value} (n:Nat) (G:Nat->Bool) {h:za} (h0:Q h)
  (hs:∀ i h J,i<=n->Q h->(∀ k,k < i->G k=true)->(∀ h',i < n->G i=true->Q h'->J [v,.int .i64 ((i + 1:Nat):Int)] h')->step [v,.int .i64 (i:Nat)] h J):LP step [v,.int .i64 0] h:=by
 refine uY (fun m vs h => ∃ i,i<=n/\m=n - i/\vs = [v,.int .i64 (i:Nat)]/\Q h /\ ∀ k,k < i->G k=true) n ⟨0,Oe _,rfl,rfl,h0,fun k hk=>absurd hk (Nat.not_lt_zero _)⟩ ?_
 rintro m vs h ⟨i,hi,rfl,rfl,e,g⟩
 refine hs i h _ hi e g fun h' hlt hg e'=>⟨n - (i + 1),by omega,i + 1,hlt,rfl,rfl,e',fun k hk => ?_⟩
 rcases NZ k i with q | q
 ·exact g k q
 ·have:k=i:=by omega
  subst this;exact hg
def rY {α:Type} (l:List α) (B:α->Bool) (k:Nat):Bool:=match l[k]? with
 | some x=>B x
 | none=>true
theorem jv {α:Type} {l:List α} {B:α->Bool} (h:∀ k,k < l.length->rY l B k=true):l.all B=true:=by
 rw [NY]
 intro x hx
 obtain ⟨k,hk,rfl⟩:=Pl hx
 have:=h k hk
 simpa only [rY,NC hk] using this
theorem YH {α:Type} {l:List α} {B:α->Bool} {k:Nat} {x:α} (hx:l[k]? = some x) (hb:B x=false):l.all B=false:=by
 rw [List.all_eq_false]
 exact ⟨x,NQ hx,by simp [hb]⟩
theorem WT {α:Type} {l:List α} {B:α->Bool} {k:Nat} {x:α} (hx:l[k]? = some x):rY l B k=B x:=by simp only [rY,hx]
theorem get_some {α:Type} {l:List α} {k:Nat} (h:k < l.length):∃ x,l[k]? = some x/\x ∈ l:=⟨l[k],NC h,PH h⟩
structure Sub (h h':za):Prop where
 next:h.next<=h'.next
 get:∀ b o,b < h.next->h.get b=some o->h'.get b=some o
theorem Sub.refl (h:za):Sub h h:=⟨NG _,fun _ _ _ e=>e⟩
theorem Sub.trans {a b c:za} (x:Sub a b) (y:Sub b c):Sub a c:=⟨Oc x.next y.next,fun i o hi e=>y.get i o (NH hi x.next) (x.get i o hi e)⟩
theorem Old.sub {h h':za} (e:Old h h'):Sub h h':=⟨e.next,fun b o hb g=>by rw [e.get b hb];exact g⟩
section
variable {h h':za}
theorem zL.sub {sv:Value} {zs:List Int} (S:zL h sv zs) (e:Sub h h'):zL h' sv zs:=by
 rcases S with a | ⟨b,off,cp,rfl,hc⟩
 ·exact .inl a
 ·refine .inr ⟨b,off,cp,rfl,fun hz => ?_⟩
  obtain ⟨c,t,hb,hg,hat⟩:=hc hz
  exact ⟨c,t,NH hb e.next,e.get b _ hb hg,hat⟩
theorem zP.sub {sv:Value} {n:Nat} {rows:List (List Value)} (S:zP h sv n rows) (e:Sub h h'):zP h' sv n rows:=by
 rcases S with a | ⟨b,off,cp,rfl,hc⟩
 ·exact .inl a
 ·refine .inr ⟨b,off,cp,rfl,fun hz => ?_⟩
  obtain ⟨c,t,hb,hg,hat⟩:=hc hz
  exact ⟨c,t,NH hb e.next,e.get b _ hb hg,hat⟩
theorem zP.BR {sv:Value} {n:Nat} {rows:List (List Value)} (S:zP h sv n rows):jK sv=some rows.length:=by
 rcases S with ⟨rfl,rfl⟩ | ⟨b,off,cp,rfl,hc⟩ <;> rfl
theorem Gr {c:List Value} {off:Nat} {l:List Value} (h:∀ (i:Nat) v,l[i]? = some v->c[off + i]? = some v):(l = []\/off + l.length<=c.length)/\(c.drop off).take l.length=l:=by
 have hle:l = []\/off + l.length<=c.length:=by
  cases hl:l.length with
  | zero=>exact .inl (OH.1 hl)
  | succ n=>
    have:=h n l[n] (NC (by omega))
    rcases NZ (off + n) c.length with q | q
    ·exact .inr (by omega)
    ·rw [NM q] at this;cases this
 refine ⟨hle,O2 fun i => ?_⟩
 rw [List.getElem?_take,Od]
 by_cases hi:i < l.length
 ·rw [NK hi,NC hi];exact h i _ (NC hi)
 ·rw [NJ hi,NM (by omega)]
theorem Ut {n:Nat}:∀ {rows:List (List Value)},(∀ r,r ∈ rows->r.length=n)->∀ {i:Nat} {r:List Value} {k:Nat},rows[i]? = some r->k < n->rows.flatten[i * n + k]? = r[k]?
 | [],_,i,r,k,hr,_=>by cases hr
 | r0 :: rows,hn,0,r,k,hr,hk=>by
   simp only [NV,Nz] at hr
   subst hr
   rw [Ph,Oi (by rw [hn _ (by simp)];omega)]
   simp
 | r0 :: rows,hn,i + 1,r,k,hr,hk=>by
   have h0:=hn r0 (by simp)
   rw [Ph,Ot (by rw [h0,PI];omega),h0,show (i + 1) * n + k - n=i * n + k by rw [PI];omega]
   exact Ut (fun r hr=>hn r (by simp [hr])) (by simpa using hr) hk
theorem qK {n:Nat}:∀ {rows:List (List Value)},(∀ r,r ∈ rows->r.length=n)->rows.flatten.length=rows.length * n
 | [],_=>by simp
 | r0 :: rows,hn=>by
   rw [Ph,Oy,qK (fun r hr=>hn r (by simp [hr])),hn r0 (by simp),OM,PI];omega
theorem eO {n:Nat} {rows:List (List Value)} (hn:∀ r,r ∈ rows->r.length=n) {i:Nat} {r:List Value} (hr:rows[i]? = some r):i * n + n<=rows.flatten.length/\(rows.flatten.drop (i * n)).take n=r:=by
 have hi:i < rows.length:=by
  rcases NZ i rows.length with a | a
  ·exact a
  ·rw [NM a] at hr;cases hr
 have hl:r.length=n:=hn r (NQ hr)
 constructor
 ·rw [qK hn]
  have:=O3 n (Nat.succ_le_of_lt hi)
  rw [Nat.succ_mul] at this
  exact this
 ·refine O2 fun k => ?_
  rw [List.getElem?_take,Od]
  by_cases hk:k < n
  ·rw [NK hk];exact Ut hn hr hk
  ·rw [NJ hk,NM (by omega)]
theorem zP.first {sv:Value} {n:Nat} {rows:List (List Value)} (S:zP h sv n rows) (h0:0 < n) (hn:∀ r,r ∈ rows->r.length=n):wZ h rows.length n sv=some rows.flatten:=by
 rcases S with ⟨rfl,rfl⟩ | ⟨b,off,cp,rfl,hc⟩
 ·rfl
 ·cases rows with
  | nil=>unfold wZ;simp only [O0,PJ];rfl
  | cons r0 rows=>
    obtain ⟨c,t,hb,hg,hat⟩:=hc (by simp)
    obtain ⟨h1,h2⟩:=Gr (c:=c) (off:=off) (l:=(r0 :: rows).flatten) (fun j v hv=>by
     have hj:j < (r0 :: rows).length * n:=by
      rcases NZ j ((r0 :: rows).flatten.length) with a | a
      ·rw [qK hn] at a;exact a
      ·rw [NM a] at hv;cases hv
     have hi:j / n < (r0 :: rows).length:=(Nat.div_lt_iff_lt_mul h0).2 hj
     have hk:j % n < n:=Nat.mod_lt _ h0
     have hr:(r0 :: rows)[j / n]? = some (r0 :: rows)[j / n]:=NC hi
     have e:j=j / n * n + j % n:=by rw [Nat.mul_comm];exact (Nat.div_add_mod j n).symm
     rw [e,Ut hn hr hk] at hv
     obtain ⟨_,h4⟩:=hat _ _ hr
     rw [<- h4,List.getElem?_take,NK hk,Od] at hv
     rw [e,<- OW];exact hv)
    have hl:=qK hn
    rw [hl] at h1 h2
    have hne:(r0 :: rows).length * n ≠ 0:=by rw [OM];exact Nat.mul_ne_zero (by omega) (by omega)
    have h3:off + (r0 :: rows).length * n<=c.length:=by
     rcases h1 with e | e
     ·rw [e] at hl;exact absurd hl.symm hne
     ·exact e
    unfold wZ
    simp only [hg]
    rw [show Nat.beq ((r0 :: rows).length * n) 0=false by rw [<- Py,PF];exact hne,N1,Nat.ble_eq_true_of_le h3,NR,h2]
end
end Go.Rtl
namespace Go.Rm
open Go.Ai Go.Proofs Go.Mem
abbrev gC (n:Int):Int:=IntKind.wrap .i64 n
def Nb (u:Value) (v:Value) (_:za):Prop:=v=u
theorem Uw {f:FuncId} {args:List Value} {h:za} {u:Value} (hs:J6 u=true) (d:DC Tryz.prog f args h.lock (Nb u)):wV Tryz.prog f args h u:=wV.of hs d
end Go.Rm
