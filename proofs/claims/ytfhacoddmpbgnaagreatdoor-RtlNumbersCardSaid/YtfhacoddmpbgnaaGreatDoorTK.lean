/- A part of the proof. -/
import Derived.Test.YtfhacoddmpbgnaaGreatDoorChecked
import Derived.KernelRfl
import Derived.Test.YtfhacoddmpbgnaaGreatDoorTH
import Derived.Test.YtfhacoddmpbgnaaGreatDoorTI
import Derived.Test.YtfhacoddmpbgnaaGreatDoorTD
set_option linter.unusedVariables false
set_option linter.unusedSimpArgs false
set_option maxRecDepth 100000
namespace Go.Rtl
open Go.Ai Go.Proofs Go.Proofs.Tryz
noncomputable abbrev zz:=prog
abbrev VK:=Value->za->Prop
abbrev LK:=List Value->za->Prop
abbrev ci (n:Int):Operand := .const (.int .i64 n)
abbrev fn (n:Nat):Value := .func (.func n) #[] #[]
variable {h:za} {t0 t1 t2 t3 t4 t5 t6:Value} {R:VK}
def qs:FuncId->Nat:=fun g=>[0,0,0,0,0,0,0,0,0,0,0,0,0,0,2,0,2,0,0,0,0,0,0,0,0,0,0,0,0,0,0,0,0,0,0,0,0,0,0,0,0,0,0,0,0,0,0,0,0,0,0,0,0,3,2].getD g 0
theorem mixed:prog.follows .mixedOrders=true:=Checked.mixed Tryz.checked
def Aj:=fun b c (d:LK) a (e:za)=>
 opt (zw zz 43 b (nth c 0)) fun f=>opt (zb zz 53 f 6) fun g=>opt (nb [a] (zh zz 22 g a e)) fun h=>d [] h
def Ak:=fun c (b:za) d (e:LK)=>
 opt (zb zz 45 c 5) fun f=>opt (zd zz 43 f b) fun g=>zV (nb [] (zO zz 22 0 [] b)) fun h a=>opt (zb zz 45 c 5) fun i=>opt (zd zz 43 i (cut a b.next a.next)) fun j=>opt (zw zz 43 j (nth d 0)) fun k=>opt (zb zz 53 k 6) fun l=>opt (zd zz 22 l (cut a b.next a.next)) fun m=>GM zz [22,22] 22 [h,m] (some (b.next,a.next)) a a (Aj g d e)
def Al:=fun b a (c:LK) (g:List Value) (d:za)=>
 BK (Ak b d a)
 (fun h e=>opt (nb [nth a 0,.int .i64 1] (ze zz .add 3 (.tmp 41) (ci 1) (nth a 0) (.int .i64 1))) fun f=>c [f] e)
def aZ:=fun b (h:LK) a (c:za) (i:LK)=>
 opt (zb zz 45 b 5) fun j=>opt (zd zz 43 j c) fun d=>zV (nb [d] (zg zz .len [43] 3 [d] c)) fun e f=>opt (nb [nth a 0,e] (ze zz .lss 3 (.tmp 36) (.tmp 39) (nth a 0) e)) fun k=>CD k (fun g=>g [] f)
 (fun g=>h [] f)
 (Al b a i)
def Am:=fun b g (h:LK) (n:List Value) (a:za)=>
 opt (zb zz 25 b 1) fun i=>opt (zd zz 23 i a) fun c=>opt (zd zz 45 g a) fun d=>zV (nb [d] (zO zz 23 1 [(0,d)] a)) fun e j=>zV (nb [c,e] (zg zz .append [23,23] 23 [c,e] j)) fun f k=>opt (zb zz 25 b 1) fun l=>opt (nb [f] (zh zz 23 l f k)) fun m=>h [] m
def iP:=fun l (b:za) m n (o:LK)=>
 opt (zb zz 25 l 1) fun p=>opt (zd zz 23 p b) fun q=>opt (zw zz 23 q (nth m 0)) fun r=>opt (zd zz 45 r b) fun c=>opt (yV zz 45) fun s=>nw b (Value.cells s).toList 45 fun a t=>opt (nb [c] (zh zz 45 a c t)) fun u=>zV (nb [] (zO zz 22 0 [] u)) fun d e=>opt (zb zz 45 a 1) fun v=>opt (zd zz 22 v e) fun f=>zV (nb [d,f] (zg zz .append [22,22] 22 [d,f] e)) fun g w=>opt (zb zz 45 a 1) fun x=>opt (nb [g] (zh zz 22 x g w)) fun y=>zV (nb [] (zO zz 43 0 [] y)) fun h i=>opt (zb zz 45 a 5) fun z=>opt (zd zz 43 z i) fun j=>zV (nb [h,j] (zg zz .append [43,43] 43 [h,j] i)) fun k A=>opt (zb zz 45 a 5) fun B=>opt (nb [k] (zh zz 43 B k A)) fun C=>BK (fun D=>LP (aZ a D)
 [.int .i64 0] C)
 (Am n a o)
def An:=fun b a c (d:LK) (h:List Value) (e:za)=>
 BK (iP b e a c)
 (fun i f=>opt (nb [nth a 0,.int .i64 1] (ze zz .add 3 (.tmp 19) (ci 1) (nth a 0) (.int .i64 1))) fun g=>d [g] f)
def bB:=fun b (h:LK) i a (c:za) (j:LK)=>
 opt (zb zz 25 b 1) fun k=>opt (zd zz 23 k c) fun d=>zV (nb [d] (zg zz .len [23] 3 [d] c)) fun e f=>opt (nb [nth a 0,e] (ze zz .lss 3 (.tmp 14) (.tmp 17) (nth a 0) e)) fun l=>CD l (fun g=>g [] f)
 (fun g=>h [] f)
 (An b a i j)
def Ao:=fun c (l d:za) e (R:VK) f (a:za)=>
 opt (zb zz 25 c 2) fun m=>opt (zd zz 3 m (cut (cut a l.next d.next) d.next a.next)) fun g=>opt (nb [f,g] (yg zz 25 [(0,f),(2,g)])) fun h=>opt (yV zz 25) fun n=>nw a (Value.cells n).toList 25 fun b o=>opt (nb [h] (zh zz 25 b h o)) fun p=>BK (fun q=>LP (bB c q b)
 [.int .i64 0] p)
 (fun s i=>opt (zd zz 25 b i) fun j=>opt (nb [j] (zh zz 25 e j i)) fun k=>opt (zd zz 25 e k) fun r=>rv [r] k R)
def H9:=fun (h:za) c (R:VK)=>
 opt (nb [c] (some (Value.cells c).toList)) fun e=>nw h e 25 fun d f=>opt (yV zz 25) fun g=>nw f (Value.cells g).toList 25 fun i b=>zV (nb [] (zO zz 22 0 [] b)) fun j a=>opt (zb zz 25 d 0) fun k=>opt (zd zz 22 k (cut a b.next a.next)) fun l=>GM zz [22,22] 22 [j,l] (some (b.next,a.next)) a a (Ao d b a i R)
theorem Ge (hw:H9 h t0 R):DC zz 8 [t0] h R:=FY mixed (q:=qs) (n:=200) (Eq.mpr (by kernel_rfl) hw)
def K0:=fun c (R:VK) d (e:LK) f (a:za)=>
 opt (pk c (.bool true) f) fun g=>CD g (fun b=>rv [.bool false] a R)
 (fun b=>b [nth d 0] a)
 (fun h i=>e [nth h 0] i)
def K1:=fun a (R:VK) d (e:LK) b (c:za)=>
 GD a false (fun f=>opt (nb [b,.int .i64 65536] (ze zz .gtr 3 (.tmp 38) (.const (.int .i64 65536)) b (.int .i64 65536))) fun g=>f g c) (K0 a R d e) c
def K3:=fun e c (a:za) (R:VK) (f:LK)=>
 opt (zw zz 22 e (nth c 1)) fun g=>opt (zd zz 3 g a) fun b=>opt (nb [b,.int .i64 0] (ze zz .lss 3 (.tmp 35) (ci 0) b (.int .i64 0))) fun d=>GD d false (fun h=>h b a) (K1 d R c f) a
def pB:=fun a (b:LK) c (d:za)=>
 opt (nb [nth a 1,.int .i64 1] (ze zz .add 3 (.tmp 31) (ci 1) (nth a 1) (.int .i64 1))) fun e=>b [nth c 0,e] d
def V0:=fun b (e:LK) f (R:VK) a (c:za) (g:LK)=>
 opt (nb [nth a 1,b] (ze zz .lss 3 (.tmp 31) (.tmp 30) (nth a 1) b)) fun h=>CD h (fun d=>d [] c)
 (fun d=>e [nth a 0] c)
 (fun j i=>BK (K3 f a i R)
 (pB a g))
def Yn:=fun c (R:VK) d (e:LK) f (a:za)=>
 opt (pk c f (.bool false)) fun g=>CD g (fun b=>rv [.bool false] a R)
 (fun b=>b [nth d 0] a)
 (fun h i=>e [nth h 0] i)
def Yo:=fun b c d (R:VK) h (i:LK) e (f:za)=>
 GD b false (fun j=>opt (nb [c,e] (ze zz .gtr 2 (.tmp 105) (.tmp 111) c e)) fun a=>j a f) (fun a g=>GD d true (fun k=>opt (pk b (.bool true) a) fun l=>k l g) (Yn d R h i) g) f
def Yp:=fun a e f g (R:VK) h (i:LK) j (d:za)=>
 GD a false (fun k=>opt (zw zz 22 e j) fun b=>k b d) (fun b c=>GD a false (fun l=>opt (zd zz 3 b c) fun m=>l m c) (Yo a f g R h i) c) d
def Yq:=fun a e f g (R:VK) h (i:LK) j (d:za)=>
 GD a false (fun k=>opt (zb zz 53 e 1) fun b=>k b d) (fun b c=>GD a false (fun l=>opt (zd zz 3 b c) fun m=>l m c) (Yp a j f g R h i) c) d
def j8:=fun a e f g (R:VK) h (i:LK) j (d:za)=>
 GD a false (fun k=>opt (zb zz 25 e 0) fun b=>k b d) (fun b c=>GD a false (fun l=>opt (zd zz 22 b c) fun m=>l m c) (Yq a f j g R h i) c) d
def j9:=fun d f g (R:VK) h (i:LK) a (e:za)=>
 GD a false (fun j=>opt (zb zz 53 d 5) fun b=>j b e) (fun b c=>GD a false (fun k=>opt (zd zz 2 b c) fun l=>k l c) (j8 a f d g R h i) c) e
def Za:=fun a e f g (R:VK) h (i:LK) j (c:za)=>
 GD a true (fun k=>opt (pk e (.bool true) j) fun b=>k b c) (fun b d=>GD a true (fun l=>l b d) (j9 f g a R h i) d) c
def Zb:=fun a d e f (R:VK) g (h:LK) b (c:za)=>
 GD a false (fun i=>opt (nb [b,.int .i64 0] (ze zz .lss 2 (.tmp 100) (ci 0) b (.int .i64 0))) fun j=>i j c) (Za d a e f R g h) c
def Zc:=fun d f g (R:VK) h (i:LK) a (e:za)=>
 GD a false (fun j=>opt (zb zz 53 d 5) fun b=>j b e) (fun b c=>GD a false (fun k=>opt (zd zz 2 b c) fun l=>k l c) (Zb a f d g R h i) c) e
def Zd:=fun a e f (R:VK) g (h:LK) i (c:za)=>
 GD a true (fun j=>opt (Wz zz .not i) fun b=>j b c) (fun b d=>GD a true (fun k=>k b d) (Zc e a f R g h) d) c
def UO:=fun a f g h (R:VK) i (j:LK) d (b:za)=>
 GD a true (fun k=>zV (nb [d] (zg zz .len [22] 3 [d] b)) fun c _=>k c b) (fun c e=>GD a true (fun l=>Y8 zz 31 [f,c] e (fun m n=>l m n)) (Zd a g h R i j) e) b
def UP:=fun a d f (R:VK) g (h:LK) i (e:za)=>
 GD a true (fun j=>opt (zb zz 25 d 0) fun b=>j b e) (fun b c=>GD a true (fun k=>opt (zd zz 22 b c) fun l=>k l c) (UO a i f d R g h) c) e
def UQ:=fun a (b:za) g (R:VK) h (i:LK)=>
 opt (zb zz 53 a 0) fun j=>opt (zd zz 3 j b) fun f=>opt (nb [f,.int .i64 8] (ze zz .eql 3 (.tmp 88) (.const (.int .i64 8)) f (.int .i64 8))) fun c=>GD c true (fun k=>opt (zb zz 53 a 1) fun d=>k d b) (fun d e=>GD c true (fun l=>opt (zd zz 3 d e) fun m=>l m e) (UP c g a R h i) e) b
def Yf:=fun b (R:VK) c d e (f:LK) g (a:za)=>
 opt (pk b g (.bool false)) fun h=>CD h (fun k=>rv [.bool false] a R)
 (UQ c a d R e)
 (fun i j=>f [nth i 0] j)
def Yg:=fun b c d (R:VK) h i j (k:LK) e (f:za)=>
 GD b false (fun l=>opt (nb [c,e] (ze zz .neq 3 (.tmp 79) (.tmp 82) c e)) fun a=>l a f) (fun a g=>GD d true (fun m=>opt (pk b (.bool true) a) fun n=>m n g) (Yf d R h i j k) g) f
def Yh:=fun b e f (R:VK) g h i (j:LK) k (c:za)=>
 GD b false (fun l=>opt (zd zz 22 k c) fun a=>l a c) (fun a d=>GD b false (fun m=>zV (nb [a] (zg zz .len [22] 3 [a] d)) fun n _=>m n d) (Yg b e f R g h i j) d) c
def Yi:=fun a d g (R:VK) h i (j:LK) e (b:za)=>
 GD a false (fun k=>zV (nb [e] (zg zz .len [22] 3 [e] b)) fun c _=>k c b) (fun c f=>GD a false (fun l=>opt (zb zz 53 d 6) fun m=>l m f) (Yh a c g R d h i j) f) b
def Yj:=fun a e f (R:VK) g h (i:LK) j (d:za)=>
 GD a false (fun k=>opt (zb zz 45 j 1) fun b=>k b d) (fun b c=>GD a false (fun l=>opt (zd zz 22 b c) fun m=>l m c) (Yi a e f R g h i) c) d
def Yk:=fun a e f g (R:VK) h i (j:LK) k (b:za)=>
 GD a false (fun l=>opt (zd zz 3 k b) fun c=>l c b) (fun c d=>GD a false (fun m=>opt (zw zz 23 e c) fun n=>m n d) (Yj a f g R h i j) d) b
def Yl:=fun a d f (R:VK) g h (i:LK) j (b:za)=>
 GD a false (fun k=>opt (zd zz 23 j b) fun c=>k c b) (fun c e=>GD a false (fun l=>opt (zb zz 53 d 1) fun m=>l m e) (Yk a c d f R g h i) e) b
def Ym:=fun a b f (R:VK) g (h:LK) i (c:za)=>
 GD a true (fun j=>j i c) (fun d e=>GD d false (fun k=>opt (zb zz 25 b 1) fun l=>k l e) (Yl d f a R b g h) e) c
def UR:=fun a e f g (R:VK) h (i:LK) j (c:za)=>
 GD a true (fun k=>Y8 zz 31 [e,j] c (fun b l=>k b l)) (fun b d=>GD a true (fun m=>opt (Wz zz .not b) fun n=>m n d) (Ym a f g R h i) d) c
def US:=fun b e f g (R:VK) h (i:LK) j (c:za)=>
 GD b true (fun k=>opt (zd zz 23 j c) fun a=>k a c) (fun a d=>GD b true (fun l=>zV (nb [a] (zg zz .len [23] 3 [a] d)) fun m _=>l m d) (UR b e f g R h i) d) c
def UT:=fun a d f (R:VK) g (h:LK) i (b:za)=>
 GD a true (fun j=>opt (zd zz 3 i b) fun c=>j c b) (fun c e=>GD a true (fun k=>opt (zb zz 25 d 1) fun l=>k l e) (US a c d f R g h) e) b
def UU:=fun a (b:za) e (R:VK) f (g:LK)=>
 opt (zb zz 53 a 0) fun h=>opt (zd zz 3 h b) fun c=>opt (nb [c,.int .i64 10] (ze zz .eql 3 (.tmp 61) (.const (.int .i64 10)) c (.int .i64 10))) fun d=>GD d true (fun i=>opt (zb zz 53 a 1) fun j=>i j b) (UT d e a R f g) b
def JR:=fun e a (b:za) f (R:VK) (g:LK)=>
 opt (zw zz 43 e (nth a 1)) fun h=>opt (zd zz 53 h b) fun c=>opt (yV zz 53) fun i=>nw b (Value.cells i).toList 53 fun d j=>opt (nb [c] (zh zz 53 d c j)) fun k=>BK (UU d k f R a)
 (fun l m=>g [nth l 0] m)
def lu:=fun a (b:LK) c (d:za)=>
 opt (nb [nth a 1,.int .i64 1] (ze zz .add 3 (.tmp 55) (ci 1) (nth a 1) (.int .i64 1))) fun e=>b [nth c 0,e] d
def JS:=fun b (e:LK) f g (R:VK) a (c:za) (h:LK)=>
 opt (nb [nth a 1,b] (ze zz .lss 3 (.tmp 55) (.tmp 54) (nth a 1) b)) fun i=>CD i (fun d=>d [] c)
 (fun d=>e [nth a 0] c)
 (fun k j=>BK (JR f a j g R)
 (lu a h))
def lx:=fun c d (R:VK) (e:LK) f (b:za)=>
 opt (zb zz 45 c 5) fun g=>opt (zd zz 43 g b) fun a=>zV (nb [a] (zg zz .len [43] 3 [a] b)) fun h i=>BK (fun j=>LP (JS h j a d R)
 [nth f 0,.int .i64 0] i)
 (fun k l=>e [nth k 0] l)
def ly:=fun h b (c:za) (R:VK) i (j:LK)=>
 opt (zw zz 23 h (nth b 1)) fun k=>opt (zd zz 45 k c) fun d=>opt (yV zz 45) fun l=>nw c (Value.cells l).toList 45 fun a m=>opt (nb [d] (zh zz 45 a d m)) fun e=>opt (zd zz 45 a e) fun n=>zH zz (fn 32) [n] e (fun o f=>opt (Wz zz .not o) fun p=>CD p (fun g=>rv [.bool false] f R)
 (fun g=>g [nth b 0] f)
 (lx a i R j))
def lz:=fun a (b:LK) c (d:za)=>
 opt (nb [nth a 1,.int .i64 1] (ze zz .add 3 (.tmp 45) (ci 1) (nth a 1) (.int .i64 1))) fun e=>b [nth c 0,e] d
def JT:=fun b (e:LK) f (R:VK) g a (c:za) (h:LK)=>
 opt (nb [nth a 1,b] (ze zz .lss 3 (.tmp 45) (.tmp 44) (nth a 1) b)) fun i=>CD i (fun d=>d [] c)
 (fun d=>e [nth a 0] c)
 (fun k j=>BK (ly f a j R g)
 (lz a h))
def JU:=fun b (R:VK) d (c:za)=>
 opt (zb zz 25 b 1) fun e=>opt (zd zz 23 e c) fun a=>zV (nb [a] (zg zz .len [23] 3 [a] c)) fun f g=>BK (fun h=>LP (JT f h a R b)
 [nth d 0,.int .i64 0] g)
 (fun j i=>rv [.bool true] i R)
def JV:=fun b (R:VK) d (c:za)=>
 opt (zb zz 25 b 0) fun e=>opt (zd zz 22 e c) fun a=>zV (nb [a] (zg zz .len [22] 3 [a] c)) fun f g=>BK (fun h=>LP (V0 f h a R)
 [nth d 0,.int .i64 0] g)
 (JU b R)
def X5:=fun b (R:VK) g c (d:za)=>
 GD b false (fun h=>opt (nb [c,.int .i64 200] (ze zz .gtr 3 (.tmp 25) (.const (.int .i64 200)) c (.int .i64 200))) fun a=>h a d) (fun a e=>opt (pk b (.bool true) a) fun i=>CD i (fun f=>rv [.bool false] e R)
 (fun f=>f [.bool false] e)
 (JV g R)) d
def X6:=fun b (R:VK) e f (c:za)=>
 GD b false (fun g=>opt (zd zz 22 f c) fun a=>g a c) (fun a d=>GD b false (fun h=>zV (nb [a] (zg zz .len [22] 3 [a] d)) fun i j=>h i j) (X5 b R e) d) c
def X7:=fun b c (R:VK) d (e:za)=>
 GD b false (fun h=>opt (nb [d,.int .i64 100] (ze zz .gtr 3 (.tmp 19) (.const (.int .i64 100)) d (.int .i64 100))) fun a=>h a e) (fun a f=>opt (pk b (.bool true) a) fun g=>GD g false (fun i=>opt (zb zz 25 c 0) fun j=>i j f) (X6 g R c) f) e
def X8:=fun b e (R:VK) f (c:za)=>
 GD b false (fun g=>opt (zd zz 23 f c) fun a=>g a c) (fun a d=>GD b false (fun h=>zV (nb [a] (zg zz .len [23] 3 [a] d)) fun i j=>h i j) (X7 b e R) d) c
def EU:=fun (h:za) c (R:VK)=>
 opt (nb [c] (some (Value.cells c).toList)) fun g=>nw h g 25 fun a b=>opt (zb zz 25 a 2) fun i=>opt (zd zz 3 i b) fun j=>opt (zb zz 25 a 1) fun k=>opt (zd zz 23 k b) fun d=>zV (nb [d] (zg zz .len [23] 3 [d] b)) fun l m=>zH zz (fn 31) [j,l] m (fun n e=>opt (Wz zz .not n) fun f=>GD f false (fun o=>opt (zb zz 25 a 1) fun p=>o p e) (X8 f a R) e)
theorem C9 (hw:EU h t0 R):DC zz 14 [t0] h R:=zL mixed (q:=qs) (n:=200) (Eq.mpr (by kernel_rfl) hw)
def KQ:=fun c (R:VK) d (e:LK) f (a:za)=>
 opt (pk c (.bool true) f) fun g=>CD g (fun b=>rv [.bool false] a R)
 (fun b=>b [nth d 0] a)
 (fun h i=>e [nth h 0] i)
def KR:=fun a (R:VK) d (e:LK) b (c:za)=>
 GD a false (fun f=>opt (nb [b,.int .i64 65536] (ze zz .gtr 3 (.tmp 49) (.const (.int .i64 65536)) b (.int .i64 65536))) fun g=>f g c) (KQ a R d e) c
def KS:=fun a e (R:VK) f (g:LK) h (d:za)=>
 GD a false (fun i=>opt (zw zz 22 e h) fun b=>i b d) (fun b c=>GD a false (fun j=>opt (zd zz 3 b c) fun k=>j k c) (KR a R f g) c) d
def KT:=fun a d (R:VK) (f:LK) g (b:za)=>
 GD a false (fun h=>opt (zd zz 22 g b) fun c=>h c b) (fun c e=>GD a false (fun i=>i (nth d 1) e) (KS a c R d f) e) b
def KU:=fun b (a:za) c (R:VK) (f:LK)=>
 opt (zb zz 25 b 0) fun g=>opt (zd zz 22 g a) fun h=>opt (zw zz 22 h (nth c 1)) fun i=>opt (zd zz 3 i a) fun d=>opt (nb [d,.int .i64 0] (ze zz .lss 3 (.tmp 42) (ci 0) d (.int .i64 0))) fun e=>GD e false (fun j=>opt (zb zz 25 b 0) fun k=>j k a) (KT e c R f) a
def oJ:=fun a (b:LK) c (d:za)=>
 opt (nb [nth a 1,.int .i64 1] (ze zz .add 3 (.tmp 36) (ci 1) (nth a 1) (.int .i64 1))) fun e=>b [nth c 0,e] d
def VV:=fun b (h:LK) (R:VK) a (c:za) (i:LK)=>
 opt (zb zz 25 b 0) fun j=>opt (zd zz 22 j c) fun d=>zV (nb [d] (zg zz .len [22] 3 [d] c)) fun e f=>opt (nb [nth a 1,e] (ze zz .lss 3 (.tmp 31) (.tmp 34) (nth a 1) e)) fun k=>CD k (fun g=>g [] f)
 (fun g=>h [nth a 0] f)
 (fun m l=>BK (KU b l a R)
 (oJ a i))
def Zn:=fun c (R:VK) d (e:LK) f (a:za)=>
 opt (pk c f (.bool false)) fun g=>CD g (fun b=>rv [.bool false] a R)
 (fun b=>b [nth d 0] a)
 (fun h i=>e [nth h 0] i)
def Zo:=fun b c d (R:VK) h (i:LK) e (f:za)=>
 GD b false (fun j=>opt (nb [c,e] (ze zz .gtr 2 (.tmp 131) (.tmp 137) c e)) fun a=>j a f) (fun a g=>GD d true (fun k=>opt (pk b (.bool true) a) fun l=>k l g) (Zn d R h i) g) f
def kU:=fun a e f g (R:VK) h (i:LK) j (d:za)=>
 GD a false (fun k=>opt (zw zz 22 e j) fun b=>k b d) (fun b c=>GD a false (fun l=>opt (zd zz 3 b c) fun m=>l m c) (Zo a f g R h i) c) d
def kV:=fun a e f g (R:VK) h (i:LK) j (d:za)=>
 GD a false (fun k=>opt (zb zz 53 e 1) fun b=>k b d) (fun b c=>GD a false (fun l=>opt (zd zz 3 b c) fun m=>l m c) (kU a j f g R h i) c) d
def kW:=fun a e f g (R:VK) h (i:LK) j (d:za)=>
 GD a false (fun k=>opt (zb zz 25 e 0) fun b=>k b d) (fun b c=>GD a false (fun l=>opt (zd zz 22 b c) fun m=>l m c) (kV a f j g R h i) c) d
def kX:=fun d f g (R:VK) h (i:LK) a (e:za)=>
 GD a false (fun j=>opt (zb zz 53 d 5) fun b=>j b e) (fun b c=>GD a false (fun k=>opt (zd zz 2 b c) fun l=>k l c) (kW a f d g R h i) c) e
def kY:=fun a e f g (R:VK) h (i:LK) j (c:za)=>
 GD a true (fun k=>opt (pk e (.bool true) j) fun b=>k b c) (fun b d=>GD a true (fun l=>l b d) (kX f g a R h i) d) c
def kZ:=fun a d e f (R:VK) g (h:LK) b (c:za)=>
 GD a false (fun i=>opt (nb [b,.int .i64 0] (ze zz .lss 2 (.tmp 126) (ci 0) b (.int .i64 0))) fun j=>i j c) (kY d a e f R g h) c
def k7:=fun d f g (R:VK) h (i:LK) a (e:za)=>
 GD a false (fun j=>opt (zb zz 53 d 5) fun b=>j b e) (fun b c=>GD a false (fun k=>opt (zd zz 2 b c) fun l=>k l c) (kZ a f d g R h i) c) e
def k8:=fun a e f g (R:VK) h (i:LK) j (c:za)=>
 GD a true (fun k=>opt (pk e (.bool true) j) fun b=>k b c) (fun b d=>GD a true (fun l=>l b d) (k7 f a g R h i) d) c
def k9:=fun a b e f g (R:VK) h (i:LK) c (d:za)=>
 GD a false (fun j=>opt (nb [b,c] (ze zz .geq 3 (.tmp 118) (.tmp 121) b c)) fun k=>j k d) (k8 e a f g R h i) d
def ja:=fun b d e f g (R:VK) h (i:LK) c (a:za)=>
 GD b false (fun j=>zV (nb [c] (zg zz .len [22] 3 [c] a)) fun k _=>j k a) (k9 b d e f g R h i) a
def jc:=fun a d f g (R:VK) h (i:LK) j (e:za)=>
 GD a false (fun k=>opt (zb zz 25 d 0) fun b=>k b e) (fun b c=>GD a false (fun l=>opt (zd zz 22 b c) fun m=>l m c) (ja a j f g d R h i) c) e
def jd:=fun d f g (R:VK) h (i:LK) a (e:za)=>
 GD a false (fun j=>opt (zb zz 53 d 1) fun b=>j b e) (fun b c=>GD a false (fun k=>opt (zd zz 3 b c) fun l=>k l c) (jc a f g d R h i) c) e
def jf:=fun a f g (R:VK) h (i:LK) c (d:za)=>
 GD a true (fun j=>opt (nb [c,.int .i64 0] (ze zz .lss 3 (.tmp 114) (ci 0) c (.int .i64 0))) fun b=>j b d) (fun b e=>GD a true (fun k=>k b e) (jd f g a R h i) e) d
def jg:=fun a g (R:VK) (h:LK) i (b:za)=>
 opt (zb zz 53 a 0) fun j=>opt (zd zz 3 j b) fun f=>opt (nb [f,.int .i64 8] (ze zz .eql 3 (.tmp 110) (.const (.int .i64 8)) f (.int .i64 8))) fun c=>GD c true (fun k=>opt (zb zz 53 a 1) fun d=>k d b) (fun d e=>GD c true (fun l=>opt (zd zz 3 d e) fun m=>l m e) (jf c a g R i h) e) b
def uq:=fun b f (R:VK) g h i (j:LK) k (c:za)=>
 GD b true (fun l=>opt (pk f (.bool true) k) fun a=>l a c) (fun a d=>opt (pk b a (.bool false)) fun m=>CD m (fun e=>rv [.bool false] d R)
 (fun e=>e [nth g 0] d)
 (jg h i R j)) c
def ur:=fun a b e (R:VK) f g h (i:LK) c (d:za)=>
 GD a false (fun j=>opt (nb [b,c] (ze zz .neq 3 (.tmp 102) (.tmp 105) b c)) fun k=>j k d) (uq e a R f g h i) d
def uu:=fun b d e (R:VK) f g h (i:LK) c (a:za)=>
 GD b false (fun j=>zV (nb [c] (zg zz .len [22] 3 [c] a)) fun k _=>j k a) (ur b d e R f g h i) a
def uv:=fun a d f (R:VK) g h (i:LK) j (e:za)=>
 GD a false (fun k=>opt (zb zz 53 d 6) fun b=>k b e) (fun b c=>GD a false (fun l=>opt (zd zz 22 b c) fun m=>l m c) (uu a j f R g d h i) c) e
def uw:=fun b e f (R:VK) g h (i:LK) j (c:za)=>
 GD b false (fun k=>opt (zd zz 22 j c) fun a=>k a c) (fun a d=>GD b false (fun l=>zV (nb [a] (zg zz .len [22] 3 [a] d)) fun m _=>l m d) (uv b e f R g h i) d) c
def ux:=fun a e f g (R:VK) h i (j:LK) k (c:za)=>
 GD a false (fun l=>opt (zw zz 23 e k) fun b=>l b c) (fun b d=>GD a false (fun m=>opt (zb zz 45 b 1) fun n=>m n d) (uw a f g R h i j) d) c
def uy:=fun a d f (R:VK) g h (i:LK) j (e:za)=>
 GD a false (fun k=>opt (zb zz 53 d 1) fun b=>k b e) (fun b c=>GD a false (fun l=>opt (zd zz 3 b c) fun m=>l m c) (ux a j d f R g h i) c) e
def uz:=fun d f g (R:VK) h (i:LK) a (e:za)=>
 GD a false (fun j=>opt (zb zz 25 d 1) fun b=>j b e) (fun b c=>GD a false (fun k=>opt (zd zz 23 b c) fun l=>k l c) (uy a f g R h d i) c) e
def uA:=fun a e f g (R:VK) h (i:LK) j (c:za)=>
 GD a true (fun k=>opt (pk e (.bool true) j) fun b=>k b c) (fun b d=>GD a true (fun l=>l b d) (uz f g a R h i) d) c
def uB:=fun a b e f g (R:VK) h (i:LK) c (d:za)=>
 GD a false (fun j=>opt (nb [b,c] (ze zz .geq 3 (.tmp 88) (.tmp 91) b c)) fun k=>j k d) (uA e a f g R h i) d
def uC:=fun b e f g h (R:VK) i (j:LK) k (c:za)=>
 GD b false (fun l=>opt (zd zz 23 k c) fun a=>l a c) (fun a d=>GD b false (fun m=>zV (nb [a] (zg zz .len [23] 3 [a] d)) fun n _=>m n d) (uB b e f g h R i j) d) c
def uD:=fun a d f g (R:VK) h (i:LK) j (b:za)=>
 GD a false (fun k=>opt (zd zz 3 j b) fun c=>k c b) (fun c e=>GD a false (fun l=>opt (zb zz 25 d 1) fun m=>l m e) (uC a c f d g R h i) e) b
def uE:=fun a b f (R:VK) g (h:LK) i (c:za)=>
 GD a true (fun j=>j i c) (fun d e=>GD d false (fun k=>opt (zb zz 53 b 1) fun l=>k l e) (uD d f a b R g h) e) c
def uF:=fun a d e (R:VK) f (g:LK) b (c:za)=>
 GD a true (fun h=>opt (nb [b,.int .i64 0] (ze zz .lss 3 (.tmp 84) (ci 0) b (.int .i64 0))) fun i=>h i c) (uE a d e R f g) c
def JL:=fun j (b:za) g k (R:VK) (l:LK)=>
 opt (zb zz 45 j 5) fun m=>opt (zd zz 43 m b) fun n=>opt (zw zz 43 n (nth g 1)) fun o=>opt (zd zz 53 o b) fun h=>opt (yV zz 53) fun p=>nw b (Value.cells p).toList 53 fun a q=>opt (nb [h] (zh zz 53 a h q)) fun c=>opt (zb zz 53 a 0) fun r=>opt (zd zz 3 r c) fun i=>opt (nb [i,.int .i64 10] (ze zz .eql 3 (.tmp 80) (.const (.int .i64 10)) i (.int .i64 10))) fun d=>GD d true (fun s=>opt (zb zz 53 a 1) fun e=>s e c) (fun e f=>GD d true (fun t=>opt (zd zz 3 e f) fun u=>t u f) (uF d a k R g l) f) c
def i4:=fun a (b:LK) c (d:za)=>
 opt (nb [nth a 1,.int .i64 1] (ze zz .add 3 (.tmp 72) (ci 1) (nth a 1) (.int .i64 1))) fun e=>b [nth c 0,e] d
def JM:=fun b (h:LK) i (R:VK) a (c:za) (j:LK)=>
 opt (zb zz 45 b 5) fun k=>opt (zd zz 43 k c) fun d=>zV (nb [d] (zg zz .len [43] 3 [d] c)) fun e f=>opt (nb [nth a 1,e] (ze zz .lss 3 (.tmp 67) (.tmp 70) (nth a 1) e)) fun l=>CD l (fun g=>g [] f)
 (fun g=>h [nth a 0] f)
 (fun n m=>BK (JL b m a i R)
 (i4 a j))
def JN:=fun (R:VK) c d e (f:LK) g (a:za)=>
 opt (Wz zz .not g) fun h=>CD h (fun b=>rv [.bool false] a R)
 (fun b=>b [nth c 0] a)
 (fun i j=>BK (fun k=>LP (JM d k e R)
 [nth i 0,.int .i64 0] j)
 (fun l m=>f [nth l 0] m))
def i5:=fun c (a:za) d (R:VK) (g:LK)=>
 opt (zb zz 25 c 1) fun h=>opt (zd zz 23 h a) fun i=>opt (zw zz 23 i (nth d 1)) fun j=>opt (zd zz 45 j a) fun e=>opt (yV zz 45) fun k=>nw a (Value.cells k).toList 45 fun b l=>opt (nb [e] (zh zz 45 b e l)) fun f=>opt (zd zz 45 b f) fun m=>zH zz (fn 39) [m] f (JN R d b c g)
def i6:=fun a (b:LK) c (d:za)=>
 opt (nb [nth a 1,.int .i64 1] (ze zz .add 3 (.tmp 57) (ci 1) (nth a 1) (.int .i64 1))) fun e=>b [nth c 0,e] d
def Uy:=fun b (h:LK) (R:VK) a (c:za) (i:LK)=>
 opt (zb zz 25 b 1) fun j=>opt (zd zz 23 j c) fun d=>zV (nb [d] (zg zz .len [23] 3 [d] c)) fun e f=>opt (nb [nth a 1,e] (ze zz .lss 3 (.tmp 52) (.tmp 55) (nth a 1) e)) fun k=>CD k (fun g=>g [] f)
 (fun g=>h [nth a 0] f)
 (fun m l=>BK (i5 b l a R)
 (i6 a i))
def Uz:=fun a (R:VK) b (c:za)=>
 BK (fun d=>LP (VV a d R)
 [nth b 0,.int .i64 0] c)
 (fun e f=>BK (fun g=>LP (Uy a g R)
 [nth e 0,.int .i64 0] f)
 (fun i h=>rv [.bool true] h R))
def Z4:=fun b c (R:VK) h d (e:za)=>
 GD b false (fun i=>opt (nb [c,d] (ze zz .geq 3 (.tmp 25) (.tmp 28) c d)) fun a=>i a e) (fun a f=>opt (pk b (.bool true) a) fun j=>CD j (fun g=>rv [.bool false] f R)
 (fun g=>g [.bool false] f)
 (Uz h R)) e
def Z5:=fun b e (R:VK) f g (c:za)=>
 GD b false (fun h=>opt (zd zz 23 g c) fun a=>h a c) (fun a d=>GD b false (fun i=>zV (nb [a] (zg zz .len [23] 3 [a] d)) fun j k=>i j k) (Z4 b e R f) d) c
def Z6:=fun a d (R:VK) f (b:za)=>
 GD a false (fun g=>opt (zd zz 3 f b) fun c=>g c b) (fun c e=>GD a false (fun h=>opt (zb zz 25 d 1) fun i=>h i e) (Z5 a c R d) e) b
def Z7:=fun b c (R:VK) d (e:za)=>
 GD b false (fun h=>opt (nb [d,.int .i64 0] (ze zz .lss 3 (.tmp 20) (ci 0) d (.int .i64 0))) fun a=>h a e) (fun a f=>opt (pk b (.bool true) a) fun g=>GD g false (fun i=>opt (zb zz 25 c 2) fun j=>i j f) (Z6 g c R) f) e
def Z8:=fun f d (R:VK) g (e:za)=>
 opt (pk f (.bool true) g) fun a=>GD a false (fun h=>opt (zb zz 25 d 2) fun b=>h b e) (fun b c=>GD a false (fun i=>opt (zd zz 3 b c) fun j=>i j c) (Z7 a d R) c) e
def Z9:=fun a d (R:VK) b (c:za)=>
 GD a false (fun e=>opt (nb [b,.int .i64 100] (ze zz .gtr 3 (.tmp 15) (.const (.int .i64 100)) b (.int .i64 100))) fun f=>e f c) (Z8 a d R) c
def Ya:=fun b e (R:VK) f (c:za)=>
 GD b false (fun g=>opt (zd zz 23 f c) fun a=>g a c) (fun a d=>GD b false (fun h=>zV (nb [a] (zg zz .len [23] 3 [a] d)) fun i j=>h i j) (Z9 b e R) d) c
def EK:=fun (h:za) b (R:VK)=>
 opt (nb [b] (some (Value.cells b).toList)) fun i=>nw h i 25 fun a c=>opt (zb zz 25 a 0) fun j=>opt (zd zz 22 j c) fun d=>zV (nb [d] (zg zz .len [22] 3 [d] c)) fun e f=>opt (nb [e,.int .i64 200] (ze zz .gtr 3 (.tmp 10) (.const (.int .i64 200)) e (.int .i64 200))) fun g=>GD g false (fun k=>opt (zb zz 25 a 1) fun l=>k l f) (Ya g a R) f
theorem C2 (hw:EK h t0 R):DC zz 16 [t0] h R:=zL mixed (q:=qs) (n:=200) (Eq.mpr (by kernel_rfl) hw)
def EF:=fun (h:za) a (R:VK)=>
 opt (nb [a] (some (Value.cells a).toList)) fun c=>nw h c 53 fun b d=>opt (nb ([] ++ [b]) (some (Value.func (.func 42) [].toArray [b].toArray))) fun e=>rv [e] d R
theorem CX (hw:EF h t0 R):DC zz 19 [t0] h R:=zL mixed (q:=qs) (n:=200) (Eq.mpr (by kernel_rfl) hw)
def Io:=fun (h:za) a (R:VK)=>
 opt (nb [a] (some (Value.cells a).toList)) fun c=>nw h c 53 fun b d=>opt (nb ([] ++ [b]) (some (Value.func (.func 43) [].toArray [b].toArray))) fun e=>rv [e] d R
theorem Gw (hw:Io h t0 R):DC zz 20 [t0] h R:=zL mixed (q:=qs) (n:=200) (Eq.mpr (by kernel_rfl) hw)
def J0:=fun b c (R:VK) d (e:za)=>
 GD b true (fun f=>opt (nb [c,d] (ze zz .lss 3 (.tmp 8) (.tmp 9) c d)) fun a=>f a e) (fun a g=>opt (pk b a (.bool false)) fun h=>rv [h] g R) e
def A9:=fun (h:za) a d (R:VK)=>
 opt (nb [a,.int .i64 0] (ze zz .geq 3 (.tmp 5) (ci 0) a (.int .i64 0))) fun b=>GD b true (fun e=>e a h) (fun f c=>GD b true (fun g=>g d c) (J0 b f R) c) h
theorem Ba (hw:A9 h t0 t1 R):DC zz 31 [t0,t1] h R:=zL mixed (q:=qs) (n:=200) (Eq.mpr (by kernel_rfl) hw)
def KG:=fun c (R:VK) d e f (g:LK) h (a:za)=>
 opt (pk c (.bool true) h) fun i=>CD i (fun b=>rv [.bool false] a R)
 (fun b=>b [nth d 0] a)
 (fun j k=>opt (zw zz 128 e f) fun l=>opt (nb [.bool true] (zh zz 4 l (.bool true) k)) fun m=>g [nth j 0] m)
def KH:=fun a e (R:VK) f g h (i:LK) j (d:za)=>
 GD a false (fun k=>opt (zw zz 128 e j) fun b=>k b d) (fun b c=>GD a false (fun l=>opt (zd zz 4 b c) fun m=>l m c) (KG a R f g h i) c) d
def KI:=fun b c (R:VK) f (g:LK) h (d:za)=>
 opt (Wz zz .not h) fun a=>GD a false (fun i=>i b d) (fun j e=>GD a false (fun k=>k c e) (KH a j R f b c g) e) d
def oE:=fun d b (a:za) e f (R:VK) (g:LK)=>
 opt (zw zz 22 d (nth b 1)) fun h=>opt (zd zz 3 h a) fun c=>opt (zb zz 45 e 2) fun i=>opt (zd zz 3 i a) fun j=>zH zz (fn 31) [c,j] a (KI f c R b g)
def oF:=fun a (b:LK) c (d:za)=>
 opt (nb [nth a 1,.int .i64 1] (ze zz .add 3 (.tmp 45) (ci 1) (nth a 1) (.int .i64 1))) fun e=>b [nth c 0,e] d
def dJ:=fun b (e:LK) f g h (R:VK) a (c:za) (i:LK)=>
 opt (nb [nth a 1,b] (ze zz .lss 3 (.tmp 45) (.tmp 44) (nth a 1) b)) fun j=>CD j (fun d=>d [] c)
 (fun d=>e [nth a 0] c)
 (fun l k=>BK (oE f a k g h R)
 (oF a i))
def dK:=fun a (R:VK) (i:List Value) (b:za)=>
 opt (zb zz 45 a 5) fun c=>opt (zd zz 43 c b) fun d=>opt (nb ([] ++ [a]) (some (Value.func (.func 66) [].toArray [a].toArray))) fun e=>zH zz (fn 65) [d,e] b (fun f g=>opt (Wz zz .not f) fun h=>rv [h] g R)
def dL:=fun a (R:VK) f (c:za)=>
 opt (zb zz 45 a 2) fun g=>opt (zd zz 3 g c) fun d=>zV (ZY zz 128 d d c) fun h e=>opt (zb zz 45 a 1) fun i=>opt (zd zz 22 i e) fun b=>zV (nb [b] (zg zz .len [22] 3 [b] e)) fun j k=>BK (fun l=>LP (dJ j l b a h R)
 [nth f 0,.int .i64 0] k)
 (dK a R)
def Zl:=fun b (R:VK) g c (d:za)=>
 GD b false (fun h=>opt (nb [c,.int .i64 65536] (ze zz .gtr 3 (.tmp 36) (.const (.int .i64 65536)) c (.int .i64 65536))) fun a=>h a d) (fun a e=>opt (pk b (.bool true) a) fun i=>CD i (fun f=>rv [.bool false] e R)
 (fun f=>f [.bool false] e)
 (dL g R)) d
def kQ:=fun f d (R:VK) g (e:za)=>
 opt (pk f (.bool true) g) fun a=>GD a false (fun h=>opt (zb zz 45 d 3) fun b=>h b e) (fun b c=>GD a false (fun i=>opt (zd zz 3 b c) fun j=>i j c) (Zl a R d) c) e
def kR:=fun a d (R:VK) b (c:za)=>
 GD a false (fun e=>opt (nb [b,.int .i64 0] (ze zz .lss 3 (.tmp 31) (ci 0) b (.int .i64 0))) fun f=>e f c) (kQ a d R) c
def kS:=fun f d (R:VK) g (e:za)=>
 opt (pk f (.bool true) g) fun a=>GD a false (fun h=>opt (zb zz 45 d 3) fun b=>h b e) (fun b c=>GD a false (fun i=>opt (zd zz 3 b c) fun j=>i j c) (kR a d R) c) e
def XO:=fun a e f (R:VK) g (c:za)=>
 GD a false (fun h=>zH zz (fn 31) [e,g] c (fun b i=>h b i)) (fun b d=>GD a false (fun j=>opt (Wz zz .not b) fun k=>j k d) (kS a f R) d) c
def XP:=fun b e f (R:VK) g (c:za)=>
 GD b false (fun h=>opt (zd zz 43 g c) fun a=>h a c) (fun a d=>GD b false (fun i=>zV (nb [a] (zg zz .len [43] 3 [a] d)) fun j k=>i j k) (XO b e f R) d) c
def XQ:=fun a d (R:VK) f (b:za)=>
 GD a false (fun g=>opt (zd zz 3 f b) fun c=>g c b) (fun c e=>GD a false (fun h=>opt (zb zz 45 d 5) fun i=>h i e) (XP a c d R) e) b
def XR:=fun b c (R:VK) d (e:za)=>
 GD b false (fun h=>opt (nb [d,.int .i64 5000] (ze zz .gtr 3 (.tmp 17) (.const (.int .i64 5000)) d (.int .i64 5000))) fun a=>h a e) (fun a f=>opt (pk b (.bool true) a) fun g=>GD g false (fun i=>opt (zb zz 45 c 4) fun j=>i j f) (XQ g c R) f) e
def XS:=fun f d (R:VK) g (e:za)=>
 opt (pk f (.bool true) g) fun a=>GD a false (fun h=>opt (zb zz 45 d 2) fun b=>h b e) (fun b c=>GD a false (fun i=>opt (zd zz 3 b c) fun j=>i j c) (XR a d R) c) e
def XT:=fun a d (R:VK) b (c:za)=>
 GD a false (fun e=>opt (nb [b,.int .i64 0] (ze zz .lss 3 (.tmp 12) (ci 0) b (.int .i64 0))) fun f=>e f c) (XS a d R) c
def EC:=fun (h:za) e (R:VK)=>
 opt (nb [e] (some (Value.cells e).toList)) fun k=>nw h k 45 fun a f=>opt (zb zz 45 a 5) fun l=>opt (zd zz 43 l f) fun g=>zV (nb [g] (zg zz .len [43] 3 [g] f)) fun i j=>opt (nb [i,.int .i64 5000] (ze zz .gtr 3 (.tmp 8) (.const (.int .i64 5000)) i (.int .i64 5000))) fun b=>GD b false (fun m=>opt (zb zz 45 a 2) fun c=>m c j) (fun c d=>GD b false (fun n=>opt (zd zz 3 c d) fun o=>n o d) (XT b a R) d) j
theorem CW (hw:EC h t0 R):DC zz 32 [t0] h R:=zL mixed (q:=qs) (n:=200) (Eq.mpr (by kernel_rfl) hw)
def JO:=fun b (a:za) c g (R:VK) (h:LK)=>
 opt (zb zz 45 b 1) fun i=>opt (zd zz 22 i a) fun j=>opt (zw zz 22 j (nth c 1)) fun k=>opt (zd zz 3 k a) fun d=>opt (zb zz 45 b 1) fun l=>opt (zd zz 22 l a) fun m=>opt (zw zz 22 m (nth g 1)) fun n=>opt (zd zz 3 n a) fun e=>opt (nb [d,e] (ze zz .eql 3 (.tmp 75) (.tmp 80) d e)) fun o=>CD o (fun f=>rv [.bool false] a R)
 (fun f=>f [nth c 0] a)
 (fun p q=>h [nth p 0] q)
def i9:=fun a (b:LK) c (d:za)=>
 opt (nb [nth a 1,.int .i64 1] (ze zz .add 3 (.tmp 69) (ci 1) (nth a 1) (.int .i64 1))) fun e=>b [nth c 0,e] d
def UH:=fun b (e:LK) f (R:VK) a (c:za) (g:LK)=>
 opt (nb [nth a 1,nth b 1] (ze zz .lss 3 (.tmp 66) (.tmp 67) (nth a 1) (nth b 1))) fun h=>CD h (fun d=>d [] c)
 (fun d=>e [nth a 0] c)
 (fun j i=>BK (JO f i a b R)
 (i9 a g))
def UI:=fun d (R:VK) a e (f:LK) g (b:za)=>
 opt (pk d (.bool true) g) fun h=>CD h (fun c=>rv [.bool false] b R)
 (fun c=>c [nth a 0] b)
 (fun i j=>BK (fun k=>LP (UH a k e R)
 [nth i 0,.int .i64 0] j)
 (fun l m=>f [nth l 0] m))
def UJ:=fun b d (R:VK) f g (h:LK) i (c:za)=>
 GD b false (fun j=>opt (zd zz 3 i c) fun a=>j a c) (fun a e=>GD b false (fun k=>opt (nb [d,a] (ze zz .geq 3 (.tmp 61) (.tmp 63) d a)) fun l=>k l e) (UI b R f g h) e) c
def UK:=fun a d (R:VK) f (g:LK) h (b:za)=>
 GD a false (fun i=>opt (zd zz 3 h b) fun c=>i c b) (fun c e=>GD a false (fun j=>opt (zb zz 45 d 2) fun k=>j k e) (UJ a c R f d g) e) b
def UL:=fun a b e (R:VK) (f:LK) g (c:za)=>
 GD a false (fun h=>h (nth b 1) c) (fun i d=>GD a false (fun j=>opt (zw zz 22 g i) fun k=>j k d) (UK a e R b f) d) c
def UM:=fun b (a:za) f (R:VK) (h:LK)=>
 opt (zb zz 45 b 1) fun i=>opt (zd zz 22 i a) fun j=>opt (zw zz 22 j (nth f 1)) fun k=>opt (zd zz 3 k a) fun g=>opt (nb [g,.int .i64 0] (ze zz .lss 3 (.tmp 54) (ci 0) g (.int .i64 0))) fun c=>GD c false (fun l=>opt (zb zz 45 b 1) fun d=>l d a) (fun d e=>GD c false (fun m=>opt (zd zz 22 d e) fun n=>m n e) (UL c f b R h) e) a
def la:=fun a (b:LK) c (d:za)=>
 opt (nb [nth a 1,.int .i64 1] (ze zz .add 3 (.tmp 48) (ci 1) (nth a 1) (.int .i64 1))) fun e=>b [nth c 0,e] d
def Y0:=fun b (h:LK) (R:VK) a (c:za) (i:LK)=>
 opt (zb zz 45 b 1) fun j=>opt (zd zz 22 j c) fun d=>zV (nb [d] (zg zz .len [22] 3 [d] c)) fun e f=>opt (nb [nth a 1,e] (ze zz .lss 3 (.tmp 43) (.tmp 46) (nth a 1) e)) fun k=>CD k (fun g=>g [] f)
 (fun g=>h [nth a 0] f)
 (fun m l=>BK (UM b l a R)
 (la a i))
def QU:=fun (R:VK) c (d:LK) e (a:za)=>
 opt (Wz zz .not e) fun f=>CD f (fun b=>rv [.bool false] a R)
 (fun b=>b [nth c 0] a)
 (fun g h=>d [nth g 0] h)
def fP:=fun b (a:za) c (R:VK) (d:LK)=>
 opt (zd zz 45 b a) fun e=>opt (zb zz 45 b 5) fun f=>opt (zd zz 43 f a) fun g=>opt (zw zz 43 g (nth c 1)) fun h=>opt (zd zz 53 h a) fun i=>Y8 zz 73 [e,i] a (QU R c d)
def fQ:=fun a (b:LK) c (d:za)=>
 opt (nb [nth a 1,.int .i64 1] (ze zz .add 3 (.tmp 87) (ci 1) (nth a 1) (.int .i64 1))) fun e=>b [nth c 0,e] d
def WS:=fun b (h:LK) (R:VK) a (c:za) (i:LK)=>
 opt (zb zz 45 b 5) fun j=>opt (zd zz 43 j c) fun d=>zV (nb [d] (zg zz .len [43] 3 [d] c)) fun e f=>opt (nb [nth a 1,e] (ze zz .lss 3 (.tmp 82) (.tmp 85) (nth a 1) e)) fun k=>CD k (fun g=>g [] f)
 (fun g=>h [nth a 0] f)
 (fun m l=>BK (fP b l a R)
 (fQ a i))
def WT:=fun a (R:VK) b (c:za)=>
 BK (fun d=>LP (Y0 a d R)
 [nth b 0,.int .i64 0] c)
 (fun e f=>BK (fun g=>LP (WS a g R)
 [nth e 0,.int .i64 0] f)
 (fun i h=>rv [.bool true] h R))
def u5:=fun b (R:VK) g c (d:za)=>
 GD b false (fun h=>opt (nb [c,.int .i64 65536] (ze zz .gtr 3 (.tmp 40) (.const (.int .i64 65536)) c (.int .i64 65536))) fun a=>h a d) (fun a e=>opt (pk b (.bool true) a) fun i=>CD i (fun f=>rv [.bool false] e R)
 (fun f=>f [.bool false] e)
 (WT g R)) d
def u6:=fun f d (R:VK) g (e:za)=>
 opt (pk f (.bool true) g) fun a=>GD a false (fun h=>opt (zb zz 45 d 3) fun b=>h b e) (fun b c=>GD a false (fun i=>opt (zd zz 3 b c) fun j=>i j c) (u5 a R d) c) e
def u7:=fun a d (R:VK) b (c:za)=>
 GD a false (fun e=>opt (nb [b,.int .i64 0] (ze zz .lss 3 (.tmp 35) (ci 0) b (.int .i64 0))) fun f=>e f c) (u6 a d R) c
def u9:=fun f d (R:VK) g (e:za)=>
 opt (pk f (.bool true) g) fun a=>GD a false (fun h=>opt (zb zz 45 d 3) fun b=>h b e) (fun b c=>GD a false (fun i=>opt (zd zz 3 b c) fun j=>i j c) (u7 a d R) c) e
def qa:=fun b c g (R:VK) d (e:za)=>
 GD b false (fun h=>zV (nb [d] (zg zz .len [43] 3 [d] e)) fun a i=>h a i) (fun a f=>GD b false (fun j=>opt (nb [c,a] (ze zz .geq 3 (.tmp 27) (.tmp 30) c a)) fun k=>j k f) (u9 b g R) f) e
def qb:=fun a d (R:VK) f (e:za)=>
 GD a false (fun g=>opt (zb zz 45 d 5) fun b=>g b e) (fun b c=>GD a false (fun h=>opt (zd zz 43 b c) fun i=>h i c) (qa a f d R) c) e
def qc:=fun f d (R:VK) g (e:za)=>
 opt (pk f (.bool true) g) fun a=>GD a false (fun h=>opt (zb zz 45 d 4) fun b=>h b e) (fun b c=>GD a false (fun i=>opt (zd zz 3 b c) fun j=>i j c) (qb a d R) c) e
def qd:=fun a d (R:VK) b (c:za)=>
 GD a false (fun e=>opt (nb [b,.int .i64 0] (ze zz .lss 3 (.tmp 22) (ci 0) b (.int .i64 0))) fun f=>e f c) (qc a d R) c
def qe:=fun f d (R:VK) g (e:za)=>
 opt (pk f (.bool true) g) fun a=>GD a false (fun h=>opt (zb zz 45 d 4) fun b=>h b e) (fun b c=>GD a false (fun i=>opt (zd zz 3 b c) fun j=>i j c) (qd a d R) c) e
def qh:=fun a d (R:VK) b (c:za)=>
 GD a false (fun e=>opt (nb [b,.int .i64 5000] (ze zz .gtr 3 (.tmp 17) (.const (.int .i64 5000)) b (.int .i64 5000))) fun f=>e f c) (qe a d R) c
def qi:=fun b e (R:VK) f (c:za)=>
 GD b false (fun g=>opt (zd zz 43 f c) fun a=>g a c) (fun a d=>GD b false (fun h=>zV (nb [a] (zg zz .len [43] 3 [a] d)) fun i j=>h i j) (qh b e R) d) c
def qj:=fun b c (R:VK) d (e:za)=>
 GD b false (fun h=>opt (nb [d,.int .i64 5000] (ze zz .gtr 3 (.tmp 11) (.const (.int .i64 5000)) d (.int .i64 5000))) fun a=>h a e) (fun a f=>opt (pk b (.bool true) a) fun g=>GD g false (fun i=>opt (zb zz 45 c 5) fun j=>i j f) (qi g c R) f) e
def AO:=fun (h:za) f (R:VK)=>
 opt (nb [f] (some (Value.cells f).toList)) fun i=>nw h i 45 fun a b=>opt (zb zz 45 a 2) fun j=>opt (zd zz 3 j b) fun g=>opt (nb [g,.int .i64 0] (ze zz .lss 3 (.tmp 7) (ci 0) g (.int .i64 0))) fun c=>GD c false (fun k=>opt (zb zz 45 a 2) fun d=>k d b) (fun d e=>GD c false (fun l=>opt (zd zz 3 d e) fun m=>l m e) (qj c a R) e) b
theorem AP (hw:AO h t0 R):DC zz 39 [t0] h R:=zL mixed (q:=qs) (n:=200) (Eq.mpr (by kernel_rfl) hw)
def bE:=fun f (a:za) b g (R:VK) (h:LK)=>
 opt (zb zz 45 f 1) fun i=>opt (zd zz 22 i a) fun j=>opt (zw zz 22 j (nth b 1)) fun k=>opt (zd zz 3 k a) fun c=>opt (zb zz 45 g 1) fun l=>opt (zd zz 22 l a) fun m=>opt (zw zz 22 m (nth b 1)) fun n=>opt (zd zz 3 n a) fun d=>opt (nb [c,d] (ze zz .neq 3 (.tmp 62) (.tmp 67) c d)) fun o=>CD o (fun e=>rv [.bool false] a R)
 (fun e=>e [nth b 0] a)
 (fun p q=>h [nth p 0] q)
def bF:=fun a (b:LK) c (d:za)=>
 opt (nb [nth a 1,.int .i64 1] (ze zz .add 3 (.tmp 56) (ci 1) (nth a 1) (.int .i64 1))) fun e=>b [nth c 0,e] d
def bH:=fun b (h:LK) i (R:VK) a (c:za) (j:LK)=>
 opt (zb zz 45 b 1) fun k=>opt (zd zz 22 k c) fun d=>zV (nb [d] (zg zz .len [22] 3 [d] c)) fun e f=>opt (nb [nth a 1,e] (ze zz .lss 3 (.tmp 51) (.tmp 54) (nth a 1) e)) fun l=>CD l (fun g=>g [] f)
 (fun g=>h [nth a 0] f)
 (fun n m=>BK (bE b m a i R)
 (bF a j))
def VT:=fun (R:VK) c (d:LK) e (a:za)=>
 opt (Wz zz .not e) fun f=>CD f (fun b=>rv [.bool false] a R)
 (fun b=>b [nth c 0] a)
 (fun g h=>d [nth g 0] h)
def QD:=fun c (a:za) b d (R:VK) (e:LK)=>
 opt (zb zz 45 c 5) fun f=>opt (zd zz 43 f a) fun g=>opt (zw zz 43 g (nth b 1)) fun h=>opt (zd zz 53 h a) fun i=>opt (zb zz 45 d 5) fun j=>opt (zd zz 43 j a) fun k=>opt (zw zz 43 k (nth b 1)) fun l=>opt (zd zz 53 l a) fun m=>Y8 zz 64 [i,m] a (VT R b e)
def AD:=fun a (b:LK) c (d:za)=>
 opt (nb [nth a 1,.int .i64 1] (ze zz .add 3 (.tmp 74) (ci 1) (nth a 1) (.int .i64 1))) fun e=>b [nth c 0,e] d
def bI:=fun b (h:LK) i (R:VK) a (c:za) (j:LK)=>
 opt (zb zz 45 b 5) fun k=>opt (zd zz 43 k c) fun d=>zV (nb [d] (zg zz .len [43] 3 [d] c)) fun e f=>opt (nb [nth a 1,e] (ze zz .lss 3 (.tmp 69) (.tmp 72) (nth a 1) e)) fun l=>CD l (fun g=>g [] f)
 (fun g=>h [nth a 0] f)
 (fun n m=>BK (QD b m a i R)
 (AD a j))
def Ig:=fun a b (R:VK) c (d:za)=>
 BK (fun e=>LP (bH a e b R)
 [nth c 0,.int .i64 0] d)
 (fun f g=>BK (fun h=>LP (bI a h b R)
 [nth f 0,.int .i64 0] g)
 (fun j i=>rv [.bool true] i R))
def Ih:=fun b c (R:VK) h i d (e:za)=>
 GD b false (fun j=>opt (nb [c,d] (ze zz .neq 3 (.tmp 45) (.tmp 48) c d)) fun a=>j a e) (fun a f=>opt (pk b (.bool true) a) fun k=>CD k (fun g=>rv [.bool false] f R)
 (fun g=>g [.bool false] f)
 (Ig h i R)) e
def Gi:=fun b e (R:VK) f g h (c:za)=>
 GD b false (fun i=>opt (zd zz 43 h c) fun a=>i a c) (fun a d=>GD b false (fun j=>zV (nb [a] (zg zz .len [43] 3 [a] d)) fun k l=>j k l) (Ih b e R f g) d) c
def Gj:=fun a c (R:VK) g d (e:za)=>
 GD a false (fun h=>zV (nb [d] (zg zz .len [43] 3 [d] e)) fun b i=>h b i) (fun b f=>GD a false (fun j=>opt (zb zz 45 c 5) fun k=>j k f) (Gi a b R g c) f) e
def Gk:=fun f d g (R:VK) h (e:za)=>
 opt (pk f (.bool true) h) fun a=>GD a false (fun i=>opt (zb zz 45 d 5) fun b=>i b e) (fun b c=>GD a false (fun j=>opt (zd zz 43 b c) fun k=>j k c) (Gj a g R d) c) e
def Gl:=fun b c g h (R:VK) d (e:za)=>
 GD b false (fun i=>zV (nb [d] (zg zz .len [22] 3 [d] e)) fun a j=>i a j) (fun a f=>GD b false (fun k=>opt (nb [c,a] (ze zz .neq 3 (.tmp 36) (.tmp 39) c a)) fun l=>k l f) (Gk b g h R) f) e
def Gm:=fun a d f (R:VK) g (e:za)=>
 GD a false (fun h=>opt (zb zz 45 d 1) fun b=>h b e) (fun b c=>GD a false (fun i=>opt (zd zz 22 b c) fun j=>i j c) (Gl a g f d R) c) e
def Gn:=fun b e f (R:VK) g (c:za)=>
 GD b false (fun h=>opt (zd zz 22 g c) fun a=>h a c) (fun a d=>GD b false (fun i=>zV (nb [a] (zg zz .len [22] 3 [a] d)) fun j k=>i j k) (Gm b e f R) d) c
def Gp:=fun b c d i (R:VK) e (f:za)=>
 GD b false (fun j=>opt (nb [c,e] (ze zz .neq 3 (.tmp 28) (.tmp 30) c e)) fun a=>j a f) (fun a g=>opt (pk b (.bool true) a) fun h=>GD h false (fun k=>opt (zb zz 45 d 1) fun l=>k l g) (Gn h i d R) g) f
def Gq:=fun a d f (R:VK) g (e:za)=>
 GD a false (fun h=>opt (zb zz 45 d 4) fun b=>h b e) (fun b c=>GD a false (fun i=>opt (zd zz 3 b c) fun j=>i j c) (Gp a g f d R) c) e
def Gr:=fun f d g (R:VK) h (e:za)=>
 opt (pk f (.bool true) h) fun a=>GD a false (fun i=>opt (zb zz 45 d 4) fun b=>i b e) (fun b c=>GD a false (fun j=>opt (zd zz 3 b c) fun k=>j k c) (Gq a g d R) c) e
def Gs:=fun b d f g (R:VK) h (c:za)=>
 GD b false (fun i=>opt (zd zz 3 h c) fun a=>i a c) (fun a e=>GD b false (fun j=>opt (nb [d,a] (ze zz .neq 3 (.tmp 21) (.tmp 23) d a)) fun k=>j k e) (Gr b f g R) e) c
def Gt:=fun a d f (R:VK) g (b:za)=>
 GD a false (fun h=>opt (zd zz 3 g b) fun c=>h c b) (fun c e=>GD a false (fun i=>opt (zb zz 45 d 3) fun j=>i j e) (Gs a c f d R) e) b
def Gu:=fun b c d i (R:VK) e (f:za)=>
 GD b false (fun j=>opt (nb [c,e] (ze zz .neq 3 (.tmp 14) (.tmp 16) c e)) fun a=>j a f) (fun a g=>opt (pk b (.bool true) a) fun h=>GD h false (fun k=>opt (zb zz 45 d 3) fun l=>k l g) (Gt h i d R) g) f
def Gv:=fun a d f (R:VK) g (e:za)=>
 GD a false (fun h=>opt (zb zz 45 d 2) fun b=>h b e) (fun b c=>GD a false (fun i=>opt (zd zz 3 b c) fun j=>i j c) (Gu a g f d R) c) e
def sC:=fun (h:za) f g (R:VK)=>
 opt (nb [f] (some (Value.cells f).toList)) fun l=>nw h l 45 fun b m=>opt (nb [g] (some (Value.cells g).toList)) fun n=>nw m n 45 fun i a=>opt (zb zz 45 b 0) fun o=>opt (zd zz 9 o a) fun j=>opt (zb zz 45 i 0) fun p=>opt (zd zz 9 p a) fun k=>opt (nb [j,k] (ze zz .neq 9 (.tmp 8) (.tmp 10) j k)) fun c=>GD c false (fun q=>opt (zb zz 45 b 2) fun d=>q d a) (fun d e=>GD c false (fun r=>opt (zd zz 3 d e) fun s=>r s e) (Gv c i b R) e) a
theorem oH (hw:sC h t0 t1 R):DC zz 30 [t0,t1] h R:=zL mixed (q:=qs) (n:=200) (Eq.mpr (by kernel_rfl) hw)
def Ut:=fun c e (R:VK) (l:List Value) (a:za)=>
 opt (zb zz 53 c 0) fun f=>opt (zd zz 3 f a) fun d=>opt (nb [d,.int .i64 11] (ze zz .eql 3 (.tmp 14) (.const (.int .i64 11)) d (.int .i64 11))) fun g=>CD g (fun b=>opt (zb zz 53 c 8) fun h=>opt (zd zz 3 h a) fun i=>zH zz e [i] a (fun m j=>b [] j))
 (fun b=>b [] a)
 (fun n k=>rv [] k R)
def X1:=fun b (R:VK) f g h (c:za)=>
 GD b true (fun i=>opt (Wz zz .not h) fun a=>i a c) (fun a d=>opt (pk b a (.bool false)) fun j=>CD j (fun e=>rv [] d R)
 (fun e=>e [] d)
 (Ut f g R)) c
def JI:=fun a e (R:VK) f g h (b:za)=>
 GD a true (fun i=>opt (zd zz 3 h b) fun c=>i c b) (fun c d=>GD a true (fun j=>zH zz e [c] d (fun k l=>j k l)) (X1 a R f g) d) b
def AE:=fun (h:za) c a (R:VK)=>
 opt (zb zz 53 a 0) fun f=>opt (zd zz 3 f h) fun d=>opt (nb [d,.int .i64 12] (ze zz .neq 3 (.tmp 4) (.const (.int .i64 12)) d (.int .i64 12))) fun b=>GD b true (fun g=>g c h) (fun i e=>GD b true (fun j=>opt (zb zz 53 a 7) fun k=>j k e) (JI b i R a c) e) h
theorem AG (hw:AE h t0 t1 R):DC zz 42 [t0,t1] h R:=zL mixed (q:=qs) (n:=200) (Eq.mpr (by kernel_rfl) hw)
def KJ:=fun a (h:za) (d:LK)=>
 opt (nb [a,.int .i64 11] (ze zz .eql 3 (.tmp 6) (.const (.int .i64 11)) a (.int .i64 11))) fun c=>CD c (fun b=>b [c] h)
 (fun b=>opt (nb [a,.int .i64 7] (ze zz .eql 3 (.tmp 6) (.const (.int .i64 7)) a (.int .i64 7))) fun e=>b [e] h)
 (fun f g=>d [nth f 0] g)
def VU:=fun a (h:za) (c:LK)=>
 opt (nb [a,.int .i64 5] (ze zz .eql 3 (.tmp 6) (.const (.int .i64 5)) a (.int .i64 5))) fun b=>CD b (fun d=>d [b] h)
 (KJ a h)
 (fun e f=>c [nth e 0] f)
def XD:=fun a (h:za) (c:LK)=>
 opt (nb [a,.int .i64 14] (ze zz .eql 3 (.tmp 6) (.const (.int .i64 14)) a (.int .i64 14))) fun b=>CD b (fun d=>d [b] h)
 (VU a h)
 (fun e f=>c [nth e 0] f)
def Z2:=fun a (h:za) (c:LK)=>
 opt (nb [a,.int .i64 12] (ze zz .eql 3 (.tmp 6) (.const (.int .i64 12)) a (.int .i64 12))) fun b=>CD b (fun d=>d [b] h)
 (XD a h)
 (fun e f=>c [nth e 0] f)
def Zm:=fun a (h:za) (c:LK)=>
 opt (nb [a,.int .i64 6] (ze zz .eql 3 (.tmp 6) (.const (.int .i64 6)) a (.int .i64 6))) fun b=>CD b (fun d=>d [b] h)
 (Z2 a h)
 (fun e f=>c [nth e 0] f)
def jB:=fun a (h:za) (c:LK)=>
 opt (nb [a,.int .i64 4] (ze zz .eql 3 (.tmp 6) (.const (.int .i64 4)) a (.int .i64 4))) fun b=>CD b (fun d=>d [b] h)
 (Zm a h)
 (fun e f=>c [nth e 0] f)
def KK:=fun b (R:VK) (f:LK) g (c:za)=>
 GD b true (fun h=>opt (Wz zz .not g) fun a=>h a c) (fun a d=>opt (pk b a (.bool false)) fun i=>CD i (fun e=>rv [] d R)
 (fun e=>e [] d)
 (fun k j=>f [] j)) c
def dN:=fun a e (R:VK) (f:LK) g (b:za)=>
 GD a true (fun h=>opt (zd zz 3 g b) fun c=>h c b) (fun c d=>GD a true (fun i=>zH zz e [c] d (fun j k=>i j k)) (KK a R f) d) b
def KL:=fun c (a:za) f (R:VK) (g:LK)=>
 opt (zb zz 53 c 2) fun h=>opt (zd zz 3 h a) fun d=>opt (nb [d,.int .i64 (-1)] (ze zz .neq 3 (.tmp 17) (.const (.int .i64 (-1))) d (.int .i64 (-1)))) fun b=>GD b true (fun i=>i f a) (fun j e=>GD b true (fun k=>opt (zb zz 53 c 2) fun l=>k l e) (dN b j R g) e) a
def qt:=fun a (h:za) d e (R:VK) (f:LK)=>
 opt (nb [a,.int .i64 3] (ze zz .eql 3 (.tmp 6) (.const (.int .i64 3)) a (.int .i64 3))) fun b=>CD b (fun g=>g [b] h)
 (jB a h)
 (fun i c=>CD (nth i 0) (KL d c e R)
 (fun j=>j [] c)
 (fun l k=>f [] k))
def Uu:=fun a (c:za) (e:LK)=>
 opt (nb [a,.int .i64 11] (ze zz .eql 3 (.tmp 27) (.const (.int .i64 11)) a (.int .i64 11))) fun d=>CD d (fun b=>b [d] c)
 (fun b=>opt (nb [a,.int .i64 7] (ze zz .eql 3 (.tmp 27) (.const (.int .i64 7)) a (.int .i64 7))) fun f=>b [f] c)
 (fun g h=>e [nth g 0] h)
def Uv:=fun b (R:VK) (f:LK) g (c:za)=>
 GD b true (fun h=>opt (Wz zz .not g) fun a=>h a c) (fun a d=>opt (pk b a (.bool false)) fun i=>CD i (fun e=>rv [] d R)
 (fun e=>e [] d)
 (fun k j=>f [] j)) c
def JJ:=fun a e (R:VK) (f:LK) g (b:za)=>
 GD a true (fun h=>opt (zd zz 3 g b) fun c=>h c b) (fun c d=>GD a true (fun i=>zH zz e [c] d (fun j k=>i j k)) (Uv a R f) d) b
def Uw:=fun c (a:za) f (R:VK) (g:LK)=>
 opt (zb zz 53 c 3) fun h=>opt (zd zz 3 h a) fun d=>opt (nb [d,.int .i64 (-1)] (ze zz .neq 3 (.tmp 33) (.const (.int .i64 (-1))) d (.int .i64 (-1)))) fun b=>GD b true (fun i=>i f a) (fun j e=>GD b true (fun k=>opt (zb zz 53 c 3) fun l=>k l e) (JJ b j R g) e) a
def j5:=fun a (b:za) e f (R:VK) (g:LK)=>
 opt (nb [a,.int .i64 5] (ze zz .eql 3 (.tmp 27) (.const (.int .i64 5)) a (.int .i64 5))) fun c=>CD c (fun h=>h [c] b)
 (Uu a b)
 (fun i d=>CD (nth i 0) (Uw e d f R)
 (fun j=>j [] d)
 (fun l k=>g [] k))
def iY:=fun d e (a:za) f (R:VK) (g:LK)=>
 opt (zw zz 22 d (nth e 0)) fun h=>opt (zd zz 3 h a) fun i=>zH zz f [i] a (fun j b=>opt (Wz zz .not j) fun k=>CD k (fun c=>rv [] b R)
 (fun c=>c [] b)
 (fun m l=>g [] l))
def iZ:=fun b a c (R:VK) (d:LK) (h:List Value) (e:za)=>
 BK (iY b a e c R)
 (fun i f=>opt (nb [nth a 0,.int .i64 1] (ze zz .add 3 (.tmp 48) (ci 1) (nth a 0) (.int .i64 1))) fun g=>d [g] f)
def JK:=fun b (e:LK) f g (R:VK) a (c:za) (h:LK)=>
 opt (nb [nth a 0,b] (ze zz .lss 3 (.tmp 48) (.tmp 47) (nth a 0) b)) fun i=>CD i (fun d=>d [] c)
 (fun d=>e [] c)
 (iZ f a g R h)
def i0:=fun c d (R:VK) (j:List Value) (b:za)=>
 opt (zb zz 53 c 6) fun e=>opt (zd zz 22 e b) fun a=>zV (nb [a] (zg zz .len [22] 3 [a] b)) fun f g=>BK (fun h=>LP (JK f h a d R)
 [.int .i64 0] g)
 (fun k i=>rv [] i R)
def j6:=fun b (R:VK) e (h:List Value) (a:za)=>
 opt (zb zz 53 b 0) fun f=>opt (zd zz 3 f a) fun c=>opt (nb [c,.int .i64 10] (ze zz .neq 3 (.tmp 43) (.const (.int .i64 10)) c (.int .i64 10))) fun g=>CD g (fun d=>rv [] a R)
 (fun d=>d [] a)
 (i0 b e R)
def EH:=fun (h:za) b a (R:VK)=>
 opt (zb zz 53 a 0) fun d=>opt (zd zz 3 d h) fun e=>BK (qt e h a b R)
 (fun i c=>opt (zb zz 53 a 0) fun f=>opt (zd zz 3 f c) fun g=>BK (j5 g c a b R)
 (j6 a R b))
theorem CZ (hw:EH h t0 t1 R):DC zz 43 [t0,t1] h R:=zL mixed (q:=qs) (n:=200) (Eq.mpr (by kernel_rfl) hw)
def Qz:=fun (h:za) b c (R:VK)=>
 zH zz (fn 101) [b,c] h (fun a d=>opt (nb [a,.int .i64 0] (ze zz .geq 3 (.tmp 7) (ci 0) a (.int .i64 0))) fun e=>rv [e] d R)
theorem aY (hw:Qz h t0 t1 R):DC zz 65 [t0,t1] h R:=zL mixed (q:=qs) (n:=200) (Eq.mpr (by kernel_rfl) hw)
def AA:=fun (h:za) b c (R:VK)=>
 opt (nb [b] (some (Value.cells b).toList)) fun d=>nw h d 53 fun e a=>opt (zd zz 45 c a) fun f=>opt (zd zz 53 e a) fun g=>zH zz (fn 67) [f,g] a (fun i j=>opt (Wz zz .not i) fun k=>rv [k] j R)
theorem AB (hw:AA h t0 t1 R):DC zz 66 [t0,t1] h R:=zL mixed (q:=qs) (n:=200) (Eq.mpr (by kernel_rfl) hw)
def JW:=fun c (L:Nat) (K:VK) (d:LK) e (a:za)=>
 opt (Wz zz .not e) fun f=>CD f (fun b=>opt (nb [.bool false] (zh zz 4 c (.bool false) a)) fun g=>Fin L K .ret g)
 (fun b=>b [] a)
 (fun i h=>d [] h)
def lD:=fun c (a:za) d e (L:Nat) (K:VK) (f:LK)=>
 opt (zb zz 45 c 5) fun g=>opt (zd zz 43 g a) fun b=>zV (nb [b] (zg zz .len [43] 3 [b] a)) fun h i=>zH zz (fn 31) [d,h] i (JW e L K f)
def fU:=fun a b c (f g i j k l m n o p q r s:Value) (L:Nat) (h:za) (K:VK)=>
 RA L h (fun d=>BK (lD a d b c L K)
 (fun t e=>Fin L K .normal e))
def lE:=fun a f g h i b j k c l m n o p (q:za) (R:VK) (d:LK)=>
 RF zz a (vq zz 67 0).1 (vq zz 67 0).2.1 (vq zz 67 0).2.2 (U6 125 [(0,f),(1,g),(2,h),(3,i),(4,b),(9,j),(10,k),(11,c),(12,c),(13,l),(14,m),(15,n),(16,o),(17,p),(18,a)]) q (fun r=>d [] r) (fun e=>opt (zd zz 4 b e) fun s=>rv [s] e R) (fun t u=>cond (Nat.beq t 0) (d [] u) (False))
def JX:=fun c (L:Nat) (K:VK) (d:LK) e (a:za)=>
 opt (Wz zz .not e) fun f=>CD f (fun b=>opt (nb [.bool false] (zh zz 4 c (.bool false) a)) fun g=>Fin L K .ret g)
 (fun b=>b [] a)
 (fun i h=>d [] h)
def lF:=fun b (a:za) c d (L:Nat) (K:VK) (e:LK)=>
 opt (zb zz 45 b 2) fun f=>opt (zd zz 3 f a) fun g=>zH zz (fn 31) [c,g] a (JX d L K e)
def fV:=fun a b c (f g i j k l m n o p q r s t u:Value) (L:Nat) (h:za) (K:VK)=>
 RA L h (fun d=>BK (lF a d b c L K)
 (fun v e=>Fin L K .normal e))
def lG:=fun a f g h i b j k c l m n o p q r (s:za) (R:VK) (d:LK)=>
 RF zz a (vq zz 67 1).1 (vq zz 67 1).2.1 (vq zz 67 1).2.2 (U6 125 [(0,f),(1,g),(2,h),(3,i),(4,b),(9,j),(10,k),(11,c),(12,c),(13,l),(14,m),(15,n),(16,o),(17,p),(18,q),(26,r),(27,a)]) s (fun t=>d [] t) (fun e=>opt (zd zz 4 b e) fun u=>rv [u] e R) (fun v w=>cond (Nat.beq v 2) (d [] w) (False))
def ke:=fun a (c:za) (e:LK)=>
 opt (nb [a,.int .i64 5] (ze zz .eql 3 (.tmp 35) (.const (.int .i64 5)) a (.int .i64 5))) fun d=>CD d (fun b=>b [d] c)
 (fun b=>opt (nb [a,.int .i64 11] (ze zz .eql 3 (.tmp 35) (.const (.int .i64 11)) a (.int .i64 11))) fun f=>b [f] c)
 (fun g h=>e [nth g 0] h)
def ud:=fun a (b:za) (d:LK)=>
 opt (nb [a,.int .i64 14] (ze zz .eql 3 (.tmp 35) (.const (.int .i64 14)) a (.int .i64 14))) fun c=>CD c (fun e=>e [c] b)
 (ke a b)
 (fun f g=>d [nth f 0] g)
def vI:=fun a (b:za) (d:LK)=>
 opt (nb [a,.int .i64 6] (ze zz .eql 3 (.tmp 35) (.const (.int .i64 6)) a (.int .i64 6))) fun c=>CD c (fun e=>e [c] b)
 (ud a b)
 (fun f g=>d [nth f 0] g)
def vj:=fun a (b:za) (d:LK)=>
 opt (nb [a,.int .i64 4] (ze zz .eql 3 (.tmp 35) (.const (.int .i64 4)) a (.int .i64 4))) fun c=>CD c (fun e=>e [c] b)
 (vI a b)
 (fun f g=>d [nth f 0] g)
def WU:=fun e a (R:VK) (f:LK) g (b:za)=>
 opt (pk e (.bool true) g) fun h=>CD h (fun c=>opt (nb [.bool false] (zh zz 4 a (.bool false) b)) fun d=>opt (zd zz 4 a d) fun i=>rv [i] d R)
 (fun c=>c [] b)
 (fun k j=>f [] j)
def WV:=fun a d (R:VK) (e:LK) b (c:za)=>
 GD a false (fun f=>opt (nb [b,.int .i64 (-1)] (ze zz .eql 3 (.tmp 53) (.const (.int .i64 (-1))) b (.int .i64 (-1)))) fun g=>f g c) (WU a d R e) c
def QY:=fun f (a:za) b (R:VK) (g:LK)=>
 opt (zb zz 53 f 4) fun h=>opt (zd zz 3 h a) fun c=>opt (nb [c,.int .i64 (-1)] (ze zz .eql 3 (.tmp 59) (.const (.int .i64 (-1))) c (.int .i64 (-1)))) fun i=>CD i (fun d=>opt (nb [.bool true] (zh zz 4 b (.bool true) a)) fun e=>opt (zd zz 4 b e) fun j=>rv [j] e R)
 (fun d=>d [] a)
 (fun l k=>g [] k)
def WW:=fun e (a:za) g (R:VK) (h:LK)=>
 opt (zb zz 53 e 2) fun i=>opt (zd zz 3 i a) fun f=>opt (nb [f,.int .i64 (-1)] (ze zz .eql 3 (.tmp 49) (.const (.int .i64 (-1))) f (.int .i64 (-1)))) fun b=>GD b false (fun j=>opt (zb zz 53 e 3) fun c=>j c a) (fun c d=>GD b false (fun k=>opt (zd zz 3 c d) fun l=>k l d) (WV b g R h) d) a
def WX:=fun a c (b:za) d (R:VK) (e:LK)=>
 opt (nb [a,.int .i64 10] (ze zz .eql 3 (.tmp 35) (.const (.int .i64 10)) a (.int .i64 10))) fun f=>CD f (QY c b d R)
 (fun g=>g [] b)
 (fun i h=>e [] h)
def Y3:=fun f (a:za) b (R:VK) (g:LK)=>
 opt (zb zz 53 f 2) fun h=>opt (zd zz 3 h a) fun c=>opt (nb [c,.int .i64 (-1)] (ze zz .eql 3 (.tmp 44) (.const (.int .i64 (-1))) c (.int .i64 (-1)))) fun i=>CD i (fun d=>opt (nb [.bool false] (zh zz 4 b (.bool false) a)) fun e=>opt (zd zz 4 b e) fun j=>rv [j] e R)
 (fun d=>d [] a)
 (fun l k=>g [] k)
def jk:=fun a b (c:za) d (R:VK) (e:LK)=>
 opt (nb [a,.int .i64 7] (ze zz .eql 3 (.tmp 35) (.const (.int .i64 7)) a (.int .i64 7))) fun f=>CD f (WW b c d R)
 (WX a b c d R)
 (fun h g=>e [] g)
def wU:=fun a (b:za) c d (R:VK) (g:LK)=>
 opt (nb [a,.int .i64 3] (ze zz .eql 3 (.tmp 35) (.const (.int .i64 3)) a (.int .i64 3))) fun e=>CD e (fun h=>h [e] b)
 (vj a b)
 (fun i f=>CD (nth i 0) (Y3 c f d R)
 (jk a c f d R)
 (fun k j=>g [] j))
def WY:=fun e a (R:VK) (f:LK) g (b:za)=>
 opt (pk e (.bool true) g) fun h=>CD h (fun c=>opt (nb [.bool false] (zh zz 4 a (.bool false) b)) fun d=>opt (zd zz 4 a d) fun i=>rv [i] d R)
 (fun c=>c [] b)
 (fun k j=>f [] j)
def WZ:=fun a d (R:VK) (e:LK) b (c:za)=>
 GD a false (fun f=>opt (nb [b,.int .i64 4] (ze zz .gtr 3 (.tmp 70) (.const (.int .i64 4)) b (.int .i64 4))) fun g=>f g c) (WY a d R e) c
def QZ:=fun a (R:VK) (e:LK) f (b:za)=>
 opt (Wz zz .not f) fun g=>CD g (fun c=>opt (nb [.bool false] (zh zz 4 a (.bool false) b)) fun d=>opt (zd zz 4 a d) fun h=>rv [h] d R)
 (fun c=>c [] b)
 (fun j i=>e [] i)
def Q0:=fun a (R:VK) (f:LK) b (c:za)=>
 opt (Wf b 0) fun k=>opt (Wf b 1) fun g=>opt (Wz zz .not g) fun h=>CD h (fun d=>opt (nb [.bool false] (zh zz 4 a (.bool false) c)) fun e=>opt (zd zz 4 a e) fun i=>rv [i] e R)
 (fun d=>d [] c)
 (fun l j=>f [] j)
def Q1:=fun a (R:VK) (e:LK) f (b:za)=>
 opt (Wz zz .not f) fun g=>CD g (fun c=>opt (nb [.bool false] (zh zz 4 a (.bool false) b)) fun d=>opt (zd zz 4 a d) fun h=>rv [h] d R)
 (fun c=>c [] b)
 (fun j i=>e [] i)
def W0:=fun e a (R:VK) (f:LK) g (b:za)=>
 opt (pk e (.bool true) g) fun h=>CD h (fun c=>opt (nb [.bool false] (zh zz 4 a (.bool false) b)) fun d=>opt (zd zz 4 a d) fun i=>rv [i] d R)
 (fun c=>c [] b)
 (fun k j=>f [] j)
def W4:=fun a b e (R:VK) (f:LK) c (d:za)=>
 GD a false (fun g=>opt (nb [b,c] (ze zz .gtr 2 (.tmp 103) (.tmp 105) b c)) fun h=>g h d) (W0 a e R f) d
def W5:=fun a e f (R:VK) (g:LK) h (d:za)=>
 GD a false (fun i=>opt (zb zz 45 e 3) fun b=>i b d) (fun b c=>GD a false (fun j=>opt (zd zz 3 b c) fun k=>j k c) (W4 a h f R g) c) d
def W6:=fun e (a:za) g h (R:VK) (i:LK)=>
 opt (zb zz 53 e 5) fun j=>opt (zd zz 2 j a) fun f=>opt (nb [f,.int .i64 0] (ze zz .lss 2 (.tmp 99) (ci 0) f (.int .i64 0))) fun b=>GD b false (fun k=>opt (zb zz 53 e 5) fun c=>k c a) (fun c d=>GD b false (fun l=>opt (zd zz 2 c d) fun m=>l m d) (W5 b g h R i) d) a
def Q2:=fun b (a:za) c (R:VK) (d:LK)=>
 opt (zb zz 53 b 1) fun e=>opt (zd zz 3 e a) fun f=>zH zz (fn 104) [f] a (Q1 c R d)
def Y4:=fun a c (b:za) d e (R:VK) (f:LK)=>
 opt (nb [a,.int .i64 9] (ze zz .eql 3 (.tmp 62) (.const (.int .i64 9)) a (.int .i64 9))) fun g=>CD g (W6 c b d e R)
 (fun h=>h [] b)
 (fun j i=>f [] i)
def jl:=fun a (c:za) d e (R:VK) h (i:LK)=>
 opt (nb [a,.int .i64 6] (ze zz .eql 3 (.tmp 62) (.const (.int .i64 6)) a (.int .i64 6))) fun f=>CD f (fun b=>b [f] c)
 (fun b=>opt (nb [a,.int .i64 7] (ze zz .eql 3 (.tmp 62) (.const (.int .i64 7)) a (.int .i64 7))) fun j=>b [j] c)
 (fun k g=>CD (nth k 0) (Q2 d g e R)
 (Y4 a d g h e R)
 (fun m l=>i [] l))
def q8:=fun a c (b:za) d (R:VK) e (f:LK)=>
 opt (nb [a,.int .i64 11] (ze zz .eql 3 (.tmp 62) (.const (.int .i64 11)) a (.int .i64 11))) fun g=>CD g (fun h=>opt (zb zz 53 c 1) fun i=>opt (zd zz 3 i b) fun j=>zH zz (fn 103) [j] b (Q0 d R h))
 (jl a b c d R e)
 (fun l k=>f [] k)
def W7:=fun e (a:za) g (R:VK) (h:LK)=>
 opt (zb zz 53 e 1) fun i=>opt (zd zz 3 i a) fun f=>opt (nb [f,.int .i64 1] (ze zz .lss 3 (.tmp 66) (ci 1) f (.int .i64 1))) fun b=>GD b false (fun j=>opt (zb zz 53 e 1) fun c=>j c a) (fun c d=>GD b false (fun k=>opt (zd zz 3 c d) fun l=>k l d) (WZ b g R h) d) a
def qk:=fun a c (b:za) d (R:VK) e (f:LK)=>
 opt (nb [a,.int .i64 5] (ze zz .eql 3 (.tmp 62) (.const (.int .i64 5)) a (.int .i64 5))) fun g=>CD g (fun h=>opt (zb zz 53 c 1) fun i=>opt (zd zz 3 i b) fun j=>zH zz (fn 102) [j] b (QZ d R h))
 (q8 a c b d R e)
 (fun l k=>f [] k)
def wE:=fun a b (c:za) d (R:VK) e (f:LK)=>
 opt (nb [a,.int .i64 4] (ze zz .eql 3 (.tmp 62) (.const (.int .i64 4)) a (.int .i64 4))) fun g=>CD g (W7 b c d R)
 (qk a b c d R e)
 (fun i h=>f [] h)
def W8:=fun a (c:za) (e:LK)=>
 opt (nb [a,.int .i64 13] (ze zz .eql 3 (.tmp 109) (.const (.int .i64 13)) a (.int .i64 13))) fun d=>CD d (fun b=>b [d] c)
 (fun b=>opt (nb [a,.int .i64 10] (ze zz .eql 3 (.tmp 109) (.const (.int .i64 10)) a (.int .i64 10))) fun f=>b [f] c)
 (fun g h=>e [nth g 0] h)
def Y5:=fun a (b:za) (d:LK)=>
 opt (nb [a,.int .i64 9] (ze zz .eql 3 (.tmp 109) (.const (.int .i64 9)) a (.int .i64 9))) fun c=>CD c (fun e=>e [c] b)
 (W8 a b)
 (fun f g=>d [nth f 0] g)
def Zw:=fun a (b:za) (d:LK)=>
 opt (nb [a,.int .i64 8] (ze zz .eql 3 (.tmp 109) (.const (.int .i64 8)) a (.int .i64 8))) fun c=>CD c (fun e=>e [c] b)
 (Y5 a b)
 (fun f g=>d [nth f 0] g)
def jm:=fun a (b:za) (d:LK)=>
 opt (nb [a,.int .i64 6] (ze zz .eql 3 (.tmp 109) (.const (.int .i64 6)) a (.int .i64 6))) fun c=>CD c (fun e=>e [c] b)
 (Zw a b)
 (fun f g=>d [nth f 0] g)
def q9:=fun a (b:za) (d:LK)=>
 opt (nb [a,.int .i64 5] (ze zz .eql 3 (.tmp 109) (.const (.int .i64 5)) a (.int .i64 5))) fun c=>CD c (fun e=>e [c] b)
 (jm a b)
 (fun f g=>d [nth f 0] g)
def ql:=fun a (b:za) (d:LK)=>
 opt (nb [a,.int .i64 4] (ze zz .eql 3 (.tmp 109) (.const (.int .i64 4)) a (.int .i64 4))) fun c=>CD c (fun e=>e [c] b)
 (q9 a b)
 (fun f g=>d [nth f 0] g)
def ue:=fun a (b:za) (d:LK)=>
 opt (nb [a,.int .i64 3] (ze zz .eql 3 (.tmp 109) (.const (.int .i64 3)) a (.int .i64 3))) fun c=>CD c (fun e=>e [c] b)
 (ql a b)
 (fun f g=>d [nth f 0] g)
def Q3:=fun e (a:za) f b (R:VK) (m:LK)=>
 opt (zb zz 53 e 4) fun g=>opt (zd zz 3 g a) fun h=>opt (zb zz 45 f 2) fun i=>opt (zd zz 3 i a) fun j=>zH zz (fn 31) [h,j] a (fun c k=>opt (nb [c] (zh zz 4 b c k)) fun d=>opt (zd zz 4 b d) fun l=>rv [l] d R)
def vJ:=fun a (b:za) e f g (R:VK) (h:LK)=>
 opt (nb [a,.int .i64 2] (ze zz .eql 3 (.tmp 109) (.const (.int .i64 2)) a (.int .i64 2))) fun c=>CD c (fun i=>i [c] b)
 (ue a b)
 (fun j d=>CD (nth j 0) (Q3 e d f g R)
 (fun k=>k [] d)
 (fun m l=>h [] l))
def xH:=fun b e a (R:VK) (j:List Value) (c:za)=>
 opt (zb zz 53 b 0) fun f=>opt (zd zz 3 f c) fun g=>BK (vJ g c b e a R)
 (fun k h=>opt (nb [.bool true] (zh zz 4 a (.bool true) h)) fun d=>opt (zd zz 4 a d) fun i=>rv [i] d R)
def Q4:=fun a b (R:VK) c (j:List Value) (d:za)=>
 opt (zb zz 53 a 0) fun f=>opt (zd zz 3 f d) fun g=>BK (wU g d a b R)
 (fun k e=>opt (zb zz 53 a 0) fun h=>opt (zd zz 3 h e) fun i=>BK (wE i a e b R c)
 (xH a c b R))
def Q5:=fun a f g b c h i j k l m n o p (R:VK) (s:List Value) (d:za)=>
 opt (zd zz 53 a d) fun e=>zH zz (fn 20) [e] d (fun q r=>BK (lG q f g b a c h i j k l m n o p e r R)
 (Q4 a c R b))
def Q6:=fun a c d e f g h i j k l m (R:VK) (q:List Value) (n:za)=>
 opt (zd zz 53 a n) fun b=>zH zz (fn 19) [b] n (fun o p=>BK (lE o c d e a f g h i j k l m b p R)
 (Q5 a c d e f g h i j k l m b o R))
def W9:=fun b a (R:VK) h i j k l m n o c (d:za)=>
 opt (pk b (.bool true) c) fun e=>CD e (fun f=>opt (nb [.bool false] (zh zz 4 a (.bool false) d)) fun g=>opt (zd zz 4 a g) fun p=>rv [p] g R)
 (fun f=>f [] d)
 (Q6 h i j k a l m b n o c e R)
def Va:=fun b d (R:VK) e f g h i j k a (c:za)=>
 GD b false (fun l=>opt (nb [a,.int .i64 14] (ze zz .gtr 3 (.tmp 14) (.const (.int .i64 14)) a (.int .i64 14))) fun m=>l m c) (W9 b d R e f g h i j k a) c
theorem lH (t2 t19 t4 t0 t1 t3 t9 t10 t11 t12 t13 t14 t15 t16 t17 t18:Value) (L:Nat) (h:za) (K:VK):HW zz (cK zz qs) 150 52 0 L (vq zz 67 0).2.1 (vq zz 67 0).2.2 (U6 125 [(0,t0),(1,t1),(2,t2),(3,t3),(4,t4),(9,t9),(10,t10),(11,t11),(12,t12),(13,t13),(14,t14),(15,t15),(16,t16),(17,t17),(18,t18),(19,t19)]) h K=fU t2 t19 t4 t0 t1 t3 t9 t10 t11 t12 t13 t14 t15 t16 t17 t18 L h K:=by kernel_rfl
theorem lI (t2 t28 t4 t0 t1 t3 t9 t10 t11 t12 t13 t14 t15 t16 t17 t18 t26 t27:Value) (L:Nat) (h:za) (K:VK):HW zz (cK zz qs) 150 84 0 L (vq zz 67 1).2.1 (vq zz 67 1).2.2 (U6 125 [(0,t0),(1,t1),(2,t2),(3,t3),(4,t4),(9,t9),(10,t10),(11,t11),(12,t12),(13,t13),(14,t14),(15,t15),(16,t16),(17,t17),(18,t18),(26,t26),(27,t27),(28,t28)]) h K=fV t2 t28 t4 t0 t1 t3 t9 t10 t11 t12 t13 t14 t15 t16 t17 t18 t26 t27 L h K:=by kernel_rfl
def AY:=fun (h:za) b c (R:VK)=>
 opt (nb [b] (some (Value.cells b).toList)) fun k=>nw h k 45 fun l m=>opt (nb [c] (some (Value.cells c).toList)) fun n=>nw m n 53 fun d o=>opt (yV zz 4) fun p=>nw o (Value.cells p).toList 4 fun q e=>opt (zb zz 53 d 0) fun j=>opt (zd zz 3 j e) fun f=>opt (nb [f,.int .i64 1] (ze zz .lss 3 (.tmp 10) (ci 1) f (.int .i64 1))) fun g=>GD g false (fun r=>opt (zb zz 53 d 0) fun a=>r a e) (fun a i=>GD g false (fun s=>opt (zd zz 3 a i) fun t=>s t i) (Va g q R d b c l j f a) i) e
theorem AZ (hw:AY h t0 t1 R):DC zz 67 [t0,t1] h R:=zL mixed (q:=qs) (n:=200) (Eq.mpr (by kernel_rfl) hw)
def UA:=fun c (R:VK) d (e:LK) f (a:za)=>
 opt (pk c (.bool true) f) fun g=>CD g (fun b=>rv [.bool false] a R)
 (fun b=>b [nth d 0] a)
 (fun h i=>e [nth h 0] i)
def UB:=fun b d (R:VK) f (g:LK) h (c:za)=>
 GD b false (fun i=>opt (zd zz 3 h c) fun a=>i a c) (fun a e=>GD b false (fun j=>opt (nb [d,a] (ze zz .geq 3 (.tmp 67) (.tmp 69) d a)) fun k=>j k e) (UA b R f g) e) c
def UC:=fun a e (R:VK) f (g:LK) h (b:za)=>
 GD a false (fun i=>opt (zd zz 3 h b) fun c=>i c b) (fun c d=>GD a false (fun j=>opt (zb zz 45 e 2) fun k=>j k d) (UB a c R f g) d) b
def UD:=fun a b e (R:VK) (f:LK) g (c:za)=>
 GD a false (fun h=>h (nth b 1) c) (fun i d=>GD a false (fun j=>opt (zw zz 22 g i) fun k=>j k d) (UC a e R b f) d) c
def UE:=fun b c (a:za) f (R:VK) (g:LK)=>
 opt (zw zz 22 b (nth c 1)) fun h=>opt (zd zz 3 h a) fun d=>opt (nb [d,.int .i64 0] (ze zz .lss 3 (.tmp 61) (ci 0) d (.int .i64 0))) fun e=>GD e false (fun i=>i b a) (UD e c f R g) a
def i7:=fun a (b:LK) c (d:za)=>
 opt (nb [nth a 1,.int .i64 1] (ze zz .add 3 (.tmp 56) (ci 1) (nth a 1) (.int .i64 1))) fun e=>b [nth c 0,e] d
def X4:=fun b (f:LK) g (R:VK) a (h:za) (i:LK)=>
 zV (nb [b] (zg zz .len [22] 3 [b] h)) fun c d=>opt (nb [nth a 1,c] (ze zz .lss 3 (.tmp 52) (.tmp 54) (nth a 1) c)) fun j=>CD j (fun e=>e [] d)
 (fun e=>f [nth a 0] d)
 (fun l k=>BK (UE b a k g R)
 (i7 a i))
def UF:=fun c (R:VK) d (e:LK) f (a:za)=>
 opt (pk c (.bool true) f) fun g=>CD g (fun b=>rv [.bool false] a R)
 (fun b=>b [nth d 0] a)
 (fun h i=>e [nth h 0] i)
def UG:=fun a b (R:VK) e (f:LK) c (d:za)=>
 GD a false (fun g=>opt (nb [b,c] (ze zz .geq 3 (.tmp 99) (.tmp 102) b c)) fun h=>g h d) (UF a R e f) d
def WD:=fun b e (R:VK) f (g:LK) h (c:za)=>
 GD b false (fun i=>opt (zd zz 43 h c) fun a=>i a c) (fun a d=>GD b false (fun j=>zV (nb [a] (zg zz .len [43] 3 [a] d)) fun k _=>j k d) (UG b e R f g) d) c
def WE:=fun a e (R:VK) f (g:LK) h (b:za)=>
 GD a false (fun i=>opt (zd zz 3 h b) fun c=>i c b) (fun c d=>GD a false (fun j=>opt (zb zz 45 e 5) fun k=>j k d) (WD a c R f g) d) b
def WG:=fun a b e (R:VK) (f:LK) g (c:za)=>
 GD a false (fun h=>h (nth b 1) c) (fun i d=>GD a false (fun j=>opt (zw zz 22 g i) fun k=>j k d) (WE a e R b f) d) c
def WH:=fun b c (a:za) f (R:VK) (g:LK)=>
 opt (zw zz 22 b (nth c 1)) fun h=>opt (zd zz 3 h a) fun d=>opt (nb [d,.int .i64 0] (ze zz .lss 3 (.tmp 93) (ci 0) d (.int .i64 0))) fun e=>GD e false (fun i=>i b a) (WG e c f R g) a
def fO:=fun a (b:LK) c (d:za)=>
 opt (nb [nth a 1,.int .i64 1] (ze zz .add 3 (.tmp 88) (ci 1) (nth a 1) (.int .i64 1))) fun e=>b [nth c 0,e] d
def YW:=fun b (f:LK) g (R:VK) a (h:za) (i:LK)=>
 zV (nb [b] (zg zz .len [22] 3 [b] h)) fun c d=>opt (nb [nth a 1,c] (ze zz .lss 3 (.tmp 84) (.tmp 86) (nth a 1) c)) fun j=>CD j (fun e=>e [] d)
 (fun e=>f [nth a 0] d)
 (fun l k=>BK (WH b a k g R)
 (fO a i))
def wx:=fun a (c:za) (e:LK)=>
 opt (nb [a,.int .i64 8] (ze zz .eql 3 (.tmp 106) (.const (.int .i64 8)) a (.int .i64 8))) fun d=>CD d (fun b=>b [d] c)
 (fun b=>opt (nb [a,.int .i64 10] (ze zz .eql 3 (.tmp 106) (.const (.int .i64 10)) a (.int .i64 10))) fun f=>b [f] c)
 (fun g h=>e [nth g 0] h)
def wy:=fun a (b:za) (d:LK)=>
 opt (nb [a,.int .i64 14] (ze zz .eql 3 (.tmp 106) (.const (.int .i64 14)) a (.int .i64 14))) fun c=>CD c (fun e=>e [c] b)
 (wx a b)
 (fun f g=>d [nth f 0] g)
def wz:=fun a (b:za) (d:LK)=>
 opt (nb [a,.int .i64 13] (ze zz .eql 3 (.tmp 106) (.const (.int .i64 13)) a (.int .i64 13))) fun c=>CD c (fun e=>e [c] b)
 (wy a b)
 (fun f g=>d [nth f 0] g)
def wA:=fun a (b:za) (d:LK)=>
 opt (nb [a,.int .i64 12] (ze zz .eql 3 (.tmp 106) (.const (.int .i64 12)) a (.int .i64 12))) fun c=>CD c (fun e=>e [c] b)
 (wz a b)
 (fun f g=>d [nth f 0] g)
def wB:=fun a (b:za) (d:LK)=>
 opt (nb [a,.int .i64 3] (ze zz .eql 3 (.tmp 106) (.const (.int .i64 3)) a (.int .i64 3))) fun c=>CD c (fun e=>e [c] b)
 (wA a b)
 (fun f g=>d [nth f 0] g)
def wC:=fun a (b:za) (d:LK)=>
 opt (nb [a,.int .i64 2] (ze zz .eql 3 (.tmp 106) (.const (.int .i64 2)) a (.int .i64 2))) fun c=>CD c (fun e=>e [c] b)
 (wB a b)
 (fun f g=>d [nth f 0] g)
def QH:=fun b (R:VK) c (d:za)=>
 GD b true (fun e=>opt (nb [c,.int .i64 4] (ze zz .leq 3 (.tmp 123) (.const (.int .i64 4)) c (.int .i64 4))) fun a=>e a d) (fun a f=>opt (pk b a (.bool false)) fun g=>rv [g] f R) d
def QI:=fun b (R:VK) c (d:za)=>
 GD b true (fun e=>opt (nb [c,.int .i64 26] (ze zz .leq 3 (.tmp 133) (.const (.int .i64 26)) c (.int .i64 26))) fun a=>e a d) (fun a f=>opt (pk b a (.bool false)) fun g=>rv [g] f R) d
def QJ:=fun b (R:VK) c (d:za)=>
 GD b true (fun e=>opt (nb [c,.int .i64 26] (ze zz .leq 3 (.tmp 143) (.const (.int .i64 26)) c (.int .i64 26))) fun a=>e a d) (fun a f=>opt (pk b a (.bool false)) fun g=>rv [g] f R) d
def WI:=fun b (R:VK) c (d:za)=>
 GD b false (fun e=>opt (nb [c,.int .i64 8] (ze zz .eql 3 (.tmp 159) (.const (.int .i64 8)) c (.int .i64 8))) fun a=>e a d) (fun a f=>opt (pk b (.bool true) a) fun g=>rv [g] f R) d
def WJ:=fun e f (R:VK) g (d:za)=>
 opt (pk e (.bool true) g) fun a=>GD a false (fun h=>opt (zb zz 53 f 1) fun b=>h b d) (fun b c=>GD a false (fun i=>opt (zd zz 3 b c) fun j=>i j c) (WI a R) c) d
def WK:=fun a d (R:VK) b (c:za)=>
 GD a false (fun e=>opt (nb [b,.int .i64 4] (ze zz .eql 3 (.tmp 154) (.const (.int .i64 4)) b (.int .i64 4))) fun f=>e f c) (WJ a d R) c
def QK:=fun b c (R:VK) d (e:za)=>
 GD b true (fun f=>opt (nb [c,d] (ze zz .leq 2 (.tmp 169) (.tmp 171) c d)) fun a=>f a e) (fun a g=>opt (pk b a (.bool false)) fun h=>rv [h] g R) e
def QL:=fun a e (R:VK) f (d:za)=>
 GD a true (fun g=>opt (zb zz 45 e 3) fun b=>g b d) (fun b c=>GD a true (fun h=>opt (zd zz 3 b c) fun i=>h i c) (QK a f R) c) d
def QM:=fun e (a:za) g (R:VK) (l:LK)=>
 opt (zb zz 53 e 5) fun h=>opt (zd zz 2 h a) fun f=>opt (nb [f,.int .i64 0] (ze zz .geq 2 (.tmp 165) (ci 0) f (.int .i64 0))) fun b=>GD b true (fun i=>opt (zb zz 53 e 5) fun c=>i c a) (fun c d=>GD b true (fun j=>opt (zd zz 2 c d) fun k=>j k d) (QL b g R) d) a
def WL:=fun a (b:za) (R:VK) (k:LK)=>
 opt (zb zz 53 a 1) fun g=>opt (zd zz 3 g b) fun f=>opt (nb [f,.int .i64 1] (ze zz .eql 3 (.tmp 150) (ci 1) f (.int .i64 1))) fun c=>GD c false (fun h=>opt (zb zz 53 a 1) fun d=>h d b) (fun d e=>GD c false (fun i=>opt (zd zz 3 d e) fun j=>i j e) (WK c a R) e) b
def WM:=fun a c (b:za) d (R:VK) e (f:LK)=>
 opt (nb [a,.int .i64 9] (ze zz .eql 3 (.tmp 106) (.const (.int .i64 9)) a (.int .i64 9))) fun g=>CD g (QM c b d R)
 (fun h=>h [nth e 0] b)
 (fun i j=>f [nth i 0] j)
def QN:=fun e (a:za) (R:VK) (k:LK)=>
 opt (zb zz 53 e 1) fun g=>opt (zd zz 3 g a) fun f=>opt (nb [f,.int .i64 21] (ze zz .geq 3 (.tmp 139) (.const (.int .i64 21)) f (.int .i64 21))) fun b=>GD b true (fun h=>opt (zb zz 53 e 1) fun c=>h c a) (fun c d=>GD b true (fun i=>opt (zd zz 3 c d) fun j=>i j d) (QJ b R) d) a
def jh:=fun a (c:za) d (R:VK) g h (i:LK)=>
 opt (nb [a,.int .i64 6] (ze zz .eql 3 (.tmp 106) (.const (.int .i64 6)) a (.int .i64 6))) fun e=>CD e (fun b=>b [e] c)
 (fun b=>opt (nb [a,.int .i64 7] (ze zz .eql 3 (.tmp 106) (.const (.int .i64 7)) a (.int .i64 7))) fun j=>b [j] c)
 (fun k f=>CD (nth k 0) (WL d f R)
 (WM a d f g R h)
 (fun l m=>i [nth l 0] m))
def QO:=fun e (a:za) (R:VK) (k:LK)=>
 opt (zb zz 53 e 1) fun g=>opt (zd zz 3 g a) fun f=>opt (nb [f,.int .i64 11] (ze zz .geq 3 (.tmp 129) (.const (.int .i64 11)) f (.int .i64 11))) fun b=>GD b true (fun h=>opt (zb zz 53 e 1) fun c=>h c a) (fun c d=>GD b true (fun i=>opt (zd zz 3 c d) fun j=>i j d) (QI b R) d) a
def u4:=fun a b (c:za) (R:VK) d e (f:LK)=>
 opt (nb [a,.int .i64 11] (ze zz .eql 3 (.tmp 106) (.const (.int .i64 11)) a (.int .i64 11))) fun g=>CD g (QN b c R)
 (jh a c b R d e)
 (fun h i=>f [nth h 0] i)
def QP:=fun e (a:za) (R:VK) (k:LK)=>
 opt (zb zz 53 e 1) fun g=>opt (zd zz 3 g a) fun f=>opt (nb [f,.int .i64 1] (ze zz .geq 3 (.tmp 119) (ci 1) f (.int .i64 1))) fun b=>GD b true (fun h=>opt (zb zz 53 e 1) fun c=>h c a) (fun c d=>GD b true (fun i=>opt (zd zz 3 c d) fun j=>i j d) (QH b R) d) a
def vH:=fun a b (c:za) (R:VK) d e (f:LK)=>
 opt (nb [a,.int .i64 5] (ze zz .eql 3 (.tmp 106) (.const (.int .i64 5)) a (.int .i64 5))) fun g=>CD g (QO b c R)
 (u4 a b c R d e)
 (fun h i=>f [nth h 0] i)
def wS:=fun a b (c:za) (R:VK) d e (f:LK)=>
 opt (nb [a,.int .i64 4] (ze zz .eql 3 (.tmp 106) (.const (.int .i64 4)) a (.int .i64 4))) fun g=>CD g (QP b c R)
 (vH a b c R d e)
 (fun h i=>f [nth h 0] i)
def wD:=fun a (b:za) (R:VK) e f g (h:LK)=>
 opt (nb [a,.int .i64 1] (ze zz .eql 3 (.tmp 106) (ci 1) a (.int .i64 1))) fun c=>CD c (fun i=>i [c] b)
 (wC a b)
 (fun j d=>CD (nth j 0) (fun m=>rv [.bool true] d R)
 (wS a e d R f g)
 (fun k l=>h [nth k 0] l))
def x8:=fun a (R:VK) c d (b:za)=>
 opt (zb zz 53 a 0) fun e=>opt (zd zz 3 e b) fun f=>BK (wD f b R a c d)
 (fun h g=>rv [.bool false] g R)
def QQ:=fun a b (R:VK) d (c:za)=>
 opt (zd zz 53 a c) fun e=>zH zz (fn 113) [e] c (fun f g=>BK (fun h=>LP (YW f h b R)
 [nth d 0,.int .i64 0] g)
 (x8 a R b))
def WN:=fun b (R:VK) g h i c (d:za)=>
 GD b false (fun j=>opt (nb [c,.int .i64 (-1)] (ze zz .lss 3 (.tmp 79) (.const (.int .i64 (-1))) c (.int .i64 (-1)))) fun a=>j a d) (fun a e=>opt (pk b (.bool true) a) fun k=>CD k (fun f=>rv [.bool false] e R)
 (fun f=>f [nth g 0] e)
 (QQ h i R)) d
def WO:=fun e (a:za) f (R:VK) i g=>
 opt (zb zz 45 e 2) fun j=>opt (zd zz 3 j a) fun h=>opt (nb [g,h] (ze zz .geq 3 (.tmp 73) (.tmp 75) g h)) fun b=>GD b false (fun k=>opt (zd zz 53 f a) fun c=>k c a) (fun c d=>GD b false (fun l=>qN zz 54 [c] d (fun m=>l m d)) (WN b R i f e) d) a
def QR:=fun b (R:VK) d c e (f:za)=>
 BK (fun g=>LP (X4 e g b R)
 [nth d 0,.int .i64 0] f)
 (fun h a=>opt (zd zz 53 c a) fun i=>qN zz 54 [i] a (WO b a c R h))
def ji:=fun e (R:VK) a f g (b:za)=>
 opt (pk e (.bool true) g) fun h=>CD h (fun c=>rv [.bool false] b R)
 (fun c=>c [.bool false] b)
 (fun i d=>opt (zd zz 53 a d) fun j=>zH zz (fn 53) [j] d (QR f R i a))
def Zp:=fun b c (R:VK) g h d (e:za)=>
 GD b true (fun i=>opt (nb [d,.int .i64 (-1)] (ze zz .lss 3 (.tmp 46) (.const (.int .i64 (-1))) d (.int .i64 (-1)))) fun a=>i a e) (fun a f=>GD c false (fun j=>opt (pk b a (.bool false)) fun k=>j k f) (ji c R g h) f) e
def Zq:=fun d f (R:VK) g a (e:za)=>
 GD a true (fun h=>opt (zb zz 53 d 4) fun b=>h b e) (fun b c=>GD a true (fun i=>opt (zd zz 3 b c) fun j=>i j c) (Zp a f R d g) c) e
def Zr:=fun a f (R:VK) g c (d:za)=>
 GD a false (fun h=>opt (nb [c,.int .i64 10] (ze zz .eql 3 (.tmp 42) (.const (.int .i64 10)) c (.int .i64 10))) fun b=>h b d) (fun b e=>GD a false (fun i=>i b e) (Zq f a R g) e) d
def jj:=fun f d (R:VK) g h (e:za)=>
 opt (pk f (.bool true) h) fun a=>GD a false (fun i=>opt (zb zz 53 d 0) fun b=>i b e) (fun b c=>GD a false (fun j=>opt (zd zz 3 b c) fun k=>j k c) (Zr a d R g) c) e
def YX:=fun b c g (R:VK) h d (e:za)=>
 GD b true (fun i=>opt (nb [d,.int .i64 (-1)] (ze zz .eql 3 (.tmp 36) (.const (.int .i64 (-1))) d (.int .i64 (-1)))) fun a=>i a e) (fun a f=>GD c false (fun j=>opt (pk b a (.bool false)) fun k=>j k f) (jj c g R h) f) e
def YY:=fun d f (R:VK) g a (b:za)=>
 GD a true (fun h=>opt (zd zz 53 d b) fun c=>h c b) (fun c e=>GD a true (fun i=>zH zz (fn 54) [c] e (fun j k=>i j k)) (YX a f d R g) e) b
def Zs:=fun d e f (R:VK) g h (b:za)=>
 opt (pk d (.bool true) h) fun a=>GD a false (fun i=>i e b) (fun j c=>GD a false (fun k=>k j c) (YY f a R g) c) b
def WQ:=fun b c g h (R:VK) i d (e:za)=>
 GD b true (fun j=>opt (nb [d,.int .i64 (-1)] (ze zz .eql 3 (.tmp 28) (.const (.int .i64 (-1))) d (.int .i64 (-1)))) fun a=>j a e) (fun a f=>GD c false (fun k=>opt (pk b a (.bool false)) fun l=>k l f) (Zs c g h R i) f) e
def WR:=fun d f g (R:VK) h a (e:za)=>
 GD a true (fun i=>opt (zb zz 53 d 3) fun b=>i b e) (fun b c=>GD a true (fun j=>opt (zd zz 3 b c) fun k=>j k c) (WQ a f g d R h) c) e
def YZ:=fun d e f g (R:VK) h i (b:za)=>
 opt (pk d i (.bool false)) fun a=>GD a false (fun j=>j e b) (fun k c=>GD a false (fun l=>l k c) (WR f a g R h) c) b
def QS:=fun a d e f (R:VK) g b (c:za)=>
 GD a true (fun h=>opt (nb [b,.int .i64 (-1)] (ze zz .eql 3 (.tmp 21) (.const (.int .i64 (-1))) b (.int .i64 (-1)))) fun i=>h i c) (YZ a d e f R g) c
def QT:=fun e (R:VK) g a (f:za)=>
 opt (Wf a 0) fun b=>opt (Wf a 1) fun h=>opt (Wf a 2) fun i=>GD b true (fun j=>opt (zb zz 53 e 2) fun c=>j c f) (fun c d=>GD b true (fun k=>opt (zd zz 3 c d) fun l=>k l d) (QS b h e i R g) d) f
def AM:=fun (h:za) a b (R:VK)=>
 opt (nb [a] (some (Value.cells a).toList)) fun e=>nw h e 45 fun f g=>opt (nb [b] (some (Value.cells b).toList)) fun i=>nw g i 53 fun c d=>opt (zd zz 53 c d) fun j=>zH zz (fn 112) [j] d (QT c R f)
theorem AN (hw:AM h t0 t1 R):DC zz 73 [t0,t1] h R:=zL mixed (q:=qs) (n:=200) (Eq.mpr (by kernel_rfl) hw)
def Vu:=fun f (a:za) b g (R:VK) (h:LK)=>
 opt (zb zz 53 f 6) fun i=>opt (zd zz 22 i a) fun j=>opt (zw zz 22 j (nth b 1)) fun k=>opt (zd zz 3 k a) fun c=>opt (zb zz 53 g 6) fun l=>opt (zd zz 22 l a) fun m=>opt (zw zz 22 m (nth b 1)) fun n=>opt (zd zz 3 n a) fun d=>opt (nb [c,d] (ze zz .neq 3 (.tmp 80) (.tmp 85) c d)) fun o=>CD o (fun e=>rv [.bool false] a R)
 (fun e=>e [nth b 0] a)
 (fun p q=>h [nth p 0] q)
def Jr:=fun a (b:LK) c (d:za)=>
 opt (nb [nth a 1,.int .i64 1] (ze zz .add 3 (.tmp 74) (ci 1) (nth a 1) (.int .i64 1))) fun e=>b [nth c 0,e] d
def jP:=fun b (h:LK) i (R:VK) a (c:za) (j:LK)=>
 opt (zb zz 53 b 6) fun k=>opt (zd zz 22 k c) fun d=>zV (nb [d] (zg zz .len [22] 3 [d] c)) fun e f=>opt (nb [nth a 1,e] (ze zz .lss 3 (.tmp 69) (.tmp 72) (nth a 1) e)) fun l=>CD l (fun g=>g [] f)
 (fun g=>h [nth a 0] f)
 (fun n m=>BK (Vu b m a i R)
 (Jr a j))
def wJ:=fun c (R:VK) d e f (a:za)=>
 opt (pk c (.bool true) f) fun g=>CD g (fun b=>rv [.bool false] a R)
 (fun b=>b [.bool false] a)
 (fun h i=>BK (fun j=>LP (jP d j e R)
 [nth h 0,.int .i64 0] i)
 (fun l k=>rv [.bool true] k R))
def wK:=fun b c (R:VK) g h d (e:za)=>
 GD b false (fun i=>zV (nb [d] (zg zz .len [22] 3 [d] e)) fun a j=>i a j) (fun a f=>GD b false (fun k=>opt (nb [c,a] (ze zz .neq 3 (.tmp 63) (.tmp 66) c a)) fun l=>k l f) (wJ b R g h) f) e
def wL:=fun a d (R:VK) f g (e:za)=>
 GD a false (fun h=>opt (zb zz 53 d 6) fun b=>h b e) (fun b c=>GD a false (fun i=>opt (zd zz 22 b c) fun j=>i j c) (wK a g R f d) c) e
def wM:=fun b e (R:VK) f g (c:za)=>
 GD b false (fun h=>opt (zd zz 22 g c) fun a=>h a c) (fun a d=>GD b false (fun i=>zV (nb [a] (zg zz .len [22] 3 [a] d)) fun j k=>i j k) (wL b e R f) d) c
def wN:=fun b c d i (R:VK) e (f:za)=>
 GD b false (fun j=>opt (nb [c,e] (ze zz .neq 3 (.tmp 55) (.tmp 57) c e)) fun a=>j a f) (fun a g=>opt (pk b (.bool true) a) fun h=>GD h false (fun k=>opt (zb zz 53 d 6) fun l=>k l g) (wM h i R d) g) f
def wO:=fun a d f (R:VK) g (e:za)=>
 GD a false (fun h=>opt (zb zz 53 d 8) fun b=>h b e) (fun b c=>GD a false (fun i=>opt (zd zz 3 b c) fun j=>i j c) (wN a g f d R) c) e
def xO:=fun f d g (R:VK) h (e:za)=>
 opt (pk f (.bool true) h) fun a=>GD a false (fun i=>opt (zb zz 53 d 8) fun b=>i b e) (fun b c=>GD a false (fun j=>opt (zd zz 3 b c) fun k=>j k c) (wO a g d R) c) e
def xP:=fun b d f g (R:VK) h (c:za)=>
 GD b false (fun i=>opt (zd zz 3 h c) fun a=>i a c) (fun a e=>GD b false (fun j=>opt (nb [d,a] (ze zz .neq 3 (.tmp 48) (.tmp 50) d a)) fun k=>j k e) (xO b f g R) e) c
def xQ:=fun a d f (R:VK) g (b:za)=>
 GD a false (fun h=>opt (zd zz 3 g b) fun c=>h c b) (fun c e=>GD a false (fun i=>opt (zb zz 53 d 7) fun j=>i j e) (xP a c f d R) e) b
def xR:=fun b c d i (R:VK) e (f:za)=>
 GD b false (fun j=>opt (nb [c,e] (ze zz .neq 2 (.tmp 41) (.tmp 43) c e)) fun a=>j a f) (fun a g=>opt (pk b (.bool true) a) fun h=>GD h false (fun k=>opt (zb zz 53 d 7) fun l=>k l g) (xQ h i d R) g) f
def xS:=fun a d f (R:VK) g (e:za)=>
 GD a false (fun h=>opt (zb zz 53 d 5) fun b=>h b e) (fun b c=>GD a false (fun i=>opt (zd zz 2 b c) fun j=>i j c) (xR a g f d R) c) e
def xU:=fun f d g (R:VK) h (e:za)=>
 opt (pk f (.bool true) h) fun a=>GD a false (fun i=>opt (zb zz 53 d 5) fun b=>i b e) (fun b c=>GD a false (fun j=>opt (zd zz 2 b c) fun k=>j k c) (xS a g d R) c) e
def xV:=fun b d f g (R:VK) h (c:za)=>
 GD b false (fun i=>opt (zd zz 3 h c) fun a=>i a c) (fun a e=>GD b false (fun j=>opt (nb [d,a] (ze zz .neq 3 (.tmp 34) (.tmp 36) d a)) fun k=>j k e) (xU b f g R) e) c
def xW:=fun a d f (R:VK) g (b:za)=>
 GD a false (fun h=>opt (zd zz 3 g b) fun c=>h c b) (fun c e=>GD a false (fun i=>opt (zb zz 53 d 4) fun j=>i j e) (xV a c f d R) e) b
def xX:=fun b c d i (R:VK) e (f:za)=>
 GD b false (fun j=>opt (nb [c,e] (ze zz .neq 3 (.tmp 27) (.tmp 29) c e)) fun a=>j a f) (fun a g=>opt (pk b (.bool true) a) fun h=>GD h false (fun k=>opt (zb zz 53 d 4) fun l=>k l g) (xW h i d R) g) f
def xY:=fun a d f (R:VK) g (e:za)=>
 GD a false (fun h=>opt (zb zz 53 d 3) fun b=>h b e) (fun b c=>GD a false (fun i=>opt (zd zz 3 b c) fun j=>i j c) (xX a g f d R) c) e
def xZ:=fun f d g (R:VK) h (e:za)=>
 opt (pk f (.bool true) h) fun a=>GD a false (fun i=>opt (zb zz 53 d 3) fun b=>i b e) (fun b c=>GD a false (fun j=>opt (zd zz 3 b c) fun k=>j k c) (xY a g d R) c) e
def x4:=fun b d f g (R:VK) h (c:za)=>
 GD b false (fun i=>opt (zd zz 3 h c) fun a=>i a c) (fun a e=>GD b false (fun j=>opt (nb [d,a] (ze zz .neq 3 (.tmp 20) (.tmp 22) d a)) fun k=>j k e) (xZ b f g R) e) c
def x5:=fun a d f (R:VK) g (b:za)=>
 GD a false (fun h=>opt (zd zz 3 g b) fun c=>h c b) (fun c e=>GD a false (fun i=>opt (zb zz 53 d 2) fun j=>i j e) (x4 a c f d R) e) b
def x6:=fun b c d i (R:VK) e (f:za)=>
 GD b false (fun j=>opt (nb [c,e] (ze zz .neq 3 (.tmp 13) (.tmp 15) c e)) fun a=>j a f) (fun a g=>opt (pk b (.bool true) a) fun h=>GD h false (fun k=>opt (zb zz 53 d 2) fun l=>k l g) (x5 h i d R) g) f
def x7:=fun a d f (R:VK) g (e:za)=>
 GD a false (fun h=>opt (zb zz 53 d 1) fun b=>h b e) (fun b c=>GD a false (fun i=>opt (zd zz 3 b c) fun j=>i j c) (x6 a g f d R) c) e
def fK:=fun (h:za) f g (R:VK)=>
 opt (nb [f] (some (Value.cells f).toList)) fun l=>nw h l 53 fun b m=>opt (nb [g] (some (Value.cells g).toList)) fun n=>nw m n 53 fun i a=>opt (zb zz 53 b 0) fun o=>opt (zd zz 3 o a) fun j=>opt (zb zz 53 i 0) fun p=>opt (zd zz 3 p a) fun k=>opt (nb [j,k] (ze zz .neq 3 (.tmp 7) (.tmp 9) j k)) fun c=>GD c false (fun q=>opt (zb zz 53 b 1) fun d=>q d a) (fun d e=>GD c false (fun r=>opt (zd zz 3 d e) fun s=>r s e) (x7 c i b R) e) a
theorem iW (hw:fK h t0 t1 R):DC zz 64 [t0,t1] h R:=zL mixed (q:=qs) (n:=200) (Eq.mpr (by kernel_rfl) hw)
def Jp:=fun e a (b:za) f (R:VK) (g:LK)=>
 opt (zw zz 43 e (nth a 1)) fun h=>opt (zd zz 53 h b) fun i=>zH zz f [i] b (fun j c=>CD j (fun d=>rv [nth a 1] c R)
 (fun d=>d [nth a 0] c)
 (fun k l=>g [nth k 0] l))
def Jq:=fun b a c (R:VK) (d:LK) (i:List Value) (e:za)=>
 BK (Jp b a e c R)
 (fun f g=>opt (nb [nth a 1,.int .i64 1] (ze zz .add 3 (.tmp 8) (ci 1) (nth a 1) (.int .i64 1))) fun h=>d [nth f 0,h] g)
def Vt:=fun b (e:LK) f g (R:VK) a (c:za) (h:LK)=>
 opt (nb [nth a 1,b] (ze zz .lss 3 (.tmp 8) (.tmp 7) (nth a 1) b)) fun i=>CD i (fun d=>d [] c)
 (fun d=>e [nth a 0] c)
 (Jq f a g R h)
def fJ:=fun (h:za) a b (R:VK)=>
 zV (nb [a] (zg zz .len [43] 3 [a] h)) fun c d=>BK (fun e=>LP (Vt c e a b R)
 [.int .i64 0,.int .i64 0] d)
 (fun g f=>rv [.int .i64 (-1)] f R)
theorem iU (hw:fJ h t0 t1 R):DC zz 101 [t0,t1] h R:=zL mixed (q:=qs) (n:=200) (Eq.mpr (by kernel_rfl) hw)
def Vv:=fun b (R:VK) c (d:za)=>
 GD b true (fun e=>opt (nb [c,.int .i64 26] (ze zz .leq 3 (.tmp 6) (.const (.int .i64 26)) c (.int .i64 26))) fun a=>e a d) (fun a f=>opt (pk b a (.bool false)) fun g=>rv [g] f R) d
def fT:=fun (h:za) a (R:VK)=>
 opt (nb [a,.int .i64 11] (ze zz .geq 3 (.tmp 3) (.const (.int .i64 11)) a (.int .i64 11))) fun b=>GD b true (fun c=>c a h) (Vv b R) h
theorem lr (hw:fT h t0 R):DC zz 102 [t0] h R:=zL mixed (q:=qs) (n:=200) (Eq.mpr (by kernel_rfl) hw)
def iT:=fun a (h:za) (R:VK) (d:LK)=>
 opt (nb [a,.int .i64 25] (ze zz .eql 3 (.tmp 4) (.const (.int .i64 25)) a (.int .i64 25))) fun e=>CD e (fun b=>rv [.int .i64 24,.bool true] h R)
 (fun b=>b [.int .i64 0,.bool false] h)
 (fun c f=>d [nth c 0,nth c 1] f)
def bC:=fun a (h:za) (R:VK) (c:LK)=>
 opt (nb [a,.int .i64 24] (ze zz .eql 3 (.tmp 4) (.const (.int .i64 24)) a (.int .i64 24))) fun d=>CD d (fun f=>rv [.int .i64 25,.bool true] h R)
 (iT a h R)
 (fun b e=>c [nth b 0,nth b 1] e)
def QA:=fun a (h:za) (R:VK) (c:LK)=>
 opt (nb [a,.int .i64 26] (ze zz .eql 3 (.tmp 4) (.const (.int .i64 26)) a (.int .i64 26))) fun d=>CD d (fun f=>rv [.int .i64 23,.bool true] h R)
 (bC a h R)
 (fun b e=>c [nth b 0,nth b 1] e)
def VM:=fun a (h:za) (R:VK) (c:LK)=>
 opt (nb [a,.int .i64 23] (ze zz .eql 3 (.tmp 4) (.const (.int .i64 23)) a (.int .i64 23))) fun d=>CD d (fun f=>rv [.int .i64 26,.bool true] h R)
 (QA a h R)
 (fun b e=>c [nth b 0,nth b 1] e)
def XN:=fun a (h:za) (R:VK) (c:LK)=>
 opt (nb [a,.int .i64 22] (ze zz .eql 3 (.tmp 4) (.const (.int .i64 22)) a (.int .i64 22))) fun d=>CD d (fun f=>rv [.int .i64 21,.bool true] h R)
 (VM a h R)
 (fun b e=>c [nth b 0,nth b 1] e)
def YV:=fun a (h:za) (R:VK) (c:LK)=>
 opt (nb [a,.int .i64 21] (ze zz .eql 3 (.tmp 4) (.const (.int .i64 21)) a (.int .i64 21))) fun d=>CD d (fun f=>rv [.int .i64 22,.bool true] h R)
 (XN a h R)
 (fun b e=>c [nth b 0,nth b 1] e)
def Ia:=fun (h:za) a (R:VK)=>
 BK (YV a h R)
 (fun c b=>rv [.int .i64 0,.bool false] b R)
theorem Gf (hw:Ia h t0 R):DC zz 103 [t0] h R:=zL mixed (q:=qs) (n:=200) (Eq.mpr (by kernel_rfl) hw)
def KO:=fun b (R:VK) c (d:za)=>
 GD b false (fun e=>opt (nb [c,.int .i64 8] (ze zz .eql 3 (.tmp 10) (.const (.int .i64 8)) c (.int .i64 8))) fun a=>e a d) (fun a f=>opt (pk b (.bool true) a) fun g=>rv [g] f R) d
def KP:=fun b g (R:VK) c (d:za)=>
 GD b false (fun h=>opt (nb [c,.int .i64 4] (ze zz .eql 3 (.tmp 6) (.const (.int .i64 4)) c (.int .i64 4))) fun a=>h a d) (fun a e=>opt (pk b (.bool true) a) fun f=>GD f false (fun i=>i g e) (KO f R) e) d
def EJ:=fun (h:za) a (R:VK)=>
 opt (nb [a,.int .i64 1] (ze zz .eql 3 (.tmp 3) (ci 1) a (.int .i64 1))) fun b=>GD b false (fun c=>c a h) (KP b a R) h
theorem C1 (hw:EJ h t0 R):DC zz 104 [t0] h R:=zL mixed (q:=qs) (n:=200) (Eq.mpr (by kernel_rfl) hw)
def qT:=fun a (c:za) (e:LK)=>
 opt (nb [a,.int .i64 5] (ze zz .eql 3 (.tmp 6) (.const (.int .i64 5)) a (.int .i64 5))) fun d=>CD d (fun b=>b [d] c)
 (fun b=>opt (nb [a,.int .i64 6] (ze zz .eql 3 (.tmp 6) (.const (.int .i64 6)) a (.int .i64 6))) fun f=>b [f] c)
 (fun g h=>e [nth g 0] h)
def uW:=fun a (b:za) (d:LK)=>
 opt (nb [a,.int .i64 4] (ze zz .eql 3 (.tmp 6) (.const (.int .i64 4)) a (.int .i64 4))) fun c=>CD c (fun e=>e [c] b)
 (qT a b)
 (fun f g=>d [nth f 0] g)
def KZ:=fun a (c:za) (e:LK)=>
 opt (nb [a,.int .i64 9] (ze zz .eql 3 (.tmp 6) (.const (.int .i64 9)) a (.int .i64 9))) fun d=>CD d (fun b=>b [d] c)
 (fun b=>opt (nb [a,.int .i64 13] (ze zz .eql 3 (.tmp 6) (.const (.int .i64 13)) a (.int .i64 13))) fun f=>b [f] c)
 (fun g h=>e [nth g 0] h)
def VZ:=fun a (b:za) (d:LK)=>
 opt (nb [a,.int .i64 8] (ze zz .eql 3 (.tmp 6) (.const (.int .i64 8)) a (.int .i64 8))) fun c=>CD c (fun e=>e [c] b)
 (KZ a b)
 (fun f g=>d [nth f 0] g)
def XF:=fun (R:VK) (d:LK) e (b:za)=>
 CD (nth e 0) (fun c=>rv [.bool false,.bool false,.bool true] b R)
 (fun c=>c [.bool false,.bool false,.bool false] b)
 (fun a f=>d [nth a 0,nth a 1,nth a 2] f)
def XG:=fun a (b:za) (R:VK) (d:LK)=>
 opt (nb [a,.int .i64 2] (ze zz .eql 3 (.tmp 6) (.const (.int .i64 2)) a (.int .i64 2))) fun c=>CD c (fun e=>e [c] b)
 (VZ a b)
 (XF R d)
def Zu:=fun (R:VK) c (d:LK) e (b:za)=>
 CD (nth e 0) (fun g=>rv [.bool true,.bool false,.bool false] b R)
 (XG c b R)
 (fun a f=>d [nth a 0,nth a 1,nth a 2] f)
def Zv:=fun a (c:za) (R:VK) (e:LK)=>
 opt (nb [a,.int .i64 11] (ze zz .eql 3 (.tmp 6) (.const (.int .i64 11)) a (.int .i64 11))) fun d=>CD d (fun b=>b [d] c)
 (fun b=>opt (nb [a,.int .i64 14] (ze zz .eql 3 (.tmp 6) (.const (.int .i64 14)) a (.int .i64 14))) fun f=>b [f] c)
 (Zu R a e)
def jD:=fun a (c:za) (R:VK) (d:LK)=>
 opt (nb [a,.int .i64 7] (ze zz .eql 3 (.tmp 6) (.const (.int .i64 7)) a (.int .i64 7))) fun e=>CD e (fun g=>rv [.bool true,.bool true,.bool false] c R)
 (Zv a c R)
 (fun b f=>d [nth b 0,nth b 1,nth b 2] f)
def vt:=fun (R:VK) c (d:LK) e (b:za)=>
 CD (nth e 0) (fun g=>rv [.bool true,.bool false,.bool true] b R)
 (jD c b R)
 (fun a f=>d [nth a 0,nth a 1,nth a 2] f)
def vu:=fun a (b:za) (R:VK) (d:LK)=>
 opt (nb [a,.int .i64 3] (ze zz .eql 3 (.tmp 6) (.const (.int .i64 3)) a (.int .i64 3))) fun c=>CD c (fun e=>e [c] b)
 (uW a b)
 (vt R a d)
def ET:=fun (h:za) a (R:VK)=>
 opt (nb [a] (some (Value.cells a).toList)) fun c=>nw h c 53 fun d b=>opt (zb zz 53 d 0) fun e=>opt (zd zz 3 e b) fun f=>BK (vu f b R)
 (fun i g=>rv [.bool false,.bool false,.bool false] g R)
theorem C8 (hw:ET h t0 R):DC zz 112 [t0] h R:=zL mixed (q:=qs) (n:=200) (Eq.mpr (by kernel_rfl) hw)
def Ux:=fun a (c:za) (e:LK)=>
 opt (nb [a,.int .i64 10] (ze zz .eql 3 (.tmp 4) (.const (.int .i64 10)) a (.int .i64 10))) fun d=>CD d (fun b=>b [d] c)
 (fun b=>opt (nb [a,.int .i64 13] (ze zz .eql 3 (.tmp 4) (.const (.int .i64 13)) a (.int .i64 13))) fun f=>b [f] c)
 (fun g h=>e [nth g 0] h)
def X3:=fun a (b:za) (d:LK)=>
 opt (nb [a,.int .i64 9] (ze zz .eql 3 (.tmp 4) (.const (.int .i64 9)) a (.int .i64 9))) fun c=>CD c (fun e=>e [c] b)
 (Ux a b)
 (fun f g=>d [nth f 0] g)
def Z3:=fun a (b:za) (d:LK)=>
 opt (nb [a,.int .i64 8] (ze zz .eql 3 (.tmp 4) (.const (.int .i64 8)) a (.int .i64 8))) fun c=>CD c (fun e=>e [c] b)
 (X3 a b)
 (fun f g=>d [nth f 0] g)
def j7:=fun a (b:za) (d:LK)=>
 opt (nb [a,.int .i64 6] (ze zz .eql 3 (.tmp 4) (.const (.int .i64 6)) a (.int .i64 6))) fun c=>CD c (fun e=>e [c] b)
 (Z3 a b)
 (fun f g=>d [nth f 0] g)
def kT:=fun a (b:za) (d:LK)=>
 opt (nb [a,.int .i64 5] (ze zz .eql 3 (.tmp 4) (.const (.int .i64 5)) a (.int .i64 5))) fun c=>CD c (fun e=>e [c] b)
 (j7 a b)
 (fun f g=>d [nth f 0] g)
def kd:=fun a (b:za) (d:LK)=>
 opt (nb [a,.int .i64 4] (ze zz .eql 3 (.tmp 4) (.const (.int .i64 4)) a (.int .i64 4))) fun c=>CD c (fun e=>e [c] b)
 (kT a b)
 (fun f g=>d [nth f 0] g)
def qu:=fun a (b:za) (d:LK)=>
 opt (nb [a,.int .i64 3] (ze zz .eql 3 (.tmp 4) (.const (.int .i64 3)) a (.int .i64 3))) fun c=>CD c (fun e=>e [c] b)
 (kd a b)
 (fun f g=>d [nth f 0] g)
def um:=fun c (R:VK) (d:LK) e (a:za)=>
 CD (nth e 0) (fun b=>opt (zb zz 53 c 4) fun f=>opt (zd zz 3 f a) fun g=>rv [g] a R)
 (fun b=>b [.int .i64 0] a)
 (fun h i=>d [nth h 0] i)
def uo:=fun a (b:za) d (R:VK) (e:LK)=>
 opt (nb [a,.int .i64 2] (ze zz .eql 3 (.tmp 4) (.const (.int .i64 2)) a (.int .i64 2))) fun c=>CD c (fun f=>f [c] b)
 (qu a b)
 (um d R e)
def AH:=fun (h:za) a (R:VK)=>
 opt (nb [a] (some (Value.cells a).toList)) fun d=>nw h d 53 fun b c=>opt (zb zz 53 b 0) fun e=>opt (zd zz 3 e c) fun f=>BK (uo f c b R)
 (fun i g=>rv [.int .i64 (-1)] g R)
theorem AI (hw:AH h t0 R):DC zz 54 [t0] h R:=zL mixed (q:=qs) (n:=200) (Eq.mpr (by kernel_rfl) hw)
def oK:=fun d (a:za) (e:LK)=>
 opt (zb zz 53 d 2) fun f=>opt (zd zz 3 f a) fun b=>zV (nb [b] (zO zz 22 1 [(0,b)] a)) fun c g=>zV (nb [.slice none 0 0,c] (zg zz .append [22,22] 22 [.slice none 0 0,c] g)) fun h i=>e [h] i
def oL:=fun e (a:za) b (f:LK)=>
 opt (zb zz 53 e 3) fun g=>opt (zd zz 3 g a) fun c=>zV (nb [c] (zO zz 22 1 [(0,c)] a)) fun d h=>zV (nb [nth b 0,d] (zg zz .append [22,22] 22 [nth b 0,d] h)) fun i j=>f [i] j
def oM:=fun d (a:za) b (e:LK)=>
 opt (zb zz 53 d 6) fun f=>opt (zd zz 22 f a) fun c=>zV (nb [nth b 0,c] (zg zz .append [22,22] 22 [nth b 0,c] a)) fun g h=>e [g] h
def KW:=fun b (R:VK) c (a:za)=>
 opt (zb zz 53 b 0) fun e=>opt (zd zz 3 e a) fun d=>opt (nb [d,.int .i64 10] (ze zz .eql 3 (.tmp 80) (.const (.int .i64 10)) d (.int .i64 10))) fun f=>CD f (oM b a c)
 (fun g=>g [nth c 0] a)
 (fun h i=>rv [nth h 0] i R)
def KX:=fun b c d (R:VK) e (f:za)=>
 GD b true (fun h=>opt (nb [e,.int .i64 (-1)] (ze zz .neq 3 (.tmp 71) (.const (.int .i64 (-1))) e (.int .i64 (-1)))) fun a=>h a f) (fun a g=>opt (pk b a (.bool false)) fun i=>CD i (oL c g d)
 (fun j=>j [nth d 0] g)
 (KW c R)) f
def VW:=fun a d (R:VK) f (e:za)=>
 GD a true (fun g=>opt (zb zz 53 d 3) fun b=>g b e) (fun b c=>GD a true (fun h=>opt (zd zz 3 b c) fun i=>h i c) (KX a d f R) c) e
def VX:=fun b c g (R:VK) d (e:za)=>
 GD b true (fun h=>opt (nb [d,.int .i64 (-1)] (ze zz .neq 3 (.tmp 60) (.const (.int .i64 (-1))) d (.int .i64 (-1)))) fun a=>h a e) (fun a f=>opt (pk b a (.bool false)) fun i=>CD i (oK c f)
 (fun j=>j [.slice none 0 0] f)
 (VW g c R)) e
def ku:=fun f a d (R:VK) g (e:za)=>
 opt (pk f (.bool true) g) fun h=>GD a true (fun i=>opt (zb zz 53 d 2) fun b=>i b e) (fun b c=>GD a true (fun j=>opt (zd zz 3 b c) fun k=>j k c) (VX a d h R) c) e
def kx:=fun a d e (R:VK) b (c:za)=>
 GD a false (fun f=>opt (nb [b,.int .i64 11] (ze zz .eql 3 (.tmp 54) (.const (.int .i64 11)) b (.int .i64 11))) fun g=>f g c) (ku a d e R) c
def qw:=fun f d g (R:VK) h (e:za)=>
 opt (pk f (.bool true) h) fun a=>GD a false (fun i=>opt (zb zz 53 d 0) fun b=>i b e) (fun b c=>GD a false (fun j=>opt (zd zz 3 b c) fun k=>j k c) (kx a g d R) c) e
def qx:=fun a d e (R:VK) b (c:za)=>
 GD a false (fun f=>opt (nb [b,.int .i64 7] (ze zz .eql 3 (.tmp 49) (.const (.int .i64 7)) b (.int .i64 7))) fun g=>f g c) (qw a d e R) c
def qy:=fun g a (R:VK) h (b:za)=>
 opt (pk g (.bool true) h) fun i=>opt (zb zz 53 a 0) fun j=>opt (zd zz 3 j b) fun f=>opt (nb [f,.int .i64 5] (ze zz .eql 3 (.tmp 45) (.const (.int .i64 5)) f (.int .i64 5))) fun c=>GD c false (fun k=>opt (zb zz 53 a 0) fun d=>k d b) (fun d e=>GD c false (fun l=>opt (zd zz 3 d e) fun m=>l m e) (qx c a i R) e) b
def qz:=fun a d (R:VK) b (c:za)=>
 GD a false (fun e=>opt (nb [b,.int .i64 14] (ze zz .eql 3 (.tmp 41) (.const (.int .i64 14)) b (.int .i64 14))) fun f=>e f c) (qy a d R) c
def qA:=fun f d (R:VK) g (e:za)=>
 opt (pk f (.bool true) g) fun a=>GD a false (fun h=>opt (zb zz 53 d 0) fun b=>h b e) (fun b c=>GD a false (fun i=>opt (zd zz 3 b c) fun j=>i j c) (qz a d R) c) e
def qB:=fun a d (R:VK) b (c:za)=>
 GD a false (fun e=>opt (nb [b,.int .i64 12] (ze zz .eql 3 (.tmp 36) (.const (.int .i64 12)) b (.int .i64 12))) fun f=>e f c) (qA a d R) c
def qC:=fun f d (R:VK) g (e:za)=>
 opt (pk f (.bool true) g) fun a=>GD a false (fun h=>opt (zb zz 53 d 0) fun b=>h b e) (fun b c=>GD a false (fun i=>opt (zd zz 3 b c) fun j=>i j c) (qB a d R) c) e
def qD:=fun a d (R:VK) b (c:za)=>
 GD a false (fun e=>opt (nb [b,.int .i64 11] (ze zz .eql 3 (.tmp 31) (.const (.int .i64 11)) b (.int .i64 11))) fun f=>e f c) (qC a d R) c
def qE:=fun f d (R:VK) g (e:za)=>
 opt (pk f (.bool true) g) fun a=>GD a false (fun h=>opt (zb zz 53 d 0) fun b=>h b e) (fun b c=>GD a false (fun i=>opt (zd zz 3 b c) fun j=>i j c) (qD a d R) c) e
def qF:=fun a d (R:VK) b (c:za)=>
 GD a false (fun e=>opt (nb [b,.int .i64 7] (ze zz .eql 3 (.tmp 26) (.const (.int .i64 7)) b (.int .i64 7))) fun f=>e f c) (qE a d R) c
def qG:=fun f d (R:VK) g (e:za)=>
 opt (pk f (.bool true) g) fun a=>GD a false (fun h=>opt (zb zz 53 d 0) fun b=>h b e) (fun b c=>GD a false (fun i=>opt (zd zz 3 b c) fun j=>i j c) (qF a d R) c) e
def qH:=fun a d (R:VK) b (c:za)=>
 GD a false (fun e=>opt (nb [b,.int .i64 6] (ze zz .eql 3 (.tmp 21) (.const (.int .i64 6)) b (.int .i64 6))) fun f=>e f c) (qG a d R) c
def qI:=fun f d (R:VK) g (e:za)=>
 opt (pk f (.bool true) g) fun a=>GD a false (fun h=>opt (zb zz 53 d 0) fun b=>h b e) (fun b c=>GD a false (fun i=>opt (zd zz 3 b c) fun j=>i j c) (qH a d R) c) e
def qJ:=fun a d (R:VK) b (c:za)=>
 GD a false (fun e=>opt (nb [b,.int .i64 5] (ze zz .eql 3 (.tmp 16) (.const (.int .i64 5)) b (.int .i64 5))) fun f=>e f c) (qI a d R) c
def qK:=fun f d (R:VK) g (e:za)=>
 opt (pk f (.bool true) g) fun a=>GD a false (fun h=>opt (zb zz 53 d 0) fun b=>h b e) (fun b c=>GD a false (fun i=>opt (zd zz 3 b c) fun j=>i j c) (qJ a d R) c) e
def qL:=fun a d (R:VK) b (c:za)=>
 GD a false (fun e=>opt (nb [b,.int .i64 4] (ze zz .eql 3 (.tmp 11) (.const (.int .i64 4)) b (.int .i64 4))) fun f=>e f c) (qK a d R) c
def EL:=fun (h:za) f (R:VK)=>
 opt (nb [f] (some (Value.cells f).toList)) fun i=>nw h i 53 fun a b=>opt (zb zz 53 a 0) fun j=>opt (zd zz 3 j b) fun g=>opt (nb [g,.int .i64 3] (ze zz .eql 3 (.tmp 7) (.const (.int .i64 3)) g (.int .i64 3))) fun c=>GD c false (fun k=>opt (zb zz 53 a 0) fun d=>k d b) (fun d e=>GD c false (fun l=>opt (zd zz 3 d e) fun m=>l m e) (qL c a R) e) b
theorem C3 (hw:EL h t0 R):DC zz 53 [t0] h R:=zL mixed (q:=qs) (n:=200) (Eq.mpr (by kernel_rfl) hw)
def ld:=fun b (a:za) (R:VK) (i:LK)=>
 opt (zb zz 53 b 7) fun e=>opt (zd zz 3 e a) fun c=>opt (zb zz 53 b 8) fun f=>opt (zd zz 3 f a) fun d=>zV (nb [c,d] (zO zz 22 2 [(0,c),(1,d)] a)) fun g h=>rv [g] h R
def JP:=fun a c (b:za) (R:VK) (d:LK)=>
 opt (nb [a,.int .i64 11] (ze zz .eql 3 (.tmp 4) (.const (.int .i64 11)) a (.int .i64 11))) fun e=>CD e (ld c b R)
 (fun f=>f [.slice none 0 0] b)
 (fun g h=>d [nth g 0] h)
def UN:=fun a (b:za) (R:VK) c (d:LK)=>
 opt (nb [a,.int .i64 12] (ze zz .eql 3 (.tmp 4) (.const (.int .i64 12)) a (.int .i64 12))) fun e=>CD e (fun h=>rv [.slice none 0 0] b R)
 (JP a c b R)
 (fun f g=>d [nth f 0] g)
def lf:=fun c (R:VK) (g:List Value) (a:za)=>
 opt (zb zz 53 c 7) fun d=>opt (zd zz 3 d a) fun b=>zV (nb [b] (zO zz 22 1 [(0,b)] a)) fun e f=>rv [e] f R
def AQ:=fun (h:za) b (R:VK)=>
 opt (nb [b] (some (Value.cells b).toList)) fun d=>nw h d 53 fun a c=>opt (zb zz 53 a 0) fun e=>opt (zd zz 3 e c) fun f=>BK (UN f c R a)
 (lf a R)
theorem AR (hw:AQ h t0 R):DC zz 113 [t0] h R:=zL mixed (q:=qs) (n:=200) (Eq.mpr (by kernel_rfl) hw)
def WC:=fun a (c:za) (e:LK)=>
 opt (nb [a,.int .i64 13] (ze zz .eql 3 (.tmp 4) (.const (.int .i64 13)) a (.int .i64 13))) fun d=>CD d (fun b=>b [d] c)
 (fun b=>opt (nb [a,.int .i64 10] (ze zz .eql 3 (.tmp 4) (.const (.int .i64 10)) a (.int .i64 10))) fun f=>b [f] c)
 (fun g h=>e [nth g 0] h)
def YU:=fun a (b:za) (d:LK)=>
 opt (nb [a,.int .i64 9] (ze zz .eql 3 (.tmp 4) (.const (.int .i64 9)) a (.int .i64 9))) fun c=>CD c (fun e=>e [c] b)
 (WC a b)
 (fun f g=>d [nth f 0] g)
def Zk:=fun a (b:za) (d:LK)=>
 opt (nb [a,.int .i64 8] (ze zz .eql 3 (.tmp 4) (.const (.int .i64 8)) a (.int .i64 8))) fun c=>CD c (fun e=>e [c] b)
 (YU a b)
 (fun f g=>d [nth f 0] g)
def kP:=fun a (b:za) (d:LK)=>
 opt (nb [a,.int .i64 6] (ze zz .eql 3 (.tmp 4) (.const (.int .i64 6)) a (.int .i64 6))) fun c=>CD c (fun e=>e [c] b)
 (Zk a b)
 (fun f g=>d [nth f 0] g)
def qZ:=fun a (b:za) (d:LK)=>
 opt (nb [a,.int .i64 5] (ze zz .eql 3 (.tmp 4) (.const (.int .i64 5)) a (.int .i64 5))) fun c=>CD c (fun e=>e [c] b)
 (kP a b)
 (fun f g=>d [nth f 0] g)
def u3:=fun a (b:za) (d:LK)=>
 opt (nb [a,.int .i64 4] (ze zz .eql 3 (.tmp 4) (.const (.int .i64 4)) a (.int .i64 4))) fun c=>CD c (fun e=>e [c] b)
 (qZ a b)
 (fun f g=>d [nth f 0] g)
def uc:=fun a (b:za) (d:LK)=>
 opt (nb [a,.int .i64 3] (ze zz .eql 3 (.tmp 4) (.const (.int .i64 3)) a (.int .i64 3))) fun c=>CD c (fun e=>e [c] b)
 (u3 a b)
 (fun f g=>d [nth f 0] g)
def vF:=fun c (R:VK) (d:LK) e (a:za)=>
 CD (nth e 0) (fun b=>opt (zb zz 53 c 4) fun f=>opt (zd zz 3 f a) fun g=>rv [g] a R)
 (fun b=>b [.int .i64 0] a)
 (fun h i=>d [nth h 0] i)
def vG:=fun a (b:za) d (R:VK) (e:LK)=>
 opt (nb [a,.int .i64 2] (ze zz .eql 3 (.tmp 4) (.const (.int .i64 2)) a (.int .i64 2))) fun c=>CD c (fun f=>f [c] b)
 (uc a b)
 (vF d R e)
def od:=fun (h:za) a (R:VK)=>
 opt (nb [a] (some (Value.cells a).toList)) fun d=>nw h d 53 fun b c=>opt (zb zz 53 b 0) fun e=>opt (zd zz 3 e c) fun f=>BK (vG f c b R)
 (fun i g=>rv [.int .i64 (-1)] g R)
theorem sy (hw:od h t0 R):DC zz 91 [t0] h R:=zL mixed (q:=qs) (n:=200) (Eq.mpr (by kernel_rfl) hw)
theorem wj (b off:Nat) (h:za):zd Tryz.prog 2 (.pointer (some ⟨b,off,none⟩)) h=zC h b off:=yd (by kernel_rfl) b off h
theorem xr (b off:Nat) (h:za):zd Tryz.prog 22 (.pointer (some ⟨b,off,none⟩)) h=zC h b off:=yd (by kernel_rfl) b off h
theorem vA (b off:Nat) (h:za):zd Tryz.prog 23 (.pointer (some ⟨b,off,none⟩)) h=zC h b off:=yd (by kernel_rfl) b off h
theorem ZX (b off:Nat) (h:za):zd Tryz.prog 25 (.pointer (some ⟨b,off,none⟩)) h=zZ h b off 3:=vh (by kernel_rfl) (by kernel_rfl) b off h
theorem zj (b off:Nat) (h:za):zd Tryz.prog 3 (.pointer (some ⟨b,off,none⟩)) h=zC h b off:=yd (by kernel_rfl) b off h
theorem Yv (b off:Nat) (h:za):zd Tryz.prog 4 (.pointer (some ⟨b,off,none⟩)) h=zC h b off:=yd (by kernel_rfl) b off h
theorem vK (b off:Nat) (h:za):zd Tryz.prog 43 (.pointer (some ⟨b,off,none⟩)) h=zC h b off:=yd (by kernel_rfl) b off h
theorem Qq (b off:Nat) (h:za):zd Tryz.prog 45 (.pointer (some ⟨b,off,none⟩)) h=zZ h b off 6:=vh (by kernel_rfl) (by kernel_rfl) b off h
theorem ka (b off:Nat) (h:za):zd Tryz.prog 53 (.pointer (some ⟨b,off,none⟩)) h=zZ h b off 9:=vh (by kernel_rfl) (by kernel_rfl) b off h
theorem IV (r:TypeId) (v x:Value) (n:Nat) (new:List Value) (h:za) (h1:Zy x=some n) (h2:xA h n 1 x=some new) (h3:new.all cellOk=true) (h4:new.length=n * 1):zg Tryz.prog .append [22,22] r [v,x] h=Ze h 3 1 8 n new v:=kA (e:=3) (e2:=3) (by kernel_rfl) (by kernel_rfl) (by kernel_rfl) (by kernel_rfl) (by decide) h1 h2 h3 h4
theorem RH (r:TypeId) (v x:Value) (n:Nat) (new:List Value) (h:za) (h1:Zy x=some n) (h2:xA h n 6 x=some new) (h3:new.all cellOk=true) (h4:new.length=n * 6):zg Tryz.prog .append [23,23] r [v,x] h=Ze h 45 6 88 n new v:=kA (e:=45) (e2:=45) (by kernel_rfl) (by kernel_rfl) (by kernel_rfl) (by kernel_rfl) (by decide) h1 h2 h3 h4
theorem RN (r:TypeId) (v x:Value) (n:Nat) (new:List Value) (h:za) (h1:Zy x=some n) (h2:xA h n 9 x=some new) (h3:new.all cellOk=true) (h4:new.length=n * 9):zg Tryz.prog .append [43,43] r [v,x] h=Ze h 53 9 88 n new v:=kA (e:=53) (e2:=53) (by kernel_rfl) (by kernel_rfl) (by kernel_rfl) (by kernel_rfl) (by decide) h1 h2 h3 h4
theorem E7 (b off:Nat) (v:Option Addr) (vl vc:Nat) (h:za):zh Tryz.prog 22 (.pointer (some ⟨b,off,none⟩)) (.slice v vl vc) h=yU h b off [(.slice v vl vc)]:=xI (by kernel_rfl) b off _ h rfl
theorem RS (b off:Nat) (v:Option Addr) (vl vc:Nat) (h:za):zh Tryz.prog 23 (.pointer (some ⟨b,off,none⟩)) (.slice v vl vc) h=yU h b off [(.slice v vl vc)]:=xI (by kernel_rfl) b off _ h rfl
theorem E8 (b off:Nat) (l:List Value) (h:za) (hv:l.length=3):zh Tryz.prog 25 (.pointer (some ⟨b,off,none⟩)) (.agg l.toArray) h=yU h b off l:=vw (by kernel_rfl) b off l h hv
theorem Yx (b off:Nat) (v:Bool) (h:za):zh Tryz.prog 4 (.pointer (some ⟨b,off,none⟩)) (.bool v) h=yU h b off [(.bool v)]:=xI (by kernel_rfl) b off _ h rfl
theorem I7 (b off:Nat) (v:Option Addr) (vl vc:Nat) (h:za):zh Tryz.prog 43 (.pointer (some ⟨b,off,none⟩)) (.slice v vl vc) h=yU h b off [(.slice v vl vc)]:=xI (by kernel_rfl) b off _ h rfl
theorem lZ (b off:Nat) (l:List Value) (h:za) (hv:l.length=6):zh Tryz.prog 45 (.pointer (some ⟨b,off,none⟩)) (.agg l.toArray) h=yU h b off l:=vw (by kernel_rfl) b off l h hv
theorem gH (b off:Nat) (l:List Value) (h:za) (hv:l.length=9):zh Tryz.prog 53 (.pointer (some ⟨b,off,none⟩)) (.agg l.toArray) h=yU h b off l:=vw (by kernel_rfl) b off l h hv
theorem Fa:yV Tryz.prog 25=some (.agg #[(.slice none 0 0),(.slice none 0 0),(.int .i64 0)]):=zB (by kernel_rfl)
theorem GS:yV Tryz.prog 4=some (.bool false):=zB (by kernel_rfl)
theorem gJ:yV Tryz.prog 45=some (.agg #[(.string ⟨#[]⟩),(.slice none 0 0),(.int .i64 0),(.int .i64 0),(.int .i64 0),(.slice none 0 0)]):=zB (by kernel_rfl)
theorem cE:yV Tryz.prog 53=some (.agg #[(.int .i64 0),(.int .i64 0),(.int .i64 0),(.int .i64 0),(.int .i64 0),(.int .i64 0),(.slice none 0 0),(.int .i64 0),(.int .i64 0)]):=zB (by kernel_rfl)
theorem GW (v0:Option Addr) (v0l v0c:Nat) (v2:Int):yg Tryz.prog 25 [(0,(.slice v0 v0l v0c)),(2,(.int .i64 v2))]=some (.agg #[(.slice v0 v0l v0c),(.slice none 0 0),(.int .i64 v2)]):=zB (by kernel_rfl)
theorem mc (h:za):zO Tryz.prog 22 0 [] h=some (.slice (some ⟨h.next,0,none⟩) 0 2,h.push (.cells [] 3)):=zB (by kernel_rfl)
theorem V8 (v0:Int) (h:za):zO Tryz.prog 22 1 [(0,(.int .i64 v0))] h=some (.slice (some ⟨h.next,0,none⟩) 1 3,h.push (.cells [(.int .i64 v0)] 3)):=zB (by kernel_rfl)
theorem Bw (v0:Int) (v1:Int) (h:za):zO Tryz.prog 22 2 [(0,(.int .i64 v0)),(1,(.int .i64 v1))] h=some (.slice (some ⟨h.next,0,none⟩) 2 4,h.push (.cells [(.int .i64 v0),(.int .i64 v1)] 3)):=zB (by kernel_rfl)
theorem eN (v00:ByteArray) (v01:Option Addr) (v01l v01c:Nat) (v02:Int) (v03:Int) (v04:Int) (v05:Option Addr) (v05l v05c:Nat) (h:za):zO Tryz.prog 23 1 [(0,(.agg #[(.string v00),(.slice v01 v01l v01c),(.int .i64 v02),(.int .i64 v03),(.int .i64 v04),(.slice v05 v05l v05c)]))] h=some (.slice (some ⟨h.next,0,none⟩) 1 3,h.push (.cells [(.string v00),(.slice v01 v01l v01c),(.int .i64 v02),(.int .i64 v03),(.int .i64 v04),(.slice v05 v05l v05c)] 45)):=zB (by kernel_rfl)
theorem Lh (h:za):zO Tryz.prog 43 0 [] h=some (.slice (some ⟨h.next,0,none⟩) 0 2,h.push (.cells [] 53)):=zB (by kernel_rfl)
theorem xM (b off:Nat):zb Tryz.prog 25 (.pointer (some ⟨b,off,none⟩)) 0=some (.pointer (some ⟨b,off,none⟩)):=zB (by kernel_rfl)
theorem y8 (b off:Nat):zb Tryz.prog 25 (.pointer (some ⟨b,off,none⟩)) 1=some (.pointer (some ⟨b,off + 1,none⟩)):=zB (by kernel_rfl)
theorem Xw (b off:Nat):zb Tryz.prog 25 (.pointer (some ⟨b,off,none⟩)) 2=some (.pointer (some ⟨b,off + 2,none⟩)):=zB (by kernel_rfl)
theorem uK (b off:Nat):zb Tryz.prog 45 (.pointer (some ⟨b,off,none⟩)) 1=some (.pointer (some ⟨b,off + 1,none⟩)):=zB (by kernel_rfl)
theorem wF (b off:Nat):zb Tryz.prog 45 (.pointer (some ⟨b,off,none⟩)) 2=some (.pointer (some ⟨b,off + 2,none⟩)):=zB (by kernel_rfl)
theorem kH (b off:Nat):zb Tryz.prog 45 (.pointer (some ⟨b,off,none⟩)) 3=some (.pointer (some ⟨b,off + 3,none⟩)):=zB (by kernel_rfl)
theorem ZK (b off:Nat):zb Tryz.prog 45 (.pointer (some ⟨b,off,none⟩)) 4=some (.pointer (some ⟨b,off + 4,none⟩)):=zB (by kernel_rfl)
theorem y9 (b off:Nat):zb Tryz.prog 45 (.pointer (some ⟨b,off,none⟩)) 5=some (.pointer (some ⟨b,off + 5,none⟩)):=zB (by kernel_rfl)
theorem zq (b off:Nat):zb Tryz.prog 53 (.pointer (some ⟨b,off,none⟩)) 0=some (.pointer (some ⟨b,off,none⟩)):=zB (by kernel_rfl)
theorem zW (b off:Nat):zb Tryz.prog 53 (.pointer (some ⟨b,off,none⟩)) 1=some (.pointer (some ⟨b,off + 1,none⟩)):=zB (by kernel_rfl)
theorem xe (b off:Nat):zb Tryz.prog 53 (.pointer (some ⟨b,off,none⟩)) 2=some (.pointer (some ⟨b,off + 2,none⟩)):=zB (by kernel_rfl)
theorem vC (b off:Nat):zb Tryz.prog 53 (.pointer (some ⟨b,off,none⟩)) 3=some (.pointer (some ⟨b,off + 3,none⟩)):=zB (by kernel_rfl)
theorem xj (b off:Nat):zb Tryz.prog 53 (.pointer (some ⟨b,off,none⟩)) 4=some (.pointer (some ⟨b,off + 4,none⟩)):=zB (by kernel_rfl)
theorem vo (b off:Nat):zb Tryz.prog 53 (.pointer (some ⟨b,off,none⟩)) 5=some (.pointer (some ⟨b,off + 5,none⟩)):=zB (by kernel_rfl)
theorem uL (b off:Nat):zb Tryz.prog 53 (.pointer (some ⟨b,off,none⟩)) 6=some (.pointer (some ⟨b,off + 6,none⟩)):=zB (by kernel_rfl)
theorem kI (b off:Nat):zb Tryz.prog 53 (.pointer (some ⟨b,off,none⟩)) 7=some (.pointer (some ⟨b,off + 7,none⟩)):=zB (by kernel_rfl)
theorem YM (b off:Nat):zb Tryz.prog 53 (.pointer (some ⟨b,off,none⟩)) 8=some (.pointer (some ⟨b,off + 8,none⟩)):=zB (by kernel_rfl)
theorem LX (b off len c:Nat) (k:IntKind) (i:Int):zw Tryz.prog 128 (.slice (some ⟨b,off,none⟩) len c) (.int k i)=if 0<=i/\i < len then some (.pointer (some ⟨b,off + i.toNat * 1,none⟩)) else none:=y4 (e:=4) (by kernel_rfl) (by kernel_rfl)
theorem mP (b off len c:Nat) (k:IntKind) (i:Int):zw Tryz.prog 22 (.slice (some ⟨b,off,none⟩) len c) (.int k i)=if 0<=i/\i < len then some (.pointer (some ⟨b,off + i.toNat * 1,none⟩)) else none:=y4 (e:=3) (by kernel_rfl) (by kernel_rfl)
theorem Fs (b off len c:Nat) (k:IntKind) (i:Int):zw Tryz.prog 23 (.slice (some ⟨b,off,none⟩) len c) (.int k i)=if 0<=i/\i < len then some (.pointer (some ⟨b,off + i.toNat * 6,none⟩)) else none:=y4 (e:=45) (by kernel_rfl) (by kernel_rfl)
theorem rM (b off len c:Nat) (k:IntKind) (i:Int):zw Tryz.prog 43 (.slice (some ⟨b,off,none⟩) len c) (.int k i)=if 0<=i/\i < len then some (.pointer (some ⟨b,off + i.toNat * 9,none⟩)) else none:=y4 (e:=53) (by kernel_rfl) (by kernel_rfl)
theorem Kr (r:TypeId) (a:Option Addr) (n c:Nat) (h:za):zg Tryz.prog .len [22] r [.slice a n c] h=some (.int .i64 n,h):=zB (by kernel_rfl)
theorem DS (r:TypeId) (a:Option Addr) (n c:Nat) (h:za):zg Tryz.prog .len [23] r [.slice a n c] h=some (.int .i64 n,h):=zB (by kernel_rfl)
theorem tJ (r:TypeId) (a:Option Addr) (n c:Nat) (h:za):zg Tryz.prog .len [43] r [.slice a n c] h=some (.int .i64 n,h):=zB (by kernel_rfl)
theorem Pv (k k2:IntKind) (l c:Int) (h:za) (h0:0<=l) (h1:l<=c) (h2:c < 2 ^ 31):ZY Tryz.prog 128 (.int k l) (.int k2 c) h=some (.slice (some ⟨h.next,0,none⟩) l.toNat (c.toNat + 2),h.push (.cells (uJ [(.bool false)] (c.toNat * 1)) 4)):=lX (e:=4) (z:=(.bool false)) (n:=1) (bytes:=1) (by kernel_rfl) (by kernel_rfl) (by kernel_rfl) rfl (by decide) (by decide) rfl h0 h1 h2
def qO (b:Bool) (v:Value) (_:za):Prop:=v = .bool b
def SQ (n:Int) (v:Value) (_:za):Prop:=v = .int .i64 n
theorem ki {f:FuncId} {args:List Value} {h:za} {b:Bool} (d:DC Tryz.prog f args h.lock (qO b)):xx Tryz.prog f args h (.bool b):=xx.of rfl d
theorem FC {f:FuncId} {args:List Value} {h:za} {n:Int} (d:DC Tryz.prog f args h.lock (SQ n)):xx Tryz.prog f args h (.int .i64 n):=xx.of rfl d
def yp (n m:Int):Bool:=decide (0<=n) && decide (n < m)
theorem Xf (n m:Int) (h:za):xx Tryz.prog 31 [.int .i64 n,.int .i64 m] h (.bool (yp n m)):=by
 apply ki
 apply Ba
 unfold A9 yp
 by_cases h0:0<=n
 ·simp -implicitDefEqProofs only [EE,J0,h0]
  simp [qO]
 ·simp -implicitDefEqProofs only [EE,J0,h0]
  simp [qO]
def rY (n:Int):Bool:=decide (11<=n) && decide (n<=26)
theorem PD (n:Int) (h:za):xx Tryz.prog 102 [.int .i64 n] h (.bool (rY n)):=by
 apply ki
 apply lr
 unfold fT rY
 by_cases h0:11<=n
 ·simp -implicitDefEqProofs only [EE,Vv,h0]
  simp [qO]
 ·simp -implicitDefEqProofs only [EE,Vv,h0]
  simp [qO]
def Kf (n:Int):Bool:=decide (n=1) || (decide (n=4) || decide (n=8))
theorem Nk (n:Int) (h:za):xx Tryz.prog 104 [.int .i64 n] h (.bool (Kf n)):=by
 apply ki
 apply C1
 unfold EJ Kf
 by_cases h1:n=1
 ·subst h1;simp -implicitDefEqProofs only [EE,Int.reduceEq,KO,KP];rfl
 by_cases h4:n=4
 ·subst h4;simp -implicitDefEqProofs only [EE,Int.reduceEq,KO,KP];rfl
 simp -implicitDefEqProofs only [EE,KO,KP,h1,h4]
 simp [qO]
def mC (n:Int):Bool:=decide (21<=n) && decide (n<=26)
theorem Ns (n:Int) (h:za):DC Tryz.prog 103 [.int .i64 n] h (fun v h1=>(∃ a,v = .tuple #[.int .i64 a,.bool (mC n)])/\h1=h):=by
 apply Gf
 unfold Ia
 by_cases h1:n=21
 ·subst h1;simp -implicitDefEqProofs only [EE,↓BK,YV];exact ⟨_,rfl⟩
 by_cases h2:n=22
 ·subst h2;simp -implicitDefEqProofs only [EE,↓BK,Int.reduceEq,XN,YV];exact ⟨_,rfl⟩
 by_cases h3:n=23
 ·subst h3;simp -implicitDefEqProofs only [EE,↓BK,Int.reduceEq,VM,XN,YV];exact ⟨_,rfl⟩
 by_cases h4:n=24
 ·subst h4;simp -implicitDefEqProofs only [EE,↓BK,Int.reduceEq,bC,QA,VM,XN,YV];exact ⟨_,rfl⟩
 by_cases h5:n=25
 ·subst h5;simp -implicitDefEqProofs only [EE,↓BK,Int.reduceEq,iT,bC,QA,VM,XN,YV];exact ⟨_,rfl⟩
 by_cases h6:n=26
 ·subst h6;simp -implicitDefEqProofs only [EE,↓BK,Int.reduceEq,QA,VM,XN,YV];exact ⟨_,rfl⟩
 have e:mC n=false:=by
  unfold mC
  by_cases a:21<=n
  ·have:¬ n<=26:=by omega
   simp [this]
  ·simp [a]
 simp -implicitDefEqProofs only [EE,↓BK,iT,bC,QA,VM,XN,YV,h1,h2,h3,h4,h5,h6]
 rw [e]
 exact ⟨_,rfl⟩
structure Old (h h':za):Prop where
 next:h.next<=h'.next
 ro:h'.ro=h.ro
 get:∀ b,b < h.next->h'.get b=h.get b
theorem Old.refl (h:za):Old h h:=⟨aah _,rfl,fun _ _=>rfl⟩
theorem Old.trans {a b c:za} (x:Old a b) (y:Old b c):Old a c:=⟨aaH x.next y.next,y.ro.trans x.ro,fun i hi=>(y.get i (aai hi x.next)).trans (x.get i hi)⟩
theorem Old.push (h:za) (o:xE):Old h (h.push o):=⟨abn _,rfl,fun b hb=>zt hb⟩
theorem Old.set {h h':za} (x:Old h h') {b:Nat} (hb:h.next<=b) (o:Option xE):Old h (h'.set b o):=⟨x.next,x.ro,fun c hc=>(zE (by omega)).trans (x.get c hc)⟩
end Go.Rtl
