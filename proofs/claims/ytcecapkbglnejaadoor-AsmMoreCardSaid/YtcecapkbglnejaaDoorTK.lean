/- A part of the proof. -/
import Derived.Test.YtcecapkbglnejaaDoorChecked
import Derived.KernelRfl
import Derived.Test.YtcecapkbglnejaaDoorTH
import Derived.Test.YtcecapkbglnejaaDoorTI
import Derived.Test.YtcecapkbglnejaaDoorTJ
set_option linter.unusedVariables false
set_option linter.unusedSimpArgs false
set_option maxRecDepth 100000
namespace Go.Am
open Go.Ai Go.Proofs
def qs:FuncId->Nat:=fun g=>[0].getD g 0
theorem mixed:Tryd.prog.follows .mixedOrders=true:=Checked.mixed Tryd.checked
def KN:=fun c (R:Value->za->Prop) d (e:List Value->za->Prop) f (a:za)=>
 opt (pk c f (.bool false)) fun g=>CD g (fun b=>rv [.bool false] a R)
 (fun b=>b [nth d 0] a)
 (fun h i=>e [nth h 0] i)
def KO:=fun a (R:Value->za->Prop) d (e:List Value->za->Prop) b (c:za)=>
 GD a true (fun f=>opt (nb [b,.int .i64 1024] (zf Tryd.prog .gtr 2 (.tmp 63) (.const (.int .i64 1024)) b (.int .i64 1024))) fun g=>f g c) (KN a R d e) c
def KP:=fun a (R:Value->za->Prop) e (f:List Value->za->Prop) g (d:za)=>
 GD a true (fun h=>opt (zb Tryd.prog 51 g 6) fun b=>h b d) (fun b c=>GD a true (fun i=>opt (zd Tryd.prog 2 b c) fun j=>i j c) (KO a R e f) c) d
def KQ:=fun a b (R:Value->za->Prop) (e:List Value->za->Prop) f (c:za)=>
 GD a true (fun g=>g (nth b 1) c) (fun h d=>GD a true (fun i=>opt (zA Tryd.prog 47 f h) fun j=>i j d) (KP a R b e) d) c
def KR:=fun a e (R:Value->za->Prop) (f:List Value->za->Prop) g (d:za)=>
 GD a true (fun h=>opt (zb Tryd.prog 49 g 1) fun b=>h b d) (fun b c=>GD a true (fun i=>opt (zd Tryd.prog 47 b c) fun j=>i j c) (KQ a e R f) c) d
def KS:=fun a d e (R:Value->za->Prop) (f:List Value->za->Prop) g (b:za)=>
 GD a true (fun h=>h (nth d 1) b) (fun i c=>GD a true (fun j=>opt (zA Tryd.prog 23 g i) fun k=>j k c) (KR a e R f) c) b
def KT:=fun e (a:za) f g (R:Value->za->Prop) (i:List Value->za->Prop)=>
 opt (zb Tryd.prog 25 e 1) fun j=>opt (zd Tryd.prog 23 j a) fun k=>opt (zA Tryd.prog 23 k (nth f 1)) fun l=>opt (zb Tryd.prog 49 l 1) fun m=>opt (zd Tryd.prog 47 m a) fun n=>opt (zA Tryd.prog 47 n (nth g 1)) fun o=>opt (zb Tryd.prog 51 o 0) fun p=>opt (zd Tryd.prog 3 p a) fun h=>opt (nb [h,.int .i64 23] (zf Tryd.prog .eql 3 (.tmp 51) (.const (.int .i64 23)) h (.int .i64 23))) fun b=>GD b true (fun q=>opt (zb Tryd.prog 25 e 1) fun c=>q c a) (fun c d=>GD b true (fun r=>opt (zd Tryd.prog 23 c d) fun s=>r s d) (KS b f g R i) d) a
def gC:=fun a (b:List Value->za->Prop) c (d:za)=>
 opt (nb [nth a 1,.int .i64 1] (zf Tryd.prog .add 3 (.tmp 40) (.const (.int .i64 1)) (nth a 1) (.int .i64 1))) fun e=>b [nth c 0,e] d
def rT:=fun c d (i:List Value->za->Prop) (R:Value->za->Prop) a (b:za) (j:List Value->za->Prop)=>
 opt (zb Tryd.prog 25 c 1) fun k=>opt (zd Tryd.prog 23 k b) fun l=>opt (zA Tryd.prog 23 l (nth d 1)) fun m=>opt (zb Tryd.prog 49 m 1) fun n=>opt (zd Tryd.prog 47 n b) fun e=>xA (nb [e] (zo Tryd.prog .len [47] 3 [e] b)) fun f g=>opt (nb [nth a 1,f] (zf Tryd.prog .lss 3 (.tmp 31) (.tmp 38) (nth a 1) f)) fun o=>CD o (fun h=>h [] g)
 (fun h=>i [nth a 0] g)
 (fun q p=>BK (KT c p d a R)
 (gC a j))
def JD:=fun c (a:za) b (R:Value->za->Prop) (h:List Value->za->Prop)=>
 opt (zb Tryd.prog 25 c 1) fun i=>opt (zd Tryd.prog 23 i a) fun j=>opt (zA Tryd.prog 23 j (nth b 1)) fun k=>opt (zb Tryd.prog 49 k 1) fun l=>opt (zd Tryd.prog 47 l a) fun d=>xA (nb [d] (zo Tryd.prog .len [47] 3 [d] a)) fun e f=>opt (nb [e,.int .i64 80] (zf Tryd.prog .gtr 3 (.tmp 29) (.const (.int .i64 80)) e (.int .i64 80))) fun m=>CD m (fun g=>rv [.bool false] f R)
 (fun g=>g [nth b 0] f)
 (fun n o=>BK (fun p=>LP (rT c b p R)
 [nth n 0,.int .i64 0] o)
 (fun q r=>h [nth q 0] r))
def lB:=fun a (b:List Value->za->Prop) c (d:za)=>
 opt (nb [nth a 1,.int .i64 1] (zf Tryd.prog .add 3 (.tmp 21) (.const (.int .i64 1)) (nth a 1) (.int .i64 1))) fun e=>b [nth c 0,e] d
def lC:=fun b (h:List Value->za->Prop) (R:Value->za->Prop) a (c:za) (i:List Value->za->Prop)=>
 opt (zb Tryd.prog 25 b 1) fun j=>opt (zd Tryd.prog 23 j c) fun d=>xA (nb [d] (zo Tryd.prog .len [23] 3 [d] c)) fun e f=>opt (nb [nth a 1,e] (zf Tryd.prog .lss 3 (.tmp 16) (.tmp 19) (nth a 1) e)) fun k=>CD k (fun g=>g [] f)
 (fun g=>h [nth a 0] f)
 (fun m l=>BK (JD b l a R)
 (lB a i))
def JE:=fun e (a:za) b (R:Value->za->Prop) (f:List Value->za->Prop)=>
 opt (zb Tryd.prog 25 e 0) fun g=>opt (zd Tryd.prog 22 g a) fun h=>opt (zA Tryd.prog 22 h (nth b 1)) fun i=>opt (zd Tryd.prog 3 i a) fun c=>opt (nb [c,.int .i64 1024] (zf Tryd.prog .gtr 3 (.tmp 77) (.const (.int .i64 1024)) c (.int .i64 1024))) fun j=>CD j (fun d=>rv [.bool false] a R)
 (fun d=>d [nth b 0] a)
 (fun k l=>f [nth k 0] l)
def lD:=fun a (b:List Value->za->Prop) c (d:za)=>
 opt (nb [nth a 1,.int .i64 1] (zf Tryd.prog .add 3 (.tmp 71) (.const (.int .i64 1)) (nth a 1) (.int .i64 1))) fun e=>b [nth c 0,e] d
def lE:=fun b (h:List Value->za->Prop) (R:Value->za->Prop) a (c:za) (i:List Value->za->Prop)=>
 opt (zb Tryd.prog 25 b 0) fun j=>opt (zd Tryd.prog 22 j c) fun d=>xA (nb [d] (zo Tryd.prog .len [22] 3 [d] c)) fun e f=>opt (nb [nth a 1,e] (zf Tryd.prog .lss 3 (.tmp 66) (.tmp 69) (nth a 1) e)) fun k=>CD k (fun g=>g [] f)
 (fun g=>h [nth a 0] f)
 (fun m l=>BK (JE b l a R)
 (lD a i))
def lF:=fun a (R:Value->za->Prop) b (c:za)=>
 BK (fun d=>LP (lC a d R)
 [nth b 0,.int .i64 0] c)
 (fun e f=>BK (fun g=>LP (lE a g R)
 [nth e 0,.int .i64 0] f)
 (fun i h=>rv [.bool true] h R))
def Ug:=fun b (R:Value->za->Prop) g c (d:za)=>
 GD b false (fun h=>opt (nb [c,.int .i64 8] (zf Tryd.prog .gtr 3 (.tmp 13) (.const (.int .i64 8)) c (.int .i64 8))) fun a=>h a d) (fun a e=>opt (pk b (.bool true) a) fun i=>CD i (fun f=>rv [.bool false] e R)
 (fun f=>f [.bool false] e)
 (lF g R)) d
def Uh:=fun b (R:Value->za->Prop) e f (c:za)=>
 GD b false (fun g=>opt (zd Tryd.prog 22 f c) fun a=>g a c) (fun a d=>GD b false (fun h=>xA (nb [a] (zo Tryd.prog .len [22] 3 [a] d)) fun i j=>h i j) (Ug b R e) d) c
def BH:=fun (h:za) b (R:Value->za->Prop)=>
 opt (nb [b] (some (Value.cells b).toList)) fun i=>nw h i 25 fun a c=>opt (zb Tryd.prog 25 a 1) fun j=>opt (zd Tryd.prog 23 j c) fun d=>xA (nb [d] (zo Tryd.prog .len [23] 3 [d] c)) fun e f=>opt (nb [e,.int .i64 8] (zf Tryd.prog .gtr 3 (.tmp 8) (.const (.int .i64 8)) e (.int .i64 8))) fun g=>GD g false (fun k=>opt (zb Tryd.prog 25 a 0) fun l=>k l f) (Uh g R a) f
theorem BI (h:za) (t0:Value) (R:Value->za->Prop):X2 Tryd.prog (vG Tryd.prog qs) 200 6 [t0] h R=BH h t0 R:=by kernel_rfl
theorem BJ {h:za} {t0:Value} {R:Value->za->Prop} (hw:BH h t0 R):DC Tryd.prog 6 [t0] h R:=xw mixed (n:=200) (by rw [BI];exact hw)
def Jd:=fun f b (a:za) g (R:Value->za->Prop) (h:List Value->za->Prop)=>
 opt (zA Tryd.prog 31 f (nth b 1)) fun i=>opt (zd Tryd.prog 69 i a) fun c=>opt (zA Tryd.prog 31 g (nth b 1)) fun j=>opt (zd Tryd.prog 69 j a) fun d=>opt (nb [c,d] (zf Tryd.prog .neq 69 (.tmp 32) (.tmp 36) c d)) fun k=>CD k (fun e=>rv [.bool false] a R)
 (fun e=>e [nth b 0] a)
 (fun l m=>h [nth l 0] m)
def Je:=fun a (b:List Value->za->Prop) c (d:za)=>
 opt (nb [nth a 1,.int .i64 1] (zf Tryd.prog .add 3 (.tmp 27) (.const (.int .i64 1)) (nth a 1) (.int .i64 1))) fun e=>b [nth c 0,e] d
def Jf:=fun b (f:List Value->za->Prop) g (R:Value->za->Prop) a (h:za) (i:List Value->za->Prop)=>
 xA (nb [b] (zo Tryd.prog .len [31] 3 [b] h)) fun c d=>opt (nb [nth a 1,c] (zf Tryd.prog .lss 3 (.tmp 23) (.tmp 25) (nth a 1) c)) fun j=>CD j (fun e=>e [] d)
 (fun e=>f [nth a 0] d)
 (fun l k=>BK (Jd b a k g R)
 (Je a i))
def Vp:=fun c (R:Value->za->Prop) d e f (a:za)=>
 opt (pk c (.bool true) f) fun g=>CD g (fun b=>rv [.bool false] a R)
 (fun b=>b [.bool false] a)
 (fun h i=>BK (fun j=>LP (Jf d j e R)
 [nth h 0,.int .i64 0] i)
 (fun l k=>rv [.bool true] k R))
def Vq:=fun b c d (R:Value->za->Prop) h i e (f:za)=>
 GD b true (fun j=>opt (nb [c,e] (zf Tryd.prog .neq 3 (.tmp 17) (.tmp 19) c e)) fun a=>j a f) (fun a g=>GD d false (fun k=>opt (pk b a (.bool false)) fun l=>k l g) (Vp d R h i) g) f
def Vr:=fun a b f (R:Value->za->Prop) g h (c:za)=>
 GD a true (fun i=>i b c) (fun d e=>GD a true (fun j=>xA (nb [d] (zo Tryd.prog .len [31] 3 [d] e)) fun k l=>j k l) (Vq a h f R g b) e) c
def Vs:=fun b f g (R:Value->za->Prop) a (c:za)=>
 GD a true (fun h=>h b c) (fun d e=>GD a true (fun i=>xA (nb [d] (zo Tryd.prog .len [31] 3 [d] e)) fun j k=>i j k) (Vr a f g R b) e) c
def Jc:=fun (h:za) a b i (R:Value->za->Prop)=>
 xA (nb [a] (zo Tryd.prog .len [31] 3 [a] h)) fun d j=>xA (nb [b] (zo Tryd.prog .len [31] 3 [b] j)) fun e f=>opt (nb [d,e] (zf Tryd.prog .gtr 3 (.tmp 9) (.tmp 11) d e)) fun c=>GD c false (fun k=>k i f) (fun l g=>GD c false (fun m=>m l g) (Vs a b c R) g) f
theorem iY (h:za) (t0 t1 t2:Value) (R:Value->za->Prop):X2 Tryd.prog (vG Tryd.prog qs) 200 13 [t0,t1,t2] h R=Jc h t0 t1 t2 R:=by kernel_rfl
theorem iZ {h:za} {t0 t1 t2:Value} {R:Value->za->Prop} (hw:Jc h t0 t1 t2 R):DC Tryd.prog 13 [t0,t1,t2] h R:=xw mixed (n:=200) (by rw [iY];exact hw)
def lh:=fun b d (R:Value->za->Prop) e (c:za)=>
 GD b true (fun f=>zR Tryd.prog (.func (.func 13) #[] #[]) [d,e,.bool true] c (fun a g=>f a g)) (fun a h=>opt (pk b a (.bool false)) fun i=>rv [i] h R) c
def lj:=fun a e (R:Value->za->Prop) f (d:za)=>
 GD a true (fun g=>opt (zb Tryd.prog 34 e 2) fun b=>g b d) (fun b c=>GD a true (fun h=>opt (zd Tryd.prog 31 b c) fun i=>h i c) (lh a f R) c) d
def ll:=fun e f g (R:Value->za->Prop) h (d:za)=>
 opt (pk e h (.bool false)) fun a=>GD a true (fun i=>opt (zb Tryd.prog 34 f 2) fun b=>i b d) (fun b c=>GD a true (fun j=>opt (zd Tryd.prog 31 b c) fun k=>j k c) (lj a g R) c) d
def lp:=fun b d f g (R:Value->za->Prop) h (c:za)=>
 GD b true (fun i=>opt (zd Tryd.prog 2 h c) fun a=>i a c) (fun a e=>GD b true (fun j=>opt (nb [d,a] (zf Tryd.prog .eql 2 (.tmp 12) (.tmp 14) d a)) fun k=>j k e) (ll b f g R) e) c
def lu:=fun a d f (R:Value->za->Prop) g (b:za)=>
 GD a true (fun h=>opt (zd Tryd.prog 2 g b) fun c=>h c b) (fun c e=>GD a true (fun i=>opt (zb Tryd.prog 34 d 1) fun j=>i j e) (lp a c f d R) e) b
def n5:=fun (h:za) c d (R:Value->za->Prop)=>
 opt (nb [c] (some (Value.cells c).toList)) fun j=>nw h j 34 fun b k=>opt (nb [d] (some (Value.cells d).toList)) fun l=>nw k l 34 fun e a=>opt (zb Tryd.prog 34 b 0) fun m=>opt (zd Tryd.prog 3 m a) fun f=>opt (zb Tryd.prog 34 e 0) fun n=>opt (zd Tryd.prog 3 n a) fun g=>opt (nb [f,g] (zf Tryd.prog .eql 3 (.tmp 6) (.tmp 8) f g)) fun i=>GD i true (fun o=>opt (zb Tryd.prog 34 b 1) fun p=>o p a) (lu i e b R) a
theorem tD (h:za) (t0 t1:Value) (R:Value->za->Prop):X2 Tryd.prog (vG Tryd.prog qs) 200 11 [t0,t1] h R=n5 h t0 t1 R:=by kernel_rfl
theorem tE {h:za} {t0 t1:Value} {R:Value->za->Prop} (hw:n5 h t0 t1 R):DC Tryd.prog 11 [t0,t1] h R:=xw mixed (n:=200) (by rw [tD];exact hw)
def du:=fun f (a:za) b g (R:Value->za->Prop) (h:List Value->za->Prop)=>
 opt (zb Tryd.prog 34 f 3) fun i=>opt (zd Tryd.prog 32 i a) fun j=>opt (zA Tryd.prog 32 j (nth b 1)) fun k=>opt (zd Tryd.prog 41 k a) fun c=>opt (zb Tryd.prog 34 g 3) fun l=>opt (zd Tryd.prog 32 l a) fun m=>opt (zA Tryd.prog 32 m (nth b 1)) fun n=>opt (zd Tryd.prog 41 n a) fun d=>opt (nb [c,d] (zf Tryd.prog .neq 41 (.tmp 31) (.tmp 36) c d)) fun o=>CD o (fun e=>rv [.bool false] a R)
 (fun e=>e [nth b 0] a)
 (fun p q=>h [nth p 0] q)
def dv:=fun a (b:List Value->za->Prop) c (d:za)=>
 opt (nb [nth a 1,.int .i64 1] (zf Tryd.prog .add 3 (.tmp 25) (.const (.int .i64 1)) (nth a 1) (.int .i64 1))) fun e=>b [nth c 0,e] d
def dw:=fun b (h:List Value->za->Prop) i (R:Value->za->Prop) a (c:za) (j:List Value->za->Prop)=>
 opt (zb Tryd.prog 34 b 3) fun k=>opt (zd Tryd.prog 32 k c) fun d=>xA (nb [d] (zo Tryd.prog .len [32] 3 [d] c)) fun e f=>opt (nb [nth a 1,e] (zf Tryd.prog .lss 3 (.tmp 20) (.tmp 23) (nth a 1) e)) fun l=>CD l (fun g=>g [] f)
 (fun g=>h [nth a 0] f)
 (fun n m=>BK (du b m a i R)
 (dv a j))
def dx:=fun c (R:Value->za->Prop) d e f (a:za)=>
 opt (pk c (.bool true) f) fun g=>CD g (fun b=>rv [.bool false] a R)
 (fun b=>b [.bool false] a)
 (fun h i=>BK (fun j=>LP (dw d j e R)
 [nth h 0,.int .i64 0] i)
 (fun l k=>rv [.bool true] k R))
def dy:=fun b c (R:Value->za->Prop) g h d (e:za)=>
 GD b false (fun i=>xA (nb [d] (zo Tryd.prog .len [32] 3 [d] e)) fun a j=>i a j) (fun a f=>GD b false (fun k=>opt (nb [c,a] (zf Tryd.prog .neq 3 (.tmp 14) (.tmp 17) c a)) fun l=>k l f) (dx b R g h) f) e
def dz:=fun a d (R:Value->za->Prop) f g (e:za)=>
 GD a false (fun h=>opt (zb Tryd.prog 34 d 3) fun b=>h b e) (fun b c=>GD a false (fun i=>opt (zd Tryd.prog 32 b c) fun j=>i j c) (dy a g R f d) c) e
def dC:=fun b e (R:Value->za->Prop) f g (c:za)=>
 GD b false (fun h=>opt (zd Tryd.prog 32 g c) fun a=>h a c) (fun a d=>GD b false (fun i=>xA (nb [a] (zo Tryd.prog .len [32] 3 [a] d)) fun j k=>i j k) (dz b e R f) d) c
def gk:=fun (h:za) c d (R:Value->za->Prop)=>
 opt (nb [c] (some (Value.cells c).toList)) fun j=>nw h j 34 fun b k=>opt (nb [d] (some (Value.cells d).toList)) fun l=>nw k l 34 fun e a=>opt (zb Tryd.prog 34 b 0) fun m=>opt (zd Tryd.prog 3 m a) fun f=>opt (zb Tryd.prog 34 e 0) fun n=>opt (zd Tryd.prog 3 n a) fun g=>opt (nb [f,g] (zf Tryd.prog .neq 3 (.tmp 7) (.tmp 9) f g)) fun i=>GD i false (fun o=>opt (zb Tryd.prog 34 b 3) fun p=>o p a) (dC i e R b) a
theorem nX (h:za) (t0 t1:Value) (R:Value->za->Prop):X2 Tryd.prog (vG Tryd.prog qs) 200 12 [t0,t1] h R=gk h t0 t1 R:=by kernel_rfl
theorem nY {h:za} {t0 t1:Value} {R:Value->za->Prop} (hw:gk h t0 t1 R):DC Tryd.prog 12 [t0,t1] h R:=xw mixed (n:=200) (by rw [nX];exact hw)
def Q9:=fun b c (R:Value->za->Prop) d (e:za)=>
 GD b true (fun f=>opt (nb [c,d] (zf Tryd.prog .eql 3 (.tmp 82) (.tmp 84) c d)) fun a=>f a e) (fun a g=>opt (pk b a (.bool false)) fun h=>rv [h] g R) e
def Ka:=fun a e (R:Value->za->Prop) f (d:za)=>
 GD a true (fun g=>opt (zb Tryd.prog 34 e 4) fun b=>g b d) (fun b c=>GD a true (fun h=>opt (zd Tryd.prog 3 b c) fun i=>h i c) (Q9 a f R) c) d
def Kb:=fun e f g (R:Value->za->Prop) h (d:za)=>
 opt (pk e h (.bool false)) fun a=>GD a true (fun i=>opt (zb Tryd.prog 34 f 4) fun b=>i b d) (fun b c=>GD a true (fun j=>opt (zd Tryd.prog 3 b c) fun k=>j k c) (Ka a g R) c) d
def Kc:=fun a d f (R:Value->za->Prop) g (b:za)=>
 GD a true (fun h=>opt (zd Tryd.prog 34 d b) fun c=>h c b) (fun c e=>GD a true (fun i=>zR Tryd.prog (.func (.func 12) #[] #[]) [g,c] e (fun j k=>i j k)) (Kb a f d R) e) b
def Kd:=fun a (b:za) d (R:Value->za->Prop) (j:List Value->za->Prop)=>
 opt (zd Tryd.prog 34 a b) fun f=>opt (zd Tryd.prog 34 d b) fun g=>zR Tryd.prog (.func (.func 11) #[] #[]) [f,g] b (fun e c=>GD e true (fun h=>opt (zd Tryd.prog 34 a c) fun i=>h i c) (Kc e d a R) c)
def Ke:=fun f (a:za) b g (R:Value->za->Prop) (h:List Value->za->Prop)=>
 opt (zb Tryd.prog 34 f 3) fun i=>opt (zd Tryd.prog 32 i a) fun j=>opt (zA Tryd.prog 32 j (nth b 1)) fun k=>opt (zd Tryd.prog 41 k a) fun c=>opt (zb Tryd.prog 34 g 3) fun l=>opt (zd Tryd.prog 32 l a) fun m=>opt (zA Tryd.prog 32 m (nth b 1)) fun n=>opt (zd Tryd.prog 41 n a) fun d=>opt (nb [c,d] (zf Tryd.prog .neq 41 (.tmp 119) (.tmp 124) c d)) fun o=>CD o (fun e=>rv [.bool false] a R)
 (fun e=>e [nth b 0] a)
 (fun p q=>h [nth p 0] q)
def Kf:=fun a (b:List Value->za->Prop) c (d:za)=>
 opt (nb [nth a 1,.int .i64 1] (zf Tryd.prog .add 3 (.tmp 113) (.const (.int .i64 1)) (nth a 1) (.int .i64 1))) fun e=>b [nth c 0,e] d
def Kg:=fun b (h:List Value->za->Prop) i (R:Value->za->Prop) a (c:za) (j:List Value->za->Prop)=>
 opt (zb Tryd.prog 34 b 3) fun k=>opt (zd Tryd.prog 32 k c) fun d=>xA (nb [d] (zo Tryd.prog .len [32] 3 [d] c)) fun e f=>opt (nb [nth a 1,e] (zf Tryd.prog .lss 3 (.tmp 108) (.tmp 111) (nth a 1) e)) fun l=>CD l (fun g=>g [] f)
 (fun g=>h [nth a 0] f)
 (fun n m=>BK (Ke b m a i R)
 (Kf a j))
def Kh:=fun c (R:Value->za->Prop) d e f g (a:za)=>
 opt (pk c (.bool true) g) fun h=>CD h (fun b=>rv [.bool false] a R)
 (fun b=>b [nth d 0] a)
 (fun i j=>BK (fun k=>LP (Kg e k f R)
 [nth i 0,.int .i64 0] j)
 (fun m l=>rv [.bool true] l R))
def V2:=fun a b (R:Value->za->Prop) e f g c (d:za)=>
 GD a false (fun h=>opt (nb [b,c] (zf Tryd.prog .gtr 3 (.tmp 102) (.tmp 105) b c)) fun i=>h i d) (Kh a R e f g) d
def V3:=fun b e (R:Value->za->Prop) f g h i (c:za)=>
 GD b false (fun j=>opt (zd Tryd.prog 32 i c) fun a=>j a c) (fun a d=>GD b false (fun k=>xA (nb [a] (zo Tryd.prog .len [32] 3 [a] d)) fun l m=>k l m) (V2 b e R f g h) d) c
def V4:=fun a c (R:Value->za->Prop) g h d (e:za)=>
 GD a false (fun i=>xA (nb [d] (zo Tryd.prog .len [32] 3 [d] e)) fun b j=>i b j) (fun b f=>GD a false (fun k=>opt (zb Tryd.prog 34 c 3) fun l=>k l f) (V3 a b R g h c) f) e
def V5:=fun f d g (R:Value->za->Prop) h i (e:za)=>
 opt (pk f (.bool true) i) fun a=>GD a false (fun j=>opt (zb Tryd.prog 34 d 3) fun b=>j b e) (fun b c=>GD a false (fun k=>opt (zd Tryd.prog 32 b c) fun l=>k l c) (V4 a g R h d) c) e
def V6:=fun a e f g (R:Value->za->Prop) h i (c:za)=>
 GD a false (fun j=>zR Tryd.prog (.func (.func 13) #[] #[]) [e,i,.bool false] c (fun b k=>j b k)) (fun b d=>GD a false (fun l=>opt (KE Tryd.prog .not b) fun m=>l m d) (V5 a f g R h) d) c
def V7:=fun a d f (R:Value->za->Prop) g h (e:za)=>
 GD a false (fun i=>opt (zb Tryd.prog 34 d 2) fun b=>i b e) (fun b c=>GD a false (fun j=>opt (zd Tryd.prog 31 b c) fun k=>j k c) (V6 a h f d R g) c) e
def V8:=fun a f h (R:Value->za->Prop) i (b:za)=>
 opt (zb Tryd.prog 34 a 4) fun j=>opt (zd Tryd.prog 3 j b) fun g=>opt (nb [g,f] (zf Tryd.prog .neq 3 (.tmp 88) (.tmp 89) g f)) fun c=>GD c false (fun k=>opt (zb Tryd.prog 34 a 2) fun d=>k d b) (fun d e=>GD c false (fun l=>opt (zd Tryd.prog 31 d e) fun m=>l m e) (V7 c h a R i) e) b
def Xf:=fun a c (R:Value->za->Prop) e f (b:za)=>
 opt (zb Tryd.prog 34 a 0) fun g=>opt (zd Tryd.prog 3 g b) fun d=>opt (nb [d,.int .i64 2] (zf Tryd.prog .neq 3 (.tmp 70) (.const (.int .i64 2)) d (.int .i64 2))) fun h=>CD h (Kd a b c R)
 (fun i=>i [nth f 0] b)
 (V8 a e c R)
def Zt:=fun e a b (R:Value->za->Prop) f g h i j (c:za)=>
 opt (pk e (.bool true) j) fun k=>CD k (fun d=>opt (nb [a,b] (zf Tryd.prog .eql 35 (.tmp 66) (.tmp 67) a b)) fun l=>rv [l] c R)
 (fun d=>d [nth f 0] c)
 (Xf g h R i)
def Zu:=fun a d e (R:Value->za->Prop) f g h i b (c:za)=>
 GD a false (fun j=>opt (nb [b,.int .i64 0] (zf Tryd.prog .neq 35 (.tmp 63) (.const (.int .i64 0)) b (.int .i64 0))) fun k=>j k c) (Zt a d e R f g h i) c
def Xg:=fun a (R:Value->za->Prop) h i j c (k:za)=>
 opt (ZW c 0) fun d=>opt (ZW c 1) fun b=>opt (xP Tryd.prog 34) fun l=>nw k (Value.cells l).toList 34 fun e m=>opt (nb [d] (zk Tryd.prog 34 e d m)) fun f=>opt (nb [a,b] (zf Tryd.prog .neq 35 (.tmp 59) (.tmp 60) a b)) fun g=>GD g false (fun n=>n a f) (Zu g a b R h i e j) f
def Xh:=fun g a b h i j (R:Value->za->Prop) k c (l:za)=>
 opt (ZW c 0) fun d=>opt (ZW c 1) fun m=>opt (xP Tryd.prog 34) fun n=>nw l (Value.cells n).toList 34 fun e o=>opt (nb [d] (zk Tryd.prog 34 e d o)) fun f=>opt (zd Tryd.prog 25 g f) fun p=>opt (nb [a,b] (zf Tryd.prog .add 3 (.tmp 52) (.tmp 53) a b)) fun q=>zR Tryd.prog (.func (.func 10) #[] #[]) [p,h,i,q,j] f (Xg m R k e a)
def uY:=fun i (R:Value->za->Prop) j a b c d e k l (f:za)=>
 opt (pk i (.bool true) l) fun m=>CD m (fun g=>rv [.bool true] f R)
 (fun g=>g [nth j 0] f)
 (fun n h=>opt (zd Tryd.prog 25 a h) fun o=>zR Tryd.prog (.func (.func 10) #[] #[]) [o,b,c,d,e] h (Xh a d k b c e R n))
def uZ:=fun a (R:Value->za->Prop) d e f g h i j b (c:za)=>
 GD a false (fun k=>opt (nb [b,.int .i64 1000] (zf Tryd.prog .gtr 3 (.tmp 36) (.const (.int .i64 1000)) b (.int .i64 1000))) fun l=>k l c) (uY a R d e f g h i j) c
def u0:=fun b c (R:Value->za->Prop) h i j k l m d (e:za)=>
 GD b false (fun n=>opt (nb [d,.int .i64 0] (zf Tryd.prog .lss 3 (.tmp 32) (.const (.int .i64 0)) d (.int .i64 0))) fun a=>n a e) (fun a f=>opt (pk b (.bool true) a) fun g=>GD g false (fun o=>o c f) (uZ g R h i j k l m c) f) e
def u1:=fun b c (R:Value->za->Prop) h i j k l m d (e:za)=>
 GD b false (fun n=>opt (nb [d,.int .i64 1000] (zf Tryd.prog .gtr 3 (.tmp 28) (.const (.int .i64 1000)) d (.int .i64 1000))) fun a=>n a e) (fun a f=>opt (pk b (.bool true) a) fun g=>GD g false (fun o=>o c f) (u0 g c R h i j k l m) f) e
def u2:=fun b c h (R:Value->za->Prop) i j k l m d (e:za)=>
 GD b false (fun n=>opt (nb [d,.int .i64 0] (zf Tryd.prog .lss 3 (.tmp 24) (.const (.int .i64 0)) d (.int .i64 0))) fun a=>n a e) (fun a f=>opt (pk b (.bool true) a) fun g=>GD g false (fun o=>o c f) (u1 g h R i j k l c m) f) e
def V9:=fun a b f (R:Value->za->Prop) g h i j (c:za)=>
 opt (zd Tryd.prog 25 a c) fun k=>zR Tryd.prog (.func (.func 6) #[] #[]) [k] c (fun l d=>opt (KE Tryd.prog .not l) fun e=>GD e false (fun m=>m b d) (u2 e b f R j a g h i) d)
def U7:=fun (h:za) a d e f g i (R:Value->za->Prop)=>
 opt (nb [a] (some (Value.cells a).toList)) fun j=>nw h j 25 fun k l=>zR Tryd.prog (.func (.func 5) #[] #[]) [] l (fun m b=>opt (KE Tryd.prog .not m) fun n=>CD n (fun c=>rv [.bool false] b R)
 (fun c=>c [.bool false] b)
 (V9 k f g R d e i))
theorem gf (h:za) (t0 t1 t2 t3 t4 t5:Value) (R:Value->za->Prop):X2 Tryd.prog (vG Tryd.prog qs) 200 4 [t0,t1,t2,t3,t4,t5] h R=U7 h t0 t1 t2 t3 t4 t5 R:=by kernel_rfl
theorem gg {h:za} {t0 t1 t2 t3 t4 t5:Value} {R:Value->za->Prop} (hw:U7 h t0 t1 t2 t3 t4 t5 R):DC Tryd.prog 4 [t0,t1,t2,t3,t4,t5] h R:=xw mixed (n:=200) (by rw [gf];exact hw)
noncomputable def CJ:Array Field:=match Program.underlying Tryd.prog 41 with | some (.struct f)=>f | _ => #[]
noncomputable def CK:Array Field:=match Program.underlying Tryd.prog 69 with | some (.struct f)=>f | _ => #[]
theorem xz (b off:Nat) (h:za):zd Tryd.prog 2 (.pointer (some ⟨b,off,none⟩)) h=zL h b off:=yD (by kernel_rfl) b off h
theorem ZP (b off:Nat) (h:za):zd Tryd.prog 22 (.pointer (some ⟨b,off,none⟩)) h=zL h b off:=yD (by kernel_rfl) b off h
theorem qU (b off:Nat) (h:za):zd Tryd.prog 23 (.pointer (some ⟨b,off,none⟩)) h=zL h b off:=yD (by kernel_rfl) b off h
theorem Vd (b off:Nat) (h:za):zd Tryd.prog 25 (.pointer (some ⟨b,off,none⟩)) h=yb h b off 4:=v7 (by kernel_rfl) (by kernel_rfl) b off h
theorem zu (b off:Nat) (h:za):zd Tryd.prog 3 (.pointer (some ⟨b,off,none⟩)) h=zL h b off:=yD (by kernel_rfl) b off h
theorem r7 (b off:Nat) (h:za):zd Tryd.prog 31 (.pointer (some ⟨b,off,none⟩)) h=zL h b off:=yD (by kernel_rfl) b off h
theorem Kj (b off:Nat) (h:za):zd Tryd.prog 32 (.pointer (some ⟨b,off,none⟩)) h=zL h b off:=yD (by kernel_rfl) b off h
theorem Ve (b off:Nat) (h:za):zd Tryd.prog 34 (.pointer (some ⟨b,off,none⟩)) h=yb h b off 5:=v7 (by kernel_rfl) (by kernel_rfl) b off h
theorem Fe (b off:Nat) (h:za):zd Tryd.prog 41 (.pointer (some ⟨b,off,none⟩)) h=yb h b off 3:=v7 (by kernel_rfl) (by kernel_rfl) b off h
theorem XS (b off:Nat) (h:za):zd Tryd.prog 47 (.pointer (some ⟨b,off,none⟩)) h=zL h b off:=yD (by kernel_rfl) b off h
theorem HC (b off:Nat) (h:za):zd Tryd.prog 69 (.pointer (some ⟨b,off,none⟩)) h=yb h b off 2:=v7 (by kernel_rfl) (by kernel_rfl) b off h
theorem Wb (b off:Nat) (l:List Value) (h:za) (hv:l.length=5):zk Tryd.prog 34 (.pointer (some ⟨b,off,none⟩)) (.agg l.toArray) h=xU h b off l:=qb (by kernel_rfl) b off l h hv
theorem Us:xP Tryd.prog 34=some (.agg #[(.int .i64 0),(.int .i64 0),(.slice none 0 0),(.slice none 0 0),(.int .i64 0)]):=zI (by kernel_rfl)
theorem qQ (b off:Nat):zb Tryd.prog 25 (.pointer (some ⟨b,off,none⟩)) 0=some (.pointer (some ⟨b,off,none⟩)):=zI (by kernel_rfl)
theorem w9 (b off:Nat):zb Tryd.prog 25 (.pointer (some ⟨b,off,none⟩)) 1=some (.pointer (some ⟨b,off + 1,none⟩)):=zI (by kernel_rfl)
theorem km (b off:Nat):zb Tryd.prog 34 (.pointer (some ⟨b,off,none⟩)) 0=some (.pointer (some ⟨b,off,none⟩)):=zI (by kernel_rfl)
theorem hO (b off:Nat):zb Tryd.prog 34 (.pointer (some ⟨b,off,none⟩)) 1=some (.pointer (some ⟨b,off + 1,none⟩)):=zI (by kernel_rfl)
theorem KW (b off:Nat):zb Tryd.prog 34 (.pointer (some ⟨b,off,none⟩)) 2=some (.pointer (some ⟨b,off + 2,none⟩)):=zI (by kernel_rfl)
theorem Yp (b off:Nat):zb Tryd.prog 34 (.pointer (some ⟨b,off,none⟩)) 3=some (.pointer (some ⟨b,off + 3,none⟩)):=zI (by kernel_rfl)
theorem UB (b off:Nat):zb Tryd.prog 34 (.pointer (some ⟨b,off,none⟩)) 4=some (.pointer (some ⟨b,off + 4,none⟩)):=zI (by kernel_rfl)
theorem ko (b off:Nat):zb Tryd.prog 49 (.pointer (some ⟨b,off,none⟩)) 1=some (.pointer (some ⟨b,off + 1,none⟩)):=zI (by kernel_rfl)
theorem zh (b off:Nat):zb Tryd.prog 51 (.pointer (some ⟨b,off,none⟩)) 0=some (.pointer (some ⟨b,off,none⟩)):=zI (by kernel_rfl)
theorem y7 (b off:Nat):zb Tryd.prog 51 (.pointer (some ⟨b,off,none⟩)) 6=some (.pointer (some ⟨b,off + 6,none⟩)):=zI (by kernel_rfl)
theorem Fw (b off len c:Nat) (k:IntKind) (i:Int):zA Tryd.prog 22 (.slice (some ⟨b,off,none⟩) len c) (.int k i)=if 0<=i/\i < len then some (.pointer (some ⟨b,off + i.toNat * 1,none⟩)) else none:=xN (e:=3) (by kernel_rfl) (by kernel_rfl)
theorem Fx (b off len c:Nat) (k:IntKind) (i:Int):zA Tryd.prog 23 (.slice (some ⟨b,off,none⟩) len c) (.int k i)=if 0<=i/\i < len then some (.pointer (some ⟨b,off + i.toNat * 2,none⟩)) else none:=xN (e:=49) (by kernel_rfl) (by kernel_rfl)
theorem Ic (b off len c:Nat) (k:IntKind) (i:Int):zA Tryd.prog 31 (.slice (some ⟨b,off,none⟩) len c) (.int k i)=if 0<=i/\i < len then some (.pointer (some ⟨b,off + i.toNat * 2,none⟩)) else none:=xN (e:=69) (by kernel_rfl) (by kernel_rfl)
theorem Fy (b off len c:Nat) (k:IntKind) (i:Int):zA Tryd.prog 32 (.slice (some ⟨b,off,none⟩) len c) (.int k i)=if 0<=i/\i < len then some (.pointer (some ⟨b,off + i.toNat * 3,none⟩)) else none:=xN (e:=41) (by kernel_rfl) (by kernel_rfl)
theorem Fz (b off len c:Nat) (k:IntKind) (i:Int):zA Tryd.prog 47 (.slice (some ⟨b,off,none⟩) len c) (.int k i)=if 0<=i/\i < len then some (.pointer (some ⟨b,off + i.toNat * 7,none⟩)) else none:=xN (e:=51) (by kernel_rfl) (by kernel_rfl)
theorem pH (r:TypeId) (a:Option Addr) (n c:Nat) (h:za):zo Tryd.prog .len [22] r [.slice a n c] h=some (.int .i64 n,h):=zI (by kernel_rfl)
theorem pI (r:TypeId) (a:Option Addr) (n c:Nat) (h:za):zo Tryd.prog .len [23] r [.slice a n c] h=some (.int .i64 n,h):=zI (by kernel_rfl)
theorem pJ (r:TypeId) (a:Option Addr) (n c:Nat) (h:za):zo Tryd.prog .len [31] r [.slice a n c] h=some (.int .i64 n,h):=zI (by kernel_rfl)
theorem iw (r:TypeId) (a:Option Addr) (n c:Nat) (h:za):zo Tryd.prog .len [32] r [.slice a n c] h=some (.int .i64 n,h):=zI (by kernel_rfl)
theorem pK (r:TypeId) (a:Option Addr) (n c:Nat) (h:za):zo Tryd.prog .len [47] r [.slice a n c] h=some (.int .i64 n,h):=zI (by kernel_rfl)
theorem C3 (x y:Operand) (a0:Int) (a1:Int) (a2:Int) (b0:Int) (b1:Int) (b2:Int):zf Tryd.prog .neq 41 x y (.agg #[(.int .i64 a0),(.int .i64 a1),(.int .i64 a2)]) (.agg #[(.int .i64 b0),(.int .i64 b1),(.int .i64 b2)])=some (.bool (!((a0 == b0) && ((a1 == b1) && ((a2 == b2)))))):=(ji (fs:=CJ) (r:=(a0 == b0) && ((a1 == b1) && ((a2 == b2)))) (by kernel_rfl) (by kernel_rfl) (by kernel_rfl) rfl rfl (Eq.trans (b:=(cond (a0 == b0) (cond (a1 == b1) (cond (a2 == b2) (some true) (some false)) (some false)) (some false))) (by kernel_rfl) (by cases (a0 == b0) <;> cases (a1 == b1) <;> cases (a2 == b2) <;> rfl))).2
theorem GP (x y:Operand) (a0:Int) (a1:Int) (b0:Int) (b1:Int):zf Tryd.prog .neq 69 x y (.agg #[(.int .i64 a0),(.int .i64 a1)]) (.agg #[(.int .i64 b0),(.int .i64 b1)])=some (.bool (!((a0 == b0) && ((a1 == b1))))):=(ji (fs:=CK) (r:=(a0 == b0) && ((a1 == b1))) (by kernel_rfl) (by kernel_rfl) (by kernel_rfl) rfl rfl (Eq.trans (b:=(cond (a0 == b0) (cond (a1 == b1) (some true) (some false)) (some false))) (by kernel_rfl) (by cases (a0 == b0) <;> cases (a1 == b1) <;> rfl))).2
end Go.Am
