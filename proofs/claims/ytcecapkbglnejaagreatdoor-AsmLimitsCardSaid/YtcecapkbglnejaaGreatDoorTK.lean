/- A part of the proof. -/
import Derived.Test.YtcecapkbglnejaaGreatDoorChecked
import Derived.KernelRfl
import Derived.Test.YtcecapkbglnejaaGreatDoorTH
import Derived.Test.YtcecapkbglnejaaGreatDoorTI
import Derived.Test.YtcecapkbglnejaaGreatDoorTJ
set_option linter.unusedVariables false
set_option linter.unusedSimpArgs false
set_option maxRecDepth 100000
namespace Go.Am
open Go.Ai Go.Proofs
def qs:FuncId->Nat:=fun g=>[0].getD g 0
theorem mixed:Tryz.prog.follows .mixedOrders=true:=aau Tryz.checked
def eC:=fun c (R:Value->za->Prop) d (e:List Value->za->Prop) f (a:za)=>
 opt (pk c f (.bool false)) fun g=>CD g (fun b=>rv [.bool false] a R)
 (fun b=>b [nth d 0] a)
 (fun h i=>e [nth h 0] i)
def eD:=fun a (R:Value->za->Prop) d (e:List Value->za->Prop) b (c:za)=>
 GD a true (fun f=>opt (nb [b,.int .i64 1024] (ze Tryz.prog .gtr 2 (.tmp 63) (.const (.int .i64 1024)) b (.int .i64 1024))) fun g=>f g c) (eC a R d e) c
def eE:=fun a (R:Value->za->Prop) e (f:List Value->za->Prop) g (d:za)=>
 GD a true (fun h=>opt (zb Tryz.prog 50 g 6) fun b=>h b d) (fun b c=>GD a true (fun i=>opt (zd Tryz.prog 2 b c) fun j=>i j c) (eD a R e f) c) d
def eF:=fun a b (R:Value->za->Prop) (e:List Value->za->Prop) f (c:za)=>
 GD a true (fun g=>g (nth b 1) c) (fun h d=>GD a true (fun i=>opt (zA Tryz.prog 45 f h) fun j=>i j d) (eE a R b e) d) c
def eG:=fun a e (R:Value->za->Prop) (f:List Value->za->Prop) g (d:za)=>
 GD a true (fun h=>opt (zb Tryz.prog 47 g 1) fun b=>h b d) (fun b c=>GD a true (fun i=>opt (zd Tryz.prog 45 b c) fun j=>i j c) (eF a e R f) c) d
def eH:=fun a d e (R:Value->za->Prop) (f:List Value->za->Prop) g (b:za)=>
 GD a true (fun h=>h (nth d 1) b) (fun i c=>GD a true (fun j=>opt (zA Tryz.prog 23 g i) fun k=>j k c) (eG a e R f) c) b
def eI:=fun e (a:za) f g (R:Value->za->Prop) (i:List Value->za->Prop)=>
 opt (zb Tryz.prog 25 e 1) fun j=>opt (zd Tryz.prog 23 j a) fun k=>opt (zA Tryz.prog 23 k (nth f 1)) fun l=>opt (zb Tryz.prog 47 l 1) fun m=>opt (zd Tryz.prog 45 m a) fun n=>opt (zA Tryz.prog 45 n (nth g 1)) fun o=>opt (zb Tryz.prog 50 o 0) fun p=>opt (zd Tryz.prog 3 p a) fun h=>opt (nb [h,.int .i64 23] (ze Tryz.prog .eql 3 (.tmp 51) (.const (.int .i64 23)) h (.int .i64 23))) fun b=>GD b true (fun q=>opt (zb Tryz.prog 25 e 1) fun c=>q c a) (fun c d=>GD b true (fun r=>opt (zd Tryz.prog 23 c d) fun s=>r s d) (eH b f g R i) d) a
def ot:=fun a (b:List Value->za->Prop) c (d:za)=>
 opt (nb [nth a 1,.int .i64 1] (ze Tryz.prog .add 3 (.tmp 40) (.const (.int .i64 1)) (nth a 1) (.int .i64 1))) fun e=>b [nth c 0,e] d
def CP:=fun c d (i:List Value->za->Prop) (R:Value->za->Prop) a (b:za) (j:List Value->za->Prop)=>
 opt (zb Tryz.prog 25 c 1) fun k=>opt (zd Tryz.prog 23 k b) fun l=>opt (zA Tryz.prog 23 l (nth d 1)) fun m=>opt (zb Tryz.prog 47 m 1) fun n=>opt (zd Tryz.prog 45 n b) fun e=>xZ (nb [e] (zn Tryz.prog .len [45] 3 [e] b)) fun f g=>opt (nb [nth a 1,f] (ze Tryz.prog .lss 3 (.tmp 31) (.tmp 38) (nth a 1) f)) fun o=>CD o (fun h=>h [] g)
 (fun h=>i [nth a 0] g)
 (fun q p=>BK (eI c p d a R)
 (ot a j))
def fU:=fun c (a:za) b (R:Value->za->Prop) (h:List Value->za->Prop)=>
 opt (zb Tryz.prog 25 c 1) fun i=>opt (zd Tryz.prog 23 i a) fun j=>opt (zA Tryz.prog 23 j (nth b 1)) fun k=>opt (zb Tryz.prog 47 k 1) fun l=>opt (zd Tryz.prog 45 l a) fun d=>xZ (nb [d] (zn Tryz.prog .len [45] 3 [d] a)) fun e f=>opt (nb [e,.int .i64 80] (ze Tryz.prog .gtr 3 (.tmp 29) (.const (.int .i64 80)) e (.int .i64 80))) fun m=>CD m (fun g=>rv [.bool false] f R)
 (fun g=>g [nth b 0] f)
 (fun n o=>BK (fun p=>LP (CP c b p R)
 [nth n 0,.int .i64 0] o)
 (fun q r=>h [nth q 0] r))
def rS:=fun a (b:List Value->za->Prop) c (d:za)=>
 opt (nb [nth a 1,.int .i64 1] (ze Tryz.prog .add 3 (.tmp 21) (.const (.int .i64 1)) (nth a 1) (.int .i64 1))) fun e=>b [nth c 0,e] d
def rT:=fun b (h:List Value->za->Prop) (R:Value->za->Prop) a (c:za) (i:List Value->za->Prop)=>
 opt (zb Tryz.prog 25 b 1) fun j=>opt (zd Tryz.prog 23 j c) fun d=>xZ (nb [d] (zn Tryz.prog .len [23] 3 [d] c)) fun e f=>opt (nb [nth a 1,e] (ze Tryz.prog .lss 3 (.tmp 16) (.tmp 19) (nth a 1) e)) fun k=>CD k (fun g=>g [] f)
 (fun g=>h [nth a 0] f)
 (fun m l=>BK (fU b l a R)
 (rS a i))
def fV:=fun e (a:za) b (R:Value->za->Prop) (f:List Value->za->Prop)=>
 opt (zb Tryz.prog 25 e 0) fun g=>opt (zd Tryz.prog 22 g a) fun h=>opt (zA Tryz.prog 22 h (nth b 1)) fun i=>opt (zd Tryz.prog 3 i a) fun c=>opt (nb [c,.int .i64 1024] (ze Tryz.prog .gtr 3 (.tmp 77) (.const (.int .i64 1024)) c (.int .i64 1024))) fun j=>CD j (fun d=>rv [.bool false] a R)
 (fun d=>d [nth b 0] a)
 (fun k l=>f [nth k 0] l)
def rU:=fun a (b:List Value->za->Prop) c (d:za)=>
 opt (nb [nth a 1,.int .i64 1] (ze Tryz.prog .add 3 (.tmp 71) (.const (.int .i64 1)) (nth a 1) (.int .i64 1))) fun e=>b [nth c 0,e] d
def rV:=fun b (h:List Value->za->Prop) (R:Value->za->Prop) a (c:za) (i:List Value->za->Prop)=>
 opt (zb Tryz.prog 25 b 0) fun j=>opt (zd Tryz.prog 22 j c) fun d=>xZ (nb [d] (zn Tryz.prog .len [22] 3 [d] c)) fun e f=>opt (nb [nth a 1,e] (ze Tryz.prog .lss 3 (.tmp 66) (.tmp 69) (nth a 1) e)) fun k=>CD k (fun g=>g [] f)
 (fun g=>h [nth a 0] f)
 (fun m l=>BK (fV b l a R)
 (rU a i))
def rW:=fun a (R:Value->za->Prop) b (c:za)=>
 BK (fun d=>LP (rT a d R)
 [nth b 0,.int .i64 0] c)
 (fun e f=>BK (fun g=>LP (rV a g R)
 [nth e 0,.int .i64 0] f)
 (fun i h=>rv [.bool true] h R))
def JE:=fun b (R:Value->za->Prop) g c (d:za)=>
 GD b false (fun h=>opt (nb [c,.int .i64 8] (ze Tryz.prog .gtr 3 (.tmp 13) (.const (.int .i64 8)) c (.int .i64 8))) fun a=>h a d) (fun a e=>opt (pk b (.bool true) a) fun i=>CD i (fun f=>rv [.bool false] e R)
 (fun f=>f [.bool false] e)
 (rW g R)) d
def JF:=fun b (R:Value->za->Prop) e f (c:za)=>
 GD b false (fun g=>opt (zd Tryz.prog 22 f c) fun a=>g a c) (fun a d=>GD b false (fun h=>xZ (nb [a] (zn Tryz.prog .len [22] 3 [a] d)) fun i j=>h i j) (JE b R e) d) c
def F5:=fun (h:za) b (R:Value->za->Prop)=>
 opt (nb [b] (some (Value.cells b).toList)) fun i=>nw h i 25 fun a c=>opt (zb Tryz.prog 25 a 1) fun j=>opt (zd Tryz.prog 23 j c) fun d=>xZ (nb [d] (zn Tryz.prog .len [23] 3 [d] c)) fun e f=>opt (nb [e,.int .i64 8] (ze Tryz.prog .gtr 3 (.tmp 8) (.const (.int .i64 8)) e (.int .i64 8))) fun g=>GD g false (fun k=>opt (zb Tryz.prog 25 a 0) fun l=>k l f) (JF g R a) f
theorem F6 (h:za) (t0:Value) (R:Value->za->Prop):WT Tryz.prog (v7 Tryz.prog qs) 200 7 [t0] h R=F5 h t0 R:=by kernel_rfl
theorem F7 {h:za} {t0:Value} {R:Value->za->Prop} (hw:F5 h t0 R):DC Tryz.prog 7 [t0] h R:=yP mixed (n:=200) (by rw [F6];exact hw)
def e7:=fun f b (a:za) g (R:Value->za->Prop) (h:List Value->za->Prop)=>
 opt (zA Tryz.prog 30 f (nth b 1)) fun i=>opt (zd Tryz.prog 85 i a) fun c=>opt (zA Tryz.prog 30 g (nth b 1)) fun j=>opt (zd Tryz.prog 85 j a) fun d=>opt (nb [c,d] (ze Tryz.prog .neq 85 (.tmp 32) (.tmp 36) c d)) fun k=>CD k (fun e=>rv [.bool false] a R)
 (fun e=>e [nth b 0] a)
 (fun l m=>h [nth l 0] m)
def e8:=fun a (b:List Value->za->Prop) c (d:za)=>
 opt (nb [nth a 1,.int .i64 1] (ze Tryz.prog .add 3 (.tmp 27) (.const (.int .i64 1)) (nth a 1) (.int .i64 1))) fun e=>b [nth c 0,e] d
def e9:=fun b (f:List Value->za->Prop) g (R:Value->za->Prop) a (h:za) (i:List Value->za->Prop)=>
 xZ (nb [b] (zn Tryz.prog .len [30] 3 [b] h)) fun c d=>opt (nb [nth a 1,c] (ze Tryz.prog .lss 3 (.tmp 23) (.tmp 25) (nth a 1) c)) fun j=>CD j (fun e=>e [] d)
 (fun e=>f [nth a 0] d)
 (fun l k=>BK (e7 b a k g R)
 (e8 a i))
def KM:=fun c (R:Value->za->Prop) d e f (a:za)=>
 opt (pk c (.bool true) f) fun g=>CD g (fun b=>rv [.bool false] a R)
 (fun b=>b [.bool false] a)
 (fun h i=>BK (fun j=>LP (e9 d j e R)
 [nth h 0,.int .i64 0] i)
 (fun l k=>rv [.bool true] k R))
def KN:=fun b c d (R:Value->za->Prop) h i e (f:za)=>
 GD b true (fun j=>opt (nb [c,e] (ze Tryz.prog .neq 3 (.tmp 17) (.tmp 19) c e)) fun a=>j a f) (fun a g=>GD d false (fun k=>opt (pk b a (.bool false)) fun l=>k l g) (KM d R h i) g) f
def KO:=fun a b f (R:Value->za->Prop) g h (c:za)=>
 GD a true (fun i=>i b c) (fun d e=>GD a true (fun j=>xZ (nb [d] (zn Tryz.prog .len [30] 3 [d] e)) fun k l=>j k l) (KN a h f R g b) e) c
def KP:=fun b f g (R:Value->za->Prop) a (c:za)=>
 GD a true (fun h=>h b c) (fun d e=>GD a true (fun i=>xZ (nb [d] (zn Tryz.prog .len [30] 3 [d] e)) fun j k=>i j k) (KO a f g R b) e) c
def eZ:=fun (h:za) a b i (R:Value->za->Prop)=>
 xZ (nb [a] (zn Tryz.prog .len [30] 3 [a] h)) fun d j=>xZ (nb [b] (zn Tryz.prog .len [30] 3 [b] j)) fun e f=>opt (nb [d,e] (ze Tryz.prog .gtr 3 (.tmp 9) (.tmp 11) d e)) fun c=>GD c false (fun k=>k i f) (fun l g=>GD c false (fun m=>m l g) (KP a b c R) g) f
theorem rm (h:za) (t0 t1 t2:Value) (R:Value->za->Prop):WT Tryz.prog (v7 Tryz.prog qs) 200 16 [t0,t1,t2] h R=eZ h t0 t1 t2 R:=by kernel_rfl
theorem rn {h:za} {t0 t1 t2:Value} {R:Value->za->Prop} (hw:eZ h t0 t1 t2 R):DC Tryz.prog 16 [t0,t1,t2] h R:=yP mixed (n:=200) (by rw [rm];exact hw)
def rH:=fun b d (R:Value->za->Prop) e (c:za)=>
 GD b true (fun f=>zO Tryz.prog (.func (.func 16) #[] #[]) [d,e,.bool true] c (fun a g=>f a g)) (fun a h=>opt (pk b a (.bool false)) fun i=>rv [i] h R) c
def rI:=fun a e (R:Value->za->Prop) f (d:za)=>
 GD a true (fun g=>opt (zb Tryz.prog 33 e 2) fun b=>g b d) (fun b c=>GD a true (fun h=>opt (zd Tryz.prog 30 b c) fun i=>h i c) (rH a f R) c) d
def rJ:=fun e f g (R:Value->za->Prop) h (d:za)=>
 opt (pk e h (.bool false)) fun a=>GD a true (fun i=>opt (zb Tryz.prog 33 f 2) fun b=>i b d) (fun b c=>GD a true (fun j=>opt (zd Tryz.prog 30 b c) fun k=>j k c) (rI a g R) c) d
def rK:=fun b d f g (R:Value->za->Prop) h (c:za)=>
 GD b true (fun i=>opt (zd Tryz.prog 2 h c) fun a=>i a c) (fun a e=>GD b true (fun j=>opt (nb [d,a] (ze Tryz.prog .eql 2 (.tmp 12) (.tmp 14) d a)) fun k=>j k e) (rJ b f g R) e) c
def rL:=fun a d f (R:Value->za->Prop) g (b:za)=>
 GD a true (fun h=>opt (zd Tryz.prog 2 g b) fun c=>h c b) (fun c e=>GD a true (fun i=>opt (zb Tryz.prog 33 d 1) fun j=>i j e) (rK a c f d R) e) b
def AN:=fun (h:za) c d (R:Value->za->Prop)=>
 opt (nb [c] (some (Value.cells c).toList)) fun j=>nw h j 33 fun b k=>opt (nb [d] (some (Value.cells d).toList)) fun l=>nw k l 33 fun e a=>opt (zb Tryz.prog 33 b 0) fun m=>opt (zd Tryz.prog 3 m a) fun f=>opt (zb Tryz.prog 33 e 0) fun n=>opt (zd Tryz.prog 3 n a) fun g=>opt (nb [f,g] (ze Tryz.prog .eql 3 (.tmp 6) (.tmp 8) f g)) fun i=>GD i true (fun o=>opt (zb Tryz.prog 33 b 1) fun p=>o p a) (rL i e b R) a
theorem DT (h:za) (t0 t1:Value) (R:Value->za->Prop):WT Tryz.prog (v7 Tryz.prog qs) 200 12 [t0,t1] h R=AN h t0 t1 R:=by kernel_rfl
theorem DU {h:za} {t0 t1:Value} {R:Value->za->Prop} (hw:AN h t0 t1 R):DC Tryz.prog 12 [t0,t1] h R:=yP mixed (n:=200) (by rw [DT];exact hw)
def lN:=fun f (a:za) b g (R:Value->za->Prop) (h:List Value->za->Prop)=>
 opt (zb Tryz.prog 33 f 3) fun i=>opt (zd Tryz.prog 31 i a) fun j=>opt (zA Tryz.prog 31 j (nth b 1)) fun k=>opt (zd Tryz.prog 80 k a) fun c=>opt (zb Tryz.prog 33 g 3) fun l=>opt (zd Tryz.prog 31 l a) fun m=>opt (zA Tryz.prog 31 m (nth b 1)) fun n=>opt (zd Tryz.prog 80 n a) fun d=>opt (nb [c,d] (ze Tryz.prog .neq 80 (.tmp 31) (.tmp 36) c d)) fun o=>CD o (fun e=>rv [.bool false] a R)
 (fun e=>e [nth b 0] a)
 (fun p q=>h [nth p 0] q)
def lO:=fun a (b:List Value->za->Prop) c (d:za)=>
 opt (nb [nth a 1,.int .i64 1] (ze Tryz.prog .add 3 (.tmp 25) (.const (.int .i64 1)) (nth a 1) (.int .i64 1))) fun e=>b [nth c 0,e] d
def lP:=fun b (h:List Value->za->Prop) i (R:Value->za->Prop) a (c:za) (j:List Value->za->Prop)=>
 opt (zb Tryz.prog 33 b 3) fun k=>opt (zd Tryz.prog 31 k c) fun d=>xZ (nb [d] (zn Tryz.prog .len [31] 3 [d] c)) fun e f=>opt (nb [nth a 1,e] (ze Tryz.prog .lss 3 (.tmp 20) (.tmp 23) (nth a 1) e)) fun l=>CD l (fun g=>g [] f)
 (fun g=>h [nth a 0] f)
 (fun n m=>BK (lN b m a i R)
 (lO a j))
def lQ:=fun c (R:Value->za->Prop) d e f (a:za)=>
 opt (pk c (.bool true) f) fun g=>CD g (fun b=>rv [.bool false] a R)
 (fun b=>b [.bool false] a)
 (fun h i=>BK (fun j=>LP (lP d j e R)
 [nth h 0,.int .i64 0] i)
 (fun l k=>rv [.bool true] k R))
def lR:=fun b c (R:Value->za->Prop) g h d (e:za)=>
 GD b false (fun i=>xZ (nb [d] (zn Tryz.prog .len [31] 3 [d] e)) fun a j=>i a j) (fun a f=>GD b false (fun k=>opt (nb [c,a] (ze Tryz.prog .neq 3 (.tmp 14) (.tmp 17) c a)) fun l=>k l f) (lQ b R g h) f) e
def lS:=fun a d (R:Value->za->Prop) f g (e:za)=>
 GD a false (fun h=>opt (zb Tryz.prog 33 d 3) fun b=>h b e) (fun b c=>GD a false (fun i=>opt (zd Tryz.prog 31 b c) fun j=>i j c) (lR a g R f d) c) e
def lT:=fun b e (R:Value->za->Prop) f g (c:za)=>
 GD b false (fun h=>opt (zd Tryz.prog 31 g c) fun a=>h a c) (fun a d=>GD b false (fun i=>xZ (nb [a] (zn Tryz.prog .len [31] 3 [a] d)) fun j k=>i j k) (lS b e R f) d) c
def oc:=fun (h:za) c d (R:Value->za->Prop)=>
 opt (nb [c] (some (Value.cells c).toList)) fun j=>nw h j 33 fun b k=>opt (nb [d] (some (Value.cells d).toList)) fun l=>nw k l 33 fun e a=>opt (zb Tryz.prog 33 b 0) fun m=>opt (zd Tryz.prog 3 m a) fun f=>opt (zb Tryz.prog 33 e 0) fun n=>opt (zd Tryz.prog 3 n a) fun g=>opt (nb [f,g] (ze Tryz.prog .neq 3 (.tmp 7) (.tmp 9) f g)) fun i=>GD i false (fun o=>opt (zb Tryz.prog 33 b 3) fun p=>o p a) (lT i e R b) a
theorem AH (h:za) (t0 t1:Value) (R:Value->za->Prop):WT Tryz.prog (v7 Tryz.prog qs) 200 13 [t0,t1] h R=oc h t0 t1 R:=by kernel_rfl
theorem AI {h:za} {t0 t1:Value} {R:Value->za->Prop} (hw:oc h t0 t1 R):DC Tryz.prog 13 [t0,t1] h R:=yP mixed (n:=200) (by rw [AH];exact hw)
def Kl:=fun b c (R:Value->za->Prop) d (e:za)=>
 GD b true (fun f=>opt (nb [c,d] (ze Tryz.prog .leq 3 (.tmp 109) (.tmp 112) c d)) fun a=>f a e) (fun a g=>opt (pk b a (.bool false)) fun h=>rv [h] g R) e
def Km:=fun b e (R:Value->za->Prop) f (c:za)=>
 GD b true (fun g=>opt (zd Tryz.prog 31 f c) fun a=>g a c) (fun a d=>GD b true (fun h=>xZ (nb [a] (zn Tryz.prog .len [31] 3 [a] d)) fun i j=>h i j) (Kl b e R) d) c
def Kn:=fun a f (R:Value->za->Prop) c (d:za)=>
 GD a true (fun g=>xZ (nb [c] (zn Tryz.prog .len [31] 3 [c] d)) fun b h=>g b h) (fun b e=>GD a true (fun i=>opt (zb Tryz.prog 33 f 3) fun j=>i j e) (Km a b R) e) d
def Ko:=fun e f g (R:Value->za->Prop) h (d:za)=>
 opt (pk e h (.bool false)) fun a=>GD a true (fun i=>opt (zb Tryz.prog 33 f 3) fun b=>i b d) (fun b c=>GD a true (fun j=>opt (zd Tryz.prog 31 b c) fun k=>j k c) (Kn a g R) c) d
def Kp:=fun a c d e (R:Value->za->Prop) f (b:za)=>
 GD a true (fun g=>zO Tryz.prog (.func (.func 16) #[] #[]) [c,f,.bool false] b (fun h i=>g h i)) (Ko a d e R) b
def Kq:=fun a d f (R:Value->za->Prop) g (e:za)=>
 GD a true (fun h=>opt (zb Tryz.prog 33 d 2) fun b=>h b e) (fun b c=>GD a true (fun i=>opt (zd Tryz.prog 30 b c) fun j=>i j c) (Kp a g f d R) c) e
def Kr:=fun i (R:Value->za->Prop) f (j:za)=>
 opt (YW f 0) fun g=>opt (YW f 1) fun q=>opt (wY Tryz.prog 33) fun k=>nw j (Value.cells k).toList 33 fun a l=>opt (nb [g] (zl Tryz.prog 33 a g l)) fun b=>opt (zb Tryz.prog 33 a 0) fun m=>opt (zd Tryz.prog 3 m b) fun h=>opt (nb [h,.int .i64 4] (ze Tryz.prog .eql 3 (.tmp 97) (.const (.int .i64 4)) h (.int .i64 4))) fun c=>GD c true (fun n=>opt (zb Tryz.prog 33 a 2) fun d=>n d b) (fun d e=>GD c true (fun o=>opt (zd Tryz.prog 30 d e) fun p=>o p e) (Kq c i a R) e) b
def Kt:=fun d a b e f g h (R:Value->za->Prop) (k:List Value) (c:za)=>
 opt (zd Tryz.prog 25 d c) fun i=>opt (nb [a,b] (ze Tryz.prog .sub 3 (.tmp 90) (.tmp 91) a b)) fun j=>zO Tryz.prog (.func (.func 9) #[] #[]) [i,e,f,g,j] c (Kr h R)
def Vk:=fun a b (R:Value->za->Prop) e f g h i j (c:za)=>
 opt (nb [a,b] (ze Tryz.prog .gtr 3 (.tmp 82) (.tmp 83) a b)) fun k=>CD k (fun d=>rv [.bool true] c R)
 (fun d=>d [nth j 0] c)
 (Kt e b a f g h i R)
def Wk:=fun c (R:Value->za->Prop) d e f g h i j k l (a:za)=>
 opt (pk c (.bool true) l) fun m=>CD m (fun b=>rv [.bool false] a R)
 (fun b=>b [nth d 0] a)
 (Vk e f R g h i j k)
def Wl:=fun a (R:Value->za->Prop) d e f g h i j k b (c:za)=>
 GD a false (fun l=>opt (nb [b,.int .i64 8] (ze Tryz.prog .lss 3 (.tmp 79) (.const (.int .i64 8)) b (.int .i64 8))) fun m=>l m c) (Wk a R d e f g h i j k) c
def Wm:=fun b c (R:Value->za->Prop) g h i j k l m n (d:za)=>
 GD b false (fun o=>opt (JR Tryz.prog .not n) fun a=>o a d) (fun a e=>opt (pk b (.bool true) a) fun f=>GD f false (fun p=>p c e) (Wl f R g h c i j k l m) e) d
def UW:=fun a c d (R:Value->za->Prop) e f g h i j k l (b:za)=>
 GD a false (fun m=>zO Tryz.prog (.func (.func 13) #[] #[]) [c,l] b (fun n o=>m n o)) (Wm a d R e f g h i j k) b
def UX:=fun e f g (R:Value->za->Prop) h i j k l m n (a:za)=>
 opt (JR Tryz.prog .not n) fun b=>GD b false (fun o=>opt (zd Tryz.prog 33 e a) fun c=>o c a) (fun c d=>GD b false (fun p=>opt (zd Tryz.prog 33 f d) fun q=>p q d) (UW b c g R h i j k l m e) d) a
def UY:=fun c f (R:Value->za->Prop) g h i j k l d (m:za)=>
 opt (YW d 0) fun e=>opt (YW d 1) fun r=>opt (wY Tryz.prog 33) fun n=>nw m (Value.cells n).toList 33 fun a o=>opt (nb [e] (zl Tryz.prog 33 a e o)) fun b=>opt (zd Tryz.prog 33 c b) fun p=>opt (zd Tryz.prog 33 a b) fun q=>zO Tryz.prog (.func (.func 12) #[] #[]) [p,q] b (UX c a f R g h i j k l)
def UZ:=fun a b c d e (R:Value->za->Prop) j k f (l:za)=>
 opt (YW f 0) fun g=>opt (YW f 1) fun p=>opt (wY Tryz.prog 33) fun m=>nw l (Value.cells m).toList 33 fun h n=>opt (nb [g] (zl Tryz.prog 33 h g n)) fun i=>opt (zd Tryz.prog 25 a i) fun o=>zO Tryz.prog (.func (.func 9) #[] #[]) [o,b,c,d,e] i (UY h e R j k a b c d)
def U0:=fun a b c d f (R:Value->za->Prop) g h (e:za)=>
 opt (zd Tryz.prog 25 a e) fun i=>zO Tryz.prog (.func (.func 9) #[] #[]) [i,b,c,d,.int .i64 2147483647] e (UZ a b c d f R h g)
def Wn:=fun (R:Value->za->Prop) e f g h i j a (b:za)=>
 opt (YW a 0) fun k=>opt (YW a 1) fun c=>opt (nb [c,.int .i64 0] (ze Tryz.prog .neq 34 (.tmp 49) (.const (.int .i64 0)) c (.int .i64 0))) fun l=>CD l (fun d=>rv [.bool true] b R)
 (fun d=>d [nth e 0] b)
 (U0 f g h i k R j)
def qI:=fun h (R:Value->za->Prop) i a b c d j k (e:za)=>
 opt (pk h (.bool true) k) fun l=>CD l (fun f=>rv [.bool true] e R)
 (fun f=>f [nth i 0] e)
 (fun m g=>opt (zd Tryz.prog 25 a g) fun n=>zO Tryz.prog (.func (.func 11) #[] #[]) [n,b,c,d] g (Wn R m a b c d j))
def qJ:=fun a (R:Value->za->Prop) d e f g h i b (c:za)=>
 GD a false (fun j=>opt (nb [b,.int .i64 1] (ze Tryz.prog .lss 3 (.tmp 38) (.const (.int .i64 1)) b (.int .i64 1))) fun k=>j k c) (qI a R d e f g h i) c
def qK:=fun b c (R:Value->za->Prop) h i j k l d (e:za)=>
 GD b false (fun m=>opt (nb [d,.int .i64 1500] (ze Tryz.prog .gtr 3 (.tmp 34) (.const (.int .i64 1500)) d (.int .i64 1500))) fun a=>m a e) (fun a f=>opt (pk b (.bool true) a) fun g=>GD g false (fun n=>n c f) (qJ g R h i j k l c) f) e
def qL:=fun b c h (R:Value->za->Prop) i j k l d (e:za)=>
 GD b false (fun m=>opt (nb [d,.int .i64 0] (ze Tryz.prog .lss 3 (.tmp 30) (.const (.int .i64 0)) d (.int .i64 0))) fun a=>m a e) (fun a f=>opt (pk b (.bool true) a) fun g=>GD g false (fun n=>n c f) (qK g h R i j k l c) f) e
def qM:=fun b c g (R:Value->za->Prop) h i j k l (d:za)=>
 GD b false (fun m=>opt (JR Tryz.prog .not l) fun a=>m a d) (fun a e=>opt (pk b (.bool true) a) fun f=>GD f false (fun n=>n c e) (qL f c g R h i j k) e) d
def Wo:=fun d f g (R:Value->za->Prop) h i j k (a:za)=>
 opt (JR Tryz.prog .not k) fun b=>GD b false (fun l=>opt (zd Tryz.prog 25 d a) fun c=>l c a) (fun c e=>GD b false (fun m=>zO Tryz.prog (.func (.func 15) #[] #[]) [c] e (fun n o=>m n o)) (qM b f g R h d i j) e) a
def U1:=fun (R:Value->za->Prop) a e f g h i (b:za)=>
 opt (JR Tryz.prog .not i) fun j=>CD j (fun c=>rv [.bool false] b R)
 (fun c=>c [.bool false] b)
 (fun k d=>opt (zd Tryz.prog 25 a d) fun l=>zO Tryz.prog (.func (.func 7) #[] #[]) [l] d (Wo a e f R k g h))
def UU:=fun (h:za) a b c d e (R:Value->za->Prop)=>
 opt (nb [a] (some (Value.cells a).toList)) fun f=>nw h f 25 fun g i=>zO Tryz.prog (.func (.func 6) #[] #[]) [] i (U1 R g d e b c)
theorem eX (h:za) (t0 t1 t2 t3 t4:Value) (R:Value->za->Prop):WT Tryz.prog (v7 Tryz.prog qs) 200 4 [t0,t1,t2,t3,t4] h R=UU h t0 t1 t2 t3 t4 R:=by kernel_rfl
theorem eY {h:za} {t0 t1 t2 t3 t4:Value} {R:Value->za->Prop} (hw:UU h t0 t1 t2 t3 t4 R):DC Tryz.prog 4 [t0,t1,t2,t3,t4] h R:=yP mixed (n:=200) (by rw [eX];exact hw)
noncomputable def G7:Array Field:=match Program.underlying Tryz.prog 80 with | some (.struct f)=>f | _ => #[]
noncomputable def G8:Array Field:=match Program.underlying Tryz.prog 85 with | some (.struct f)=>f | _ => #[]
theorem yQ (b off:Nat) (h:za):zd Tryz.prog 2 (.pointer (some ⟨b,off,none⟩)) h=zw h b off:=yn (by kernel_rfl) b off h
theorem u9 (b off:Nat) (h:za):zd Tryz.prog 22 (.pointer (some ⟨b,off,none⟩)) h=zw h b off:=yn (by kernel_rfl) b off h
theorem qa (b off:Nat) (h:za):zd Tryz.prog 23 (.pointer (some ⟨b,off,none⟩)) h=zw h b off:=yn (by kernel_rfl) b off h
theorem VE (b off:Nat) (h:za):zd Tryz.prog 25 (.pointer (some ⟨b,off,none⟩)) h=ye h b off 4:=qi (by kernel_rfl) (by kernel_rfl) b off h
theorem zi (b off:Nat) (h:za):zd Tryz.prog 3 (.pointer (some ⟨b,off,none⟩)) h=zw h b off:=yn (by kernel_rfl) b off h
theorem CW (b off:Nat) (h:za):zd Tryz.prog 30 (.pointer (some ⟨b,off,none⟩)) h=zw h b off:=yn (by kernel_rfl) b off h
theorem nh (b off:Nat) (h:za):zd Tryz.prog 31 (.pointer (some ⟨b,off,none⟩)) h=zw h b off:=yn (by kernel_rfl) b off h
theorem Ky (b off:Nat) (h:za):zd Tryz.prog 33 (.pointer (some ⟨b,off,none⟩)) h=ye h b off 5:=qi (by kernel_rfl) (by kernel_rfl) b off h
theorem ZX (b off:Nat) (h:za):zd Tryz.prog 45 (.pointer (some ⟨b,off,none⟩)) h=zw h b off:=yn (by kernel_rfl) b off h
theorem N8 (b off:Nat) (h:za):zd Tryz.prog 80 (.pointer (some ⟨b,off,none⟩)) h=ye h b off 3:=qi (by kernel_rfl) (by kernel_rfl) b off h
theorem N9 (b off:Nat) (h:za):zd Tryz.prog 85 (.pointer (some ⟨b,off,none⟩)) h=ye h b off 2:=qi (by kernel_rfl) (by kernel_rfl) b off h
theorem UJ (b off:Nat) (l:List Value) (h:za) (hv:l.length=5):zl Tryz.prog 33 (.pointer (some ⟨b,off,none⟩)) (.agg l.toArray) h=vf h b off l:=qP (by kernel_rfl) b off l h hv
theorem KA:wY Tryz.prog 33=some (.agg #[(.int .i64 0),(.int .i64 0),(.slice none 0 0),(.slice none 0 0),(.int .i64 0)]):=zH (by kernel_rfl)
theorem w5 (b off:Nat):zb Tryz.prog 25 (.pointer (some ⟨b,off,none⟩)) 0=some (.pointer (some ⟨b,off,none⟩)):=zH (by kernel_rfl)
theorem wF (b off:Nat):zb Tryz.prog 25 (.pointer (some ⟨b,off,none⟩)) 1=some (.pointer (some ⟨b,off + 1,none⟩)):=zH (by kernel_rfl)
theorem YL (b off:Nat):zb Tryz.prog 33 (.pointer (some ⟨b,off,none⟩)) 0=some (.pointer (some ⟨b,off,none⟩)):=zH (by kernel_rfl)
theorem ph (b off:Nat):zb Tryz.prog 33 (.pointer (some ⟨b,off,none⟩)) 1=some (.pointer (some ⟨b,off + 1,none⟩)):=zH (by kernel_rfl)
theorem eL (b off:Nat):zb Tryz.prog 33 (.pointer (some ⟨b,off,none⟩)) 2=some (.pointer (some ⟨b,off + 2,none⟩)):=zH (by kernel_rfl)
theorem Q5 (b off:Nat):zb Tryz.prog 33 (.pointer (some ⟨b,off,none⟩)) 3=some (.pointer (some ⟨b,off + 3,none⟩)):=zH (by kernel_rfl)
theorem u7 (b off:Nat):zb Tryz.prog 47 (.pointer (some ⟨b,off,none⟩)) 1=some (.pointer (some ⟨b,off + 1,none⟩)):=zH (by kernel_rfl)
theorem zg (b off:Nat):zb Tryz.prog 50 (.pointer (some ⟨b,off,none⟩)) 0=some (.pointer (some ⟨b,off,none⟩)):=zH (by kernel_rfl)
theorem zQ (b off:Nat):zb Tryz.prog 50 (.pointer (some ⟨b,off,none⟩)) 6=some (.pointer (some ⟨b,off + 6,none⟩)):=zH (by kernel_rfl)
theorem Hh (b off len c:Nat) (k:IntKind) (i:Int):zA Tryz.prog 22 (.slice (some ⟨b,off,none⟩) len c) (.int k i)=if 0<=i/\i < len then some (.pointer (some ⟨b,off + i.toNat * 1,none⟩)) else none:=wk (e:=3) (by kernel_rfl) (by kernel_rfl)
theorem Hi (b off len c:Nat) (k:IntKind) (i:Int):zA Tryz.prog 23 (.slice (some ⟨b,off,none⟩) len c) (.int k i)=if 0<=i/\i < len then some (.pointer (some ⟨b,off + i.toNat * 2,none⟩)) else none:=wk (e:=47) (by kernel_rfl) (by kernel_rfl)
theorem OR (b off len c:Nat) (k:IntKind) (i:Int):zA Tryz.prog 30 (.slice (some ⟨b,off,none⟩) len c) (.int k i)=if 0<=i/\i < len then some (.pointer (some ⟨b,off + i.toNat * 2,none⟩)) else none:=wk (e:=85) (by kernel_rfl) (by kernel_rfl)
theorem OS (b off len c:Nat) (k:IntKind) (i:Int):zA Tryz.prog 31 (.slice (some ⟨b,off,none⟩) len c) (.int k i)=if 0<=i/\i < len then some (.pointer (some ⟨b,off + i.toNat * 3,none⟩)) else none:=wk (e:=80) (by kernel_rfl) (by kernel_rfl)
theorem Hk (b off len c:Nat) (k:IntKind) (i:Int):zA Tryz.prog 45 (.slice (some ⟨b,off,none⟩) len c) (.int k i)=if 0<=i/\i < len then some (.pointer (some ⟨b,off + i.toNat * 7,none⟩)) else none:=wk (e:=50) (by kernel_rfl) (by kernel_rfl)
theorem pG (r:TypeId) (a:Option Addr) (n c:Nat) (h:za):zn Tryz.prog .len [22] r [.slice a n c] h=some (.int .i64 n,h):=zH (by kernel_rfl)
theorem pH (r:TypeId) (a:Option Addr) (n c:Nat) (h:za):zn Tryz.prog .len [23] r [.slice a n c] h=some (.int .i64 n,h):=zH (by kernel_rfl)
theorem B5 (r:TypeId) (a:Option Addr) (n c:Nat) (h:za):zn Tryz.prog .len [30] r [.slice a n c] h=some (.int .i64 n,h):=zH (by kernel_rfl)
theorem B6 (r:TypeId) (a:Option Addr) (n c:Nat) (h:za):zn Tryz.prog .len [31] r [.slice a n c] h=some (.int .i64 n,h):=zH (by kernel_rfl)
theorem pI (r:TypeId) (a:Option Addr) (n c:Nat) (h:za):zn Tryz.prog .len [45] r [.slice a n c] h=some (.int .i64 n,h):=zH (by kernel_rfl)
theorem Nl (x y:Operand) (a0:Int) (a1:Int) (a2:Int) (b0:Int) (b1:Int) (b2:Int):ze Tryz.prog .neq 80 x y (.agg #[(.int .i64 a0),(.int .i64 a1),(.int .i64 a2)]) (.agg #[(.int .i64 b0),(.int .i64 b1),(.int .i64 b2)])=some (.bool (!((a0 == b0) && ((a1 == b1) && ((a2 == b2)))))):=(YH (fs:=G7) (r:=(a0 == b0) && ((a1 == b1) && ((a2 == b2)))) (by kernel_rfl) (by kernel_rfl) (by kernel_rfl) rfl rfl (Eq.trans (b:=(cond (a0 == b0) (cond (a1 == b1) (cond (a2 == b2) (some true) (some false)) (some false)) (some false))) (by kernel_rfl) (by cases (a0 == b0) <;> cases (a1 == b1) <;> cases (a2 == b2) <;> rfl))).2
theorem Nm (x y:Operand) (a0:Int) (a1:Int) (b0:Int) (b1:Int):ze Tryz.prog .neq 85 x y (.agg #[(.int .i64 a0),(.int .i64 a1)]) (.agg #[(.int .i64 b0),(.int .i64 b1)])=some (.bool (!((a0 == b0) && ((a1 == b1))))):=(YH (fs:=G8) (r:=(a0 == b0) && ((a1 == b1))) (by kernel_rfl) (by kernel_rfl) (by kernel_rfl) rfl rfl (Eq.trans (b:=(cond (a0 == b0) (cond (a1 == b1) (some true) (some false)) (some false))) (by kernel_rfl) (by cases (a0 == b0) <;> cases (a1 == b1) <;> rfl))).2
end Go.Am
