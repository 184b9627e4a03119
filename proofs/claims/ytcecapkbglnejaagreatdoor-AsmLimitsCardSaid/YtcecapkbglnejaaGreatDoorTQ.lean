/- A part of the proof. -/
import Derived.Test.YtcecapkbglnejaaGreatDoorChecked
import Derived.KernelRfl
import Derived.Test.YtcecapkbglnejaaGreatDoorTH
import Derived.Test.YtcecapkbglnejaaGreatDoorTI
import Derived.Test.YtcecapkbglnejaaGreatDoorTJ
import Derived.Test.YtcecapkbglnejaaGreatDoorTN
set_option linter.unusedVariables false
set_option linter.unusedSimpArgs false
set_option maxRecDepth 100000
namespace Go.Ar
open Go.Ai Go.Proofs
def qs:FuncId->Nat:=fun g=>[0].getD g 0
theorem mixed:Tryz.prog.follows .mixedOrders=true:=aau Tryz.checked
def QK:=fun c (R:Value->za->Prop) d (e:List Value->za->Prop) f (a:za)=>
 opt (pk c (.bool true) f) fun g=>CD g (fun b=>rv [.bool false] a R)
 (fun b=>b [nth d 0] a)
 (fun h i=>e [nth h 0] i)
def QL:=fun a (R:Value->za->Prop) d (e:List Value->za->Prop) b (c:za)=>
 GD a false (fun f=>opt (nb [b,.int .i64 65536] (ze Tryz.prog .gtr 3 (.tmp 60) (.const (.int .i64 65536)) b (.int .i64 65536))) fun g=>f g c) (QK a R d e) c
def QM:=fun a e (R:Value->za->Prop) f (g:List Value->za->Prop) h (d:za)=>
 GD a false (fun i=>opt (zA Tryz.prog 22 e h) fun b=>i b d) (fun b c=>GD a false (fun j=>opt (zd Tryz.prog 3 b c) fun k=>j k c) (QL a R f g) c) d
def QN:=fun a d (R:Value->za->Prop) (f:List Value->za->Prop) g (b:za)=>
 GD a false (fun h=>opt (zd Tryz.prog 22 g b) fun c=>h c b) (fun c e=>GD a false (fun i=>i (nth d 1) e) (QM a c R d f) e) b
def QO:=fun b (a:za) c (R:Value->za->Prop) (f:List Value->za->Prop)=>
 opt (zb Tryz.prog 25 b 0) fun g=>opt (zd Tryz.prog 22 g a) fun h=>opt (zA Tryz.prog 22 h (nth c 1)) fun i=>opt (zd Tryz.prog 3 i a) fun d=>opt (nb [d,.int .i64 0] (ze Tryz.prog .lss 3 (.tmp 53) (.const (.int .i64 0)) d (.int .i64 0))) fun e=>GD e false (fun j=>opt (zb Tryz.prog 25 b 0) fun k=>j k a) (QN e c R f) a
def l7:=fun a (b:List Value->za->Prop) c (d:za)=>
 opt (nb [nth a 1,.int .i64 1] (ze Tryz.prog .add 3 (.tmp 47) (.const (.int .i64 1)) (nth a 1) (.int .i64 1))) fun e=>b [nth c 0,e] d
def l8:=fun b (h:List Value->za->Prop) (R:Value->za->Prop) a (c:za) (i:List Value->za->Prop)=>
 opt (zb Tryz.prog 25 b 0) fun j=>opt (zd Tryz.prog 22 j c) fun d=>xZ (nb [d] (zn Tryz.prog .len [22] 3 [d] c)) fun e f=>opt (nb [nth a 1,e] (ze Tryz.prog .lss 3 (.tmp 42) (.tmp 45) (nth a 1) e)) fun k=>CD k (fun g=>g [] f)
 (fun g=>h [nth a 0] f)
 (fun m l=>BK (QO b l a R)
 (l7 a i))
def vj:=fun c (R:Value->za->Prop) d (e:List Value->za->Prop) f g (a:za)=>
 opt (pk c g (.bool false)) fun h=>CD h (fun b=>rv [.bool false] a R)
 (fun b=>b [nth d 0] a)
 (fun i j=>e [nth i 0,f] j)
def vk:=fun b c d (R:Value->za->Prop) h (i:List Value->za->Prop) j e (f:za)=>
 GD b false (fun k=>opt (nb [c,e] (ze Tryz.prog .gtr 2 (.tmp 162) (.tmp 168) c e)) fun a=>k a f) (fun a g=>GD d true (fun l=>opt (pk b (.bool true) a) fun m=>l m g) (vj d R h i j) g) f
def wI:=fun a e f g (R:Value->za->Prop) h (i:List Value->za->Prop) j k (d:za)=>
 GD a false (fun l=>opt (zA Tryz.prog 22 e k) fun b=>l b d) (fun b c=>GD a false (fun m=>opt (zd Tryz.prog 3 b c) fun n=>m n c) (vk a f g R h i j) c) d
def wJ:=fun a e f g (R:Value->za->Prop) h (i:List Value->za->Prop) j k (d:za)=>
 GD a false (fun l=>opt (zb Tryz.prog 50 e 3) fun b=>l b d) (fun b c=>GD a false (fun m=>opt (zd Tryz.prog 3 b c) fun n=>m n c) (wI a k f g R h i j) c) d
def wK:=fun a e f g (R:Value->za->Prop) h (i:List Value->za->Prop) j k (d:za)=>
 GD a false (fun l=>opt (zb Tryz.prog 25 e 0) fun b=>l b d) (fun b c=>GD a false (fun m=>opt (zd Tryz.prog 22 b c) fun n=>m n c) (wJ a f k g R h i j) c) d
def wL:=fun d f g (R:Value->za->Prop) h (i:List Value->za->Prop) j a (e:za)=>
 GD a false (fun k=>opt (zb Tryz.prog 50 d 6) fun b=>k b e) (fun b c=>GD a false (fun l=>opt (zd Tryz.prog 2 b c) fun m=>l m c) (wK a f d g R h i j) c) e
def wM:=fun a e f g (R:Value->za->Prop) h (i:List Value->za->Prop) j k (c:za)=>
 GD a true (fun l=>opt (pk e (.bool true) k) fun b=>l b c) (fun b d=>GD a true (fun m=>m b d) (wL f g a R h i j) d) c
def wN:=fun a d e f (R:Value->za->Prop) g (h:List Value->za->Prop) i b (c:za)=>
 GD a false (fun j=>opt (nb [b,.int .i64 0] (ze Tryz.prog .lss 2 (.tmp 157) (.const (.int .i64 0)) b (.int .i64 0))) fun k=>j k c) (wM d a e f R g h i) c
def wO:=fun d f g (R:Value->za->Prop) h (i:List Value->za->Prop) j a (e:za)=>
 GD a false (fun k=>opt (zb Tryz.prog 50 d 6) fun b=>k b e) (fun b c=>GD a false (fun l=>opt (zd Tryz.prog 2 b c) fun m=>l m c) (wN a f d g R h i j) c) e
def wP:=fun a e f g (R:Value->za->Prop) h (i:List Value->za->Prop) j k (c:za)=>
 GD a true (fun l=>opt (pk e (.bool true) k) fun b=>l b c) (fun b d=>GD a true (fun m=>m b d) (wO f a g R h i j) d) c
def wQ:=fun a b e f g (R:Value->za->Prop) h (i:List Value->za->Prop) j c (d:za)=>
 GD a false (fun k=>opt (nb [b,c] (ze Tryz.prog .geq 3 (.tmp 149) (.tmp 152) b c)) fun l=>k l d) (wP e a f g R h i j) d
def wR:=fun b d e f g (R:Value->za->Prop) h (i:List Value->za->Prop) j c (a:za)=>
 GD b false (fun k=>xZ (nb [c] (zn Tryz.prog .len [22] 3 [c] a)) fun l _=>k l a) (wQ b d e f g R h i j) a
def wS:=fun a d f g (R:Value->za->Prop) h (i:List Value->za->Prop) j k (e:za)=>
 GD a false (fun l=>opt (zb Tryz.prog 25 d 0) fun b=>l b e) (fun b c=>GD a false (fun m=>opt (zd Tryz.prog 22 b c) fun n=>m n c) (wR a k f g d R h i j) c) e
def wT:=fun d f g (R:Value->za->Prop) h (i:List Value->za->Prop) j a (e:za)=>
 GD a false (fun k=>opt (zb Tryz.prog 50 d 3) fun b=>k b e) (fun b c=>GD a false (fun l=>opt (zd Tryz.prog 3 b c) fun m=>l m c) (wS a f g d R h i j) c) e
def wU:=fun a f g (R:Value->za->Prop) h (i:List Value->za->Prop) j c (d:za)=>
 GD a true (fun k=>opt (nb [c,.int .i64 0] (ze Tryz.prog .lss 3 (.tmp 145) (.const (.int .i64 0)) c (.int .i64 0))) fun b=>k b d) (fun b e=>GD a true (fun l=>l b e) (wT f g a R h i j) e) d
def wV:=fun a g (R:Value->za->Prop) (h:List Value->za->Prop) i j (b:za)=>
 opt (zb Tryz.prog 50 a 0) fun k=>opt (zd Tryz.prog 3 k b) fun f=>opt (nb [f,.int .i64 6] (ze Tryz.prog .eql 3 (.tmp 141) (.const (.int .i64 6)) f (.int .i64 6))) fun c=>GD c true (fun l=>opt (zb Tryz.prog 50 a 3) fun d=>l d b) (fun d e=>GD c true (fun m=>opt (zd Tryz.prog 3 d e) fun n=>m n e) (wU c a g R j h i) e) b
def xw:=fun c (R:Value->za->Prop) d e f (g:List Value->za->Prop) h i (a:za)=>
 opt (pk c i (.bool false)) fun j=>CD j (fun b=>rv [.bool false] a R)
 (fun b=>b [nth d 0] a)
 (wV e f R g h)
def xx:=fun b c d (R:Value->za->Prop) h i j (k:List Value->za->Prop) l e (f:za)=>
 GD b false (fun m=>opt (nb [c,e] (ze Tryz.prog .geq 3 (.tmp 133) (.tmp 136) c e)) fun a=>m a f) (fun a g=>GD d true (fun n=>opt (pk b (.bool true) a) fun o=>n o g) (xw d R h i j k l) g) f
def xz:=fun a d e (R:Value->za->Prop) f g h (i:List Value->za->Prop) j b (c:za)=>
 GD a false (fun k=>xZ (nb [b] (zn Tryz.prog .len [23] 3 [b] c)) fun l m=>k l m) (xx a d e R f g h i j) c
def xA:=fun a d f (R:Value->za->Prop) g h (i:List Value->za->Prop) j k (e:za)=>
 GD a false (fun l=>opt (zb Tryz.prog 25 d 1) fun b=>l b e) (fun b c=>GD a false (fun m=>opt (zd Tryz.prog 23 b c) fun n=>m n c) (xz a k f R g h d i j) c) e
def xB:=fun d f g (R:Value->za->Prop) h (i:List Value->za->Prop) j a (e:za)=>
 GD a false (fun k=>opt (zb Tryz.prog 50 d 3) fun b=>k b e) (fun b c=>GD a false (fun l=>opt (zd Tryz.prog 3 b c) fun m=>l m c) (xA a f g R h d i j) c) e
def xC:=fun a f g (R:Value->za->Prop) h (i:List Value->za->Prop) j c (d:za)=>
 GD a true (fun k=>opt (nb [c,.int .i64 0] (ze Tryz.prog .lss 3 (.tmp 129) (.const (.int .i64 0)) c (.int .i64 0))) fun b=>k b d) (fun b e=>GD a true (fun l=>l b e) (xB f g a R h i j) e) d
def xD:=fun a g (R:Value->za->Prop) (h:List Value->za->Prop) i j (b:za)=>
 opt (zb Tryz.prog 50 a 0) fun k=>opt (zd Tryz.prog 3 k b) fun f=>opt (nb [f,.int .i64 21] (ze Tryz.prog .eql 3 (.tmp 125) (.const (.int .i64 21)) f (.int .i64 21))) fun c=>GD c true (fun l=>opt (zb Tryz.prog 50 a 3) fun d=>l d b) (fun d e=>GD c true (fun m=>opt (zd Tryz.prog 3 d e) fun n=>m n e) (xC c a g R j h i) e) b
def yq:=fun c (R:Value->za->Prop) d e f (g:List Value->za->Prop) h i (a:za)=>
 opt (pk c (.bool true) i) fun j=>CD j (fun b=>rv [.bool false] a R)
 (fun b=>b [nth d 0] a)
 (xD e f R g h)
def yr:=fun b c (R:Value->za->Prop) g h i (j:List Value->za->Prop) k d (e:za)=>
 GD b true (fun l=>opt (nb [d,.int .i64 0] (ze Tryz.prog .lss 3 (.tmp 120) (.const (.int .i64 0)) d (.int .i64 0))) fun a=>l a e) (fun a f=>GD c false (fun m=>opt (pk b a (.bool false)) fun n=>m n f) (yq c R g h i j k) f) e
def yW:=fun a c d (R:Value->za->Prop) e f g (h:List Value->za->Prop) i j (b:za)=>
 GD a true (fun k=>zO Tryz.prog (.func (.func 30) #[] #[]) [c,j] b (fun l m=>k l m)) (yr a d R e f g h i) b
def yX:=fun a d f (R:Value->za->Prop) g h (i:List Value->za->Prop) j k (e:za)=>
 GD a true (fun l=>opt (zb Tryz.prog 50 d 5) fun b=>l b e) (fun b c=>GD a true (fun m=>opt (zd Tryz.prog 3 b c) fun n=>m n c) (yW a k f R g d h i j) c) e
def yY:=fun b e f (R:Value->za->Prop) g h (i:List Value->za->Prop) j k (c:za)=>
 GD b false (fun l=>l k c) (fun d a=>GD d true (fun m=>opt (zd Tryz.prog 47 e a) fun n=>m n a) (yX d f b R g h i j) a) c
def yZ:=fun b c g h (R:Value->za->Prop) i j (k:List Value->za->Prop) l d (e:za)=>
 GD b false (fun m=>opt (nb [d,.int .i64 19] (ze Tryz.prog .eql 3 (.tmp 113) (.const (.int .i64 19)) d (.int .i64 19))) fun a=>m a e) (fun a f=>GD c false (fun n=>opt (pk b (.bool true) a) fun o=>n o f) (yY c g h R i j k l) f) e
def y1:=fun d f g (R:Value->za->Prop) h i (j:List Value->za->Prop) k a (e:za)=>
 GD a false (fun l=>opt (zb Tryz.prog 50 d 0) fun b=>l b e) (fun b c=>GD a false (fun m=>opt (zd Tryz.prog 3 b c) fun n=>m n c) (yZ a f g d R h i j k) c) e
def y4:=fun a f g (R:Value->za->Prop) h i (j:List Value->za->Prop) k c (d:za)=>
 GD a false (fun l=>opt (nb [c,.int .i64 18] (ze Tryz.prog .eql 3 (.tmp 109) (.const (.int .i64 18)) c (.int .i64 18))) fun b=>l b d) (fun b e=>GD a false (fun m=>m b e) (y1 f a g R h i j k) e) d
def y5:=fun f d g (R:Value->za->Prop) h i (j:List Value->za->Prop) k l (e:za)=>
 opt (pk f l (.bool false)) fun a=>GD a false (fun m=>opt (zb Tryz.prog 50 d 0) fun b=>m b e) (fun b c=>GD a false (fun n=>opt (zd Tryz.prog 3 b c) fun o=>n o c) (y4 a d g R h i j k) c) e
def y6:=fun a b e f (R:Value->za->Prop) g h (i:List Value->za->Prop) j c (d:za)=>
 GD a true (fun k=>opt (nb [b,c] (ze Tryz.prog .neq 3 (.tmp 103) (.tmp 104) b c)) fun l=>k l d) (y5 a e f R g h i j) d
def xE:=fun a e f g h (R:Value->za->Prop) i j (k:List Value->za->Prop) l m (c:za)=>
 GD a true (fun n=>zO Tryz.prog (.func (.func 30) #[] #[]) [e,m] c (fun b o=>n b o)) (fun b d=>GD a true (fun p=>p (nth f 2) d) (y6 a b g h R i j k l) d) c
def xF:=fun a d f g (R:Value->za->Prop) h i (j:List Value->za->Prop) k l (e:za)=>
 GD a true (fun m=>opt (zb Tryz.prog 50 d 5) fun b=>m b e) (fun b c=>GD a true (fun n=>opt (zd Tryz.prog 3 b c) fun o=>n o c) (xE a l f d g R h i j k) c) e
def xG:=fun b c f (R:Value->za->Prop) g (h:List Value->za->Prop) i j (a:za)=>
 opt (zb Tryz.prog 50 b 0) fun k=>opt (zd Tryz.prog 3 k a) fun d=>opt (nb [d,.int .i64 20] (ze Tryz.prog .eql 3 (.tmp 97) (.const (.int .i64 20)) d (.int .i64 20))) fun e=>GD e true (fun l=>opt (zd Tryz.prog 47 c a) fun m=>l m a) (xF e b f c R j g h i) a
def y7:=fun (R:Value->za->Prop) a d e f (g:List Value->za->Prop) h i (b:za)=>
 opt (JR Tryz.prog .not i) fun j=>CD j (fun c=>rv [.bool false] b R)
 (fun c=>c [nth a 0] b)
 (xG d e a R f g h)
def KU:=fun a b (R:Value->za->Prop) d e (f:List Value->za->Prop) g (c:za)=>
 opt (pk (nth a 1) (.bool true) g) fun h=>opt (zd Tryz.prog 50 b c) fun i=>zO Tryz.prog (.func (.func 29) #[] #[]) [i] c (y7 R a b d e f h)
def KV:=fun a d (R:Value->za->Prop) e f (g:List Value->za->Prop) b (c:za)=>
 GD (nth a 1) false (fun h=>opt (nb [b,.int .i64 20] (ze Tryz.prog .neq 3 (.tmp 90) (.const (.int .i64 20)) b (.int .i64 20))) fun i=>h i c) (KU a d R e f g) c
def fL:=fun f (b:za) a (R:Value->za->Prop) i (j:List Value->za->Prop)=>
 opt (zb Tryz.prog 47 f 1) fun k=>opt (zd Tryz.prog 45 k b) fun l=>opt (zA Tryz.prog 45 l (nth a 2)) fun m=>opt (zd Tryz.prog 50 m b) fun g=>opt (wY Tryz.prog 50) fun n=>nw b (Value.cells n).toList 50 fun c o=>opt (nb [g] (zl Tryz.prog 50 c g o)) fun h=>GD (nth a 1) false (fun p=>opt (zb Tryz.prog 50 c 0) fun d=>p d h) (fun d e=>GD (nth a 1) false (fun q=>opt (zd Tryz.prog 3 d e) fun r=>q r e) (KV a c R f i j) e) h
def uV:=fun a (c:List Value->za->Prop) b (d:za)=>
 opt (nb [nth a 2,.int .i64 1] (ze Tryz.prog .add 3 (.tmp 80) (.const (.int .i64 1)) (nth a 2) (.int .i64 1))) fun e=>c [nth b 0,nth b 1,e] d
def KW:=fun b (h:List Value->za->Prop) (R:Value->za->Prop) i a (c:za) (j:List Value->za->Prop)=>
 opt (zb Tryz.prog 47 b 1) fun k=>opt (zd Tryz.prog 45 k c) fun d=>xZ (nb [d] (zn Tryz.prog .len [45] 3 [d] c)) fun e f=>opt (nb [nth a 2,e] (ze Tryz.prog .lss 3 (.tmp 75) (.tmp 78) (nth a 2) e)) fun l=>CD l (fun g=>g [] f)
 (fun g=>h [nth a 0,nth a 1] f)
 (fun n m=>BK (fL b m a R i)
 (uV a j))
def V4:=fun c (R:Value->za->Prop) d (e:List Value->za->Prop) f (a:za)=>
 opt (pk c (.bool true) f) fun g=>CD g (fun b=>rv [.bool false] a R)
 (fun b=>b [nth d 0] a)
 (fun h i=>e [nth h 0] i)
def V5:=fun a (R:Value->za->Prop) d (e:List Value->za->Prop) b (c:za)=>
 GD a false (fun f=>opt (nb [b,.int .i64 100000] (ze Tryz.prog .gtr 3 (.tmp 177) (.const (.int .i64 100000)) b (.int .i64 100000))) fun g=>f g c) (V4 a R d e) c
def V6:=fun b (R:Value->za->Prop) e (f:List Value->za->Prop) g (c:za)=>
 GD b false (fun h=>opt (zd Tryz.prog 45 g c) fun a=>h a c) (fun a d=>GD b false (fun i=>xZ (nb [a] (zn Tryz.prog .len [45] 3 [a] d)) fun j k=>i j k) (V5 b R e f) d) c
def fM:=fun d (R:Value->za->Prop) (e:List Value->za->Prop) a (b:za)=>
 opt (JR Tryz.prog .not (nth a 1)) fun c=>GD c false (fun f=>opt (zb Tryz.prog 47 d 1) fun g=>f g b) (V6 c R a e) b
def fN:=fun c (a:za) d (R:Value->za->Prop) (f:List Value->za->Prop)=>
 opt (zb Tryz.prog 25 c 1) fun g=>opt (zd Tryz.prog 23 g a) fun h=>opt (zA Tryz.prog 23 h (nth d 1)) fun i=>opt (zd Tryz.prog 47 i a) fun e=>opt (wY Tryz.prog 47) fun j=>nw a (Value.cells j).toList 47 fun b k=>opt (nb [e] (zl Tryz.prog 47 b e k)) fun l=>BK (fun m=>LP (KW b m R c)
 [nth d 0,.bool false,.int .i64 0] l)
 (fM b R f)
def fO:=fun a (b:List Value->za->Prop) c (d:za)=>
 opt (nb [nth a 1,.int .i64 1] (ze Tryz.prog .add 3 (.tmp 68) (.const (.int .i64 1)) (nth a 1) (.int .i64 1))) fun e=>b [nth c 0,e] d
def KX:=fun b (h:List Value->za->Prop) (R:Value->za->Prop) a (c:za) (i:List Value->za->Prop)=>
 opt (zb Tryz.prog 25 b 1) fun j=>opt (zd Tryz.prog 23 j c) fun d=>xZ (nb [d] (zn Tryz.prog .len [23] 3 [d] c)) fun e f=>opt (nb [nth a 1,e] (ze Tryz.prog .lss 3 (.tmp 63) (.tmp 66) (nth a 1) e)) fun k=>CD k (fun g=>g [] f)
 (fun g=>h [nth a 0] f)
 (fun m l=>BK (fN b l a R)
 (fO a i))
def KY:=fun a (R:Value->za->Prop) b (c:za)=>
 BK (fun d=>LP (l8 a d R)
 [nth b 0,.int .i64 0] c)
 (fun e f=>BK (fun g=>LP (KX a g R)
 [nth e 0,.int .i64 0] f)
 (fun i h=>rv [.bool true] h R))
def Zd:=fun b (R:Value->za->Prop) g c (d:za)=>
 GD b false (fun h=>opt (nb [c,.int .i64 6] (ze Tryz.prog .gtr 3 (.tmp 39) (.const (.int .i64 6)) c (.int .i64 6))) fun a=>h a d) (fun a e=>opt (pk b (.bool true) a) fun i=>CD i (fun f=>rv [.bool false] e R)
 (fun f=>f [.bool false] e)
 (KY g R)) d
def Ze:=fun f d (R:Value->za->Prop) g (e:za)=>
 opt (pk f (.bool true) g) fun a=>GD a false (fun h=>opt (zb Tryz.prog 25 d 3) fun b=>h b e) (fun b c=>GD a false (fun i=>opt (zd Tryz.prog 3 b c) fun j=>i j c) (Zd a R d) c) e
def Zf:=fun a d (R:Value->za->Prop) b (c:za)=>
 GD a false (fun e=>opt (nb [b,.int .i64 0] (ze Tryz.prog .lss 3 (.tmp 34) (.const (.int .i64 0)) b (.int .i64 0))) fun f=>e f c) (Ze a d R) c
def Zg:=fun f d (R:Value->za->Prop) g (e:za)=>
 opt (pk f (.bool true) g) fun a=>GD a false (fun h=>opt (zb Tryz.prog 25 d 3) fun b=>h b e) (fun b c=>GD a false (fun i=>opt (zd Tryz.prog 3 b c) fun j=>i j c) (Zf a d R) c) e
def Zh:=fun b c g (R:Value->za->Prop) d (e:za)=>
 GD b false (fun h=>xZ (nb [d] (zn Tryz.prog .len [23] 3 [d] e)) fun a i=>h a i) (fun a f=>GD b false (fun j=>opt (nb [c,a] (ze Tryz.prog .geq 3 (.tmp 26) (.tmp 29) c a)) fun k=>j k f) (Zg b g R) f) e
def Zi:=fun a d (R:Value->za->Prop) f (e:za)=>
 GD a false (fun g=>opt (zb Tryz.prog 25 d 1) fun b=>g b e) (fun b c=>GD a false (fun h=>opt (zd Tryz.prog 23 b c) fun i=>h i c) (Zh a f d R) c) e
def Zj:=fun f d (R:Value->za->Prop) g (e:za)=>
 opt (pk f (.bool true) g) fun a=>GD a false (fun h=>opt (zb Tryz.prog 25 d 2) fun b=>h b e) (fun b c=>GD a false (fun i=>opt (zd Tryz.prog 3 b c) fun j=>i j c) (Zi a d R) c) e
def Zk:=fun a d (R:Value->za->Prop) b (c:za)=>
 GD a false (fun e=>opt (nb [b,.int .i64 0] (ze Tryz.prog .lss 3 (.tmp 21) (.const (.int .i64 0)) b (.int .i64 0))) fun f=>e f c) (Zj a d R) c
def Zl:=fun f d (R:Value->za->Prop) g (e:za)=>
 opt (pk f (.bool true) g) fun a=>GD a false (fun h=>opt (zb Tryz.prog 25 d 2) fun b=>h b e) (fun b c=>GD a false (fun i=>opt (zd Tryz.prog 3 b c) fun j=>i j c) (Zk a d R) c) e
def Zm:=fun a d (R:Value->za->Prop) b (c:za)=>
 GD a false (fun e=>opt (nb [b,.int .i64 100] (ze Tryz.prog .gtr 3 (.tmp 16) (.const (.int .i64 100)) b (.int .i64 100))) fun f=>e f c) (Zl a d R) c
def Zn:=fun b e (R:Value->za->Prop) f (c:za)=>
 GD b false (fun g=>opt (zd Tryz.prog 23 f c) fun a=>g a c) (fun a d=>GD b false (fun h=>xZ (nb [a] (zn Tryz.prog .len [23] 3 [a] d)) fun i j=>h i j) (Zm b e R) d) c
def oj:=fun (h:za) b (R:Value->za->Prop)=>
 opt (nb [b] (some (Value.cells b).toList)) fun i=>nw h i 25 fun a c=>opt (zb Tryz.prog 25 a 0) fun j=>opt (zd Tryz.prog 22 j c) fun d=>xZ (nb [d] (zn Tryz.prog .len [22] 3 [d] c)) fun e f=>opt (nb [e,.int .i64 200] (ze Tryz.prog .gtr 3 (.tmp 11) (.const (.int .i64 200)) e (.int .i64 200))) fun g=>GD g false (fun k=>opt (zb Tryz.prog 25 a 1) fun l=>k l f) (Zn g a R) f
theorem AS (h:za) (t0:Value) (R:Value->za->Prop):WT Tryz.prog (v7 Tryz.prog qs) 200 15 [t0] h R=oj h t0 R:=by kernel_rfl
theorem AT {h:za} {t0:Value} {R:Value->za->Prop} (hw:oj h t0 R):DC Tryz.prog 15 [t0] h R:=yP mixed (n:=200) (by rw [AS];exact hw)
def jJ:=fun b (R:Value->za->Prop) d (c:za)=>
 GD b true (fun e=>zO Tryz.prog (.func (.func 53) #[] #[]) [d] c (fun a f=>e a f)) (fun a g=>opt (pk b a (.bool false)) fun h=>rv [h] g R) c
def jK:=fun e f (R:Value->za->Prop) g (d:za)=>
 opt (pk e (.bool true) g) fun a=>GD a true (fun h=>opt (zb Tryz.prog 50 f 6) fun b=>h b d) (fun b c=>GD a true (fun i=>opt (zd Tryz.prog 2 b c) fun j=>i j c) (jJ a R) c) d
def jL:=fun a d (R:Value->za->Prop) b (c:za)=>
 GD a false (fun e=>opt (nb [b,.int .i64 8] (ze Tryz.prog .eql 3 (.tmp 94) (.const (.int .i64 8)) b (.int .i64 8))) fun f=>e f c) (jK a d R) c
def jM:=fun f d (R:Value->za->Prop) g (e:za)=>
 opt (pk f (.bool true) g) fun a=>GD a false (fun h=>opt (zb Tryz.prog 50 d 3) fun b=>h b e) (fun b c=>GD a false (fun i=>opt (zd Tryz.prog 3 b c) fun j=>i j c) (jL a d R) c) e
def jN:=fun a d (R:Value->za->Prop) b (c:za)=>
 GD a false (fun e=>opt (nb [b,.int .i64 4] (ze Tryz.prog .eql 3 (.tmp 89) (.const (.int .i64 4)) b (.int .i64 4))) fun f=>e f c) (jM a d R) c
def K3:=fun b (R:Value->za->Prop) d (c:za)=>
 GD b true (fun e=>zO Tryz.prog (.func (.func 53) #[] #[]) [d] c (fun a f=>e a f)) (fun a g=>opt (pk b a (.bool false)) fun h=>rv [h] g R) c
def K4:=fun e (R:Value->za->Prop) a (d:za)=>
 GD a true (fun f=>opt (zb Tryz.prog 50 e 6) fun b=>f b d) (fun b c=>GD a true (fun g=>opt (zd Tryz.prog 2 b c) fun h=>g h c) (K3 a R) c) d
def V8:=fun b (R:Value->za->Prop) c (d:za)=>
 GD b false (fun e=>opt (nb [c,.int .i64 2] (ze Tryz.prog .eql 3 (.tmp 130) (.const (.int .i64 2)) c (.int .i64 2))) fun a=>e a d) (fun a f=>opt (pk b (.bool true) a) fun g=>rv [g] f R) d
def V9:=fun b (R:Value->za->Prop) c (d:za)=>
 GD b false (fun e=>opt (nb [c,.int .i64 4] (ze Tryz.prog .eql 3 (.tmp 140) (.const (.int .i64 4)) c (.int .i64 4))) fun a=>e a d) (fun a f=>opt (pk b (.bool true) a) fun g=>rv [g] f R) d
def jn:=fun b (R:Value->za->Prop) c (d:za)=>
 GD b true (fun e=>opt (nb [c,.int .i64 63] (ze Tryz.prog .leq 2 (.tmp 160) (.const (.int .i64 63)) c (.int .i64 63))) fun a=>e a d) (fun a f=>opt (pk b a (.bool false)) fun g=>rv [g] f R) d
def jo:=fun e f (R:Value->za->Prop) g (d:za)=>
 opt (pk e g (.bool false)) fun a=>GD a true (fun h=>opt (zb Tryz.prog 50 f 6) fun b=>h b d) (fun b c=>GD a true (fun i=>opt (zd Tryz.prog 2 b c) fun j=>i j c) (jn a R) c) d
def jq:=fun a d (R:Value->za->Prop) b (c:za)=>
 GD a true (fun e=>opt (nb [b,.int .i64 0] (ze Tryz.prog .geq 2 (.tmp 155) (.const (.int .i64 0)) b (.int .i64 0))) fun f=>e f c) (jo a d R) c
def jr:=fun f d (R:Value->za->Prop) g (e:za)=>
 opt (pk f (.bool true) g) fun a=>GD a true (fun h=>opt (zb Tryz.prog 50 d 6) fun b=>h b e) (fun b c=>GD a true (fun i=>opt (zd Tryz.prog 2 b c) fun j=>i j c) (jq a d R) c) e
def jt:=fun a d (R:Value->za->Prop) b (c:za)=>
 GD a false (fun e=>opt (nb [b,.int .i64 20] (ze Tryz.prog .eql 3 (.tmp 150) (.const (.int .i64 20)) b (.int .i64 20))) fun f=>e f c) (jr a d R) c
def WX:=fun b (R:Value->za->Prop) c (d:za)=>
 GD b false (fun e=>opt (nb [c,.int .i64 20] (ze Tryz.prog .eql 3 (.tmp 170) (.const (.int .i64 20)) c (.int .i64 20))) fun a=>e a d) (fun a f=>opt (pk b (.bool true) a) fun g=>rv [g] f R) d
def XF:=fun b (R:Value->za->Prop) c (d:za)=>
 GD b true (fun e=>opt (nb [c,.int .i64 10000000] (ze Tryz.prog .leq 3 (.tmp 190) (.const (.int .i64 10000000)) c (.int .i64 10000000))) fun a=>e a d) (fun a f=>opt (pk b a (.bool false)) fun g=>rv [g] f R) d
def XG:=fun e f (R:Value->za->Prop) g (d:za)=>
 opt (pk e g (.bool false)) fun a=>GD a true (fun h=>opt (zb Tryz.prog 50 f 5) fun b=>h b d) (fun b c=>GD a true (fun i=>opt (zd Tryz.prog 3 b c) fun j=>i j c) (XF a R) c) d
def XH:=fun a d (R:Value->za->Prop) b (c:za)=>
 GD a true (fun e=>opt (nb [b,.int .i64 0] (ze Tryz.prog .geq 3 (.tmp 185) (.const (.int .i64 0)) b (.int .i64 0))) fun f=>e f c) (XG a d R) c
def XI:=fun d (R:Value->za->Prop) a (e:za)=>
 GD a true (fun f=>opt (zb Tryz.prog 50 d 5) fun b=>f b e) (fun b c=>GD a true (fun g=>opt (zd Tryz.prog 3 b c) fun h=>g h c) (XH a d R) c) e
def Zo:=fun b (R:Value->za->Prop) c (d:za)=>
 GD b true (fun e=>opt (nb [c,.int .i64 10000000] (ze Tryz.prog .leq 3 (.tmp 201) (.const (.int .i64 10000000)) c (.int .i64 10000000))) fun a=>e a d) (fun a f=>opt (pk b a (.bool false)) fun g=>rv [g] f R) d
def Zp:=fun b (R:Value->za->Prop) c (d:za)=>
 GD b true (fun e=>opt (nb [c,.int .i64 65536] (ze Tryz.prog .leq 2 (.tmp 212) (.const (.int .i64 65536)) c (.int .i64 65536))) fun a=>e a d) (fun a f=>opt (pk b a (.bool false)) fun g=>rv [g] f R) d
def Zq:=fun e (a:za) (R:Value->za->Prop) (k:List Value->za->Prop)=>
 opt (zb Tryz.prog 50 e 6) fun g=>opt (zd Tryz.prog 2 g a) fun f=>opt (nb [f,.int .i64 0] (ze Tryz.prog .geq 2 (.tmp 208) (.const (.int .i64 0)) f (.int .i64 0))) fun b=>GD b true (fun h=>opt (zb Tryz.prog 50 e 6) fun c=>h c a) (fun c d=>GD b true (fun i=>opt (zd Tryz.prog 2 c d) fun j=>i j d) (Zp b R) d) a
def Zr:=fun e (a:za) (R:Value->za->Prop) (k:List Value->za->Prop)=>
 opt (zb Tryz.prog 50 e 5) fun g=>opt (zd Tryz.prog 3 g a) fun f=>opt (nb [f,.int .i64 0] (ze Tryz.prog .geq 3 (.tmp 197) (.const (.int .i64 0)) f (.int .i64 0))) fun b=>GD b true (fun h=>opt (zb Tryz.prog 50 e 5) fun c=>h c a) (fun c d=>GD b true (fun i=>opt (zd Tryz.prog 3 c d) fun j=>i j d) (Zo b R) d) a
def ju:=fun a (c:za) f (R:Value->za->Prop) g (h:List Value->za->Prop)=>
 opt (nb [a,.int .i64 23] (ze Tryz.prog .eql 3 (.tmp 80) (.const (.int .i64 23)) a (.int .i64 23))) fun d=>CD d (fun b=>b [d] c)
 (fun b=>opt (nb [a,.int .i64 24] (ze Tryz.prog .eql 3 (.tmp 80) (.const (.int .i64 24)) a (.int .i64 24))) fun i=>b [i] c)
 (fun j e=>CD (nth j 0) (Zq f e R)
 (fun k=>k [nth g 0] e)
 (fun l m=>h [nth l 0] m))
def vQ:=fun a (c:za) d (R:Value->za->Prop) g (h:List Value->za->Prop)=>
 opt (nb [a,.int .i64 18] (ze Tryz.prog .eql 3 (.tmp 80) (.const (.int .i64 18)) a (.int .i64 18))) fun e=>CD e (fun b=>b [e] c)
 (fun b=>opt (nb [a,.int .i64 20] (ze Tryz.prog .eql 3 (.tmp 80) (.const (.int .i64 20)) a (.int .i64 20))) fun i=>b [i] c)
 (fun j f=>CD (nth j 0) (Zr d f R)
 (ju a f d R g)
 (fun k l=>h [nth k 0] l))
def dw:=fun b (a:za) (R:Value->za->Prop) (g:List Value->za->Prop)=>
 opt (zb Tryz.prog 50 b 4) fun c=>opt (zd Tryz.prog 3 c a) fun d=>zO Tryz.prog (.func (.func 55) #[] #[]) [d] a (fun e f=>rv [e] f R)
def vD:=fun a b (c:za) (R:Value->za->Prop) d (e:List Value->za->Prop)=>
 opt (nb [a,.int .i64 19] (ze Tryz.prog .eql 3 (.tmp 80) (.const (.int .i64 19)) a (.int .i64 19))) fun f=>CD f (fun k=>opt (zb Tryz.prog 50 b 4) fun g=>opt (zd Tryz.prog 3 g c) fun h=>zO Tryz.prog (.func (.func 55) #[] #[]) [h] c (XI b R))
 (vQ a c b R d)
 (fun i j=>e [nth i 0] j)
def WY:=fun e (a:za) (R:Value->za->Prop) (k:List Value->za->Prop)=>
 opt (zb Tryz.prog 50 e 3) fun g=>opt (zd Tryz.prog 3 g a) fun f=>opt (nb [f,.int .i64 19] (ze Tryz.prog .eql 3 (.tmp 166) (.const (.int .i64 19)) f (.int .i64 19))) fun b=>GD b false (fun h=>opt (zb Tryz.prog 50 e 3) fun c=>h c a) (fun c d=>GD b false (fun i=>opt (zd Tryz.prog 3 c d) fun j=>i j d) (WX b R) d) a
def vm:=fun a b (c:za) (R:Value->za->Prop) d (e:List Value->za->Prop)=>
 opt (nb [a,.int .i64 17] (ze Tryz.prog .eql 3 (.tmp 80) (.const (.int .i64 17)) a (.int .i64 17))) fun f=>CD f (dw b c R)
 (vD a b c R d)
 (fun g h=>e [nth g 0] h)
def jv:=fun a (b:za) (R:Value->za->Prop) (k:List Value->za->Prop)=>
 opt (zb Tryz.prog 50 a 3) fun g=>opt (zd Tryz.prog 3 g b) fun f=>opt (nb [f,.int .i64 19] (ze Tryz.prog .eql 3 (.tmp 146) (.const (.int .i64 19)) f (.int .i64 19))) fun c=>GD c false (fun h=>opt (zb Tryz.prog 50 a 3) fun d=>h d b) (fun d e=>GD c false (fun i=>opt (zd Tryz.prog 3 d e) fun j=>i j e) (jt c a R) e) b
def wE:=fun a b (c:za) (R:Value->za->Prop) d (e:List Value->za->Prop)=>
 opt (nb [a,.int .i64 12] (ze Tryz.prog .eql 3 (.tmp 80) (.const (.int .i64 12)) a (.int .i64 12))) fun f=>CD f (WY b c R)
 (vm a b c R d)
 (fun g h=>e [nth g 0] h)
def WZ:=fun e (a:za) (R:Value->za->Prop) (k:List Value->za->Prop)=>
 opt (zb Tryz.prog 50 e 3) fun g=>opt (zd Tryz.prog 3 g a) fun f=>opt (nb [f,.int .i64 3] (ze Tryz.prog .eql 3 (.tmp 136) (.const (.int .i64 3)) f (.int .i64 3))) fun b=>GD b false (fun h=>opt (zb Tryz.prog 50 e 3) fun c=>h c a) (fun c d=>GD b false (fun i=>opt (zd Tryz.prog 3 c d) fun j=>i j d) (V9 b R) d) a
def yE:=fun a b (c:za) (R:Value->za->Prop) d (e:List Value->za->Prop)=>
 opt (nb [a,.int .i64 11] (ze Tryz.prog .eql 3 (.tmp 80) (.const (.int .i64 11)) a (.int .i64 11))) fun f=>CD f (jv b c R)
 (wE a b c R d)
 (fun g h=>e [nth g 0] h)
def W0:=fun e (a:za) (R:Value->za->Prop) (k:List Value->za->Prop)=>
 opt (zb Tryz.prog 50 e 3) fun g=>opt (zd Tryz.prog 3 g a) fun f=>opt (nb [f,.int .i64 1] (ze Tryz.prog .eql 3 (.tmp 126) (.const (.int .i64 1)) f (.int .i64 1))) fun b=>GD b false (fun h=>opt (zb Tryz.prog 50 e 3) fun c=>h c a) (fun c d=>GD b false (fun i=>opt (zd Tryz.prog 3 c d) fun j=>i j d) (V8 b R) d) a
def yj:=fun a b (c:za) (R:Value->za->Prop) d (e:List Value->za->Prop)=>
 opt (nb [a,.int .i64 10] (ze Tryz.prog .eql 3 (.tmp 80) (.const (.int .i64 10)) a (.int .i64 10))) fun f=>CD f (WZ b c R)
 (yE a b c R d)
 (fun g h=>e [nth g 0] h)
def yc:=fun a b (c:za) (R:Value->za->Prop) d (e:List Value->za->Prop)=>
 opt (nb [a,.int .i64 9] (ze Tryz.prog .eql 3 (.tmp 80) (.const (.int .i64 9)) a (.int .i64 9))) fun f=>CD f (W0 b c R)
 (yj a b c R d)
 (fun g h=>e [nth g 0] h)
def dx:=fun b (a:za) (R:Value->za->Prop) (g:List Value->za->Prop)=>
 opt (zb Tryz.prog 50 b 3) fun c=>opt (zd Tryz.prog 3 c a) fun d=>zO Tryz.prog (.func (.func 54) #[] #[]) [d] a (fun e f=>rv [e] f R)
def ya:=fun a b (c:za) (R:Value->za->Prop) d (e:List Value->za->Prop)=>
 opt (nb [a,.int .i64 8] (ze Tryz.prog .eql 3 (.tmp 80) (.const (.int .i64 8)) a (.int .i64 8))) fun f=>CD f (fun k=>opt (zb Tryz.prog 50 b 3) fun g=>opt (zd Tryz.prog 3 g c) fun h=>zO Tryz.prog (.func (.func 54) #[] #[]) [h] c (K4 b R))
 (yc a b c R d)
 (fun i j=>e [nth i 0] j)
def U3:=fun b (a:za) (R:Value->za->Prop) (g:List Value->za->Prop)=>
 opt (zb Tryz.prog 50 b 6) fun c=>opt (zd Tryz.prog 2 c a) fun d=>zO Tryz.prog (.func (.func 53) #[] #[]) [d] a (fun e f=>rv [e] f R)
def zY:=fun a b (c:za) (R:Value->za->Prop) d (e:List Value->za->Prop)=>
 opt (nb [a,.int .i64 7] (ze Tryz.prog .eql 3 (.tmp 80) (.const (.int .i64 7)) a (.int .i64 7))) fun f=>CD f (dx b c R)
 (ya a b c R d)
 (fun g h=>e [nth g 0] h)
def kB:=fun a (b:za) (R:Value->za->Prop) (k:List Value->za->Prop)=>
 opt (zb Tryz.prog 50 a 3) fun g=>opt (zd Tryz.prog 3 g b) fun f=>opt (nb [f,.int .i64 1] (ze Tryz.prog .eql 3 (.tmp 85) (.const (.int .i64 1)) f (.int .i64 1))) fun c=>GD c false (fun h=>opt (zb Tryz.prog 50 a 3) fun d=>h d b) (fun d e=>GD c false (fun i=>opt (zd Tryz.prog 3 d e) fun j=>i j e) (jN c a R) e) b
def zT:=fun a (c:za) d (R:Value->za->Prop) g (h:List Value->za->Prop)=>
 opt (nb [a,.int .i64 5] (ze Tryz.prog .eql 3 (.tmp 80) (.const (.int .i64 5)) a (.int .i64 5))) fun e=>CD e (fun b=>b [e] c)
 (fun b=>opt (nb [a,.int .i64 16] (ze Tryz.prog .eql 3 (.tmp 80) (.const (.int .i64 16)) a (.int .i64 16))) fun i=>b [i] c)
 (fun j f=>CD (nth j 0) (U3 d f R)
 (zY a d f R g)
 (fun k l=>h [nth k 0] l))
def zK:=fun a (c:za) d (R:Value->za->Prop) g (h:List Value->za->Prop)=>
 opt (nb [a,.int .i64 3] (ze Tryz.prog .eql 3 (.tmp 80) (.const (.int .i64 3)) a (.int .i64 3))) fun e=>CD e (fun b=>b [e] c)
 (fun b=>opt (nb [a,.int .i64 4] (ze Tryz.prog .eql 3 (.tmp 80) (.const (.int .i64 4)) a (.int .i64 4))) fun i=>b [i] c)
 (fun j f=>CD (nth j 0) (kB d f R)
 (zT a f d R g)
 (fun k l=>h [nth k 0] l))
def zt:=fun a (R:Value->za->Prop) c (b:za)=>
 opt (zb Tryz.prog 50 a 0) fun d=>opt (zd Tryz.prog 3 d b) fun e=>BK (zK e b a R c)
 (fun g f=>rv [.bool true] f R)
def jw:=fun b (R:Value->za->Prop) g h c (d:za)=>
 GD b true (fun i=>opt (nb [c,.int .i64 1] (ze Tryz.prog .neq 3 (.tmp 76) (.const (.int .i64 1)) c (.int .i64 1))) fun a=>i a d) (fun a e=>opt (pk b a (.bool false)) fun j=>CD j (fun f=>rv [.bool false] e R)
 (fun f=>f [nth g 0] e)
 (zt h R)) d
def jx:=fun f d (R:Value->za->Prop) g h (e:za)=>
 opt (pk f h (.bool false)) fun a=>GD a true (fun i=>opt (zb Tryz.prog 50 d 0) fun b=>i b e) (fun b c=>GD a true (fun j=>opt (zd Tryz.prog 3 b c) fun k=>j k c) (jw a R g d) c) e
def jy:=fun a d (R:Value->za->Prop) e b (c:za)=>
 GD a true (fun f=>opt (nb [b,.int .i64 5] (ze Tryz.prog .neq 3 (.tmp 71) (.const (.int .i64 5)) b (.int .i64 5))) fun g=>f g c) (jx a d R e) c
def jz:=fun f d (R:Value->za->Prop) g h (e:za)=>
 opt (pk f h (.bool false)) fun a=>GD a true (fun i=>opt (zb Tryz.prog 50 d 0) fun b=>i b e) (fun b c=>GD a true (fun j=>opt (zd Tryz.prog 3 b c) fun k=>j k c) (jy a d R g) c) e
def jA:=fun a d (R:Value->za->Prop) e b (c:za)=>
 GD a true (fun f=>opt (nb [b,.int .i64 4] (ze Tryz.prog .neq 3 (.tmp 66) (.const (.int .i64 4)) b (.int .i64 4))) fun g=>f g c) (jz a d R e) c
def jB:=fun f d (R:Value->za->Prop) g h (e:za)=>
 opt (pk f h (.bool false)) fun a=>GD a true (fun i=>opt (zb Tryz.prog 50 d 0) fun b=>i b e) (fun b c=>GD a true (fun j=>opt (zd Tryz.prog 3 b c) fun k=>j k c) (jA a d R g) c) e
def jC:=fun a d (R:Value->za->Prop) e b (c:za)=>
 GD a true (fun f=>opt (nb [b,.int .i64 3] (ze Tryz.prog .neq 3 (.tmp 61) (.const (.int .i64 3)) b (.int .i64 3))) fun g=>f g c) (jB a d R e) c
def jD:=fun f d (R:Value->za->Prop) g h (e:za)=>
 opt (pk f h (.bool false)) fun a=>GD a true (fun i=>opt (zb Tryz.prog 50 d 0) fun b=>i b e) (fun b c=>GD a true (fun j=>opt (zd Tryz.prog 3 b c) fun k=>j k c) (jC a d R g) c) e
def jE:=fun a d (R:Value->za->Prop) e b (c:za)=>
 GD a true (fun f=>opt (nb [b,.int .i64 4] (ze Tryz.prog .eql 3 (.tmp 56) (.const (.int .i64 4)) b (.int .i64 4))) fun g=>f g c) (jD a d R e) c
def kC:=fun a d (R:Value->za->Prop) f (e:za)=>
 GD a true (fun g=>opt (zb Tryz.prog 50 d 2) fun b=>g b e) (fun b c=>GD a true (fun h=>opt (zd Tryz.prog 3 b c) fun i=>h i c) (jE a d R f) c) e
def xQ:=fun b f (R:Value->za->Prop) g h i (c:za)=>
 GD b false (fun j=>opt (pk f i (.bool false)) fun a=>j a c) (fun a d=>opt (pk b (.bool true) a) fun k=>CD k (fun e=>rv [.bool false] d R)
 (fun e=>e [.bool false] d)
 (kC g h R)) c
def xR:=fun a d (R:Value->za->Prop) e f b (c:za)=>
 GD a true (fun g=>opt (nb [b,.int .i64 4] (ze Tryz.prog .eql 3 (.tmp 49) (.const (.int .i64 4)) b (.int .i64 4))) fun h=>g h c) (xQ d a R e f) c
def xS:=fun d f (R:Value->za->Prop) g a (e:za)=>
 GD a true (fun h=>opt (zb Tryz.prog 50 d 1) fun b=>h b e) (fun b c=>GD a true (fun i=>opt (zd Tryz.prog 3 b c) fun j=>i j c) (xR a f R g d) c) e
def v8:=fun a e (R:Value->za->Prop) f g (c:za)=>
 GD a false (fun h=>zO Tryz.prog (.func (.func 52) #[] #[]) [g] c (fun b i=>h b i)) (fun b d=>GD a false (fun j=>j b d) (xS e a R f) d) c
def v9:=fun c g d (R:Value->za->Prop) h i (e:za)=>
 GD c false (fun j=>opt (pk g i (.bool false)) fun a=>j a e) (fun a b=>opt (pk c (.bool true) a) fun f=>GD f false (fun k=>opt (zd Tryz.prog 50 d b) fun l=>k l b) (v8 f d R h) b) e
def ua:=fun b c g h (R:Value->za->Prop) i d (e:za)=>
 GD b false (fun j=>opt (nb [d,.int .i64 15] (ze Tryz.prog .gtr 3 (.tmp 39) (.const (.int .i64 15)) d (.int .i64 15))) fun a=>j a e) (fun a f=>GD c true (fun k=>opt (pk b (.bool true) a) fun l=>k l f) (v9 g c h R i) f) e
def ub:=fun d f g (R:Value->za->Prop) h a (e:za)=>
 GD a false (fun i=>opt (zb Tryz.prog 50 d 2) fun b=>i b e) (fun b c=>GD a false (fun j=>opt (zd Tryz.prog 3 b c) fun k=>j k c) (ua a f g d R h) c) e
def uc:=fun a f g (R:Value->za->Prop) h c (d:za)=>
 GD a true (fun i=>opt (nb [c,.int .i64 0] (ze Tryz.prog .lss 3 (.tmp 35) (.const (.int .i64 0)) c (.int .i64 0))) fun b=>i b d) (fun b e=>GD a true (fun j=>j b e) (ub f a g R h) e) d
def ud:=fun d f (R:Value->za->Prop) g a (e:za)=>
 GD a true (fun h=>opt (zb Tryz.prog 50 d 2) fun b=>h b e) (fun b c=>GD a true (fun i=>opt (zd Tryz.prog 3 b c) fun j=>i j c) (uc a d f R g) c) e
def ue:=fun e b f (R:Value->za->Prop) g (c:za)=>
 opt (pk e (.bool true) g) fun a=>GD a false (fun h=>h b c) (fun i d=>GD a false (fun j=>j i d) (ud f a R b) d) c
def uf:=fun b f c g h (R:Value->za->Prop) i (d:za)=>
 GD b true (fun j=>opt (pk f (.bool true) i) fun a=>j a d) (fun a e=>GD c false (fun k=>opt (pk b a (.bool false)) fun l=>k l e) (ue c g h R) e) d
def ug:=fun a d e f g (R:Value->za->Prop) b (c:za)=>
 GD a false (fun h=>opt (nb [b,.int .i64 15] (ze Tryz.prog .gtr 3 (.tmp 26) (.const (.int .i64 15)) b (.int .i64 15))) fun i=>h i c) (uf d a e f g R) c
def uh:=fun d f g h (R:Value->za->Prop) a (e:za)=>
 GD a false (fun i=>opt (zb Tryz.prog 50 d 1) fun b=>i b e) (fun b c=>GD a false (fun j=>opt (zd Tryz.prog 3 b c) fun k=>j k c) (ug a f g h d R) c) e
def ui:=fun a f g h (R:Value->za->Prop) c (d:za)=>
 GD a true (fun i=>opt (nb [c,.int .i64 0] (ze Tryz.prog .lss 3 (.tmp 22) (.const (.int .i64 0)) c (.int .i64 0))) fun b=>i b d) (fun b e=>GD a true (fun j=>j b e) (uh f a g h R) e) d
def uj:=fun d f g (R:Value->za->Prop) a (e:za)=>
 GD a true (fun h=>opt (zb Tryz.prog 50 d 1) fun b=>h b e) (fun b c=>GD a true (fun i=>opt (zd Tryz.prog 3 b c) fun j=>i j c) (ui a d f g R) c) e
def uk:=fun d e f g (R:Value->za->Prop) h (b:za)=>
 opt (pk d (.bool true) h) fun a=>GD a false (fun i=>i e b) (fun j c=>GD a false (fun k=>k j c) (uj f a g R) c) b
def um:=fun a d e f (R:Value->za->Prop) b (c:za)=>
 GD a false (fun g=>opt (nb [b,.int .i64 26] (ze Tryz.prog .gtr 3 (.tmp 15) (.const (.int .i64 26)) b (.int .i64 26))) fun h=>g h c) (uk a d e f R) c
def uo:=fun a (R:Value->za->Prop) f (b:za)=>
 opt (YW f 0) fun h=>opt (YW f 1) fun i=>opt (zb Tryz.prog 50 a 0) fun j=>opt (zd Tryz.prog 3 j b) fun g=>opt (nb [g,.int .i64 1] (ze Tryz.prog .lss 3 (.tmp 11) (.const (.int .i64 1)) g (.int .i64 1))) fun c=>GD c false (fun k=>opt (zb Tryz.prog 50 a 0) fun d=>k d b) (fun d e=>GD c false (fun l=>opt (zd Tryz.prog 3 d e) fun m=>l m e) (um c h a i R) e) b
def fT:=fun (h:za) a (R:Value->za->Prop)=>
 opt (nb [a] (some (Value.cells a).toList)) fun d=>nw h d 50 fun b c=>opt (zd Tryz.prog 50 b c) fun e=>zO Tryz.prog (.func (.func 51) #[] #[]) [e] c (uo b R)
theorem rQ (h:za) (t0:Value) (R:Value->za->Prop):WT Tryz.prog (v7 Tryz.prog qs) 200 29 [t0] h R=fT h t0 R:=by kernel_rfl
theorem rR {h:za} {t0:Value} {R:Value->za->Prop} (hw:fT h t0 R):DC Tryz.prog 29 [t0] h R:=yP mixed (n:=200) (by rw [rQ];exact hw)
def Uc:=fun a (c:za) (e:List Value->za->Prop)=>
 opt (nb [a,.int .i64 12] (ze Tryz.prog .eql 3 (.tmp 4) (.const (.int .i64 12)) a (.int .i64 12))) fun d=>CD d (fun b=>b [d] c)
 (fun b=>opt (nb [a,.int .i64 17] (ze Tryz.prog .eql 3 (.tmp 4) (.const (.int .i64 17)) a (.int .i64 17))) fun f=>b [f] c)
 (fun g h=>e [nth g 0] h)
def Wq:=fun a (b:za) (d:List Value->za->Prop)=>
 opt (nb [a,.int .i64 11] (ze Tryz.prog .eql 3 (.tmp 4) (.const (.int .i64 11)) a (.int .i64 11))) fun c=>CD c (fun e=>e [c] b)
 (Uc a b)
 (fun f g=>d [nth f 0] g)
def Y9:=fun a (b:za) (d:List Value->za->Prop)=>
 opt (nb [a,.int .i64 10] (ze Tryz.prog .eql 3 (.tmp 4) (.const (.int .i64 10)) a (.int .i64 10))) fun c=>CD c (fun e=>e [c] b)
 (Wq a b)
 (fun f g=>d [nth f 0] g)
def Z5:=fun a (b:za) (d:List Value->za->Prop)=>
 opt (nb [a,.int .i64 9] (ze Tryz.prog .eql 3 (.tmp 4) (.const (.int .i64 9)) a (.int .i64 9))) fun c=>CD c (fun e=>e [c] b)
 (Y9 a b)
 (fun f g=>d [nth f 0] g)
def Zs:=fun a (b:za) (d:List Value->za->Prop)=>
 opt (nb [a,.int .i64 8] (ze Tryz.prog .eql 3 (.tmp 4) (.const (.int .i64 8)) a (.int .i64 8))) fun c=>CD c (fun e=>e [c] b)
 (Z5 a b)
 (fun f g=>d [nth f 0] g)
def jR:=fun a (b:za) (d:List Value->za->Prop)=>
 opt (nb [a,.int .i64 7] (ze Tryz.prog .eql 3 (.tmp 4) (.const (.int .i64 7)) a (.int .i64 7))) fun c=>CD c (fun e=>e [c] b)
 (Zs a b)
 (fun f g=>d [nth f 0] g)
def kZ:=fun a (b:za) (d:List Value->za->Prop)=>
 opt (nb [a,.int .i64 6] (ze Tryz.prog .eql 3 (.tmp 4) (.const (.int .i64 6)) a (.int .i64 6))) fun c=>CD c (fun e=>e [c] b)
 (jR a b)
 (fun f g=>d [nth f 0] g)
def qN:=fun a (b:za) (d:List Value->za->Prop)=>
 opt (nb [a,.int .i64 5] (ze Tryz.prog .eql 3 (.tmp 4) (.const (.int .i64 5)) a (.int .i64 5))) fun c=>CD c (fun e=>e [c] b)
 (kZ a b)
 (fun f g=>d [nth f 0] g)
def qo:=fun a (b:za) (d:List Value->za->Prop)=>
 opt (nb [a,.int .i64 3] (ze Tryz.prog .eql 3 (.tmp 4) (.const (.int .i64 3)) a (.int .i64 3))) fun c=>CD c (fun e=>e [c] b)
 (qN a b)
 (fun f g=>d [nth f 0] g)
def uw:=fun a (b:za) (d:List Value->za->Prop)=>
 opt (nb [a,.int .i64 2] (ze Tryz.prog .eql 3 (.tmp 4) (.const (.int .i64 2)) a (.int .i64 2))) fun c=>CD c (fun e=>e [c] b)
 (qo a b)
 (fun f g=>d [nth f 0] g)
def vR:=fun a (b:za) (R:Value->za->Prop) (f:List Value->za->Prop)=>
 opt (nb [a,.int .i64 1] (ze Tryz.prog .eql 3 (.tmp 4) (.const (.int .i64 1)) a (.int .i64 1))) fun c=>CD c (fun g=>g [c] b)
 (uw a b)
 (fun h d=>CD (nth h 0) (fun e=>rv [.bool true] d R)
 (fun e=>e [.bool false] d)
 (fun i j=>f [nth i 0] j))
def gi:=fun (h:za) a (R:Value->za->Prop)=>
 opt (nb [a] (some (Value.cells a).toList)) fun c=>nw h c 50 fun d b=>opt (zb Tryz.prog 50 d 0) fun e=>opt (zd Tryz.prog 3 e b) fun f=>BK (vR f b R)
 (fun i g=>rv [.bool false] g R)
theorem sk (h:za) (t0:Value) (R:Value->za->Prop):WT Tryz.prog (v7 Tryz.prog qs) 200 52 [t0] h R=gi h t0 R:=by kernel_rfl
theorem sn {h:za} {t0:Value} {R:Value->za->Prop} (hw:gi h t0 R):DC Tryz.prog 52 [t0] h R:=yP mixed (n:=200) (by rw [sk];exact hw)
def q7:=fun a (c:za) (e:List Value->za->Prop)=>
 opt (nb [a,.int .i64 14] (ze Tryz.prog .eql 3 (.tmp 23) (.const (.int .i64 14)) a (.int .i64 14))) fun d=>CD d (fun b=>b [d] c)
 (fun b=>opt (nb [a,.int .i64 15] (ze Tryz.prog .eql 3 (.tmp 23) (.const (.int .i64 15)) a (.int .i64 15))) fun f=>b [f] c)
 (fun g h=>e [nth g 0] h)
def qF:=fun a (b:za) (d:List Value->za->Prop)=>
 opt (nb [a,.int .i64 10] (ze Tryz.prog .eql 3 (.tmp 23) (.const (.int .i64 10)) a (.int .i64 10))) fun c=>CD c (fun e=>e [c] b)
 (q7 a b)
 (fun f g=>d [nth f 0] g)
def qg:=fun a (b:za) (d:List Value->za->Prop)=>
 opt (nb [a,.int .i64 7] (ze Tryz.prog .eql 3 (.tmp 23) (.const (.int .i64 7)) a (.int .i64 7))) fun c=>CD c (fun e=>e [c] b)
 (qF a b)
 (fun f g=>d [nth f 0] g)
def u0:=fun a (b:za) (d:List Value->za->Prop)=>
 opt (nb [a,.int .i64 5] (ze Tryz.prog .eql 3 (.tmp 23) (.const (.int .i64 5)) a (.int .i64 5))) fun c=>CD c (fun e=>e [c] b)
 (qg a b)
 (fun f g=>d [nth f 0] g)
def uP:=fun a (b:za) (d:List Value->za->Prop)=>
 opt (nb [a,.int .i64 4] (ze Tryz.prog .eql 3 (.tmp 23) (.const (.int .i64 4)) a (.int .i64 4))) fun c=>CD c (fun e=>e [c] b)
 (u0 a b)
 (fun f g=>d [nth f 0] g)
def uu:=fun a (b:za) (d:List Value->za->Prop)=>
 opt (nb [a,.int .i64 3] (ze Tryz.prog .eql 3 (.tmp 23) (.const (.int .i64 3)) a (.int .i64 3))) fun c=>CD c (fun e=>e [c] b)
 (uP a b)
 (fun f g=>d [nth f 0] g)
def vT:=fun d (R:Value->za->Prop) (e:List Value->za->Prop) f (a:za)=>
 CD (nth f 0) (fun b=>rv [d,.bool true] a R)
 (fun b=>b [.bool false,.bool false] a)
 (fun c g=>e [nth c 0,nth c 1] g)
def vU:=fun a (b:za) d (R:Value->za->Prop) (e:List Value->za->Prop)=>
 opt (nb [a,.int .i64 1] (ze Tryz.prog .eql 3 (.tmp 23) (.const (.int .i64 1)) a (.int .i64 1))) fun c=>CD c (fun f=>f [c] b)
 (uu a b)
 (vT d R e)
def vV:=fun c d (R:Value->za->Prop) e (a:za)=>
 opt (pk c (.bool true) e) fun b=>opt (zb Tryz.prog 50 d 0) fun f=>opt (zd Tryz.prog 3 f a) fun g=>BK (vU g a b R)
 (fun i h=>rv [b,.bool false] h R)
def vp:=fun a d (R:Value->za->Prop) b (c:za)=>
 GD a false (fun e=>opt (nb [b,.int .i64 16] (ze Tryz.prog .eql 3 (.tmp 19) (.const (.int .i64 16)) b (.int .i64 16))) fun f=>e f c) (vV a d R) c
def vq:=fun f d (R:Value->za->Prop) g (e:za)=>
 opt (pk f (.bool true) g) fun a=>GD a false (fun h=>opt (zb Tryz.prog 50 d 0) fun b=>h b e) (fun b c=>GD a false (fun i=>opt (zd Tryz.prog 3 b c) fun j=>i j c) (vp a d R) c) e
def vr:=fun a d (R:Value->za->Prop) b (c:za)=>
 GD a false (fun e=>opt (nb [b,.int .i64 15] (ze Tryz.prog .eql 3 (.tmp 14) (.const (.int .i64 15)) b (.int .i64 15))) fun f=>e f c) (vq a d R) c
def vt:=fun f d (R:Value->za->Prop) g (e:za)=>
 opt (pk f (.bool true) g) fun a=>GD a false (fun h=>opt (zb Tryz.prog 50 d 0) fun b=>h b e) (fun b c=>GD a false (fun i=>opt (zd Tryz.prog 3 b c) fun j=>i j c) (vr a d R) c) e
def vu:=fun a d (R:Value->za->Prop) b (c:za)=>
 GD a false (fun e=>opt (nb [b,.int .i64 4] (ze Tryz.prog .eql 3 (.tmp 9) (.const (.int .i64 4)) b (.int .i64 4))) fun f=>e f c) (vt a d R) c
def vw:=fun d (R:Value->za->Prop) a (e:za)=>
 GD a false (fun f=>opt (zb Tryz.prog 50 d 0) fun b=>f b e) (fun b c=>GD a false (fun g=>opt (zd Tryz.prog 3 b c) fun h=>g h c) (vu a d R) c) e
def oA:=fun (h:za) a (R:Value->za->Prop)=>
 opt (nb [a] (some (Value.cells a).toList)) fun d=>nw h d 50 fun b c=>opt (zd Tryz.prog 50 b c) fun e=>zO Tryz.prog (.func (.func 52) #[] #[]) [e] c (vw b R)
theorem Bf (h:za) (t0:Value) (R:Value->za->Prop):WT Tryz.prog (v7 Tryz.prog qs) 200 51 [t0] h R=oA h t0 R:=by kernel_rfl
theorem Bg {h:za} {t0:Value} {R:Value->za->Prop} (hw:oA h t0 R):DC Tryz.prog 51 [t0] h R:=yP mixed (n:=200) (by rw [Bf];exact hw)
def QT:=fun b (R:Value->za->Prop) c (d:za)=>
 GD b true (fun e=>opt (nb [c,.int .i64 2147483647] (ze Tryz.prog .leq 2 (.tmp 6) (.const (.int .i64 2147483647)) c (.int .i64 2147483647))) fun a=>e a d) (fun a f=>opt (pk b a (.bool false)) fun g=>rv [g] f R) d
def oB:=fun (h:za) a (R:Value->za->Prop)=>
 opt (nb [a,.int .i64 (-2147483648)] (ze Tryz.prog .geq 2 (.tmp 3) (.const (.int .i64 (-2147483648))) a (.int .i64 (-2147483648)))) fun b=>GD b true (fun c=>c a h) (QT b R) h
theorem Bj (h:za) (t0:Value) (R:Value->za->Prop):WT Tryz.prog (v7 Tryz.prog qs) 200 53 [t0] h R=oB h t0 R:=by kernel_rfl
theorem Bk {h:za} {t0:Value} {R:Value->za->Prop} (hw:oB h t0 R):DC Tryz.prog 53 [t0] h R:=yP mixed (n:=200) (by rw [Bj];exact hw)
def eA:=fun b (R:Value->za->Prop) c (d:za)=>
 GD b true (fun e=>opt (nb [c,.int .i64 26] (ze Tryz.prog .leq 3 (.tmp 6) (.const (.int .i64 26)) c (.int .i64 26))) fun a=>e a d) (fun a f=>opt (pk b a (.bool false)) fun g=>rv [g] f R) d
def FY:=fun (h:za) a (R:Value->za->Prop)=>
 opt (nb [a,.int .i64 21] (ze Tryz.prog .geq 3 (.tmp 3) (.const (.int .i64 21)) a (.int .i64 21))) fun b=>GD b true (fun c=>c a h) (eA b R) h
theorem FZ (h:za) (t0:Value) (R:Value->za->Prop):WT Tryz.prog (v7 Tryz.prog qs) 200 55 [t0] h R=FY h t0 R:=by kernel_rfl
theorem F4 {h:za} {t0:Value} {R:Value->za->Prop} (hw:FY h t0 R):DC Tryz.prog 55 [t0] h R:=yP mixed (n:=200) (by rw [FZ];exact hw)
def XA:=fun b (R:Value->za->Prop) c (d:za)=>
 GD b false (fun e=>opt (nb [c,.int .i64 18] (ze Tryz.prog .eql 3 (.tmp 22) (.const (.int .i64 18)) c (.int .i64 18))) fun a=>e a d) (fun a f=>opt (pk b (.bool true) a) fun g=>rv [g] f R) d
def XB:=fun b g (R:Value->za->Prop) c (d:za)=>
 GD b false (fun h=>opt (nb [c,.int .i64 17] (ze Tryz.prog .eql 3 (.tmp 18) (.const (.int .i64 17)) c (.int .i64 17))) fun a=>h a d) (fun a e=>opt (pk b (.bool true) a) fun f=>GD f false (fun i=>i g e) (XA f R) e) d
def XC:=fun b c (R:Value->za->Prop) d (e:za)=>
 GD b false (fun h=>opt (nb [d,.int .i64 16] (ze Tryz.prog .eql 3 (.tmp 14) (.const (.int .i64 16)) d (.int .i64 16))) fun a=>h a e) (fun a f=>opt (pk b (.bool true) a) fun g=>GD g false (fun i=>i c f) (XB g c R) f) e
def XD:=fun b c (R:Value->za->Prop) d (e:za)=>
 GD b false (fun h=>opt (nb [d,.int .i64 13] (ze Tryz.prog .eql 3 (.tmp 10) (.const (.int .i64 13)) d (.int .i64 13))) fun a=>h a e) (fun a f=>opt (pk b (.bool true) a) fun g=>GD g false (fun i=>i c f) (XC g c R) f) e
def XE:=fun b c (R:Value->za->Prop) d (e:za)=>
 GD b false (fun h=>opt (nb [d,.int .i64 12] (ze Tryz.prog .eql 3 (.tmp 6) (.const (.int .i64 12)) d (.int .i64 12))) fun a=>h a e) (fun a f=>opt (pk b (.bool true) a) fun g=>GD g false (fun i=>i c f) (XD g c R) f) e
def AU:=fun (h:za) a (R:Value->za->Prop)=>
 opt (nb [a,.int .i64 11] (ze Tryz.prog .eql 3 (.tmp 3) (.const (.int .i64 11)) a (.int .i64 11))) fun b=>GD b false (fun c=>c a h) (XE b a R) h
theorem DV (h:za) (t0:Value) (R:Value->za->Prop):WT Tryz.prog (v7 Tryz.prog qs) 200 54 [t0] h R=AU h t0 R:=by kernel_rfl
theorem DW {h:za} {t0:Value} {R:Value->za->Prop} (hw:AU h t0 R):DC Tryz.prog 54 [t0] h R:=yP mixed (n:=200) (by rw [DV];exact hw)
def QC:=fun d a (R:Value->za->Prop) (e:List Value->za->Prop) f (b:za)=>
 opt (pk d f (.bool false)) fun g=>CD g (fun c=>rv [nth a 1] b R)
 (fun c=>c [nth a 0] b)
 (fun h i=>e [nth h 0] i)
def QD:=fun a f g (R:Value->za->Prop) (h:List Value->za->Prop) b (c:za)=>
 GD a true (fun i=>i f c) (fun d e=>GD a true (fun j=>opt (nb [b,d] (ze Tryz.prog .eql 3 (.tmp 26) (.tmp 27) b d)) fun k=>j k e) (QC a g R h) e) c
def QE:=fun a e f (R:Value->za->Prop) (g:List Value->za->Prop) h (d:za)=>
 GD a true (fun i=>opt (zb Tryz.prog 50 h 5) fun b=>i b d) (fun b c=>GD a true (fun j=>opt (zd Tryz.prog 3 b c) fun k=>j k c) (QD a e f R g) c) d
def QF:=fun a b e (R:Value->za->Prop) (f:List Value->za->Prop) g (c:za)=>
 GD a true (fun h=>h (nth b 1) c) (fun i d=>GD a true (fun j=>opt (zA Tryz.prog 45 g i) fun k=>j k d) (QE a e b R f) d) c
def QG:=fun e (a:za) f h (R:Value->za->Prop) (i:List Value->za->Prop)=>
 opt (zb Tryz.prog 47 e 1) fun j=>opt (zd Tryz.prog 45 j a) fun k=>opt (zA Tryz.prog 45 k (nth f 1)) fun l=>opt (zb Tryz.prog 50 l 0) fun m=>opt (zd Tryz.prog 3 m a) fun g=>opt (nb [g,.int .i64 20] (ze Tryz.prog .eql 3 (.tmp 18) (.const (.int .i64 20)) g (.int .i64 20))) fun b=>GD b true (fun n=>opt (zb Tryz.prog 47 e 1) fun c=>n c a) (fun c d=>GD b true (fun o=>opt (zd Tryz.prog 45 c d) fun p=>o p d) (QF b f h R i) d) a
def aZ:=fun a (b:List Value->za->Prop) c (d:za)=>
 opt (nb [nth a 1,.int .i64 1] (ze Tryz.prog .add 3 (.tmp 11) (.const (.int .i64 1)) (nth a 1) (.int .i64 1))) fun e=>b [nth c 0,e] d
def lU:=fun b (h:List Value->za->Prop) i (R:Value->za->Prop) a (c:za) (j:List Value->za->Prop)=>
 opt (zb Tryz.prog 47 b 1) fun k=>opt (zd Tryz.prog 45 k c) fun d=>xZ (nb [d] (zn Tryz.prog .len [45] 3 [d] c)) fun e f=>opt (nb [nth a 1,e] (ze Tryz.prog .lss 3 (.tmp 6) (.tmp 9) (nth a 1) e)) fun l=>CD l (fun g=>g [] f)
 (fun g=>h [nth a 0] f)
 (fun n m=>BK (QG b m a i R)
 (aZ a j))
def od:=fun (h:za) a b (R:Value->za->Prop)=>
 opt (nb [a] (some (Value.cells a).toList)) fun c=>nw h c 47 fun d e=>BK (fun f=>LP (lU d f b R)
 [.int .i64 0,.int .i64 0] e)
 (fun i g=>rv [.int .i64 (-1)] g R)
theorem AK (h:za) (t0 t1:Value) (R:Value->za->Prop):WT Tryz.prog (v7 Tryz.prog qs) 200 30 [t0,t1] h R=od h t0 t1 R:=by kernel_rfl
theorem AL {h:za} {t0 t1:Value} {R:Value->za->Prop} (hw:od h t0 t1 R):DC Tryz.prog 30 [t0,t1] h R:=yP mixed (n:=200) (by rw [AK];exact hw)
theorem yQ (b off:Nat) (h:za):zd Tryz.prog 2 (.pointer (some ⟨b,off,none⟩)) h=zw h b off:=yn (by kernel_rfl) b off h
theorem u9 (b off:Nat) (h:za):zd Tryz.prog 22 (.pointer (some ⟨b,off,none⟩)) h=zw h b off:=yn (by kernel_rfl) b off h
theorem qa (b off:Nat) (h:za):zd Tryz.prog 23 (.pointer (some ⟨b,off,none⟩)) h=zw h b off:=yn (by kernel_rfl) b off h
theorem zi (b off:Nat) (h:za):zd Tryz.prog 3 (.pointer (some ⟨b,off,none⟩)) h=zw h b off:=yn (by kernel_rfl) b off h
theorem ZX (b off:Nat) (h:za):zd Tryz.prog 45 (.pointer (some ⟨b,off,none⟩)) h=zw h b off:=yn (by kernel_rfl) b off h
theorem U9 (b off:Nat) (h:za):zd Tryz.prog 47 (.pointer (some ⟨b,off,none⟩)) h=ye h b off 2:=qi (by kernel_rfl) (by kernel_rfl) b off h
theorem vS (b off:Nat) (h:za):zd Tryz.prog 50 (.pointer (some ⟨b,off,none⟩)) h=ye h b off 7:=qi (by kernel_rfl) (by kernel_rfl) b off h
theorem CZ (b off:Nat) (l:List Value) (h:za) (hv:l.length=2):zl Tryz.prog 47 (.pointer (some ⟨b,off,none⟩)) (.agg l.toArray) h=vf h b off l:=qP (by kernel_rfl) b off l h hv
theorem nk (b off:Nat) (l:List Value) (h:za) (hv:l.length=7):zl Tryz.prog 50 (.pointer (some ⟨b,off,none⟩)) (.agg l.toArray) h=vf h b off l:=qP (by kernel_rfl) b off l h hv
theorem C1:wY Tryz.prog 47=some (.agg #[(.string ⟨#[]⟩),(.slice none 0 0)]):=zH (by kernel_rfl)
theorem nq:wY Tryz.prog 50=some (.agg #[(.int .i64 0),(.int .i64 0),(.int .i64 0),(.int .i64 0),(.int .i64 0),(.int .i64 0),(.int .i64 0)]):=zH (by kernel_rfl)
theorem w5 (b off:Nat):zb Tryz.prog 25 (.pointer (some ⟨b,off,none⟩)) 0=some (.pointer (some ⟨b,off,none⟩)):=zH (by kernel_rfl)
theorem wF (b off:Nat):zb Tryz.prog 25 (.pointer (some ⟨b,off,none⟩)) 1=some (.pointer (some ⟨b,off + 1,none⟩)):=zH (by kernel_rfl)
theorem j7 (b off:Nat):zb Tryz.prog 25 (.pointer (some ⟨b,off,none⟩)) 2=some (.pointer (some ⟨b,off + 2,none⟩)):=zH (by kernel_rfl)
theorem ZJ (b off:Nat):zb Tryz.prog 25 (.pointer (some ⟨b,off,none⟩)) 3=some (.pointer (some ⟨b,off + 3,none⟩)):=zH (by kernel_rfl)
theorem u7 (b off:Nat):zb Tryz.prog 47 (.pointer (some ⟨b,off,none⟩)) 1=some (.pointer (some ⟨b,off + 1,none⟩)):=zH (by kernel_rfl)
theorem zg (b off:Nat):zb Tryz.prog 50 (.pointer (some ⟨b,off,none⟩)) 0=some (.pointer (some ⟨b,off,none⟩)):=zH (by kernel_rfl)
theorem wG (b off:Nat):zb Tryz.prog 50 (.pointer (some ⟨b,off,none⟩)) 1=some (.pointer (some ⟨b,off + 1,none⟩)):=zH (by kernel_rfl)
theorem xJ (b off:Nat):zb Tryz.prog 50 (.pointer (some ⟨b,off,none⟩)) 2=some (.pointer (some ⟨b,off + 2,none⟩)):=zH (by kernel_rfl)
theorem zD (b off:Nat):zb Tryz.prog 50 (.pointer (some ⟨b,off,none⟩)) 3=some (.pointer (some ⟨b,off + 3,none⟩)):=zH (by kernel_rfl)
theorem Up (b off:Nat):zb Tryz.prog 50 (.pointer (some ⟨b,off,none⟩)) 4=some (.pointer (some ⟨b,off + 4,none⟩)):=zH (by kernel_rfl)
theorem vB (b off:Nat):zb Tryz.prog 50 (.pointer (some ⟨b,off,none⟩)) 5=some (.pointer (some ⟨b,off + 5,none⟩)):=zH (by kernel_rfl)
theorem zQ (b off:Nat):zb Tryz.prog 50 (.pointer (some ⟨b,off,none⟩)) 6=some (.pointer (some ⟨b,off + 6,none⟩)):=zH (by kernel_rfl)
theorem Hh (b off len c:Nat) (k:IntKind) (i:Int):zA Tryz.prog 22 (.slice (some ⟨b,off,none⟩) len c) (.int k i)=if 0<=i/\i < len then some (.pointer (some ⟨b,off + i.toNat * 1,none⟩)) else none:=wk (e:=3) (by kernel_rfl) (by kernel_rfl)
theorem Hi (b off len c:Nat) (k:IntKind) (i:Int):zA Tryz.prog 23 (.slice (some ⟨b,off,none⟩) len c) (.int k i)=if 0<=i/\i < len then some (.pointer (some ⟨b,off + i.toNat * 2,none⟩)) else none:=wk (e:=47) (by kernel_rfl) (by kernel_rfl)
theorem Hk (b off len c:Nat) (k:IntKind) (i:Int):zA Tryz.prog 45 (.slice (some ⟨b,off,none⟩) len c) (.int k i)=if 0<=i/\i < len then some (.pointer (some ⟨b,off + i.toNat * 7,none⟩)) else none:=wk (e:=50) (by kernel_rfl) (by kernel_rfl)
theorem pG (r:TypeId) (a:Option Addr) (n c:Nat) (h:za):zn Tryz.prog .len [22] r [.slice a n c] h=some (.int .i64 n,h):=zH (by kernel_rfl)
theorem pH (r:TypeId) (a:Option Addr) (n c:Nat) (h:za):zn Tryz.prog .len [23] r [.slice a n c] h=some (.int .i64 n,h):=zH (by kernel_rfl)
theorem pI (r:TypeId) (a:Option Addr) (n c:Nat) (h:za):zn Tryz.prog .len [45] r [.slice a n c] h=some (.int .i64 n,h):=zH (by kernel_rfl)
open Go.Rtl (zE zW Old yS xq)
open Go.Rm (jd)
open Go.As (uF EZ dZ Q9 qC JQ W8)
def Jp (k:Int):Bool:=decide (-2147483648<=k) && decide (k<=2147483647)
theorem Wf (k:Int) (h:za):vC Tryz.prog 53 [.int .i64 k] h (.bool (Jp k)):=by
 apply yS
 apply Bk
 unfold oB
 by_cases a:k ≥ -2147483648
 ·by_cases b:k<=2147483647
  ·simp -implicitDefEqProofs only [EE,Int.reduceNeg,QT,a,b];simp [xq,Jp];omega
  ·simp -implicitDefEqProofs only [EE,Int.reduceNeg,QT,a,b];simp [xq,Jp];omega
 ·simp -implicitDefEqProofs only [EE,Int.reduceNeg,QT,a];simp [xq,Jp];omega
theorem On (k:Int) (h:za):vC Tryz.prog 55 [.int .i64 k] h (.bool (W8 k)):=by
 apply yS
 apply F4
 unfold FY
 by_cases a:k ≥ 21
 ·by_cases b:k<=26
  ·simp -implicitDefEqProofs only [EE,eA,a,b];simp [xq,W8];omega
  ·simp -implicitDefEqProofs only [EE,eA,a,b];simp [xq,W8];omega
 ·simp -implicitDefEqProofs only [EE,eA,a];simp [xq,W8];omega
theorem sF (n:Int) (h:za):vC Tryz.prog 54 [.int .i64 n] h (.bool (JQ n)):=by
 apply yS
 apply DW
 unfold AU
 by_cases h11:n=11
 ·subst h11;simp -implicitDefEqProofs only [EE,XA,XB,XC,XD,XE];rfl
 by_cases h12:n=12
 ·subst h12;simp -implicitDefEqProofs only [EE,Int.reduceEq,XA,XB,XC,XD,XE];rfl
 by_cases h13:n=13
 ·subst h13;simp -implicitDefEqProofs only [EE,Int.reduceEq,XA,XB,XC,XD,XE];rfl
 by_cases h16:n=16
 ·subst h16;simp -implicitDefEqProofs only [EE,Int.reduceEq,XA,XB,XC,XD,XE];rfl
 by_cases h17:n=17
 ·subst h17;simp -implicitDefEqProofs only [EE,Int.reduceEq,XA,XB,XC,XD,XE];rfl
 by_cases h18:n=18
 ·subst h18;simp -implicitDefEqProofs only [EE,Int.reduceEq,XA,XB,XC,XD,XE];rfl
 simp -implicitDefEqProofs only [EE,XA,XB,XC,XD,XE,h11,h12,h13,h16,h17,h18]
 have e:JQ n=false:=by unfold JQ;simp;omega
 rw [e];rfl
theorem QA (x:uF) (h:za):vC Tryz.prog 52 [x.val] h (.bool (Q9 x.op)):=by
 apply yS
 apply sn
 unfold gi
 obtain ⟨op,r,m,sub,cc,l,k⟩:=x
 by_cases h1:op=1
 ·subst h1;simp -implicitDefEqProofs only [EE,nth,↓nw,Value.cells,↓BK,zw,zi,zg,vR];rfl
 by_cases h2:op=2
 ·subst h2;simp -implicitDefEqProofs only [EE,nth,↓nw,Value.cells,↓BK,Int.reduceEq,zw,zi,zg,uw,vR];rfl
 by_cases h3:op=3
 ·subst h3;simp -implicitDefEqProofs only [EE,nth,↓nw,Value.cells,↓BK,Int.reduceEq,zw,zi,zg,qo,uw,vR];rfl
 by_cases h5:op=5
 ·subst h5;simp -implicitDefEqProofs only [EE,nth,↓nw,Value.cells,↓BK,Int.reduceEq,zw,zi,zg,qN,qo,uw,vR];rfl
 by_cases h6:op=6
 ·subst h6;simp -implicitDefEqProofs only [EE,nth,↓nw,Value.cells,↓BK,Int.reduceEq,zw,zi,zg,kZ,qN,qo,uw,vR];rfl
 by_cases h7:op=7
 ·subst h7;simp -implicitDefEqProofs only [EE,nth,↓nw,Value.cells,↓BK,Int.reduceEq,zw,zi,zg,jR,kZ,qN,qo,uw,vR];rfl
 by_cases h8:op=8
 ·subst h8;simp -implicitDefEqProofs only [EE,nth,↓nw,Value.cells,↓BK,Int.reduceEq,zw,zi,zg,Zs,jR,kZ,qN,qo,uw,vR];rfl
 by_cases h9:op=9
 ·subst h9;simp -implicitDefEqProofs only [EE,nth,↓nw,Value.cells,↓BK,Int.reduceEq,zw,zi,zg,Z5,Zs,jR,kZ,qN,qo,uw,vR];rfl
 by_cases h10:op=10
 ·subst h10;simp -implicitDefEqProofs only [EE,nth,↓nw,Value.cells,↓BK,Int.reduceEq,zw,zi,zg,Y9,Z5,Zs,jR,kZ,qN,qo,uw,vR];rfl
 by_cases h11:op=11
 ·subst h11;simp -implicitDefEqProofs only [EE,nth,↓nw,Value.cells,↓BK,Int.reduceEq,zw,zi,zg,Wq,Y9,Z5,Zs,jR,kZ,qN,qo,uw,vR];rfl
 by_cases h12:op=12
 ·subst h12;simp -implicitDefEqProofs only [EE,nth,↓nw,Value.cells,↓BK,Int.reduceEq,zw,zi,zg,Uc,Wq,Y9,Z5,Zs,jR,kZ,qN,qo,uw,vR];rfl
 by_cases h17:op=17
 ·subst h17;simp -implicitDefEqProofs only [EE,nth,↓nw,Value.cells,↓BK,Int.reduceEq,zw,zi,zg,Uc,Wq,Y9,Z5,Zs,jR,kZ,qN,qo,uw,vR];rfl
 simp -implicitDefEqProofs only [EE,nth,↓nw,Value.cells,↓BK,zw,zi,zg,Uc,Wq,Y9,Z5,Zs,jR,kZ,qN,qo,uw,vR,h1,h2,h3,h5,h6,h7,h8,h9,h10,h11,h12,h17]
 have e:Q9 op=false:=by unfold Q9;simp;omega
 rw [e];rfl
theorem Ld (x:uF) (h:za):vC Tryz.prog 51 [x.val] h (.tuple #[.bool (EZ x.op),.bool (dZ x.op)]):=by
 apply jd rfl
 apply Bg
 unfold oA
 obtain ⟨op,r,m,sub,cc,l,k⟩:=x
 simp -implicitDefEqProofs only [EE,↓nw,Value.cells,Sf,Nat.reduceAdd,ye,vS]
 refine zh (by kernel_rfl) rfl (QA ⟨op,r,m,sub,cc,l,k⟩ _) ?_
 by_cases h1:op=1
 ·subst h1;simp -implicitDefEqProofs only [EE,nth,↓BK,zw,zi,zg,vT,vU,vV,vp,vq,vr,vt,vu,vw,show Q9 1=true from rfl];rfl
 by_cases h3:op=3
 ·subst h3;simp -implicitDefEqProofs only [EE,nth,↓BK,Int.reduceEq,zw,zi,zg,uu,vT,vU,vV,vp,vq,vr,vt,vu,vw,show Q9 3=true from rfl];rfl
 by_cases h5:op=5
 ·subst h5;simp -implicitDefEqProofs only [EE,nth,↓BK,Int.reduceEq,zw,zi,zg,u0,uP,uu,vT,vU,vV,vp,vq,vr,vt,vu,vw,show Q9 5=true from rfl];rfl
 by_cases h7:op=7
 ·subst h7;simp -implicitDefEqProofs only [EE,nth,↓BK,Int.reduceEq,zw,zi,zg,qg,u0,uP,uu,vT,vU,vV,vp,vq,vr,vt,vu,vw,show Q9 7=true from rfl];rfl
 by_cases h10:op=10
 ·subst h10;simp -implicitDefEqProofs only [EE,nth,↓BK,Int.reduceEq,zw,zi,zg,qF,qg,u0,uP,uu,vT,vU,vV,vp,vq,vr,vt,vu,vw,show Q9 10=true from rfl];rfl
 by_cases h2:op=2
 ·subst h2;simp -implicitDefEqProofs only [EE,nth,↓BK,Int.reduceEq,zw,zi,zg,q7,qF,qg,u0,uP,uu,vT,vU,vV,vp,vq,vr,vt,vu,vw,show Q9 2=true from rfl];rfl
 by_cases h6:op=6
 ·subst h6;simp -implicitDefEqProofs only [EE,nth,↓BK,Int.reduceEq,zw,zi,zg,q7,qF,qg,u0,uP,uu,vT,vU,vV,vp,vq,vr,vt,vu,vw,show Q9 6=true from rfl];rfl
 by_cases h8:op=8
 ·subst h8;simp -implicitDefEqProofs only [EE,nth,↓BK,Int.reduceEq,zw,zi,zg,q7,qF,qg,u0,uP,uu,vT,vU,vV,vp,vq,vr,vt,vu,vw,show Q9 8=true from rfl];rfl
 by_cases h9:op=9
 ·subst h9;simp -implicitDefEqProofs only [EE,nth,↓BK,Int.reduceEq,zw,zi,zg,q7,qF,qg,u0,uP,uu,vT,vU,vV,vp,vq,vr,vt,vu,vw,show Q9 9=true from rfl];rfl
 by_cases h11:op=11
 ·subst h11;simp -implicitDefEqProofs only [EE,nth,↓BK,Int.reduceEq,zw,zi,zg,q7,qF,qg,u0,uP,uu,vT,vU,vV,vp,vq,vr,vt,vu,vw,show Q9 11=true from rfl];rfl
 by_cases h12:op=12
 ·subst h12;simp -implicitDefEqProofs only [EE,nth,↓BK,Int.reduceEq,zw,zi,zg,q7,qF,qg,u0,uP,uu,vT,vU,vV,vp,vq,vr,vt,vu,vw,show Q9 12=true from rfl];rfl
 by_cases h17:op=17
 ·subst h17;simp -implicitDefEqProofs only [EE,nth,↓BK,Int.reduceEq,zw,zi,zg,q7,qF,qg,u0,uP,uu,vT,vU,vV,vp,vq,vr,vt,vu,vw,show Q9 17=true from rfl];rfl
 by_cases h4:op=4
 ·subst h4;simp -implicitDefEqProofs only [EE,nth,↓BK,Int.reduceEq,zw,zi,zg,uP,uu,vT,vU,vV,vp,vq,vr,vt,vu,vw,show Q9 4=false from rfl];rfl
 by_cases h15:op=15
 ·subst h15;simp -implicitDefEqProofs only [EE,nth,↓BK,Int.reduceEq,zw,zi,zg,q7,qF,qg,u0,uP,uu,vT,vU,vV,vp,vq,vr,vt,vu,vw,show Q9 15=false from rfl];rfl
 by_cases h16:op=16
 ·subst h16;simp -implicitDefEqProofs only [EE,nth,↓BK,Int.reduceEq,zw,zi,zg,q7,qF,qg,u0,uP,uu,vT,vU,vV,vp,vq,vr,vt,vu,vw,show Q9 16=false from rfl];rfl
 by_cases h14:op=14
 ·subst h14;simp -implicitDefEqProofs only [EE,nth,↓BK,Int.reduceEq,zw,zi,zg,q7,qF,qg,u0,uP,uu,vT,vU,vV,vp,vq,vr,vt,vu,vw,show Q9 14=false from rfl];rfl
 have e3:Q9 op=false:=by unfold Q9;simp;omega
 simp -implicitDefEqProofs only [EE,nth,↓BK,zw,zi,zg,q7,qF,qg,u0,uP,uu,vT,vU,vV,vp,vq,vr,vt,vu,vw,e3,h1,h3,h5,h7,h10,h4,h15,h16,h14]
 have e1:EZ op=false:=by unfold EZ;simp;omega
 have e2:dZ op=false:=by unfold dZ;simp;omega
 rw [e1,e2];rfl
def tailD (i:uF):Bool :=
 if i.op=3\/i.op=4 then decide (i.sub=1\/i.sub=4\/i.sub=8) && Jp i.k
 else if i.op=5\/i.op=16 then Jp i.k
 else if i.op=7 then JQ i.sub
 else if i.op=8 then JQ i.sub && Jp i.k
 else if i.op=9 then decide (i.sub=1\/i.sub=2)
 else if i.op=10 then decide (i.sub=3\/i.sub=4)
 else if i.op=11 then decide (i.sub=19\/i.sub=20) && (decide (0<=i.k) && decide (i.k<=63))
 else if i.op=12 then decide (i.sub=19\/i.sub=20)
 else if i.op=17 then W8 i.cc
 else if i.op=19 then W8 i.cc && (decide (0<=i.l) && decide (i.l<=10000000))
 else if i.op=18\/i.op=20 then decide (0<=i.l) && decide (i.l<=10000000)
 else if i.op=23\/i.op=24 then decide (0<=i.k) && decide (i.k<=65536)
 else true
section
variable {H:za} {b:Nat} {B:Bool} {vs:List Value} {x:uF}
theorem P2 {r m sub cc l k:Int} (g:H.get b=some (.cells (uF.row ⟨3,r,m,sub,cc,l,k⟩) 50)) (hB:B=tailD ⟨3,r,m,sub,cc,l,k⟩):zt (.pointer (some ⟨b,0,none⟩)) (xq B) vs H:=by
 by_cases s1:sub=1
 ·subst s1
  simp -implicitDefEqProofs only [EE,nth,↓BK,zw,yQ,zi,zg,zD,zQ,jJ,jK,jL,jM,jN,kB,zK,zt,g]
  refine zh (by kernel_rfl) rfl (Wf k _) ?_
  simp -implicitDefEqProofs only [EE]
  rw [hB];simp [xq,tailD]
 by_cases s4:sub=4
 ·subst s4
  simp -implicitDefEqProofs only [EE,nth,↓BK,zw,yQ,zi,zg,zD,zQ,jJ,jK,jL,jM,jN,kB,zK,zt,g,s1]
  refine zh (by kernel_rfl) rfl (Wf k _) ?_
  simp -implicitDefEqProofs only [EE]
  rw [hB];simp [xq,tailD,s1]
 by_cases s8:sub=8
 ·subst s8
  simp -implicitDefEqProofs only [EE,nth,↓BK,zw,yQ,zi,zg,zD,zQ,jJ,jK,jL,jM,jN,kB,zK,zt,g,s1,s4]
  refine zh (by kernel_rfl) rfl (Wf k _) ?_
  simp -implicitDefEqProofs only [EE]
  rw [hB];simp [xq,tailD,s1,s4]
 simp -implicitDefEqProofs only [EE,nth,↓BK,zw,zi,zg,zD,jJ,jK,jL,jM,jN,kB,zK,zt,g,s1,s4,s8]
 rw [hB];simp [xq,tailD,s1,s4,s8]
theorem P3 {r m sub cc l k:Int} (g:H.get b=some (.cells (uF.row ⟨4,r,m,sub,cc,l,k⟩) 50)) (hB:B=tailD ⟨4,r,m,sub,cc,l,k⟩):zt (.pointer (some ⟨b,0,none⟩)) (xq B) vs H:=by
 by_cases s1:sub=1
 ·subst s1
  simp -implicitDefEqProofs only [EE,nth,↓BK,Int.reduceEq,zw,yQ,zi,zg,zD,zQ,jJ,jK,jL,jM,jN,kB,zK,zt,g]
  refine zh (by kernel_rfl) rfl (Wf k _) ?_
  simp -implicitDefEqProofs only [EE]
  rw [hB];simp [xq,tailD]
 by_cases s4:sub=4
 ·subst s4
  simp -implicitDefEqProofs only [EE,nth,↓BK,Int.reduceEq,zw,yQ,zi,zg,zD,zQ,jJ,jK,jL,jM,jN,kB,zK,zt,g,s1]
  refine zh (by kernel_rfl) rfl (Wf k _) ?_
  simp -implicitDefEqProofs only [EE]
  rw [hB];simp [xq,tailD,s1]
 by_cases s8:sub=8
 ·subst s8
  simp -implicitDefEqProofs only [EE,nth,↓BK,Int.reduceEq,zw,yQ,zi,zg,zD,zQ,jJ,jK,jL,jM,jN,kB,zK,zt,g,s1,s4]
  refine zh (by kernel_rfl) rfl (Wf k _) ?_
  simp -implicitDefEqProofs only [EE]
  rw [hB];simp [xq,tailD,s1,s4]
 simp -implicitDefEqProofs only [EE,nth,↓BK,Int.reduceEq,zw,zi,zg,zD,jJ,jK,jL,jM,jN,kB,zK,zt,g,s1,s4,s8]
 rw [hB];simp [xq,tailD,s1,s4,s8]
theorem P4 {r m sub cc l k:Int} (g:H.get b=some (.cells (uF.row ⟨5,r,m,sub,cc,l,k⟩) 50)) (hB:B=tailD ⟨5,r,m,sub,cc,l,k⟩):zt (.pointer (some ⟨b,0,none⟩)) (xq B) vs H:=by
 simp -implicitDefEqProofs only [EE,nth,↓BK,Int.reduceEq,zw,yQ,zi,zg,zQ,U3,zT,zK,zt,g]
 refine zh (by kernel_rfl) rfl (Wf k _) ?_
 simp -implicitDefEqProofs only [EE]
 rw [hB];simp [xq,tailD]
theorem Ou {r m sub cc l k:Int} (g:H.get b=some (.cells (uF.row ⟨16,r,m,sub,cc,l,k⟩) 50)) (hB:B=tailD ⟨16,r,m,sub,cc,l,k⟩):zt (.pointer (some ⟨b,0,none⟩)) (xq B) vs H:=by
 simp -implicitDefEqProofs only [EE,nth,↓BK,Int.reduceEq,zw,yQ,zi,zg,zQ,U3,zT,zK,zt,g]
 refine zh (by kernel_rfl) rfl (Wf k _) ?_
 simp -implicitDefEqProofs only [EE]
 rw [hB];simp [xq,tailD]
theorem P5 {r m sub cc l k:Int} (g:H.get b=some (.cells (uF.row ⟨7,r,m,sub,cc,l,k⟩) 50)) (hB:B=tailD ⟨7,r,m,sub,cc,l,k⟩):zt (.pointer (some ⟨b,0,none⟩)) (xq B) vs H:=by
 simp -implicitDefEqProofs only [EE,nth,↓BK,Int.reduceEq,zw,zi,zg,zD,dx,zY,zT,zK,zt,g]
 refine zh (by kernel_rfl) rfl (sF sub _) ?_
 simp -implicitDefEqProofs only [EE]
 rw [hB];simp [xq,tailD]
theorem P6 {r m sub cc l k:Int} (g:H.get b=some (.cells (uF.row ⟨8,r,m,sub,cc,l,k⟩) 50)) (hB:B=tailD ⟨8,r,m,sub,cc,l,k⟩):zt (.pointer (some ⟨b,0,none⟩)) (xq B) vs H:=by
 simp -implicitDefEqProofs only [EE,nth,↓BK,Int.reduceEq,zw,zi,zg,zD,ya,zY,zT,zK,zt,g]
 refine zh (by kernel_rfl) rfl (sF sub _) ?_
 cases ha:JQ sub with
 | false=>
   simp -implicitDefEqProofs only [EE,K3,K4]
   rw [hB];simp [xq,tailD,ha]
 | true=>
   simp -implicitDefEqProofs only [EE,zw,yQ,zQ,K3,K4,g]
   refine zh (by kernel_rfl) rfl (Wf k _) ?_
   simp -implicitDefEqProofs only [EE]
   rw [hB];simp [xq,tailD,ha]
theorem P7 {r m sub cc l k:Int} (g:H.get b=some (.cells (uF.row ⟨9,r,m,sub,cc,l,k⟩) 50)) (hB:B=tailD ⟨9,r,m,sub,cc,l,k⟩):zt (.pointer (some ⟨b,0,none⟩)) (xq B) vs H:=by
 by_cases s1:sub=1
 ·subst s1
  simp -implicitDefEqProofs only [EE,nth,↓BK,Int.reduceEq,zw,zi,zg,zD,V8,W0,yc,ya,zY,zT,zK,zt,g]
  rw [hB];simp [xq,tailD]
 by_cases s2:sub=2
 ·subst s2
  simp -implicitDefEqProofs only [EE,nth,↓BK,Int.reduceEq,zw,zi,zg,zD,V8,W0,yc,ya,zY,zT,zK,zt,g,s1]
  rw [hB];simp [xq,tailD,s1]
 simp -implicitDefEqProofs only [EE,nth,↓BK,Int.reduceEq,zw,zi,zg,zD,V8,W0,yc,ya,zY,zT,zK,zt,g,s1,s2]
 rw [hB];simp [xq,tailD,s1,s2]
theorem Oo {r m sub cc l k:Int} (g:H.get b=some (.cells (uF.row ⟨10,r,m,sub,cc,l,k⟩) 50)) (hB:B=tailD ⟨10,r,m,sub,cc,l,k⟩):zt (.pointer (some ⟨b,0,none⟩)) (xq B) vs H:=by
 by_cases s3:sub=3
 ·subst s3
  simp -implicitDefEqProofs only [EE,nth,↓BK,Int.reduceEq,zw,zi,zg,zD,V9,WZ,yj,yc,ya,zY,zT,zK,zt,g]
  rw [hB];simp [xq,tailD]
 by_cases s4:sub=4
 ·subst s4
  simp -implicitDefEqProofs only [EE,nth,↓BK,Int.reduceEq,zw,zi,zg,zD,V9,WZ,yj,yc,ya,zY,zT,zK,zt,g,s3]
  rw [hB];simp [xq,tailD,s3]
 simp -implicitDefEqProofs only [EE,nth,↓BK,Int.reduceEq,zw,zi,zg,zD,V9,WZ,yj,yc,ya,zY,zT,zK,zt,g,s3,s4]
 rw [hB];simp [xq,tailD,s3,s4]
theorem Ot {r m sub cc l k:Int} (g:H.get b=some (.cells (uF.row ⟨12,r,m,sub,cc,l,k⟩) 50)) (hB:B=tailD ⟨12,r,m,sub,cc,l,k⟩):zt (.pointer (some ⟨b,0,none⟩)) (xq B) vs H:=by
 by_cases s19:sub=19
 ·subst s19
  simp -implicitDefEqProofs only [EE,nth,↓BK,Int.reduceEq,zw,zi,zg,zD,WX,WY,wE,yE,yj,yc,ya,zY,zT,zK,zt,g]
  rw [hB];simp [xq,tailD]
 by_cases s20:sub=20
 ·subst s20
  simp -implicitDefEqProofs only [EE,nth,↓BK,Int.reduceEq,zw,zi,zg,zD,WX,WY,wE,yE,yj,yc,ya,zY,zT,zK,zt,g,s19]
  rw [hB];simp [xq,tailD,s19]
 simp -implicitDefEqProofs only [EE,nth,↓BK,Int.reduceEq,zw,zi,zg,zD,WX,WY,wE,yE,yj,yc,ya,zY,zT,zK,zt,g,s19,s20]
 rw [hB];simp [xq,tailD,s19,s20]
theorem Oq {r m sub cc l k:Int} (g:H.get b=some (.cells (uF.row ⟨11,r,m,sub,cc,l,k⟩) 50)) (hB:B=tailD ⟨11,r,m,sub,cc,l,k⟩):zt (.pointer (some ⟨b,0,none⟩)) (xq B) vs H:=by
 by_cases s19:sub=19
 ·subst s19
  by_cases k0:0<=k
  ·by_cases k1:k<=63
   ·simp -implicitDefEqProofs only [EE,nth,↓BK,Int.reduceEq,zw,yQ,zi,zg,zD,zQ,jn,jo,jq,jr,jt,jv,yE,yj,yc,ya,zY,zT,zK,zt,g,k0,k1]
    rw [hB];simp [xq,tailD,k0,k1]
   ·simp -implicitDefEqProofs only [EE,nth,↓BK,Int.reduceEq,zw,yQ,zi,zg,zD,zQ,jn,jo,jq,jr,jt,jv,yE,yj,yc,ya,zY,zT,zK,zt,g,k0,k1]
    rw [hB];simp [xq,tailD,k0,k1]
  ·simp -implicitDefEqProofs only [EE,nth,↓BK,Int.reduceEq,zw,yQ,zi,zg,zD,zQ,jn,jo,jq,jr,jt,jv,yE,yj,yc,ya,zY,zT,zK,zt,g,k0]
   rw [hB];simp [xq,tailD,k0]
 by_cases s20:sub=20
 ·subst s20
  by_cases k0:0<=k
  ·by_cases k1:k<=63
   ·simp -implicitDefEqProofs only [EE,nth,↓BK,Int.reduceEq,zw,yQ,zi,zg,zD,zQ,jn,jo,jq,jr,jt,jv,yE,yj,yc,ya,zY,zT,zK,zt,g,s19,k0,k1]
    rw [hB];simp [xq,tailD,s19,k0,k1]
   ·simp -implicitDefEqProofs only [EE,nth,↓BK,Int.reduceEq,zw,yQ,zi,zg,zD,zQ,jn,jo,jq,jr,jt,jv,yE,yj,yc,ya,zY,zT,zK,zt,g,s19,k0,k1]
    rw [hB];simp [xq,tailD,s19,k0,k1]
  ·simp -implicitDefEqProofs only [EE,nth,↓BK,Int.reduceEq,zw,yQ,zi,zg,zD,zQ,jn,jo,jq,jr,jt,jv,yE,yj,yc,ya,zY,zT,zK,zt,g,s19,k0]
   rw [hB];simp [xq,tailD,s19,k0]
 simp -implicitDefEqProofs only [EE,nth,↓BK,Int.reduceEq,zw,zi,zg,zD,jn,jo,jq,jr,jt,jv,yE,yj,yc,ya,zY,zT,zK,zt,g,s19,s20]
 rw [hB];simp [xq,tailD,s19,s20]
theorem Ov {r m sub cc l k:Int} (g:H.get b=some (.cells (uF.row ⟨17,r,m,sub,cc,l,k⟩) 50)) (hB:B=tailD ⟨17,r,m,sub,cc,l,k⟩):zt (.pointer (some ⟨b,0,none⟩)) (xq B) vs H:=by
 simp -implicitDefEqProofs only [EE,nth,↓BK,Int.reduceEq,zw,zi,zg,Up,dw,vm,wE,yE,yj,yc,ya,zY,zT,zK,zt,g]
 refine zh (by kernel_rfl) rfl (On cc _) ?_
 simp -implicitDefEqProofs only [EE]
 rw [hB];simp [xq,tailD]
theorem Ox {r m sub cc l k:Int} (g:H.get b=some (.cells (uF.row ⟨19,r,m,sub,cc,l,k⟩) 50)) (hB:B=tailD ⟨19,r,m,sub,cc,l,k⟩):zt (.pointer (some ⟨b,0,none⟩)) (xq B) vs H:=by
 simp -implicitDefEqProofs only [EE,nth,↓BK,Int.reduceEq,zw,zi,zg,Up,vD,vm,wE,yE,yj,yc,ya,zY,zT,zK,zt,g]
 refine zh (by kernel_rfl) rfl (On cc _) ?_
 cases ha:W8 cc with
 | false=>
   simp -implicitDefEqProofs only [EE,XF,XG,XH,XI]
   rw [hB];simp [xq,tailD,ha]
 | true=>
   by_cases k0:0<=l
   ·by_cases k1:l<=10000000
    ·simp -implicitDefEqProofs only [EE,zw,zi,vB,XF,XG,XH,XI,g,k0,k1]
     rw [hB];simp [xq,tailD,ha,k0,k1]
    ·simp -implicitDefEqProofs only [EE,zw,zi,vB,XF,XG,XH,XI,g,k0,k1]
     rw [hB];simp [xq,tailD,ha,k0,k1]
   ·simp -implicitDefEqProofs only [EE,zw,zi,vB,XF,XG,XH,XI,g,k0]
    rw [hB];simp [xq,tailD,ha,k0]
theorem Ow {r m sub cc l k:Int} (g:H.get b=some (.cells (uF.row ⟨18,r,m,sub,cc,l,k⟩) 50)) (hB:B=tailD ⟨18,r,m,sub,cc,l,k⟩):zt (.pointer (some ⟨b,0,none⟩)) (xq B) vs H:=by
 by_cases k0:0<=l
 ·by_cases k1:l<=10000000
  ·simp -implicitDefEqProofs only [EE,nth,↓BK,Int.reduceEq,zw,zi,zg,vB,Zo,Zr,vQ,vD,vm,wE,yE,yj,yc,ya,zY,zT,zK,zt,g,k0,k1]
   rw [hB];simp [xq,tailD,k0,k1]
  ·simp -implicitDefEqProofs only [EE,nth,↓BK,Int.reduceEq,zw,zi,zg,vB,Zo,Zr,vQ,vD,vm,wE,yE,yj,yc,ya,zY,zT,zK,zt,g,k0,k1]
   rw [hB];simp [xq,tailD,k0,k1]
 ·simp -implicitDefEqProofs only [EE,nth,↓BK,Int.reduceEq,zw,zi,zg,vB,Zo,Zr,vQ,vD,vm,wE,yE,yj,yc,ya,zY,zT,zK,zt,g,k0]
  rw [hB];simp [xq,tailD,k0]
theorem Oy {r m sub cc l k:Int} (g:H.get b=some (.cells (uF.row ⟨20,r,m,sub,cc,l,k⟩) 50)) (hB:B=tailD ⟨20,r,m,sub,cc,l,k⟩):zt (.pointer (some ⟨b,0,none⟩)) (xq B) vs H:=by
 by_cases k0:0<=l
 ·by_cases k1:l<=10000000
  ·simp -implicitDefEqProofs only [EE,nth,↓BK,Int.reduceEq,zw,zi,zg,vB,Zo,Zr,vQ,vD,vm,wE,yE,yj,yc,ya,zY,zT,zK,zt,g,k0,k1]
   rw [hB];simp [xq,tailD,k0,k1]
  ·simp -implicitDefEqProofs only [EE,nth,↓BK,Int.reduceEq,zw,zi,zg,vB,Zo,Zr,vQ,vD,vm,wE,yE,yj,yc,ya,zY,zT,zK,zt,g,k0,k1]
   rw [hB];simp [xq,tailD,k0,k1]
 ·simp -implicitDefEqProofs only [EE,nth,↓BK,Int.reduceEq,zw,zi,zg,vB,Zo,Zr,vQ,vD,vm,wE,yE,yj,yc,ya,zY,zT,zK,zt,g,k0]
  rw [hB];simp [xq,tailD,k0]
theorem Oz {r m sub cc l k:Int} (g:H.get b=some (.cells (uF.row ⟨23,r,m,sub,cc,l,k⟩) 50)) (hB:B=tailD ⟨23,r,m,sub,cc,l,k⟩):zt (.pointer (some ⟨b,0,none⟩)) (xq B) vs H:=by
 by_cases k0:0<=k
 ·by_cases k1:k<=65536
  ·simp -implicitDefEqProofs only [EE,nth,↓BK,Int.reduceEq,zw,yQ,zi,zg,zQ,Zp,Zq,ju,vQ,vD,vm,wE,yE,yj,yc,ya,zY,zT,zK,zt,g,k0,k1]
   rw [hB];simp [xq,tailD,k0,k1]
  ·simp -implicitDefEqProofs only [EE,nth,↓BK,Int.reduceEq,zw,yQ,zi,zg,zQ,Zp,Zq,ju,vQ,vD,vm,wE,yE,yj,yc,ya,zY,zT,zK,zt,g,k0,k1]
   rw [hB];simp [xq,tailD,k0,k1]
 ·simp -implicitDefEqProofs only [EE,nth,↓BK,Int.reduceEq,zw,yQ,zi,zg,zQ,Zp,Zq,ju,vQ,vD,vm,wE,yE,yj,yc,ya,zY,zT,zK,zt,g,k0]
  rw [hB];simp [xq,tailD,k0]
theorem OA {r m sub cc l k:Int} (g:H.get b=some (.cells (uF.row ⟨24,r,m,sub,cc,l,k⟩) 50)) (hB:B=tailD ⟨24,r,m,sub,cc,l,k⟩):zt (.pointer (some ⟨b,0,none⟩)) (xq B) vs H:=by
 by_cases k0:0<=k
 ·by_cases k1:k<=65536
  ·simp -implicitDefEqProofs only [EE,nth,↓BK,Int.reduceEq,zw,yQ,zi,zg,zQ,Zp,Zq,ju,vQ,vD,vm,wE,yE,yj,yc,ya,zY,zT,zK,zt,g,k0,k1]
   rw [hB];simp [xq,tailD,k0,k1]
  ·simp -implicitDefEqProofs only [EE,nth,↓BK,Int.reduceEq,zw,yQ,zi,zg,zQ,Zp,Zq,ju,vQ,vD,vm,wE,yE,yj,yc,ya,zY,zT,zK,zt,g,k0,k1]
   rw [hB];simp [xq,tailD,k0,k1]
 ·simp -implicitDefEqProofs only [EE,nth,↓BK,Int.reduceEq,zw,yQ,zi,zg,zQ,Zp,Zq,ju,vQ,vD,vm,wE,yE,yj,yc,ya,zY,zT,zK,zt,g,k0]
  rw [hB];simp [xq,tailD,k0]
theorem cJ (g:H.get b=some (.cells x.row 50)) (hB:B=tailD x):zt (.pointer (some ⟨b,0,none⟩)) (xq B) vs H:=by
 obtain ⟨op,r,m,sub,cc,l,k⟩:=x
 by_cases o3:op=3
 ·subst o3;exact P2 g hB
 by_cases o4:op=4
 ·subst o4;exact P3 g hB
 by_cases o5:op=5
 ·subst o5;exact P4 g hB
 by_cases o16:op=16
 ·subst o16;exact Ou g hB
 by_cases o7:op=7
 ·subst o7;exact P5 g hB
 by_cases o8:op=8
 ·subst o8;exact P6 g hB
 by_cases o9:op=9
 ·subst o9;exact P7 g hB
 by_cases o10:op=10
 ·subst o10;exact Oo g hB
 by_cases o11:op=11
 ·subst o11;exact Oq g hB
 by_cases o12:op=12
 ·subst o12;exact Ot g hB
 by_cases o17:op=17
 ·subst o17;exact Ov g hB
 by_cases o19:op=19
 ·subst o19;exact Ox g hB
 by_cases o18:op=18
 ·subst o18;exact Ow g hB
 by_cases o20:op=20
 ·subst o20;exact Oy g hB
 by_cases o23:op=23
 ·subst o23;exact Oz g hB
 by_cases o24:op=24
 ·subst o24;exact OA g hB
 simp -implicitDefEqProofs only [EE,nth,↓BK,zw,zi,zg,ju,vQ,vD,vm,wE,yE,yj,yc,ya,zY,zT,zK,zt,g,o3,o4,o5,o16,o7,o8,o9,o10,o11,o12,o17,o19,o18,o20,o23,o24]
 rw [hB];simp [xq,tailD,o3,o4,o5,o16,o7,o8,o9,o10,o11,o12,o17,o19,o18,o20,o23,o24]
end
def Uy (x:uF):Bool := !(EZ x.op && (decide (x.r < 0) || decide (15 < x.r)))
def Qp (x:uF):Bool := !(dZ x.op && (decide (x.m < 0) || decide (15 < x.m)))
def dr (x:uF):Bool := !(Q9 x.op && decide (x.r=4))
def pK (x:uF):Bool := !(dZ x.op && (decide (x.m=4) && !qC x.op))
def w7 (x:uF):Bool := !decide (x.op < 1) && (!decide (26 < x.op) && (Uy x && (Qp x && (dr x && (pK x && tailD x)))))
section
variable {H:za} {b:Nat} {B:Bool} {vs:List Value} {x:uF}
theorem dO {mb:Bool} (hm:dZ x.op=mb) (g:H.get b=some (.cells x.row 50)) (hB:B=(pK x && tailD x)):kC (.bool mb) (.pointer (some ⟨b,0,none⟩)) (xq B) vs H:=by
 cases mb with
 | false=>
   simp -implicitDefEqProofs only [EE,jw,jx,jy,jz,jA,jB,jC,jD,jE,kC]
   exact cJ g (by rw [hB];simp [pK,hm])
 | true=>
   by_cases m4:x.m=4
   ·by_cases o3:x.op=3
    ·simp -implicitDefEqProofs only [EE,zw,zi,zg,xJ,jw,jx,jy,jz,jA,jB,jC,jD,jE,kC,g,m4,o3]
     exact cJ g (by rw [hB];simp [pK,qC,o3])
    by_cases o4:x.op=4
    ·simp -implicitDefEqProofs only [EE,Int.reduceEq,zw,zi,zg,xJ,jw,jx,jy,jz,jA,jB,jC,jD,jE,kC,g,m4,o4]
     exact cJ g (by rw [hB];simp [pK,qC,o4])
    by_cases o5:x.op=5
    ·simp -implicitDefEqProofs only [EE,Int.reduceEq,zw,zi,zg,xJ,jw,jx,jy,jz,jA,jB,jC,jD,jE,kC,g,m4,o5]
     exact cJ g (by rw [hB];simp [pK,qC,o5])
    by_cases o1:x.op=1
    ·simp -implicitDefEqProofs only [EE,Int.reduceEq,zw,zi,zg,xJ,jw,jx,jy,jz,jA,jB,jC,jD,jE,kC,g,m4,o1]
     exact cJ g (by rw [hB];simp [pK,qC,o1])
    simp -implicitDefEqProofs only [EE,zw,zi,zg,xJ,jw,jx,jy,jz,jA,jB,jC,jD,jE,kC,g,m4,o3,o4,o5,o1]
    have e:qC x.op=false:=by unfold qC;simp [o3,o4,o5,o1]
    rw [hB];simp [xq,pK,hm,m4,e]
   ·simp -implicitDefEqProofs only [EE,zw,zi,xJ,jw,jx,jy,jz,jA,jB,jC,jD,jE,kC,g,m4]
    exact cJ g (by rw [hB];simp [pK,m4])
theorem Dp:vC Tryz.prog 29 [x.val] H (.bool (w7 x)):=by
 apply yS
 generalize H.lock=L
 apply rR
 unfold fT
 simp -implicitDefEqProofs only [EE,↓nw,Value.cells,Sf,Nat.reduceAdd,ye,vS]
 have g:(L.push (.cells x.row 50)).get L.next=some (.cells x.row 50):=yd
 generalize L.push (.cells x.row 50)=G at g ⊢
 generalize L.next=b at g ⊢
 simp -implicitDefEqProofs only []
 refine zh (by kernel_rfl) rfl (Ld x _) ?_
 by_cases c1:x.op < 1
 ·simp -implicitDefEqProofs only [EE,zw,zi,zg,xQ,xR,xS,v8,v9,ua,ub,uc,ud,ue,uf,ug,uh,ui,uj,uk,um,uo,g,c1]
  simp [xq,w7,c1]
 by_cases c2:x.op > 26
 ·simp -implicitDefEqProofs only [EE,zw,zi,zg,xQ,xR,xS,v8,v9,ua,ub,uc,ud,ue,uf,ug,uh,ui,uj,uk,um,uo,g,c1,c2]
  have c2':26 < x.op:=c2
  simp [xq,w7,c2']
 have c2':¬ 26 < x.op:=c2
 cases hr:EZ x.op with
 | false=>
   cases hm:dZ x.op with
   | false=>
     simp -implicitDefEqProofs only [EE,Sf,Nat.reduceAdd,ye,zw,zi,vS,zg,v8,v9,ua,ub,uc,ud,ue,uf,ug,uh,ui,uj,uk,um,uo,g,c1,c2]
     refine zh (by kernel_rfl) rfl (QA x _) ?_
     cases hw:Q9 x.op with
     | false=>
       simp -implicitDefEqProofs only [EE,xQ,xR,xS]
       refine dO (x:=x) (B:=w7 x) hm g ?_
       simp [w7,Uy,Qp,dr,c1,c2',hr,hm,hw]
     | true=>
       by_cases r4:x.r=4
       ·simp -implicitDefEqProofs only [EE,zw,zi,wG,xQ,xR,xS,g,r4]
        simp [xq,w7,Uy,Qp,dr,hw,r4]
       ·simp -implicitDefEqProofs only [EE,zw,zi,wG,xQ,xR,xS,g,r4]
        refine dO (x:=x) (B:=w7 x) hm g ?_
        simp [w7,Uy,Qp,dr,c1,c2',hr,hm,hw,r4]
   | true=>
     by_cases m0:x.m < 0
     ·simp -implicitDefEqProofs only [EE,zw,zi,zg,xJ,xQ,xR,xS,v8,v9,ua,ub,uc,ud,ue,uf,ug,uh,ui,uj,uk,um,uo,g,c1,c2,m0]
      simp [xq,w7,Uy,Qp,hm,m0]
     by_cases m1:x.m > 15
     ·simp -implicitDefEqProofs only [EE,zw,zi,zg,xJ,xQ,xR,xS,v8,v9,ua,ub,uc,ud,ue,uf,ug,uh,ui,uj,uk,um,uo,g,c1,c2,m0,m1]
      have m1':15 < x.m:=m1
      simp [xq,w7,Uy,Qp,hm,m1']
     have m1':¬ 15 < x.m:=m1
     simp -implicitDefEqProofs only [EE,Sf,Nat.reduceAdd,ye,zw,zi,vS,zg,xJ,v8,v9,ua,ub,uc,ud,ue,uf,ug,uh,ui,uj,uk,um,uo,g,c1,c2,m0,m1]
     refine zh (by kernel_rfl) rfl (QA x _) ?_
     cases hw:Q9 x.op with
     | false=>
       simp -implicitDefEqProofs only [EE,xQ,xR,xS]
       refine dO (x:=x) (B:=w7 x) hm g ?_
       simp [w7,Uy,Qp,dr,c1,c2',hr,hm,m0,m1',hw]
     | true=>
       by_cases r4:x.r=4
       ·simp -implicitDefEqProofs only [EE,zw,zi,wG,xQ,xR,xS,g,r4]
        simp [xq,w7,Uy,Qp,dr,hw,r4]
       ·simp -implicitDefEqProofs only [EE,zw,zi,wG,xQ,xR,xS,g,r4]
        refine dO (x:=x) (B:=w7 x) hm g ?_
        simp [w7,Uy,Qp,dr,c1,c2',hr,hm,m0,m1',hw,r4]
 | true=>
   by_cases r0:x.r < 0
   ·simp -implicitDefEqProofs only [EE,zw,zi,zg,wG,xQ,xR,xS,v8,v9,ua,ub,uc,ud,ue,uf,ug,uh,ui,uj,uk,um,uo,g,c1,c2,r0]
    simp [xq,w7,Uy,hr,r0]
   by_cases r1:x.r > 15
   ·simp -implicitDefEqProofs only [EE,zw,zi,zg,wG,xQ,xR,xS,v8,v9,ua,ub,uc,ud,ue,uf,ug,uh,ui,uj,uk,um,uo,g,c1,c2,r0,r1]
    have r1':15 < x.r:=r1
    simp [xq,w7,Uy,hr,r1']
   have r1':¬ 15 < x.r:=r1
   cases hm:dZ x.op with
   | false=>
     simp -implicitDefEqProofs only [EE,Sf,Nat.reduceAdd,ye,zw,zi,vS,zg,wG,v8,v9,ua,ub,uc,ud,ue,uf,ug,uh,ui,uj,uk,um,uo,g,c1,c2,r0,r1]
     refine zh (by kernel_rfl) rfl (QA x _) ?_
     cases hw:Q9 x.op with
     | false=>
       simp -implicitDefEqProofs only [EE,xQ,xR,xS]
       refine dO (x:=x) (B:=w7 x) hm g ?_
       simp [w7,Uy,Qp,dr,c1,c2',hr,r0,r1',hm,hw]
     | true=>
       by_cases r4:x.r=4
       ·simp -implicitDefEqProofs only [EE,zw,zi,wG,xQ,xR,xS,g,r4]
        simp [xq,w7,Uy,Qp,dr,hw,r4]
       ·simp -implicitDefEqProofs only [EE,zw,zi,wG,xQ,xR,xS,g,r4]
        refine dO (x:=x) (B:=w7 x) hm g ?_
        simp [w7,Uy,Qp,dr,c1,c2',hr,r0,r1',hm,hw,r4]
   | true=>
     by_cases m0:x.m < 0
     ·simp -implicitDefEqProofs only [EE,zw,zi,zg,wG,xJ,xQ,xR,xS,v8,v9,ua,ub,uc,ud,ue,uf,ug,uh,ui,uj,uk,um,uo,g,c1,c2,r0,r1,m0]
      simp [xq,w7,Uy,Qp,hm,m0]
     by_cases m1:x.m > 15
     ·simp -implicitDefEqProofs only [EE,zw,zi,zg,wG,xJ,xQ,xR,xS,v8,v9,ua,ub,uc,ud,ue,uf,ug,uh,ui,uj,uk,um,uo,g,c1,c2,r0,r1,m0,m1]
      have m1':15 < x.m:=m1
      simp [xq,w7,Uy,Qp,hm,m1']
     have m1':¬ 15 < x.m:=m1
     simp -implicitDefEqProofs only [EE,Sf,Nat.reduceAdd,ye,zw,zi,vS,zg,wG,xJ,v8,v9,ua,ub,uc,ud,ue,uf,ug,uh,ui,uj,uk,um,uo,g,c1,c2,r0,r1,m0,m1]
     refine zh (by kernel_rfl) rfl (QA x _) ?_
     cases hw:Q9 x.op with
     | false=>
       simp -implicitDefEqProofs only [EE,xQ,xR,xS]
       refine dO (x:=x) (B:=w7 x) hm g ?_
       simp [w7,Uy,Qp,dr,c1,c2',hr,r0,r1',hm,m0,m1',hw]
     | true=>
       by_cases r4:x.r=4
       ·simp -implicitDefEqProofs only [EE,zw,zi,wG,xQ,xR,xS,g,r4]
        simp [xq,w7,Uy,Qp,dr,hw,r4]
       ·simp -implicitDefEqProofs only [EE,zw,zi,wG,xQ,xR,xS,g,r4]
        refine dO (x:=x) (B:=w7 x) hm g ?_
        simp [w7,Uy,Qp,dr,c1,c2',hr,r0,r1',hm,m0,m1',hw,r4]
end
open Go.Rtl (inc)
open Go.Rm (Rd Rd.of Rd.at Xi)
open Go.As (KJ Wy YP)
def Zv:List uF->Int->Nat->Int
 | [],_,_ => -1
 | x :: xs,l,n=>if x.op=20/\x.l=l then (n:Nat) else Zv xs l (n + 1)
theorem Ka {h:za} {f:Go.As.Fn} (F:KJ h f) (l:Int):vC Tryz.prog 30 [f.val,.int .i64 l] h (.int .i64 (Zv f.code l 0)):=by
 apply jd rfl
 replace F:=F.lock
 generalize h.lock=L at F
 apply YA;intro wf
 apply AL
 unfold od
 have s0:Sat (.of L) L []:=Sat.self wf.2
 have RF:Rd (.of L) (KJ · f):=Rd.of (yV.qc L) F fun h' o=>F.old o
 have cn:=F.code.YR
 have cc:=F.code.gJ
 simp -implicitDefEqProofs only [EE,Value.cells,↓yL]
 refine vy s0 fun b2 h2 s2 => ?_
 have g2:=s2.get
 simp -implicitDefEqProofs only []
 have F2:=RF.at s2
 have cl:=YP F2.code 3
 refine Zb (fun m vs h' => ∃ i:Nat,i<=f.code.length/\m=f.code.length - i/\vs = [.int .i64 0,.int .i64 (i:Nat)]/\h'=h2/\Zv f.code l 0=Zv (f.code.drop i) l i) f.code.length ⟨0,Th _,rfl,rfl,rfl,rfl⟩ ?_
 rintro m vs h' ⟨i,hi,rfl,rfl,rfl,he⟩
 unfold lU
 by_cases hc:(i:Int) < (f.code.length:Int)
 ·obtain ⟨x,hx⟩:∃ x,f.code[i]? = some x:=⟨_,Sk (by omega)⟩
  have hd:f.code.drop i=x :: f.code.drop (i + 1):=by
   rw [List.drop_eq_getElem_cons (by omega)]
   rw [Sk (by omega)] at hx
   rw [aaq hx]
  rw [hd] at he
  obtain ⟨bi,oi,ci,ti,ha,hbi,hgi,hle,htk,hki⟩:=Wy F2.code (i:=i) (r:=x.row) (by rw [SI,hx];rfl) rfl
  have q0:=hki 0 (by decide)
  have q0:ci[oi]? = some (.int .i64 x.op):=q0
  have q5:=hki 5 (by decide)
  have q5:ci[oi + 5]? = some (.int .i64 x.l):=q5
  have hin:=inc (show i < 4611686018427387904 by have:=F.pd;omega)
  by_cases e1:x.op=20
  ·by_cases e2:x.l=l
   ·simp -implicitDefEqProofs only [EE,nth,↓yL,zw,zi,ZX,u7,zg,vB,QC,QD,QE,QF,QG,hc,g2,cn,cl,ha,hgi,q0,q5,e1,e2]
    show Value.int .i64 (i:Nat) = .int .i64 (Zv f.code l 0)
    rw [he]
    unfold Zv
    rw [Sn ⟨e1,e2⟩]
   ·simp -implicitDefEqProofs only [EE,nth,↓yL,zw,zi,ZX,u7,zg,vB,QC,QD,QE,QF,QG,aZ,hc,g2,cn,cl,ha,hgi,q0,q5,e1,e2,hin]
    refine ⟨f.code.length - (i + 1),by omega,i + 1,by omega,rfl,rfl,?_⟩
    rw [he]
    conv=>lhs;unfold Zv
    rw [Sl (fun q=>e2 q.2)]
  ·simp -implicitDefEqProofs only [EE,nth,↓yL,zw,zi,ZX,u7,zg,QC,QD,QE,QF,QG,aZ,hc,g2,cn,cl,ha,hgi,q0,e1,hin]
   refine ⟨f.code.length - (i + 1),by omega,i + 1,by omega,rfl,rfl,?_⟩
   rw [he]
   conv=>lhs;unfold Zv
   rw [Sl (fun q=>e1 q.1)]
 ·have e:i=f.code.length:=by omega
  subst e
  simp -implicitDefEqProofs only [EE,nth,Int.reduceNeg,zw,ZX,u7,hc,g2,cn,cl]
  show Value.int .i64 (-1) = .int .i64 (Zv f.code l 0)
  rw [he,List.drop_length]
  rfl
open Go.Rtl (Bz ZH We Ui get_some)
open Go.As (Pg kG dE gD WI Qn BX)
def KG (l:List uF):Bool:=l.any fun x => !decide (x.op=20)
def Z8 (code:List uF) (n:Nat) (x:uF):Bool := !(decide (x.op=20) && !decide (Zv code x.l 0=(n:Int))) && !(decide (x.op=18\/x.op=19) && decide (Zv code x.l 0 < 0))
def Ya (p:Pg) (x:uF):Bool := !(decide (x.op=21) && (decide (x.sub < 0) || decide ((p.funcs.length:Int)<=x.sub))) && !(decide (x.op=6) && (decide (x.sub < 0) || (decide ((p.globals.length:Int)<=x.sub) || (decide (x.k < 0) || decide (p.globals.getD x.sub.toNat 0 < x.k)))))
def uy (p:Pg) (code:List uF) (n:Nat) (x:uF):Bool:=w7 x && (Z8 code n x && Ya p x)
def M5 (p:Pg) (code:List uF) (n:Nat):Bool:=match code[n]? with
 | none=>true
 | some x=>uy p code n x
def gI (p:Pg) (code:List uF):Bool:=(List.range code.length).all (M5 p code)
def pe (p:Pg) (f:Go.As.Fn):Bool:=gI p f.code && (KG f.code && !decide (100000 < (f.code.length:Int)))
def gP (p:Pg):Bool:=Go.As.qY p && (p.globals.all BX && p.funcs.all (pe p))
theorem GR {p:Pg} {code:List uF} {n:Nat} {x:uF} (hx:code[n]? = some x) (h:uy p code n x=false):gI p code=false:=by
 have hn:n < code.length:=by
  rcases SC n code.length with q | q
  ·exact q
  ·rw [Sr q] at hx;cases hx
 unfold gI
 rw [List.all_eq_false]
 exact ⟨n,by simpa using hn,by unfold M5;rw [hx];simp [h]⟩
theorem Ey {p:Pg} {code:List uF} (h:∀ n x,n < code.length->code[n]? = some x->uy p code n x=true):gI p code=true:=by
 unfold gI
 rw [SV]
 intro n hn
 have hn:n < code.length:=by simpa using hn
 unfold M5
 rw [Sk hn]
 exact h n _ hn (Sk hn)
section
variable {p:Pg} {f:Go.As.Fn} {lo:yV} {H:za} {b1 b5:Nat} {R:Value->za->Prop} {J:List Value->za->Prop}
theorem MV (RP:Rd lo (kG · p)) (hfm:f ∈ p.funcs) (s:Sat lo H [pt b5 (.cells f.row 47),pt b1 (.cells p.row 25)]) (v:Value)
  (kb:gI p f.code=false->∀ h,R (.bool false) h)
  (k:∀ h v,gI p f.code=true->Sat lo h [pt b5 (.cells f.row 47),pt b1 (.cells p.row 25)]->J [v,.bool (KG f.code)] h) :
  LP (KW (.pointer (some ⟨b5,0,none⟩)) J R (.pointer (some ⟨b1,0,none⟩))) [v,.bool false,.int .i64 0] H:=by
 refine Zb (fun n vs h' => ∃ (i:Nat) (v0:Value),i<=f.code.length/\n=f.code.length - i/\vs = [v0,.bool (KG (f.code.take i)),.int .i64 (i:Nat)]/\(∀ m x,m < i->f.code[m]? = some x->uy p f.code m x=true)/\Sat lo h' [pt b5 (.cells f.row 47),pt b1 (.cells p.row 25)]) f.code.length ⟨0,v,Th _,rfl,rfl,fun m x hm=>by omega,s⟩ ?_
 rintro n vs h' ⟨i,v0,hi,rfl,rfl,hall,s⟩
 have P:=RP.at s
 have F:=P.fns f hfm
 have g5:=s.get
 have cn:=F.code.YR
 have cc:=F.code.gJ
 have cl:=fun h'=>YP F.code 3 h'
 have gvn:=P.globals.YR
 have fvn:=P.funcs.YR
 have gl:=fun h'=>Qn P.globals 3 h'
 have fl:=fun h'=>WI P.funcs 3 h'
 unfold KW
 by_cases hc:(i:Int) < (f.code.length:Int)
 ·obtain ⟨x,hx,hxm⟩:=get_some (l:=f.code) (k:=i) (by omega)
  obtain ⟨bi,oi,ci,ti,ha,hbi,hgi,hle,htk,hki⟩:=Wy F.code (i:=i) (r:=x.row) (by rw [SI,hx];rfl) rfl
  have et:f.code.take (i + 1)=f.code.take i ++ [x]:=by rw [List.take_add_one,hx];rfl
  have hsn:KG (f.code.take (i + 1))=(KG (f.code.take i) || !decide (x.op=20)):=by rw [et];simp [KG]
  have hin:=inc (show i < 4611686018427387904 by have:=F.pd;omega)
  have no:uy p f.code i x=false->∀ h,R (.bool false) h:=fun e=>kb (GR hx e)
  have go:uy p f.code i x=true->∀ m y,m < i + 1->f.code[m]? = some y->uy p f.code m y=true:=fun e m y hm hy=>by
   by_cases q:m=i
   ·subst q;rw [hx] at hy;cases hy;exact e
   ·exact hall m y (by omega) hy
  simp -implicitDefEqProofs only [EE,nth,Value.cells,↓yL,Sf,ye,zw,ZX,vS,nq,u7,fL,hc,g5,cn,cl,ha,hgi,hle,htk]
  refine vy s fun b8 h2 s2 => ?_
  simp -implicitDefEqProofs only [EE,Nat.reduceAdd,nk]
  refine wx s2 (by simp) rfl fun h3 s3 => ?_
  have g8:=s3.get
  have g5:=(s3.p 1).get
  have g1:=(s3.p 2).get
  have st:=s3.drop
  have go2:uy p f.code i x=true->∀ (w:Value) (sb:Bool),sb=(KG (f.code.take i) || !decide (x.op=20))->∃ m,m < f.code.length - i /\ ∃ (i':Nat) (v0:Value),i'<=f.code.length/\m=f.code.length - i' /\ [w,Value.bool sb,.int .i64 ((i + 1:Nat):Int)] = [v0,.bool (KG (f.code.take i')),.int .i64 (i':Nat)]/\(∀ m x,m < i'->f.code[m]? = some x->uy p f.code m x=true)/\Sat lo h3 [pt b5 (.cells f.row 47),pt b1 (.cells p.row 25)]:=fun e w sb hsb=>
   ⟨f.code.length - (i + 1),by omega,i + 1,w,by omega,rfl,by rw [hsn,hsb],go e,st⟩
  cases hsb:KG (f.code.take i) with
  | true=>
    rw [hsb] at go2
    simp -implicitDefEqProofs only [EE,nth,zf,Sf,Nat.reduceAdd,ye,vS,zg,KU,KV,g8]
    refine zh (by kernel_rfl) rfl (Dp (x:=x)) ?_
    cases hR:w7 x with
    | false=>
      simp -implicitDefEqProofs only [EE,y7]
      exact no (by simp [uy,hR]) _
    | true=>
      by_cases o20:x.op=20
      ·simp -implicitDefEqProofs only [EE,zf,Sf,Nat.reduceAdd,ye,zw,zi,U9,zg,vB,xE,xF,xG,y7,g8,g5,o20]
       refine zh (by kernel_rfl) (by simp only [yN];rfl) (Ka ((RP.at s3).fns f hfm) x.l) ?_
       by_cases e1:Zv f.code x.l 0=(i:Int)
       ·simp -implicitDefEqProofs only [EE,nth,zf,Nat.reduceAdd,Int.reduceEq,zw,zi,zg,vj,vk,wI,wJ,wK,wL,wM,wN,wO,wP,wQ,wR,wS,wT,wU,wV,xw,xx,xz,xA,xB,xC,xD,yq,yr,yW,yX,yY,yZ,y1,y4,y5,y6,uV,g8,hin,o20,e1]
        exact go2 (by simp [uy,Z8,Ya,hR,o20,e1]) _ _ (by simp)
       ·simp -implicitDefEqProofs only [EE,nth,yq,yr,yW,yX,yY,yZ,y1,y4,y5,y6,e1]
        exact no (by simp [uy,Z8,Ya,hR,o20,e1]) _
      by_cases o18:x.op=18
      ·simp -implicitDefEqProofs only [EE,zf,Sf,Nat.reduceAdd,Int.reduceEq,ye,zw,zi,U9,zg,vB,yW,yX,yY,yZ,y1,y4,y5,y6,xE,xF,xG,y7,g8,g5,o18]
       refine zh (by kernel_rfl) (by simp only [yN];rfl) (Ka ((RP.at s3).fns f hfm) x.l) ?_
       by_cases e1:Zv f.code x.l 0 < 0
       ·simp -implicitDefEqProofs only [EE,yq,yr,e1]
        exact no (by simp [uy,Z8,Ya,hR,o18,e1]) _
       ·simp -implicitDefEqProofs only [EE,nth,zf,Nat.reduceAdd,Int.reduceEq,zw,zi,zg,vj,vk,wI,wJ,wK,wL,wM,wN,wO,wP,wQ,wR,wS,wT,wU,wV,xw,xx,xz,xA,xB,xC,xD,yq,yr,uV,g8,hin,o18,e1]
        exact go2 (by simp [uy,Z8,Ya,hR,o18,e1]) _ _ (by simp)
      by_cases o19:x.op=19
      ·simp -implicitDefEqProofs only [EE,zf,Sf,Nat.reduceAdd,Int.reduceEq,ye,zw,zi,U9,zg,vB,yW,yX,yY,yZ,y1,y4,y5,y6,xE,xF,xG,y7,g8,g5,o19]
       refine zh (by kernel_rfl) (by simp only [yN];rfl) (Ka ((RP.at s3).fns f hfm) x.l) ?_
       by_cases e1:Zv f.code x.l 0 < 0
       ·simp -implicitDefEqProofs only [EE,yq,yr,e1]
        exact no (by simp [uy,Z8,Ya,hR,o19,e1]) _
       ·simp -implicitDefEqProofs only [EE,nth,zf,Nat.reduceAdd,Int.reduceEq,zw,zi,zg,vj,vk,wI,wJ,wK,wL,wM,wN,wO,wP,wQ,wR,wS,wT,wU,wV,xw,xx,xz,xA,xB,xC,xD,yq,yr,uV,g8,hin,o19,e1]
        exact go2 (by simp [uy,Z8,Ya,hR,o19,e1]) _ _ (by simp)
      by_cases o21:x.op=21
      ·by_cases e1:x.sub < 0
       ·simp -implicitDefEqProofs only [EE,zf,Nat.reduceAdd,Int.reduceEq,zw,zi,zg,zD,xw,xx,xz,xA,xB,xC,xD,yq,yr,yW,yX,yY,yZ,y1,y4,y5,y6,xE,xF,xG,y7,g8,o21,e1]
        exact no (by simp [uy,Z8,Ya,hR,o21,e1]) _
       by_cases e2:x.sub ≥ (p.funcs.length:Int)
       ·simp -implicitDefEqProofs only [EE,zf,Nat.reduceAdd,Int.reduceEq,zw,qa,zi,wF,zg,zD,xw,xx,xz,xA,xB,xC,xD,yq,yr,yW,yX,yY,yZ,y1,y4,y5,y6,xE,xF,xG,y7,g8,g1,fvn,fl,o21,e1,e2]
        have e2:(p.funcs.length:Int)<=x.sub:=e2
        exact no (by simp [uy,Z8,Ya,hR,o21,e2]) _
       simp -implicitDefEqProofs only [EE,nth,zf,Nat.reduceAdd,Int.reduceEq,zw,qa,zi,wF,zg,zD,vj,vk,wI,wJ,wK,wL,wM,wN,wO,wP,wQ,wR,wS,wT,wU,wV,xw,xx,xz,xA,xB,xC,xD,yq,yr,yW,yX,yY,yZ,y1,y4,y5,y6,xE,xF,xG,y7,uV,g8,g1,fvn,fl,hin,o21,e1,e2]
       have e2:¬ (p.funcs.length:Int)<=x.sub:=e2
       exact go2 (by simp [uy,Z8,Ya,hR,o21,e1,e2]) _ _ (by simp)
      by_cases o6:x.op=6
      ·by_cases e1:x.sub < 0
       ·simp -implicitDefEqProofs only [EE,zf,Nat.reduceAdd,Int.reduceEq,zw,zi,zg,zD,vj,vk,wI,wJ,wK,wL,wM,wN,wO,wP,wQ,wR,wS,wT,wU,wV,xw,xx,xz,xA,xB,xC,xD,yq,yr,yW,yX,yY,yZ,y1,y4,y5,y6,xE,xF,xG,y7,g8,o6,e1]
        exact no (by simp [uy,Z8,Ya,hR,o6,e1]) _
       by_cases e2:x.sub ≥ (p.globals.length:Int)
       ·simp -implicitDefEqProofs only [EE,zf,Nat.reduceAdd,Int.reduceEq,zw,u9,zi,w5,zg,zD,vj,vk,wI,wJ,wK,wL,wM,wN,wO,wP,wQ,wR,wS,wT,wU,wV,xw,xx,xz,xA,xB,xC,xD,yq,yr,yW,yX,yY,yZ,y1,y4,y5,y6,xE,xF,xG,y7,g8,g1,gvn,gl,o6,e1,e2]
        have e2:(p.globals.length:Int)<=x.sub:=e2
        exact no (by simp [uy,Z8,Ya,hR,o6,e2]) _
       by_cases e3:x.k < 0
       ·simp -implicitDefEqProofs only [EE,zf,Nat.reduceAdd,Int.reduceEq,zw,yQ,u9,zi,w5,zg,zD,zQ,vj,vk,wI,wJ,wK,wL,wM,wN,wO,wP,wQ,wR,wS,wT,wU,wV,xw,xx,xz,xA,xB,xC,xD,yq,yr,yW,yX,yY,yZ,y1,y4,y5,y6,xE,xF,xG,y7,g8,g1,gvn,gl,o6,e1,e2,e3]
        exact no (by simp [uy,Z8,Ya,hR,o6,e3]) _
       obtain ⟨z,hz,hzm⟩:=get_some (l:=p.globals) (k:=x.sub.toNat) (by omega)
       obtain ⟨bz,oz,cz,tz,haz,hbz,hgz,hatz⟩:=gD (RP.at s3).globals hz
       rw [Int.toNat_of_nonneg (by omega)] at haz
       have hd:p.globals.getD x.sub.toNat 0=z:=by rw [SU,hz];rfl
       by_cases e4:x.k > z
       ·simp -implicitDefEqProofs only [EE,zf,Nat.reduceAdd,Int.reduceEq,zw,yQ,u9,zi,w5,zg,zD,zQ,vj,vk,wI,wJ,wK,wL,wM,wN,wO,wP,wQ,wR,wS,wT,wU,wV,xw,xx,xz,xA,xB,xC,xD,yq,yr,yW,yX,yY,yZ,y1,y4,y5,y6,xE,xF,xG,y7,g8,g1,gvn,gl,o6,e1,e2,e3,haz,hgz,hatz,e4]
        have e4:z < x.k:=e4
        exact no (by simp only [uy,Z8,Ya,hd];simp [hR,o6,e4]) _
       simp -implicitDefEqProofs only [EE,nth,zf,Nat.reduceAdd,Int.reduceEq,zw,yQ,u9,zi,w5,zg,zD,zQ,vj,vk,wI,wJ,wK,wL,wM,wN,wO,wP,wQ,wR,wS,wT,wU,wV,xw,xx,xz,xA,xB,xC,xD,yq,yr,yW,yX,yY,yZ,y1,y4,y5,y6,xE,xF,xG,y7,uV,g8,g1,gvn,gl,hin,o6,e1,e2,e3,haz,hgz,hatz,e4]
       have e4:¬ z < x.k:=e4
       have e2:¬ (p.globals.length:Int)<=x.sub:=e2
       exact go2 (by simp only [uy,Z8,Ya,hd];simp [hR,o6,e1,e2,e3,e4]) _ _ (by simp)
      simp -implicitDefEqProofs only [EE,nth,zf,Nat.reduceAdd,zw,zi,zg,vj,vk,wI,wJ,wK,wL,wM,wN,wO,wP,wQ,wR,wS,wT,wU,wV,xw,xx,xz,xA,xB,xC,xD,yq,yr,yW,yX,yY,yZ,y1,y4,y5,y6,xE,xF,xG,y7,uV,g8,hin,o20,o18,o19,o21,o6]
      exact go2 (by simp [uy,Z8,Ya,hR,o20,o18,o19,o21,o6]) _ _ (by simp)
  | false=>
    rw [hsb] at go2
    simp -implicitDefEqProofs only [EE,nth,zf,Sf,Nat.reduceAdd,ye,zw,zi,vS,zg,KU,KV,g8]
    refine zh (by kernel_rfl) rfl (Dp (x:=x)) ?_
    cases hR:w7 x with
    | false=>
      simp -implicitDefEqProofs only [EE,y7]
      exact no (by simp [uy,hR]) _
    | true=>
      by_cases o20:x.op=20
      ·simp -implicitDefEqProofs only [EE,zf,Sf,Nat.reduceAdd,ye,zw,zi,U9,zg,vB,xE,xF,xG,y7,g8,g5,o20]
       refine zh (by kernel_rfl) (by simp only [yN];rfl) (Ka ((RP.at s3).fns f hfm) x.l) ?_
       by_cases e1:Zv f.code x.l 0=(i:Int)
       ·simp -implicitDefEqProofs only [EE,nth,zf,Nat.reduceAdd,Int.reduceEq,zw,zi,zg,vj,vk,wI,wJ,wK,wL,wM,wN,wO,wP,wQ,wR,wS,wT,wU,wV,xw,xx,xz,xA,xB,xC,xD,yq,yr,yW,yX,yY,yZ,y1,y4,y5,y6,uV,g8,hin,o20,e1]
        exact go2 (by simp [uy,Z8,Ya,hR,o20,e1]) _ _ (by simp [o20])
       ·simp -implicitDefEqProofs only [EE,nth,yq,yr,yW,yX,yY,yZ,y1,y4,y5,y6,e1]
        exact no (by simp [uy,Z8,Ya,hR,o20,e1]) _
      by_cases o18:x.op=18
      ·simp -implicitDefEqProofs only [EE,zf,Sf,Nat.reduceAdd,Int.reduceEq,ye,zw,zi,U9,zg,vB,yW,yX,yY,yZ,y1,y4,y5,y6,xE,xF,xG,y7,g8,g5,o18]
       refine zh (by kernel_rfl) (by simp only [yN];rfl) (Ka ((RP.at s3).fns f hfm) x.l) ?_
       by_cases e1:Zv f.code x.l 0 < 0
       ·simp -implicitDefEqProofs only [EE,yq,yr,e1]
        exact no (by simp [uy,Z8,Ya,hR,o18,e1]) _
       ·simp -implicitDefEqProofs only [EE,nth,zf,Nat.reduceAdd,Int.reduceEq,zw,zi,zg,vj,vk,wI,wJ,wK,wL,wM,wN,wO,wP,wQ,wR,wS,wT,wU,wV,xw,xx,xz,xA,xB,xC,xD,yq,yr,uV,g8,hin,o18,e1]
        exact go2 (by simp [uy,Z8,Ya,hR,o18,e1]) _ _ (by simp [o18])
      by_cases o19:x.op=19
      ·simp -implicitDefEqProofs only [EE,zf,Sf,Nat.reduceAdd,Int.reduceEq,ye,zw,zi,U9,zg,vB,yW,yX,yY,yZ,y1,y4,y5,y6,xE,xF,xG,y7,g8,g5,o19]
       refine zh (by kernel_rfl) (by simp only [yN];rfl) (Ka ((RP.at s3).fns f hfm) x.l) ?_
       by_cases e1:Zv f.code x.l 0 < 0
       ·simp -implicitDefEqProofs only [EE,yq,yr,e1]
        exact no (by simp [uy,Z8,Ya,hR,o19,e1]) _
       ·simp -implicitDefEqProofs only [EE,nth,zf,Nat.reduceAdd,Int.reduceEq,zw,zi,zg,vj,vk,wI,wJ,wK,wL,wM,wN,wO,wP,wQ,wR,wS,wT,wU,wV,xw,xx,xz,xA,xB,xC,xD,yq,yr,uV,g8,hin,o19,e1]
        exact go2 (by simp [uy,Z8,Ya,hR,o19,e1]) _ _ (by simp [o19])
      by_cases o21:x.op=21
      ·by_cases e1:x.sub < 0
       ·simp -implicitDefEqProofs only [EE,zf,Nat.reduceAdd,Int.reduceEq,zw,zi,zg,zD,xw,xx,xz,xA,xB,xC,xD,yq,yr,yW,yX,yY,yZ,y1,y4,y5,y6,xE,xF,xG,y7,g8,o21,e1]
        exact no (by simp [uy,Z8,Ya,hR,o21,e1]) _
       by_cases e2:x.sub ≥ (p.funcs.length:Int)
       ·simp -implicitDefEqProofs only [EE,zf,Nat.reduceAdd,Int.reduceEq,zw,qa,zi,wF,zg,zD,xw,xx,xz,xA,xB,xC,xD,yq,yr,yW,yX,yY,yZ,y1,y4,y5,y6,xE,xF,xG,y7,g8,g1,fvn,fl,o21,e1,e2]
        have e2:(p.funcs.length:Int)<=x.sub:=e2
        exact no (by simp [uy,Z8,Ya,hR,o21,e2]) _
       simp -implicitDefEqProofs only [EE,nth,zf,Nat.reduceAdd,Int.reduceEq,zw,qa,zi,wF,zg,zD,vj,vk,wI,wJ,wK,wL,wM,wN,wO,wP,wQ,wR,wS,wT,wU,wV,xw,xx,xz,xA,xB,xC,xD,yq,yr,yW,yX,yY,yZ,y1,y4,y5,y6,xE,xF,xG,y7,uV,g8,g1,fvn,fl,hin,o21,e1,e2]
       have e2:¬ (p.funcs.length:Int)<=x.sub:=e2
       exact go2 (by simp [uy,Z8,Ya,hR,o21,e1,e2]) _ _ (by simp [o21])
      by_cases o6:x.op=6
      ·by_cases e1:x.sub < 0
       ·simp -implicitDefEqProofs only [EE,zf,Nat.reduceAdd,Int.reduceEq,zw,zi,zg,zD,vj,vk,wI,wJ,wK,wL,wM,wN,wO,wP,wQ,wR,wS,wT,wU,wV,xw,xx,xz,xA,xB,xC,xD,yq,yr,yW,yX,yY,yZ,y1,y4,y5,y6,xE,xF,xG,y7,g8,o6,e1]
        exact no (by simp [uy,Z8,Ya,hR,o6,e1]) _
       by_cases e2:x.sub ≥ (p.globals.length:Int)
       ·simp -implicitDefEqProofs only [EE,zf,Nat.reduceAdd,Int.reduceEq,zw,u9,zi,w5,zg,zD,vj,vk,wI,wJ,wK,wL,wM,wN,wO,wP,wQ,wR,wS,wT,wU,wV,xw,xx,xz,xA,xB,xC,xD,yq,yr,yW,yX,yY,yZ,y1,y4,y5,y6,xE,xF,xG,y7,g8,g1,gvn,gl,o6,e1,e2]
        have e2:(p.globals.length:Int)<=x.sub:=e2
        exact no (by simp [uy,Z8,Ya,hR,o6,e2]) _
       by_cases e3:x.k < 0
       ·simp -implicitDefEqProofs only [EE,zf,Nat.reduceAdd,Int.reduceEq,zw,yQ,u9,zi,w5,zg,zD,zQ,vj,vk,wI,wJ,wK,wL,wM,wN,wO,wP,wQ,wR,wS,wT,wU,wV,xw,xx,xz,xA,xB,xC,xD,yq,yr,yW,yX,yY,yZ,y1,y4,y5,y6,xE,xF,xG,y7,g8,g1,gvn,gl,o6,e1,e2,e3]
        exact no (by simp [uy,Z8,Ya,hR,o6,e3]) _
       obtain ⟨z,hz,hzm⟩:=get_some (l:=p.globals) (k:=x.sub.toNat) (by omega)
       obtain ⟨bz,oz,cz,tz,haz,hbz,hgz,hatz⟩:=gD (RP.at s3).globals hz
       rw [Int.toNat_of_nonneg (by omega)] at haz
       have hd:p.globals.getD x.sub.toNat 0=z:=by rw [SU,hz];rfl
       by_cases e4:x.k > z
       ·simp -implicitDefEqProofs only [EE,zf,Nat.reduceAdd,Int.reduceEq,zw,yQ,u9,zi,w5,zg,zD,zQ,vj,vk,wI,wJ,wK,wL,wM,wN,wO,wP,wQ,wR,wS,wT,wU,wV,xw,xx,xz,xA,xB,xC,xD,yq,yr,yW,yX,yY,yZ,y1,y4,y5,y6,xE,xF,xG,y7,g8,g1,gvn,gl,o6,e1,e2,e3,haz,hgz,hatz,e4]
        have e4:z < x.k:=e4
        exact no (by simp only [uy,Z8,Ya,hd];simp [hR,o6,e4]) _
       simp -implicitDefEqProofs only [EE,nth,zf,Nat.reduceAdd,Int.reduceEq,zw,yQ,u9,zi,w5,zg,zD,zQ,vj,vk,wI,wJ,wK,wL,wM,wN,wO,wP,wQ,wR,wS,wT,wU,wV,xw,xx,xz,xA,xB,xC,xD,yq,yr,yW,yX,yY,yZ,y1,y4,y5,y6,xE,xF,xG,y7,uV,g8,g1,gvn,gl,hin,o6,e1,e2,e3,haz,hgz,hatz,e4]
       have e4:¬ z < x.k:=e4
       have e2:¬ (p.globals.length:Int)<=x.sub:=e2
       exact go2 (by simp only [uy,Z8,Ya,hd];simp [hR,o6,e1,e2,e3,e4]) _ _ (by simp [o6])
      simp -implicitDefEqProofs only [EE,nth,zf,Nat.reduceAdd,zw,zi,zg,vj,vk,wI,wJ,wK,wL,wM,wN,wO,wP,wQ,wR,wS,wT,wU,wV,xw,xx,xz,xA,xB,xC,xD,yq,yr,yW,yX,yY,yZ,y1,y4,y5,y6,xE,xF,xG,y7,uV,g8,hin,o20,o18,o19,o21,o6]
      exact go2 (by simp [uy,Z8,Ya,hR,o20,o18,o19,o21,o6]) _ _ (by simp [o20])
 ·have e:i=f.code.length:=by omega
  subst e
  rw [aav]
  simp -implicitDefEqProofs only [EE,nth,zw,ZX,u7,hc,g5,cn,cl]
  exact k h' v0 (Ey fun n x hn hx=>hall n x hn hx) s
end
open Go.As (qY)
section
variable {p:Pg} {lo:yV} {H:za} {b1:Nat}
theorem IS (RP:Rd lo (kG · p)) (s:Sat lo H [pt b1 (.cells p.row 25)]) {B:Bool} (hB:B=p.funcs.all (pe p)) (v:Value):LP (KX (.pointer (some ⟨b1,0,none⟩)) (fun vs76 h77=>xq B (.bool true) h77) (xq B)) [v,.int .i64 0] H:=by
 refine Zb (fun n vs h' => ∃ (i:Nat) (v0:Value),i<=p.funcs.length/\n=p.funcs.length - i/\vs = [v0,.int .i64 (i:Nat)]/\(∀ k,k < i->Bz p.funcs (pe p) k=true)/\Sat lo h' [pt b1 (.cells p.row 25)])
  p.funcs.length ⟨0,v,Th _,rfl,rfl,fun k hk=>by omega,s⟩ ?_
 rintro n vs h' ⟨i,v0,hi,rfl,rfl,hall,s⟩
 have P:=RP.at s
 have g1:=s.get
 have fvn:=P.funcs.YR
 have fl:=fun h'=>WI P.funcs 3 h'
 unfold KX
 by_cases hc:(i:Int) < (p.funcs.length:Int)
 ·obtain ⟨f,hf,hfm⟩:=get_some (l:=p.funcs) (k:=i) (by omega)
  obtain ⟨bi,oi,ci,ti,ha,hbi,hgi,hle,htk,_⟩:=dE P.funcs (i:=i) (r:=f.row) (by rw [SI,hf];rfl) rfl
  have cvn:=(P.fns f hfm).code.YR
  have cvc:=(P.fns f hfm).code.gJ
  have cl:=fun h'=>YP (P.fns f hfm).code 3 h'
  have hin:=inc (show i < 4611686018427387904 by have:=P.IL;omega)
  have no:pe p f=false->B=false:=fun e=>by rw [hB,We hf e]
  simp -implicitDefEqProofs only [EE,nth,Value.cells,↓yL,Sf,ye,zw,qa,U9,C1,wF,fN,hc,g1,fvn,fl,ha,hgi,hle,htk]
  refine vy s fun b5 h2 s2 => ?_
  simp -implicitDefEqProofs only [EE,Nat.reduceAdd,CZ]
  refine wx s2 (by simp) (by simp [cvc];rfl) fun h3 s3 => ?_
  simp -implicitDefEqProofs only [nth,↓yL]
  refine MV RP hfm s3 _ (fun e h => ?_) (fun h4 w hgood s4 => ?_)
  ·show Value.bool false = .bool B
   rw [no (by unfold pe;rw [e];rfl)]
  ·have g5:=s4.get
   unfold fM
   cases hs:KG f.code with
   | false=>
     simp -implicitDefEqProofs only [EE,nth,V4,V5,V6]
     rw [no (by unfold pe;simp [hs])];rfl
   | true=>
     by_cases c1:(f.code.length:Int) > 100000
     ·simp -implicitDefEqProofs only [EE,nth,zw,ZX,u7,V4,V5,V6,g5,cvn,cl,c1]
      rw [no (by have c1:100000 < (f.code.length:Int):=c1;unfold pe;simp [c1])];rfl
     ·simp -implicitDefEqProofs only [EE,nth,zw,ZX,u7,V4,V5,V6,fO,g5,cvn,cl,c1,hin]
      exact ⟨p.funcs.length - (i + 1),by omega,i + 1,_,by omega,rfl,rfl,fun k hk=>(by
       by_cases q:k=i
       ·subst q;rw [Ui hf];have c1:¬ 100000 < (f.code.length:Int):=c1;unfold pe;simp [hgood,hs,c1]
       ·exact hall k (by omega)),s4.k [1]⟩
 ·have hi9:i=p.funcs.length:=by omega
  subst hi9
  simp -implicitDefEqProofs only [EE,nth,zw,qa,wF,hc,g1,fvn,fl]
  rw [hB,ZH hall];rfl
theorem IX (RP:Rd lo (kG · p)) (s:Sat lo H [pt b1 (.cells p.row 25)]) {B:Bool} (hB:B=(p.globals.all BX && p.funcs.all (pe p))) {vs:List Value}:KY (.pointer (some ⟨b1,0,none⟩)) (xq B) vs H:=by
 unfold KY
 simp -implicitDefEqProofs only [↓yL]
 refine Zb (fun n vs h' => ∃ (i:Nat) (v0:Value),i<=p.globals.length/\n=p.globals.length - i/\vs = [v0,.int .i64 (i:Nat)]/\(∀ k,k < i->Bz p.globals BX k=true)/\Sat lo h' [pt b1 (.cells p.row 25)])
  p.globals.length ⟨0,nth vs 0,Th _,rfl,rfl,fun k hk=>by omega,s⟩ ?_
 rintro n vs h' ⟨i,v0,hi,rfl,rfl,hall,s⟩
 have P:=RP.at s
 have g1:=s.get
 have gvn:=P.globals.YR
 have gl:=fun h'=>Qn P.globals 3 h'
 unfold l8
 by_cases hc:(i:Int) < (p.globals.length:Int)
 ·obtain ⟨z,hz,hzm⟩:=get_some (l:=p.globals) (k:=i) (by omega)
  obtain ⟨bi,oi,ci,ti,ha,hbi,hgi,hat⟩:=gD P.globals hz
  have no:BX z=false->B=false:=fun e=>by rw [hB,We hz e];rfl
  have hin:=inc (show i < 4611686018427387904 by have:=P.IW;omega)
  by_cases z0:z < 0
  ·simp -implicitDefEqProofs only [EE,nth,↓yL,zw,u9,zi,w5,QK,QL,QM,QN,QO,hc,g1,gvn,gl,ha,hgi,hat,z0]
   rw [no (by unfold BX;simp [z0])];rfl
  by_cases z1:z > 65536
  ·simp -implicitDefEqProofs only [EE,nth,↓yL,zw,u9,zi,w5,QK,QL,QM,QN,QO,hc,g1,gvn,gl,ha,hgi,hat,z0,z1]
   rw [no (by have z1:65536 < z:=z1;unfold BX;simp [z1])];rfl
  simp -implicitDefEqProofs only [EE,nth,↓yL,zw,u9,zi,w5,QK,QL,QM,QN,QO,l7,hc,g1,gvn,gl,ha,hgi,hat,z0,z1,hin]
  exact ⟨p.globals.length - (i + 1),by omega,i + 1,_,by omega,rfl,rfl,fun k hk=>(by
   by_cases q:k=i
   ·subst q;rw [Ui hz];have z1:¬ 65536 < z:=z1;unfold BX;simp [z0,z1]
   ·exact hall k (by omega)),s⟩
 ·have hi9:i=p.globals.length:=by omega
  subst hi9
  simp -implicitDefEqProofs only [EE,nth,↓yL,zw,u9,w5,hc,g1,gvn,gl]
  refine IS (B:=B) RP s ?_ _
  rw [hB,ZH hall];rfl
theorem IE {h:za} (P:kG h p):vC Tryz.prog 15 [p.val] h (.bool (gP p)):=by
 apply yS
 replace P:=P.lock
 generalize h.lock=L at P
 apply YA;intro wf
 apply AT
 unfold oj
 have s0:Sat (.of L) L []:=Sat.self wf.2
 have RP:Rd (.of L) (kG · p):=Rd.of (yV.qc L) P fun h' o=>P.old o
 have gvn:=P.globals.YR
 have fvn:=P.funcs.YR
 have gvc:=P.globals.gJ
 have fvc:=P.funcs.gJ
 have fl:=fun h'=>WI P.funcs 3 h'
 have gl:=fun h'=>Qn P.globals 3 h'
 simp -implicitDefEqProofs only [EE,Value.cells]
 refine vy s0 fun b1 h2 s2 => ?_
 have g1:=s2.get
 have no:qY p=false->gP p=false:=fun e=>by unfold gP;rw [e];rfl
 by_cases c4:(p.globals.length:Int) > 200
 ·simp -implicitDefEqProofs only [EE,zw,u9,w5,Zd,Ze,Zf,Zg,Zh,Zi,Zj,Zk,Zl,Zm,Zn,g1,gvn,gl,c4]
  rw [no (by have c4:(200:Int) < p.globals.length:=c4;unfold qY;simp [c4])];rfl
 by_cases c3:(p.funcs.length:Int) > 100
 ·simp -implicitDefEqProofs only [EE,zw,u9,qa,w5,wF,Zd,Ze,Zf,Zg,Zh,Zi,Zj,Zk,Zl,Zm,Zn,g1,fvn,fl,gvn,gl,c4,c3]
  rw [no (by have c3:(100:Int) < p.funcs.length:=c3;unfold qY;simp [c3])];rfl
 by_cases c1:p.main < 0
 ·simp -implicitDefEqProofs only [EE,zw,u9,qa,zi,w5,wF,j7,Zd,Ze,Zf,Zg,Zh,Zi,Zj,Zk,Zl,Zm,Zn,g1,fvn,fl,gvn,gl,c4,c3,c1]
  rw [no (by unfold qY;simp [c1])];rfl
 by_cases c2:p.main ≥ (p.funcs.length:Int)
 ·simp -implicitDefEqProofs only [EE,zw,u9,qa,zi,w5,wF,j7,Zd,Ze,Zf,Zg,Zh,Zi,Zj,Zk,Zl,Zm,Zn,g1,fvn,fl,gvn,gl,c4,c3,c1,c2]
  rw [no (by have c2:(p.funcs.length:Int)<=p.main:=c2;unfold qY;simp [c2])];rfl
 by_cases c5:p.params < 0
 ·simp -implicitDefEqProofs only [EE,zw,u9,qa,zi,w5,wF,j7,ZJ,Zd,Ze,Zf,Zg,Zh,Zi,Zj,Zk,Zl,Zm,Zn,g1,fvn,fl,gvn,gl,c4,c3,c1,c2,c5]
  rw [no (by unfold qY;simp [c5])];rfl
 by_cases c6:p.params > 6
 ·simp -implicitDefEqProofs only [EE,zw,u9,qa,zi,w5,wF,j7,ZJ,Zd,Ze,Zf,Zg,Zh,Zi,Zj,Zk,Zl,Zm,Zn,g1,fvn,fl,gvn,gl,c4,c3,c1,c2,c5,c6]
  rw [no (by have c6:6 < p.params:=c6;unfold qY;simp [c6])];rfl
 simp -implicitDefEqProofs only [EE,zw,u9,qa,zi,w5,wF,j7,ZJ,Zd,Ze,Zf,Zg,Zh,Zi,Zj,Zk,Zl,Zm,Zn,g1,fvn,fl,gvn,gl,c4,c3,c1,c2,c5,c6]
 refine IX RP s2 ?_
 have hs:qY p=true:=by
  have c2:¬ (p.funcs.length:Int)<=p.main:=c2
  have c3:¬ (100:Int) < p.funcs.length:=c3
  have c4:¬ (200:Int) < p.globals.length:=c4
  have c6:¬ 6 < p.params:=c6
  unfold qY;simp [c1,c2,c3,c4,c5,c6]
 unfold gP
 rw [hs];rfl
end
end Go.Ar
