/- A part of the proof. -/
import Derived.Test.YtcecapkbglnejaaGreatDoorChecked
import Derived.KernelRfl
import Derived.Test.YtcecapkbglnejaaGreatDoorTH
import Derived.Test.YtcecapkbglnejaaGreatDoorTI
set_option linter.unusedVariables false
set_option linter.unusedSimpArgs false
set_option maxRecDepth 100000
namespace Go.As
open Go.Ai Go.Proofs
def qs:FuncId->Nat:=fun g=>[0,0,0,0,0,0,0,0,0,0,0,0,0,0,0,0,0,0,0,0,0,0,0,0,0,0,0,0,0,0,0,0,0,0,0,0,0,0,0,0,0,0,0,0,0,0,0,0,0,0,0,0,0,0,0,0,0,0,0,0,3,3,0,0,2,0,0,0,0,0,0,0,0,0,0,0,0,0,0,0,0,0,0,0,0,0,0,2,0,2,0,2,0,0,0,0,0,0,0,0,0,0,0,0,0,0,0,0,3,2].getD g 0
theorem mixed:Tryz.prog.follows .mixedOrders=true:=aau Tryz.checked
def JA:=fun c (R:Value->za->Prop) d (e:List Value->za->Prop) f (a:za)=>
 opt (pk c (.bool true) f) fun g=>CD g (fun b=>rv [.bool false] a R)
 (fun b=>b [nth d 0] a)
 (fun h i=>e [nth h 0] i)
def JB:=fun a (R:Value->za->Prop) d (e:List Value->za->Prop) b (c:za)=>
 GD a false (fun f=>opt (nb [b,.int .i64 65536] (ze Tryz.prog .gtr 3 (.tmp 50) (.const (.int .i64 65536)) b (.int .i64 65536))) fun g=>f g c) (JA a R d e) c
def JC:=fun e c (a:za) (R:Value->za->Prop) (f:List Value->za->Prop)=>
 opt (zA Tryz.prog 22 e (nth c 1)) fun g=>opt (zd Tryz.prog 3 g a) fun b=>opt (nb [b,.int .i64 0] (ze Tryz.prog .lss 3 (.tmp 47) (.const (.int .i64 0)) b (.int .i64 0))) fun d=>GD d false (fun h=>h b a) (JB d R c f) a
def rq:=fun a (b:List Value->za->Prop) c (d:za)=>
 opt (nb [nth a 1,.int .i64 1] (ze Tryz.prog .add 3 (.tmp 43) (.const (.int .i64 1)) (nth a 1) (.int .i64 1))) fun e=>b [nth c 0,e] d
def ru:=fun b (e:List Value->za->Prop) f (R:Value->za->Prop) a (c:za) (g:List Value->za->Prop)=>
 opt (nb [nth a 1,b] (ze Tryz.prog .lss 3 (.tmp 43) (.tmp 42) (nth a 1) b)) fun h=>CD h (fun d=>d [] c)
 (fun d=>e [nth a 0] c)
 (fun j i=>BK (JC f a i R)
 (rq a g))
def fh:=fun (R:Value->za->Prop) c (d:List Value->za->Prop) e (a:za)=>
 opt (JR Tryz.prog .not e) fun f=>CD f (fun b=>rv [.bool false] a R)
 (fun b=>b [nth c 0] a)
 (fun g h=>d [nth g 0] h)
def ry:=fun f b (c:za) g (R:Value->za->Prop) (h:List Value->za->Prop)=>
 opt (zA Tryz.prog 23 f (nth b 1)) fun i=>opt (zd Tryz.prog 47 i c) fun d=>opt (wY Tryz.prog 47) fun j=>nw c (Value.cells j).toList 47 fun e k=>opt (nb [d] (zl Tryz.prog 47 e d k)) fun a=>opt (zd Tryz.prog 25 g a) fun l=>opt (zd Tryz.prog 47 e a) fun m=>zO Tryz.prog (.func (.func 31) #[] #[]) [l,m] a (fh R b h)
def rA:=fun a (b:List Value->za->Prop) c (d:za)=>
 opt (nb [nth a 1,.int .i64 1] (ze Tryz.prog .add 3 (.tmp 57) (.const (.int .i64 1)) (nth a 1) (.int .i64 1))) fun e=>b [nth c 0,e] d
def rC:=fun b (e:List Value->za->Prop) f g (R:Value->za->Prop) a (c:za) (h:List Value->za->Prop)=>
 opt (nb [nth a 1,b] (ze Tryz.prog .lss 3 (.tmp 57) (.tmp 56) (nth a 1) b)) fun i=>CD i (fun d=>d [] c)
 (fun d=>e [nth a 0] c)
 (fun k j=>BK (ry f a j g R)
 (rA a h))
def aX:=fun b (R:Value->za->Prop) d (c:za)=>
 opt (zb Tryz.prog 25 b 1) fun e=>opt (zd Tryz.prog 23 e c) fun a=>xZ (nb [a] (zn Tryz.prog .len [23] 3 [a] c)) fun f g=>BK (fun h=>LP (rC f h a b R)
 [nth d 0,.int .i64 0] g)
 (fun j i=>rv [.bool true] i R)
def aY:=fun b (R:Value->za->Prop) d (c:za)=>
 opt (zb Tryz.prog 25 b 0) fun e=>opt (zd Tryz.prog 22 e c) fun a=>xZ (nb [a] (zn Tryz.prog .len [22] 3 [a] c)) fun f g=>BK (fun h=>LP (ru f h a R)
 [nth d 0,.int .i64 0] g)
 (aX b R)
def Yg:=fun b (R:Value->za->Prop) g c (d:za)=>
 GD b false (fun h=>opt (nb [c,.int .i64 6] (ze Tryz.prog .gtr 3 (.tmp 37) (.const (.int .i64 6)) c (.int .i64 6))) fun a=>h a d) (fun a e=>opt (pk b (.bool true) a) fun i=>CD i (fun f=>rv [.bool false] e R)
 (fun f=>f [.bool false] e)
 (aY g R)) d
def Yh:=fun f d (R:Value->za->Prop) g (e:za)=>
 opt (pk f (.bool true) g) fun a=>GD a false (fun h=>opt (zb Tryz.prog 25 d 3) fun b=>h b e) (fun b c=>GD a false (fun i=>opt (zd Tryz.prog 3 b c) fun j=>i j c) (Yg a R d) c) e
def Yi:=fun a d (R:Value->za->Prop) b (c:za)=>
 GD a false (fun e=>opt (nb [b,.int .i64 0] (ze Tryz.prog .lss 3 (.tmp 32) (.const (.int .i64 0)) b (.int .i64 0))) fun f=>e f c) (Yh a d R) c
def Yj:=fun f d (R:Value->za->Prop) g (e:za)=>
 opt (pk f (.bool true) g) fun a=>GD a false (fun h=>opt (zb Tryz.prog 25 d 3) fun b=>h b e) (fun b c=>GD a false (fun i=>opt (zd Tryz.prog 3 b c) fun j=>i j c) (Yi a d R) c) e
def Yk:=fun a d (R:Value->za->Prop) b (c:za)=>
 GD a false (fun e=>opt (nb [b,.int .i64 200] (ze Tryz.prog .gtr 3 (.tmp 27) (.const (.int .i64 200)) b (.int .i64 200))) fun f=>e f c) (Yj a d R) c
def Yl:=fun b e (R:Value->za->Prop) f (c:za)=>
 GD b false (fun g=>opt (zd Tryz.prog 22 f c) fun a=>g a c) (fun a d=>GD b false (fun h=>xZ (nb [a] (zn Tryz.prog .len [22] 3 [a] d)) fun i j=>h i j) (Yk b e R) d) c
def Ym:=fun b c (R:Value->za->Prop) d (e:za)=>
 GD b false (fun h=>opt (nb [d,.int .i64 100] (ze Tryz.prog .gtr 3 (.tmp 21) (.const (.int .i64 100)) d (.int .i64 100))) fun a=>h a e) (fun a f=>opt (pk b (.bool true) a) fun g=>GD g false (fun i=>opt (zb Tryz.prog 25 c 0) fun j=>i j f) (Yl g c R) f) e
def Yn:=fun b e (R:Value->za->Prop) f (c:za)=>
 GD b false (fun g=>opt (zd Tryz.prog 23 f c) fun a=>g a c) (fun a d=>GD b false (fun h=>xZ (nb [a] (zn Tryz.prog .len [23] 3 [a] d)) fun i j=>h i j) (Ym b e R) d) c
def Yo:=fun b c d (R:Value->za->Prop) e (f:za)=>
 GD b false (fun i=>opt (nb [c,e] (ze Tryz.prog .geq 3 (.tmp 12) (.tmp 15) c e)) fun a=>i a f) (fun a g=>opt (pk b (.bool true) a) fun h=>GD h false (fun j=>opt (zb Tryz.prog 25 d 1) fun k=>j k g) (Yn h d R) g) f
def Yp:=fun b e f (R:Value->za->Prop) g (c:za)=>
 GD b false (fun h=>opt (zd Tryz.prog 23 g c) fun a=>h a c) (fun a d=>GD b false (fun i=>xZ (nb [a] (zn Tryz.prog .len [23] 3 [a] d)) fun j k=>i j k) (Yo b e f R) d) c
def Yq:=fun a d (R:Value->za->Prop) f (b:za)=>
 GD a false (fun g=>opt (zd Tryz.prog 3 f b) fun c=>g c b) (fun c e=>GD a false (fun h=>opt (zb Tryz.prog 25 d 1) fun i=>h i e) (Yp a c d R) e) b
def AG:=fun (h:za) c (R:Value->za->Prop)=>
 opt (nb [c] (some (Value.cells c).toList)) fun f=>nw h f 25 fun a b=>opt (zb Tryz.prog 25 a 2) fun g=>opt (zd Tryz.prog 3 g b) fun d=>opt (nb [d,.int .i64 0] (ze Tryz.prog .lss 3 (.tmp 8) (.const (.int .i64 0)) d (.int .i64 0))) fun e=>GD e false (fun i=>opt (zb Tryz.prog 25 a 2) fun j=>i j b) (Yq e a R) b
theorem DM (h:za) (t0:Value) (R:Value->za->Prop):WT Tryz.prog (v7 Tryz.prog qs) 200 17 [t0] h R=AG h t0 R:=by kernel_rfl
theorem DN {h:za} {t0:Value} {R:Value->za->Prop} (hw:AG h t0 R):DC Tryz.prog 17 [t0] h R:=yP mixed (n:=200) (by rw [DM];exact hw)
def JG:=fun d (a:za) (e:List Value->za->Prop) f g (b:za)=>
 opt (zb Tryz.prog 50 d 5) fun h=>opt (zd Tryz.prog 3 h b) fun c=>opt (nb [(vL a).1,c,.bool true] (k7 Tryz.prog 122 (vL a).1 c (.bool true) b)) fun i=>e [nth g 0,nth f 0] i
def JH:=fun c (b:za) (R:Value->za->Prop) f (g:List Value->za->Prop) h (a:za)=>
 opt (zb Tryz.prog 50 c 5) fun i=>opt (zd Tryz.prog 3 i a) fun d=>opt (nb [(vL b).1,d] (Z2 Tryz.prog 122 (vL b).1 d false a)) fun j=>CD j (fun e=>rv [.bool false] a R)
 (fun e=>e [nth f 0] a)
 (JG c b g h)
def JI:=fun b (c:List Value->za->Prop) g (h:za) (R:Value->za->Prop) d (a:za)=>
 opt (zb Tryz.prog 50 b 0) fun i=>opt (zd Tryz.prog 3 i a) fun e=>opt (nb [e,.int .i64 20] (ze Tryz.prog .neq 3 (.tmp 29) (.const (.int .i64 20)) e (.int .i64 20))) fun j=>CD j (fun f=>c [nth d 0,.bool true] a)
 (fun f=>f [nth g 1] a)
 (JH b h R d c)
def JJ:=fun h a (d:za) i (R:Value->za->Prop) (j:za) (k:List Value->za->Prop)=>
 opt (zA Tryz.prog 45 h (nth a 2)) fun l=>opt (zd Tryz.prog 50 l d) fun e=>opt (wY Tryz.prog 50) fun m=>nw d (Value.cells m).toList 50 fun b n=>opt (nb [e] (zl Tryz.prog 50 b e n)) fun c=>opt (zd Tryz.prog 50 b c) fun o=>opt (zb Tryz.prog 25 i 0) fun p=>opt (zd Tryz.prog 22 p c) fun q=>zO Tryz.prog (.func (.func 56) #[] #[]) [o,q] c (fun r f=>opt (JR Tryz.prog .not r) fun s=>CD s (fun g=>rv [.bool false] f R)
 (fun g=>g [nth a 0] f)
 (JI b k a j R))
def Ua:=fun a (c:List Value->za->Prop) b (d:za)=>
 opt (nb [nth a 2,.int .i64 1] (ze Tryz.prog .add 3 (.tmp 19) (.const (.int .i64 1)) (nth a 2) (.int .i64 1))) fun e=>c [nth b 0,nth b 1,e] d
def JK:=fun b (e:List Value->za->Prop) f g (R:Value->za->Prop) (h:za) a (c:za) (i:List Value->za->Prop)=>
 opt (nb [nth a 2,b] (ze Tryz.prog .lss 3 (.tmp 19) (.tmp 18) (nth a 2) b)) fun j=>CD j (fun d=>d [] c)
 (fun d=>e [nth a 0,nth a 1] c)
 (fun l k=>BK (JJ f a k g R h)
 (Ua a i))
def jO:=fun c (R:Value->za->Prop) d (e:List Value->za->Prop) f (a:za)=>
 opt (pk c f (.bool false)) fun g=>CD g (fun b=>rv [.bool false] a R)
 (fun b=>b [nth d 0] a)
 (fun h i=>e [nth h 0] i)
def jP:=fun b c d (R:Value->za->Prop) h (i:List Value->za->Prop) e (f:za)=>
 GD b false (fun j=>opt (nb [c,e] (ze Tryz.prog .geq 3 (.tmp 72) (.tmp 75) c e)) fun a=>j a f) (fun a g=>GD d true (fun k=>opt (pk b (.bool true) a) fun l=>k l g) (jO d R h i) g) f
def jQ:=fun b e f (R:Value->za->Prop) g (h:List Value->za->Prop) i (c:za)=>
 GD b false (fun j=>opt (zd Tryz.prog 23 i c) fun a=>j a c) (fun a d=>GD b false (fun k=>xZ (nb [a] (zn Tryz.prog .len [23] 3 [a] d)) fun l m=>k l m) (jP b e f R g h) d) c
def kH:=fun a e f (R:Value->za->Prop) g (h:List Value->za->Prop) i (b:za)=>
 GD a false (fun j=>opt (zd Tryz.prog 3 i b) fun c=>j c b) (fun c d=>GD a false (fun k=>opt (zb Tryz.prog 25 e 1) fun l=>k l d) (jQ a c f R g h) d) b
def kI:=fun a e f (R:Value->za->Prop) g (h:List Value->za->Prop) i (b:za)=>
 GD a true (fun j=>j i b) (fun c d=>GD c false (fun k=>opt (zb Tryz.prog 50 e 3) fun l=>k l d) (kH c f a R g h) d) b
def kJ:=fun a d e (R:Value->za->Prop) f (g:List Value->za->Prop) b (c:za)=>
 GD a true (fun h=>opt (nb [b,.int .i64 0] (ze Tryz.prog .lss 3 (.tmp 68) (.const (.int .i64 0)) b (.int .i64 0))) fun i=>h i c) (kI a d e R f g) c
def kK:=fun a (b:za) g (R:Value->za->Prop) h (i:List Value->za->Prop)=>
 opt (zb Tryz.prog 50 a 0) fun j=>opt (zd Tryz.prog 3 j b) fun f=>opt (nb [f,.int .i64 21] (ze Tryz.prog .eql 3 (.tmp 64) (.const (.int .i64 21)) f (.int .i64 21))) fun c=>GD c true (fun k=>opt (zb Tryz.prog 50 a 3) fun d=>k d b) (fun d e=>GD c true (fun l=>opt (zd Tryz.prog 3 d e) fun m=>l m e) (kJ c a g R h i) e) b
def kL:=fun b (R:Value->za->Prop) c d e (f:List Value->za->Prop) g (a:za)=>
 opt (pk b g (.bool false)) fun h=>CD h (fun k=>rv [.bool false] a R)
 (kK c a d R e)
 (fun i j=>f [nth i 0] j)
def kM:=fun a d (R:Value->za->Prop) g h i (j:List Value->za->Prop) e (b:za)=>
 GD a true (fun k=>opt (nb [d,e] (Z2 Tryz.prog 122 d e false b)) fun c=>k c b) (fun c f=>GD a true (fun l=>opt (JR Tryz.prog .not c) fun m=>l m f) (kL a R g h i j) f) b
def kN:=fun a d (R:Value->za->Prop) f g (h:List Value->za->Prop) i (e:za)=>
 GD a true (fun j=>opt (zb Tryz.prog 50 d 5) fun b=>j b e) (fun b c=>GD a true (fun k=>opt (zd Tryz.prog 3 b c) fun l=>k l c) (kM a i R d f g h) c) e
def kO:=fun b (g:za) h (R:Value->za->Prop) i j (k:List Value->za->Prop) c (d:za)=>
 GD b false (fun l=>opt (nb [c,.int .i64 19] (ze Tryz.prog .eql 3 (.tmp 52) (.const (.int .i64 19)) c (.int .i64 19))) fun a=>l a d) (fun a e=>opt (pk b (.bool true) a) fun f=>GD f true (fun m=>m (vL g).1 e) (kN f h R i j k) e) d
def kP:=fun a (b g:za) (R:Value->za->Prop) h i (j:List Value->za->Prop)=>
 opt (zb Tryz.prog 50 a 0) fun k=>opt (zd Tryz.prog 3 k b) fun f=>opt (nb [f,.int .i64 18] (ze Tryz.prog .eql 3 (.tmp 48) (.const (.int .i64 18)) f (.int .i64 18))) fun c=>GD c false (fun l=>opt (zb Tryz.prog 50 a 0) fun d=>l d b) (fun d e=>GD c false (fun m=>opt (zd Tryz.prog 3 d e) fun n=>m n e) (kO c g a R h i j) e) b
def Ku:=fun e a (b f:za) (R:Value->za->Prop) g (h:List Value->za->Prop)=>
 opt (zA Tryz.prog 45 e (nth a 1)) fun i=>opt (zd Tryz.prog 50 i b) fun c=>opt (wY Tryz.prog 50) fun j=>nw b (Value.cells j).toList 50 fun d k=>opt (nb [c] (zl Tryz.prog 50 d c k)) fun l=>BK (kP d l f R g a)
 (fun m n=>h [nth m 0] n)
def ZW:=fun a (b:List Value->za->Prop) c (d:za)=>
 opt (nb [nth a 1,.int .i64 1] (ze Tryz.prog .add 3 (.tmp 42) (.const (.int .i64 1)) (nth a 1) (.int .i64 1))) fun e=>b [nth c 0,e] d
def Kv:=fun b (e:List Value->za->Prop) f (g:za) (R:Value->za->Prop) h a (c:za) (i:List Value->za->Prop)=>
 opt (nb [nth a 1,b] (ze Tryz.prog .lss 3 (.tmp 42) (.tmp 41) (nth a 1) b)) fun j=>CD j (fun d=>d [] c)
 (fun d=>e [nth a 0] c)
 (fun l k=>BK (Ku f a k g R h)
 (ZW a i))
def Kw:=fun d (e:za) (R:Value->za->Prop) f b (c:za)=>
 opt (zb Tryz.prog 47 d 1) fun g=>opt (zd Tryz.prog 45 g c) fun a=>xZ (nb [a] (zn Tryz.prog .len [45] 3 [a] c)) fun h i=>BK (fun j=>LP (Kv h j a e R f)
 [nth b 0,.int .i64 0] i)
 (fun l k=>rv [nth b 1] k R)
def Kx:=fun c d (R:Value->za->Prop) e (a:za)=>
 opt (zb Tryz.prog 47 c 1) fun f=>opt (zd Tryz.prog 45 f (vL a).2) fun b=>xZ (nb [b] (zn Tryz.prog .len [45] 3 [b] (vL a).2)) fun g h=>BK (fun i=>LP (JK g i b d R a)
 [nth e 0,.bool false,.int .i64 0] h)
 (Kw c a R d)
def K5:=fun (h:za) a b (R:Value->za->Prop)=>
 opt (nb [a] (some (Value.cells a).toList)) fun j=>nw h j 25 fun k l=>opt (nb [b] (some (Value.cells b).toList)) fun m=>nw l m 47 fun c d=>opt (zb Tryz.prog 47 c 1) fun n=>opt (zd Tryz.prog 45 n d) fun e=>xZ (nb [e] (zn Tryz.prog .len [45] 3 [e] d)) fun f g=>opt (nb [f,.int .i64 100000] (ze Tryz.prog .gtr 3 (.tmp 13) (.const (.int .i64 100000)) f (.int .i64 100000))) fun o=>CD o (fun i=>rv [.bool false] g R)
 (fun i=>i [.bool false] g)
 (Kx c k R)
theorem lg (h:za) (t0 t1:Value) (R:Value->za->Prop):WT Tryz.prog (v7 Tryz.prog qs) 200 31 [t0,t1] h R=K5 h t0 t1 R:=by kernel_rfl
theorem lh {h:za} {t0 t1:Value} {R:Value->za->Prop} (hw:K5 h t0 t1 R):DC Tryz.prog 31 [t0,t1] h R:=yP mixed (n:=200) (by rw [lg];exact hw)
def ka:=fun b (R:Value->za->Prop) d (c:za)=>
 GD b true (fun e=>zO Tryz.prog (.func (.func 75) #[] #[]) [d] c (fun a f=>e a f)) (fun a g=>opt (pk b a (.bool false)) fun h=>rv [h] g R) c
def kg:=fun e f (R:Value->za->Prop) g (d:za)=>
 opt (pk e (.bool true) g) fun a=>GD a true (fun h=>opt (zb Tryz.prog 50 f 6) fun b=>h b d) (fun b c=>GD a true (fun i=>opt (zd Tryz.prog 2 b c) fun j=>i j c) (ka a R) c) d
def ks:=fun a d (R:Value->za->Prop) b (c:za)=>
 GD a false (fun e=>opt (nb [b,.int .i64 8] (ze Tryz.prog .eql 3 (.tmp 33) (.const (.int .i64 8)) b (.int .i64 8))) fun f=>e f c) (kg a d R) c
def kx:=fun f d (R:Value->za->Prop) g (e:za)=>
 opt (pk f (.bool true) g) fun a=>GD a false (fun h=>opt (zb Tryz.prog 50 d 3) fun b=>h b e) (fun b c=>GD a false (fun i=>opt (zd Tryz.prog 3 b c) fun j=>i j c) (ks a d R) c) e
def kA:=fun a d (R:Value->za->Prop) b (c:za)=>
 GD a false (fun e=>opt (nb [b,.int .i64 4] (ze Tryz.prog .eql 3 (.tmp 28) (.const (.int .i64 4)) b (.int .i64 4))) fun f=>e f c) (kx a d R) c
def Yc:=fun b c (R:Value->za->Prop) d (e:za)=>
 GD b true (fun f=>opt (nb [c,d] (ze Tryz.prog .leq 2 (.tmp 66) (.tmp 71) c d)) fun a=>f a e) (fun a g=>opt (pk b a (.bool false)) fun h=>rv [h] g R) e
def Yd:=fun a e f (R:Value->za->Prop) g (d:za)=>
 GD a true (fun h=>opt (zA Tryz.prog 22 e g) fun b=>h b d) (fun b c=>GD a true (fun i=>opt (zd Tryz.prog 3 b c) fun j=>i j c) (Yc a f R) c) d
def Ye:=fun a e f (R:Value->za->Prop) g (d:za)=>
 GD a true (fun h=>opt (zb Tryz.prog 50 e 3) fun b=>h b d) (fun b c=>GD a true (fun i=>opt (zd Tryz.prog 3 b c) fun j=>i j c) (Yd a g f R) c) d
def Yf:=fun a e f (R:Value->za->Prop) g (b:za)=>
 GD a true (fun h=>opt (zd Tryz.prog 2 g b) fun c=>h c b) (fun c d=>GD a true (fun i=>i e d) (Ye a f c R) d) b
def Zz:=fun b c h (R:Value->za->Prop) d (e:za)=>
 GD b true (fun i=>opt (nb [d,.int .i64 0] (ze Tryz.prog .geq 2 (.tmp 61) (.const (.int .i64 0)) d (.int .i64 0))) fun a=>i a e) (fun a f=>opt (pk b a (.bool false)) fun g=>GD g true (fun j=>opt (zb Tryz.prog 50 c 6) fun k=>j k f) (Yf g h c R) f) e
def ZA:=fun f d g (R:Value->za->Prop) h (e:za)=>
 opt (pk f h (.bool false)) fun a=>GD a true (fun i=>opt (zb Tryz.prog 50 d 6) fun b=>i b e) (fun b c=>GD a true (fun j=>opt (zd Tryz.prog 2 b c) fun k=>j k c) (Zz a d g R) c) e
def ZB:=fun b d g h (R:Value->za->Prop) e (c:za)=>
 GD b true (fun i=>xZ (nb [e] (zn Tryz.prog .len [22] 3 [e] c)) fun a _=>i a c) (fun a f=>GD b true (fun j=>opt (nb [d,a] (ze Tryz.prog .lss 3 (.tmp 54) (.tmp 56) d a)) fun k=>j k f) (ZA b g h R) f) c
def ZC:=fun a d f (R:Value->za->Prop) g (b:za)=>
 GD a true (fun h=>opt (zd Tryz.prog 3 g b) fun c=>h c b) (fun c e=>GD a true (fun i=>i d e) (ZB a c f d R) e) b
def VY:=fun b (R:Value->za->Prop) d (c:za)=>
 GD b true (fun e=>zO Tryz.prog (.func (.func 75) #[] #[]) [d] c (fun a f=>e a f)) (fun a g=>opt (pk b a (.bool false)) fun h=>rv [h] g R) c
def VZ:=fun e (R:Value->za->Prop) a (d:za)=>
 GD a true (fun f=>opt (zb Tryz.prog 50 e 6) fun b=>f b d) (fun b c=>GD a true (fun g=>opt (zd Tryz.prog 2 b c) fun h=>g h c) (VY a R) c) d
def X2:=fun b (R:Value->za->Prop) c (d:za)=>
 GD b false (fun e=>opt (nb [c,.int .i64 2] (ze Tryz.prog .eql 3 (.tmp 96) (.const (.int .i64 2)) c (.int .i64 2))) fun a=>e a d) (fun a f=>opt (pk b (.bool true) a) fun g=>rv [g] f R) d
def X3:=fun b (R:Value->za->Prop) c (d:za)=>
 GD b false (fun e=>opt (nb [c,.int .i64 4] (ze Tryz.prog .eql 3 (.tmp 106) (.const (.int .i64 4)) c (.int .i64 4))) fun a=>e a d) (fun a f=>opt (pk b (.bool true) a) fun g=>rv [g] f R) d
def kd:=fun b (R:Value->za->Prop) c (d:za)=>
 GD b true (fun e=>opt (nb [c,.int .i64 63] (ze Tryz.prog .leq 2 (.tmp 126) (.const (.int .i64 63)) c (.int .i64 63))) fun a=>e a d) (fun a f=>opt (pk b a (.bool false)) fun g=>rv [g] f R) d
def ke:=fun e f (R:Value->za->Prop) g (d:za)=>
 opt (pk e g (.bool false)) fun a=>GD a true (fun h=>opt (zb Tryz.prog 50 f 6) fun b=>h b d) (fun b c=>GD a true (fun i=>opt (zd Tryz.prog 2 b c) fun j=>i j c) (kd a R) c) d
def kh:=fun a d (R:Value->za->Prop) b (c:za)=>
 GD a true (fun e=>opt (nb [b,.int .i64 0] (ze Tryz.prog .geq 2 (.tmp 121) (.const (.int .i64 0)) b (.int .i64 0))) fun f=>e f c) (ke a d R) c
def ki:=fun f d (R:Value->za->Prop) g (e:za)=>
 opt (pk f (.bool true) g) fun a=>GD a true (fun h=>opt (zb Tryz.prog 50 d 6) fun b=>h b e) (fun b c=>GD a true (fun i=>opt (zd Tryz.prog 2 b c) fun j=>i j c) (kh a d R) c) e
def km:=fun a d (R:Value->za->Prop) b (c:za)=>
 GD a false (fun e=>opt (nb [b,.int .i64 20] (ze Tryz.prog .eql 3 (.tmp 116) (.const (.int .i64 20)) b (.int .i64 20))) fun f=>e f c) (ki a d R) c
def X4:=fun b (R:Value->za->Prop) c (d:za)=>
 GD b false (fun e=>opt (nb [c,.int .i64 20] (ze Tryz.prog .eql 3 (.tmp 136) (.const (.int .i64 20)) c (.int .i64 20))) fun a=>e a d) (fun a f=>opt (pk b (.bool true) a) fun g=>rv [g] f R) d
def X5:=fun b (R:Value->za->Prop) c (d:za)=>
 GD b true (fun e=>opt (nb [c,.int .i64 10000000] (ze Tryz.prog .leq 3 (.tmp 152) (.const (.int .i64 10000000)) c (.int .i64 10000000))) fun a=>e a d) (fun a f=>opt (pk b a (.bool false)) fun g=>rv [g] f R) d
def jH:=fun b (R:Value->za->Prop) c (d:za)=>
 GD b true (fun e=>opt (nb [c,.int .i64 65536] (ze Tryz.prog .leq 2 (.tmp 163) (.const (.int .i64 65536)) c (.int .i64 65536))) fun a=>e a d) (fun a f=>opt (pk b a (.bool false)) fun g=>rv [g] f R) d
def jI:=fun e (a:za) (R:Value->za->Prop) (k:List Value->za->Prop)=>
 opt (zb Tryz.prog 50 e 6) fun g=>opt (zd Tryz.prog 2 g a) fun f=>opt (nb [f,.int .i64 0] (ze Tryz.prog .geq 2 (.tmp 159) (.const (.int .i64 0)) f (.int .i64 0))) fun b=>GD b true (fun h=>opt (zb Tryz.prog 50 e 6) fun c=>h c a) (fun c d=>GD b true (fun i=>opt (zd Tryz.prog 2 c d) fun j=>i j d) (jH b R) d) a
def X6:=fun e (a:za) (R:Value->za->Prop) (k:List Value->za->Prop)=>
 opt (zb Tryz.prog 50 e 5) fun g=>opt (zd Tryz.prog 3 g a) fun f=>opt (nb [f,.int .i64 0] (ze Tryz.prog .geq 3 (.tmp 148) (.const (.int .i64 0)) f (.int .i64 0))) fun b=>GD b true (fun h=>opt (zb Tryz.prog 50 e 5) fun c=>h c a) (fun c d=>GD b true (fun i=>opt (zd Tryz.prog 3 c d) fun j=>i j d) (X5 b R) d) a
def ko:=fun a (c:za) f (R:Value->za->Prop) g (h:List Value->za->Prop)=>
 opt (nb [a,.int .i64 23] (ze Tryz.prog .eql 3 (.tmp 19) (.const (.int .i64 23)) a (.int .i64 23))) fun d=>CD d (fun b=>b [d] c)
 (fun b=>opt (nb [a,.int .i64 24] (ze Tryz.prog .eql 3 (.tmp 19) (.const (.int .i64 24)) a (.int .i64 24))) fun i=>b [i] c)
 (fun j e=>CD (nth j 0) (jI f e R)
 (fun k=>k [nth g 0] e)
 (fun l m=>h [nth l 0] m))
def V0:=fun b (a:za) (R:Value->za->Prop) (g:List Value->za->Prop)=>
 opt (zb Tryz.prog 50 b 4) fun c=>opt (zd Tryz.prog 3 c a) fun d=>zO Tryz.prog (.func (.func 77) #[] #[]) [d] a (fun e f=>rv [e] f R)
def uG:=fun a b (c:za) (R:Value->za->Prop) d (e:List Value->za->Prop)=>
 opt (nb [a,.int .i64 20] (ze Tryz.prog .eql 3 (.tmp 19) (.const (.int .i64 20)) a (.int .i64 20))) fun f=>CD f (X6 b c R)
 (ko a c b R d)
 (fun g h=>e [nth g 0] h)
def X7:=fun e (a:za) (R:Value->za->Prop) (k:List Value->za->Prop)=>
 opt (zb Tryz.prog 50 e 3) fun g=>opt (zd Tryz.prog 3 g a) fun f=>opt (nb [f,.int .i64 19] (ze Tryz.prog .eql 3 (.tmp 132) (.const (.int .i64 19)) f (.int .i64 19))) fun b=>GD b false (fun h=>opt (zb Tryz.prog 50 e 3) fun c=>h c a) (fun c d=>GD b false (fun i=>opt (zd Tryz.prog 3 c d) fun j=>i j d) (X4 b R) d) a
def vI:=fun a (c:za) d (R:Value->za->Prop) g (h:List Value->za->Prop)=>
 opt (nb [a,.int .i64 17] (ze Tryz.prog .eql 3 (.tmp 19) (.const (.int .i64 17)) a (.int .i64 17))) fun e=>CD e (fun b=>b [e] c)
 (fun b=>opt (nb [a,.int .i64 19] (ze Tryz.prog .eql 3 (.tmp 19) (.const (.int .i64 19)) a (.int .i64 19))) fun i=>b [i] c)
 (fun j f=>CD (nth j 0) (V0 d f R)
 (uG a d f R g)
 (fun k l=>h [nth k 0] l))
def ku:=fun a (b:za) (R:Value->za->Prop) (k:List Value->za->Prop)=>
 opt (zb Tryz.prog 50 a 3) fun g=>opt (zd Tryz.prog 3 g b) fun f=>opt (nb [f,.int .i64 19] (ze Tryz.prog .eql 3 (.tmp 112) (.const (.int .i64 19)) f (.int .i64 19))) fun c=>GD c false (fun h=>opt (zb Tryz.prog 50 a 3) fun d=>h d b) (fun d e=>GD c false (fun i=>opt (zd Tryz.prog 3 d e) fun j=>i j e) (km c a R) e) b
def w4:=fun a b (c:za) (R:Value->za->Prop) d (e:List Value->za->Prop)=>
 opt (nb [a,.int .i64 12] (ze Tryz.prog .eql 3 (.tmp 19) (.const (.int .i64 12)) a (.int .i64 12))) fun f=>CD f (X7 b c R)
 (vI a c b R d)
 (fun g h=>e [nth g 0] h)
def X8:=fun e (a:za) (R:Value->za->Prop) (k:List Value->za->Prop)=>
 opt (zb Tryz.prog 50 e 3) fun g=>opt (zd Tryz.prog 3 g a) fun f=>opt (nb [f,.int .i64 3] (ze Tryz.prog .eql 3 (.tmp 102) (.const (.int .i64 3)) f (.int .i64 3))) fun b=>GD b false (fun h=>opt (zb Tryz.prog 50 e 3) fun c=>h c a) (fun c d=>GD b false (fun i=>opt (zd Tryz.prog 3 c d) fun j=>i j d) (X3 b R) d) a
def yI:=fun a b (c:za) (R:Value->za->Prop) d (e:List Value->za->Prop)=>
 opt (nb [a,.int .i64 11] (ze Tryz.prog .eql 3 (.tmp 19) (.const (.int .i64 11)) a (.int .i64 11))) fun f=>CD f (ku b c R)
 (w4 a b c R d)
 (fun g h=>e [nth g 0] h)
def X9:=fun e (a:za) (R:Value->za->Prop) (k:List Value->za->Prop)=>
 opt (zb Tryz.prog 50 e 3) fun g=>opt (zd Tryz.prog 3 g a) fun f=>opt (nb [f,.int .i64 1] (ze Tryz.prog .eql 3 (.tmp 92) (.const (.int .i64 1)) f (.int .i64 1))) fun b=>GD b false (fun h=>opt (zb Tryz.prog 50 e 3) fun c=>h c a) (fun c d=>GD b false (fun i=>opt (zd Tryz.prog 3 c d) fun j=>i j d) (X2 b R) d) a
def yi:=fun a b (c:za) (R:Value->za->Prop) d (e:List Value->za->Prop)=>
 opt (nb [a,.int .i64 10] (ze Tryz.prog .eql 3 (.tmp 19) (.const (.int .i64 10)) a (.int .i64 10))) fun f=>CD f (X8 b c R)
 (yI a b c R d)
 (fun g h=>e [nth g 0] h)
def yb:=fun a b (c:za) (R:Value->za->Prop) d (e:List Value->za->Prop)=>
 opt (nb [a,.int .i64 9] (ze Tryz.prog .eql 3 (.tmp 19) (.const (.int .i64 9)) a (.int .i64 9))) fun f=>CD f (X9 b c R)
 (yi a b c R d)
 (fun g h=>e [nth g 0] h)
def Jz:=fun b (a:za) (R:Value->za->Prop) (g:List Value->za->Prop)=>
 opt (zb Tryz.prog 50 b 3) fun c=>opt (zd Tryz.prog 3 c a) fun d=>zO Tryz.prog (.func (.func 76) #[] #[]) [d] a (fun e f=>rv [e] f R)
def z8:=fun a b (c:za) (R:Value->za->Prop) d (e:List Value->za->Prop)=>
 opt (nb [a,.int .i64 8] (ze Tryz.prog .eql 3 (.tmp 19) (.const (.int .i64 8)) a (.int .i64 8))) fun f=>CD f (fun k=>opt (zb Tryz.prog 50 b 3) fun g=>opt (zd Tryz.prog 3 g c) fun h=>zO Tryz.prog (.func (.func 76) #[] #[]) [h] c (VZ b R))
 (yb a b c R d)
 (fun i j=>e [nth i 0] j)
def ZD:=fun a (b:za) e (R:Value->za->Prop) (i:List Value->za->Prop)=>
 opt (zb Tryz.prog 50 a 3) fun f=>opt (zd Tryz.prog 3 f b) fun c=>opt (nb [c,.int .i64 0] (ze Tryz.prog .geq 3 (.tmp 50) (.const (.int .i64 0)) c (.int .i64 0))) fun d=>GD d true (fun g=>opt (zb Tryz.prog 50 a 3) fun h=>g h b) (ZC d e a R) b
def zX:=fun a b (c:za) (R:Value->za->Prop) d (e:List Value->za->Prop)=>
 opt (nb [a,.int .i64 7] (ze Tryz.prog .eql 3 (.tmp 19) (.const (.int .i64 7)) a (.int .i64 7))) fun f=>CD f (Jz b c R)
 (z8 a b c R d)
 (fun g h=>e [nth g 0] h)
def V1:=fun b (a:za) (R:Value->za->Prop) (g:List Value->za->Prop)=>
 opt (zb Tryz.prog 50 b 6) fun c=>opt (zd Tryz.prog 2 c a) fun d=>zO Tryz.prog (.func (.func 75) #[] #[]) [d] a (fun e f=>rv [e] f R)
def zN:=fun a b (c:za) d (R:Value->za->Prop) e (f:List Value->za->Prop)=>
 opt (nb [a,.int .i64 6] (ze Tryz.prog .eql 3 (.tmp 19) (.const (.int .i64 6)) a (.int .i64 6))) fun g=>CD g (ZD b c d R)
 (zX a b c R e)
 (fun h i=>f [nth h 0] i)
def qy:=fun a (b:za) (R:Value->za->Prop) (k:List Value->za->Prop)=>
 opt (zb Tryz.prog 50 a 3) fun g=>opt (zd Tryz.prog 3 g b) fun f=>opt (nb [f,.int .i64 1] (ze Tryz.prog .eql 3 (.tmp 24) (.const (.int .i64 1)) f (.int .i64 1))) fun c=>GD c false (fun h=>opt (zb Tryz.prog 50 a 3) fun d=>h d b) (fun d e=>GD c false (fun i=>opt (zd Tryz.prog 3 d e) fun j=>i j e) (kA c a R) e) b
def zM:=fun a (c:za) d (R:Value->za->Prop) g h (i:List Value->za->Prop)=>
 opt (nb [a,.int .i64 5] (ze Tryz.prog .eql 3 (.tmp 19) (.const (.int .i64 5)) a (.int .i64 5))) fun e=>CD e (fun b=>b [e] c)
 (fun b=>opt (nb [a,.int .i64 16] (ze Tryz.prog .eql 3 (.tmp 19) (.const (.int .i64 16)) a (.int .i64 16))) fun j=>b [j] c)
 (fun k f=>CD (nth k 0) (V1 d f R)
 (zN a d f g R h)
 (fun l m=>i [nth l 0] m))
def zC:=fun a (c:za) d (R:Value->za->Prop) g h (i:List Value->za->Prop)=>
 opt (nb [a,.int .i64 3] (ze Tryz.prog .eql 3 (.tmp 19) (.const (.int .i64 3)) a (.int .i64 3))) fun e=>CD e (fun b=>b [e] c)
 (fun b=>opt (nb [a,.int .i64 4] (ze Tryz.prog .eql 3 (.tmp 19) (.const (.int .i64 4)) a (.int .i64 4))) fun j=>b [j] c)
 (fun k f=>CD (nth k 0) (qy d f R)
 (zM a f d R g h)
 (fun l m=>i [nth l 0] m))
def zo:=fun a (R:Value->za->Prop) c d (b:za)=>
 opt (zb Tryz.prog 50 a 0) fun e=>opt (zd Tryz.prog 3 e b) fun f=>BK (zC f b a R c d)
 (fun h g=>rv [.bool true] g R)
def YD:=fun b (R:Value->za->Prop) f g h (c:za)=>
 GD b false (fun i=>opt (JR Tryz.prog .not h) fun a=>i a c) (fun a d=>opt (pk b (.bool true) a) fun j=>CD j (fun e=>rv [.bool false] d R)
 (fun e=>e [.bool false] d)
 (zo f R g)) c
def Wa:=fun f d (R:Value->za->Prop) g h (a:za)=>
 opt (pk f (.bool true) h) fun b=>GD b false (fun i=>opt (zd Tryz.prog 50 d a) fun c=>i c a) (fun c e=>GD b false (fun j=>zO Tryz.prog (.func (.func 74) #[] #[]) [c] e (fun k l=>j k l)) (YD b R d g) e) a
def Wb:=fun a d (R:Value->za->Prop) e b (c:za)=>
 GD a false (fun f=>opt (nb [b,.int .i64 26] (ze Tryz.prog .gtr 3 (.tmp 10) (.const (.int .i64 26)) b (.int .i64 26))) fun g=>f g c) (Wa a d R e) c
def aW:=fun (h:za) f i (R:Value->za->Prop)=>
 opt (nb [f] (some (Value.cells f).toList)) fun j=>nw h j 50 fun a b=>opt (zb Tryz.prog 50 a 0) fun k=>opt (zd Tryz.prog 3 k b) fun g=>opt (nb [g,.int .i64 1] (ze Tryz.prog .lss 3 (.tmp 6) (.const (.int .i64 1)) g (.int .i64 1))) fun c=>GD c false (fun l=>opt (zb Tryz.prog 50 a 0) fun d=>l d b) (fun d e=>GD c false (fun m=>opt (zd Tryz.prog 3 d e) fun n=>m n e) (Wb c a R i) e) b
theorem n9 (h:za) (t0 t1:Value) (R:Value->za->Prop):WT Tryz.prog (v7 Tryz.prog qs) 200 56 [t0,t1] h R=aW h t0 t1 R:=by kernel_rfl
theorem oa {h:za} {t0 t1:Value} {R:Value->za->Prop} (hw:aW h t0 t1 R):DC Tryz.prog 56 [t0,t1] h R:=yP mixed (n:=200) (by rw [n9];exact hw)
def xc:=fun f b (R:Value->za->Prop) c (d:za)=>
 GD c false (fun g=>g f d) (fun h e=>GD b true (fun i=>opt (pk c (.bool true) h) fun a=>i a e) (fun a j=>opt (pk b a (.bool false)) fun k=>rv [k] j R) e) d
def xe:=fun a f (R:Value->za->Prop) c (d:za)=>
 GD a true (fun g=>opt (nb [c,.int .i64 4] (ze Tryz.prog .neq 3 (.tmp 62) (.const (.int .i64 4)) c (.int .i64 4))) fun b=>g b d) (fun b e=>GD a true (fun h=>h b e) (xc f a R) e) d
def xf:=fun e f g (R:Value->za->Prop) h (d:za)=>
 opt (pk e h (.bool false)) fun a=>GD a true (fun i=>opt (zb Tryz.prog 50 f 2) fun b=>i b d) (fun b c=>GD a true (fun j=>opt (zd Tryz.prog 3 b c) fun k=>j k c) (xe a g R) c) d
def xg:=fun a d e (R:Value->za->Prop) b (c:za)=>
 GD a true (fun f=>opt (nb [b,.int .i64 16] (ze Tryz.prog .lss 3 (.tmp 57) (.const (.int .i64 16)) b (.int .i64 16))) fun g=>f g c) (xf a d e R) c
def xh:=fun g a (R:Value->za->Prop) h (b:za)=>
 opt (pk g (.bool true) h) fun i=>opt (zb Tryz.prog 50 a 2) fun j=>opt (zd Tryz.prog 3 j b) fun f=>opt (nb [f,.int .i64 0] (ze Tryz.prog .geq 3 (.tmp 53) (.const (.int .i64 0)) f (.int .i64 0))) fun c=>GD c true (fun k=>opt (zb Tryz.prog 50 a 2) fun d=>k d b) (fun d e=>GD c true (fun l=>opt (zd Tryz.prog 3 d e) fun m=>l m e) (xg c a i R) e) b
def xi:=fun a d (R:Value->za->Prop) b (c:za)=>
 GD a false (fun e=>opt (nb [b,.int .i64 1] (ze Tryz.prog .eql 3 (.tmp 49) (.const (.int .i64 1)) b (.int .i64 1))) fun f=>e f c) (xh a d R) c
def xj:=fun f d (R:Value->za->Prop) g (e:za)=>
 opt (pk f (.bool true) g) fun a=>GD a false (fun h=>opt (zb Tryz.prog 50 d 0) fun b=>h b e) (fun b c=>GD a false (fun i=>opt (zd Tryz.prog 3 b c) fun j=>i j c) (xi a d R) c) e
def xk:=fun a d (R:Value->za->Prop) b (c:za)=>
 GD a false (fun e=>opt (nb [b,.int .i64 5] (ze Tryz.prog .eql 3 (.tmp 44) (.const (.int .i64 5)) b (.int .i64 5))) fun f=>e f c) (xj a d R) c
def xl:=fun f d (R:Value->za->Prop) g (e:za)=>
 opt (pk f (.bool true) g) fun a=>GD a false (fun h=>opt (zb Tryz.prog 50 d 0) fun b=>h b e) (fun b c=>GD a false (fun i=>opt (zd Tryz.prog 3 b c) fun j=>i j c) (xk a d R) c) e
def yG:=fun a d (R:Value->za->Prop) b (c:za)=>
 GD a false (fun e=>opt (nb [b,.int .i64 4] (ze Tryz.prog .eql 3 (.tmp 39) (.const (.int .i64 4)) b (.int .i64 4))) fun f=>e f c) (xl a d R) c
def yk:=fun a (R:Value->za->Prop) (k:List Value) (b:za)=>
 opt (zb Tryz.prog 50 a 0) fun g=>opt (zd Tryz.prog 3 g b) fun f=>opt (nb [f,.int .i64 3] (ze Tryz.prog .eql 3 (.tmp 35) (.const (.int .i64 3)) f (.int .i64 3))) fun c=>GD c false (fun h=>opt (zb Tryz.prog 50 a 0) fun d=>h d b) (fun d e=>GD c false (fun i=>opt (zd Tryz.prog 3 d e) fun j=>i j e) (yG c a R) e) b
def u6:=fun e (R:Value->za->Prop) f g h (a:za)=>
 opt (pk e h (.bool false)) fun i=>CD i (fun b=>rv [.bool false] a R)
 (fun b=>b [.bool false] a)
 (fun j c=>opt (JR Tryz.prog .not f) fun k=>CD k (fun d=>rv [.bool true] c R)
 (fun d=>d [nth j 0] c)
 (yk g R))
def kQ:=fun b f c (R:Value->za->Prop) g h i (d:za)=>
 GD b false (fun j=>opt (pk f i (.bool false)) fun a=>j a d) (fun a e=>GD c true (fun k=>opt (pk b (.bool true) a) fun l=>k l e) (u6 c R g h) e) d
def kR:=fun a d e (R:Value->za->Prop) f g b (c:za)=>
 GD a true (fun h=>opt (nb [b,.int .i64 4] (ze Tryz.prog .eql 3 (.tmp 27) (.const (.int .i64 4)) b (.int .i64 4))) fun i=>h i c) (kQ d a e R f g) c
def kS:=fun d f g (R:Value->za->Prop) h a (e:za)=>
 GD a true (fun i=>opt (zb Tryz.prog 50 d 1) fun b=>i b e) (fun b c=>GD a true (fun j=>opt (zd Tryz.prog 3 b c) fun k=>j k c) (kR a f g R h d) c) e
def kU:=fun b f g (R:Value->za->Prop) h i (c:za)=>
 GD b true (fun j=>j i c) (fun a d=>GD a false (fun k=>k f d) (fun l e=>GD a false (fun m=>m l e) (kS g a b R h) e) d) c
def kV:=fun b c g h (R:Value->za->Prop) i d (e:za)=>
 GD b false (fun j=>opt (nb [d,.int .i64 16] (ze Tryz.prog .geq 3 (.tmp 20) (.const (.int .i64 16)) d (.int .i64 16))) fun a=>j a e) (fun a f=>GD c true (fun k=>opt (pk b (.bool true) a) fun l=>k l f) (kU c g h R i) f) e
def kW:=fun d f g (R:Value->za->Prop) h a (e:za)=>
 GD a false (fun i=>opt (zb Tryz.prog 50 d 1) fun b=>i b e) (fun b c=>GD a false (fun j=>opt (zd Tryz.prog 3 b c) fun k=>j k c) (kV a f g d R h) c) e
def kX:=fun a f g (R:Value->za->Prop) h c (d:za)=>
 GD a true (fun i=>opt (nb [c,.int .i64 0] (ze Tryz.prog .lss 3 (.tmp 16) (.const (.int .i64 0)) c (.int .i64 0))) fun b=>i b d) (fun b e=>GD a true (fun j=>j b e) (kW f a g R h) e) d
def kY:=fun e (R:Value->za->Prop) a (f:za)=>
 opt (YW a 0) fun b=>opt (YW a 1) fun g=>opt (YW a 2) fun h=>GD b true (fun i=>opt (zb Tryz.prog 50 e 1) fun c=>i c f) (fun c d=>GD b true (fun j=>opt (zd Tryz.prog 3 c d) fun k=>j k d) (kX b e h R g) d) f
def K6:=fun (h:za) a (R:Value->za->Prop)=>
 opt (nb [a] (some (Value.cells a).toList)) fun d=>nw h d 50 fun b c=>opt (zd Tryz.prog 50 b c) fun e=>zO Tryz.prog (.func (.func 99) #[] #[]) [e] c (kY b R)
theorem lj (h:za) (t0:Value) (R:Value->za->Prop):WT Tryz.prog (v7 Tryz.prog qs) 200 74 [t0] h R=K6 h t0 R:=by kernel_rfl
theorem ll {h:za} {t0:Value} {R:Value->za->Prop} (hw:K6 h t0 R):DC Tryz.prog 74 [t0] h R:=yP mixed (n:=200) (by rw [lj];exact hw)
def uX:=fun a (c:za) (e:List Value->za->Prop)=>
 opt (nb [a,.int .i64 7] (ze Tryz.prog .eql 3 (.tmp 6) (.const (.int .i64 7)) a (.int .i64 7))) fun d=>CD d (fun b=>b [d] c)
 (fun b=>opt (nb [a,.int .i64 10] (ze Tryz.prog .eql 3 (.tmp 6) (.const (.int .i64 10)) a (.int .i64 10))) fun f=>b [f] c)
 (fun g h=>e [nth g 0] h)
def uO:=fun a (b:za) (d:List Value->za->Prop)=>
 opt (nb [a,.int .i64 5] (ze Tryz.prog .eql 3 (.tmp 6) (.const (.int .i64 5)) a (.int .i64 5))) fun c=>CD c (fun e=>e [c] b)
 (uX a b)
 (fun f g=>d [nth f 0] g)
def ur:=fun a (b:za) (d:List Value->za->Prop)=>
 opt (nb [a,.int .i64 3] (ze Tryz.prog .eql 3 (.tmp 6) (.const (.int .i64 3)) a (.int .i64 3))) fun c=>CD c (fun e=>e [c] b)
 (uO a b)
 (fun f g=>d [nth f 0] g)
def Yt:=fun a (c:za) (e:List Value->za->Prop)=>
 opt (nb [a,.int .i64 12] (ze Tryz.prog .eql 3 (.tmp 6) (.const (.int .i64 12)) a (.int .i64 12))) fun d=>CD d (fun b=>b [d] c)
 (fun b=>opt (nb [a,.int .i64 17] (ze Tryz.prog .eql 3 (.tmp 6) (.const (.int .i64 17)) a (.int .i64 17))) fun f=>b [f] c)
 (fun g h=>e [nth g 0] h)
def ZF:=fun a (b:za) (d:List Value->za->Prop)=>
 opt (nb [a,.int .i64 11] (ze Tryz.prog .eql 3 (.tmp 6) (.const (.int .i64 11)) a (.int .i64 11))) fun c=>CD c (fun e=>e [c] b)
 (Yt a b)
 (fun f g=>d [nth f 0] g)
def j2:=fun a (b:za) (d:List Value->za->Prop)=>
 opt (nb [a,.int .i64 9] (ze Tryz.prog .eql 3 (.tmp 6) (.const (.int .i64 9)) a (.int .i64 9))) fun c=>CD c (fun e=>e [c] b)
 (ZF a b)
 (fun f g=>d [nth f 0] g)
def jg:=fun a (b:za) (d:List Value->za->Prop)=>
 opt (nb [a,.int .i64 8] (ze Tryz.prog .eql 3 (.tmp 6) (.const (.int .i64 8)) a (.int .i64 8))) fun c=>CD c (fun e=>e [c] b)
 (j2 a b)
 (fun f g=>d [nth f 0] g)
def qZ:=fun a (b:za) (d:List Value->za->Prop)=>
 opt (nb [a,.int .i64 6] (ze Tryz.prog .eql 3 (.tmp 6) (.const (.int .i64 6)) a (.int .i64 6))) fun c=>CD c (fun e=>e [c] b)
 (jg a b)
 (fun f g=>d [nth f 0] g)
def bO:=fun b (c:za) (R:Value->za->Prop) (e:List Value->za->Prop)=>
 opt (nb [b,.int .i64 14] (ze Tryz.prog .eql 3 (.tmp 6) (.const (.int .i64 14)) b (.int .i64 14))) fun f=>CD f (fun d=>rv [.bool false,.bool true,.bool false] c R)
 (fun d=>d [.bool false,.bool false,.bool false] c)
 (fun a g=>e [nth a 0,nth a 1,nth a 2] g)
def Ub:=fun a (c:za) (R:Value->za->Prop) (d:List Value->za->Prop)=>
 opt (nb [a,.int .i64 16] (ze Tryz.prog .eql 3 (.tmp 6) (.const (.int .i64 16)) a (.int .i64 16))) fun e=>CD e (fun g=>rv [.bool true,.bool false,.bool false] c R)
 (bO a c R)
 (fun b f=>d [nth b 0,nth b 1,nth b 2] f)
def Y5:=fun (R:Value->za->Prop) c (d:List Value->za->Prop) e (b:za)=>
 CD (nth e 0) (fun g=>rv [.bool true,.bool true,.bool false] b R)
 (Ub c b R)
 (fun a f=>d [nth a 0,nth a 1,nth a 2] f)
def Y6:=fun a (c:za) (R:Value->za->Prop) (e:List Value->za->Prop)=>
 opt (nb [a,.int .i64 4] (ze Tryz.prog .eql 3 (.tmp 6) (.const (.int .i64 4)) a (.int .i64 4))) fun d=>CD d (fun b=>b [d] c)
 (fun b=>opt (nb [a,.int .i64 15] (ze Tryz.prog .eql 3 (.tmp 6) (.const (.int .i64 15)) a (.int .i64 15))) fun f=>b [f] c)
 (Y5 R a e)
def uY:=fun (R:Value->za->Prop) c (d:List Value->za->Prop) e (b:za)=>
 CD (nth e 0) (fun g=>rv [.bool true,.bool false,.bool true] b R)
 (Y6 c b R)
 (fun a f=>d [nth a 0,nth a 1,nth a 2] f)
def uZ:=fun a (b:za) (R:Value->za->Prop) (d:List Value->za->Prop)=>
 opt (nb [a,.int .i64 2] (ze Tryz.prog .eql 3 (.tmp 6) (.const (.int .i64 2)) a (.int .i64 2))) fun c=>CD c (fun e=>e [c] b)
 (qZ a b)
 (uY R a d)
def vn:=fun (R:Value->za->Prop) c (d:List Value->za->Prop) e (b:za)=>
 CD (nth e 0) (fun g=>rv [.bool true,.bool true,.bool true] b R)
 (uZ c b R)
 (fun a f=>d [nth a 0,nth a 1,nth a 2] f)
def vo:=fun a (b:za) (R:Value->za->Prop) (d:List Value->za->Prop)=>
 opt (nb [a,.int .i64 1] (ze Tryz.prog .eql 3 (.tmp 6) (.const (.int .i64 1)) a (.int .i64 1))) fun c=>CD c (fun e=>e [c] b)
 (ur a b)
 (vn R a d)
def ow:=fun (h:za) a (R:Value->za->Prop)=>
 opt (nb [a] (some (Value.cells a).toList)) fun c=>nw h c 50 fun d b=>opt (zb Tryz.prog 50 d 0) fun e=>opt (zd Tryz.prog 3 e b) fun f=>BK (vo f b R)
 (fun i g=>rv [.bool false,.bool false,.bool false] g R)
theorem Bd (h:za) (t0:Value) (R:Value->za->Prop):WT Tryz.prog (v7 Tryz.prog qs) 200 99 [t0] h R=ow h t0 R:=by kernel_rfl
theorem Be {h:za} {t0:Value} {R:Value->za->Prop} (hw:ow h t0 R):DC Tryz.prog 99 [t0] h R:=yP mixed (n:=200) (by rw [Bd];exact hw)
def AZ:=fun (h:za) a (R:Value->za->Prop)=>
 xZ (nb [a] (u5 Tryz.prog 2 21 a h)) fun b d=>xZ (nb [b] (u5 Tryz.prog 21 2 b d)) fun c e=>opt (nb [a,c] (ze Tryz.prog .eql 2 (.tmp 3) (.tmp 6) a c)) fun f=>rv [f] e R
theorem DX (h:za) (t0:Value) (R:Value->za->Prop):WT Tryz.prog (v7 Tryz.prog qs) 200 75 [t0] h R=AZ h t0 R:=by kernel_rfl
theorem DY {h:za} {t0:Value} {R:Value->za->Prop} (hw:AZ h t0 R):DC Tryz.prog 75 [t0] h R:=yP mixed (n:=200) (by rw [DX];exact hw)
def ey:=fun a (h:za) (d:List Value->za->Prop)=>
 opt (nb [a,.int .i64 17] (ze Tryz.prog .eql 3 (.tmp 3) (.const (.int .i64 17)) a (.int .i64 17))) fun c=>CD c (fun b=>b [c] h)
 (fun b=>opt (nb [a,.int .i64 18] (ze Tryz.prog .eql 3 (.tmp 3) (.const (.int .i64 18)) a (.int .i64 18))) fun e=>b [e] h)
 (fun f g=>d [nth f 0] g)
def JD:=fun a (h:za) (c:List Value->za->Prop)=>
 opt (nb [a,.int .i64 16] (ze Tryz.prog .eql 3 (.tmp 3) (.const (.int .i64 16)) a (.int .i64 16))) fun b=>CD b (fun d=>d [b] h)
 (ey a h)
 (fun e f=>c [nth e 0] f)
def QJ:=fun a (h:za) (c:List Value->za->Prop)=>
 opt (nb [a,.int .i64 13] (ze Tryz.prog .eql 3 (.tmp 3) (.const (.int .i64 13)) a (.int .i64 13))) fun b=>CD b (fun d=>d [b] h)
 (JD a h)
 (fun e f=>c [nth e 0] f)
def V3:=fun a (h:za) (c:List Value->za->Prop)=>
 opt (nb [a,.int .i64 12] (ze Tryz.prog .eql 3 (.tmp 3) (.const (.int .i64 12)) a (.int .i64 12))) fun b=>CD b (fun d=>d [b] h)
 (QJ a h)
 (fun e f=>c [nth e 0] f)
def WW:=fun a (h:za) (R:Value->za->Prop) (e:List Value->za->Prop)=>
 opt (nb [a,.int .i64 11] (ze Tryz.prog .eql 3 (.tmp 3) (.const (.int .i64 11)) a (.int .i64 11))) fun b=>CD b (fun f=>f [b] h)
 (V3 a h)
 (fun g c=>CD (nth g 0) (fun d=>rv [.bool true] c R)
 (fun d=>d [.bool false] c)
 (fun i j=>e [nth i 0] j))
def FR:=fun (h:za) a (R:Value->za->Prop)=>
 BK (WW a h R)
 (fun c b=>rv [.bool false] b R)
theorem FT (h:za) (t0:Value) (R:Value->za->Prop):WT Tryz.prog (v7 Tryz.prog qs) 200 76 [t0] h R=FR h t0 R:=by kernel_rfl
theorem FU {h:za} {t0:Value} {R:Value->za->Prop} (hw:FR h t0 R):DC Tryz.prog 76 [t0] h R:=yP mixed (n:=200) (by rw [FT];exact hw)
def KT:=fun (h:za) b (R:Value->za->Prop)=>
 zO Tryz.prog (.func (.func 100) #[] #[]) [b] h (fun a c=>opt (YW a 0) fun e=>opt (YW a 1) fun d=>rv [d] c R)
theorem lb (h:za) (t0:Value) (R:Value->za->Prop):WT Tryz.prog (v7 Tryz.prog qs) 200 77 [t0] h R=KT h t0 R:=by kernel_rfl
theorem ld {h:za} {t0:Value} {R:Value->za->Prop} (hw:KT h t0 R):DC Tryz.prog 77 [t0] h R:=yP mixed (n:=200) (by rw [lb];exact hw)
def fe:=fun a (h:za) (R:Value->za->Prop) (d:List Value->za->Prop)=>
 opt (nb [a,.int .i64 25] (ze Tryz.prog .eql 3 (.tmp 4) (.const (.int .i64 25)) a (.int .i64 25))) fun e=>CD e (fun b=>rv [.int .i64 24,.bool true] h R)
 (fun b=>b [.int .i64 0,.bool false] h)
 (fun c f=>d [nth c 0,nth c 1] f)
def Jy:=fun a (h:za) (R:Value->za->Prop) (c:List Value->za->Prop)=>
 opt (nb [a,.int .i64 24] (ze Tryz.prog .eql 3 (.tmp 4) (.const (.int .i64 24)) a (.int .i64 24))) fun d=>CD d (fun f=>rv [.int .i64 25,.bool true] h R)
 (fe a h R)
 (fun b e=>c [nth b 0,nth b 1] e)
def U2:=fun a (h:za) (R:Value->za->Prop) (c:List Value->za->Prop)=>
 opt (nb [a,.int .i64 26] (ze Tryz.prog .eql 3 (.tmp 4) (.const (.int .i64 26)) a (.int .i64 26))) fun d=>CD d (fun f=>rv [.int .i64 23,.bool true] h R)
 (Jy a h R)
 (fun b e=>c [nth b 0,nth b 1] e)
def Vx:=fun a (h:za) (R:Value->za->Prop) (c:List Value->za->Prop)=>
 opt (nb [a,.int .i64 23] (ze Tryz.prog .eql 3 (.tmp 4) (.const (.int .i64 23)) a (.int .i64 23))) fun d=>CD d (fun f=>rv [.int .i64 26,.bool true] h R)
 (U2 a h R)
 (fun b e=>c [nth b 0,nth b 1] e)
def Wp:=fun a (h:za) (R:Value->za->Prop) (c:List Value->za->Prop)=>
 opt (nb [a,.int .i64 22] (ze Tryz.prog .eql 3 (.tmp 4) (.const (.int .i64 22)) a (.int .i64 22))) fun d=>CD d (fun f=>rv [.int .i64 21,.bool true] h R)
 (Vx a h R)
 (fun b e=>c [nth b 0,nth b 1] e)
def Xt:=fun a (h:za) (R:Value->za->Prop) (c:List Value->za->Prop)=>
 opt (nb [a,.int .i64 21] (ze Tryz.prog .eql 3 (.tmp 4) (.const (.int .i64 21)) a (.int .i64 21))) fun d=>CD d (fun f=>rv [.int .i64 22,.bool true] h R)
 (Wp a h R)
 (fun b e=>c [nth b 0,nth b 1] e)
def AE:=fun (h:za) a (R:Value->za->Prop)=>
 BK (Xt a h R)
 (fun c b=>rv [.int .i64 0,.bool false] b R)
theorem DK (h:za) (t0:Value) (R:Value->za->Prop):WT Tryz.prog (v7 Tryz.prog qs) 200 100 [t0] h R=AE h t0 R:=by kernel_rfl
theorem DL {h:za} {t0:Value} {R:Value->za->Prop} (hw:AE h t0 R):DC Tryz.prog 100 [t0] h R:=yP mixed (n:=200) (by rw [DK];exact hw)
def oe:=fun b (R:Value->za->Prop) a (h:za)=>
 opt (YW a 0) fun c=>opt (YW a 1) fun m=>opt (YW a 2) fun i=>opt (wY Tryz.prog 33) fun j=>nw h (Value.cells j).toList 33 fun d k=>opt (nb [c] (zl Tryz.prog 33 d c k)) fun e=>opt (zd Tryz.prog 33 d e) fun f=>opt (nb [f] (zl Tryz.prog 33 b f e)) fun g=>opt (zd Tryz.prog 33 b g) fun l=>rv [l,i] g R
def FI:=fun (h:za) a c d e f (R:Value->za->Prop)=>
 opt (nb [a] (some (Value.cells a).toList)) fun g=>nw h g 25 fun i j=>opt (wY Tryz.prog 33) fun k=>nw j (Value.cells k).toList 33 fun l b=>opt (zd Tryz.prog 25 i b) fun m=>zO Tryz.prog (.func (.func 21) #[] #[]) [m,c,d,e,f,.bool true] b (oe l R)
theorem FJ (h:za) (t0 t1 t2 t3 t4:Value) (R:Value->za->Prop):WT Tryz.prog (v7 Tryz.prog qs) 200 9 [t0,t1,t2,t3,t4] h R=FI h t0 t1 t2 t3 t4 R:=by kernel_rfl
theorem FK {h:za} {t0 t1 t2 t3 t4:Value} {R:Value->za->Prop} (hw:FI h t0 t1 t2 t3 t4 R):DC Tryz.prog 9 [t0,t1,t2,t3,t4] h R:=yP mixed (n:=200) (by rw [FJ];exact hw)
def fj:=fun (R:Value->za->Prop) a (c:za)=>
 opt (YW a 0) fun b=>opt (YW a 1) fun d=>opt (YW a 2) fun e=>opt (wY Tryz.prog 33) fun f=>nw c (Value.cells f).toList 33 fun g h=>opt (nb [b] (zl Tryz.prog 33 g b h)) fun i=>rv [d,e] i R
def AJ:=fun (h:za) a c d e (R:Value->za->Prop)=>
 opt (nb [a] (some (Value.cells a).toList)) fun f=>nw h f 25 fun g b=>opt (zd Tryz.prog 25 g b) fun i=>zO Tryz.prog (.func (.func 21) #[] #[]) [i,c,d,e,.int .i64 2147483647,.bool true] b (fj R)
theorem DP (h:za) (t0 t1 t2 t3:Value) (R:Value->za->Prop):WT Tryz.prog (v7 Tryz.prog qs) 200 11 [t0,t1,t2,t3] h R=AJ h t0 t1 t2 t3 R:=by kernel_rfl
theorem DQ {h:za} {t0 t1 t2 t3:Value} {R:Value->za->Prop} (hw:AJ h t0 t1 t2 t3 R):DC Tryz.prog 11 [t0,t1,t2,t3] h R:=yP mixed (n:=200) (by rw [DP];exact hw)
def fk:=fun a (d:za) (R:Value->za->Prop) (f:List Value->za->Prop)=>
 opt (nb [] (xo Tryz.prog 33 [])) fun b=>opt (nb [b] (zl Tryz.prog 33 a b d)) fun c=>opt (zd Tryz.prog 33 a c) fun e=>rv [e,.int .i64 0,.int .i64 1] c R
def rF:=fun c a (R:Value->za->Prop) (l:Value) (b:za)=>
 opt (ve c) fun g=>opt (zb Tryz.prog 108 g 4) fun h=>opt (zd Tryz.prog 33 h b) fun d=>opt (ve c) fun i=>opt (zb Tryz.prog 108 i 13) fun e=>opt (zd Tryz.prog 3 e b) fun j=>(Fl 5 a 1 e/\opt (nb [d] (zl Tryz.prog 33 a d b)) fun f=>opt (zd Tryz.prog 33 a f) fun k=>rv [k,j,.int .i64 0] f R)
def rG:=fun c d e f g h i (R:Value->za->Prop) (l:List Value) (a:za)=>
 opt (zd Tryz.prog 25 c a) fun j=>zO Tryz.prog (.func (.func 38) #[] #[]) [j,d,e,f] a (fun b k=>zO Tryz.prog (.func (.func 39) #[] #[]) [b,g,h] k (rF b i R))
def Xu:=fun b c (R:Value->za->Prop) g h i j k l d (e:za)=>
 GD b false (fun m=>opt (nb [d,.int .i64 2147483647] (ze Tryz.prog .gtr 3 (.tmp 39) (.const (.int .i64 2147483647)) d (.int .i64 2147483647))) fun a=>m a e) (fun a f=>opt (pk b (.bool true) a) fun n=>CD n (fk c f R)
 (fun o=>o [.int .i64 0,.int .i64 0] f)
 (rG g h i j k l c R)) e
def Xv:=fun b c h (R:Value->za->Prop) i j k l m d (e:za)=>
 GD b false (fun n=>opt (nb [d,.int .i64 0] (ze Tryz.prog .lss 3 (.tmp 35) (.const (.int .i64 0)) d (.int .i64 0))) fun a=>n a e) (fun a f=>opt (pk b (.bool true) a) fun g=>GD g false (fun o=>o c f) (Xu g h R i j k c l m) f) e
def Xw:=fun b c h (R:Value->za->Prop) i j k l m d (e:za)=>
 GD b false (fun n=>opt (nb [d,.int .i64 100000000] (ze Tryz.prog .gtr 3 (.tmp 31) (.const (.int .i64 100000000)) d (.int .i64 100000000))) fun a=>n a e) (fun a f=>opt (pk b (.bool true) a) fun g=>GD g false (fun o=>o c f) (Xv g c h R i j k l m) f) e
def Xx:=fun b c h i (R:Value->za->Prop) j k l m d (e:za)=>
 GD b false (fun n=>opt (nb [d,.int .i64 0] (ze Tryz.prog .lss 3 (.tmp 27) (.const (.int .i64 0)) d (.int .i64 0))) fun a=>n a e) (fun a f=>opt (pk b (.bool true) a) fun g=>GD g false (fun o=>o c f) (Xw g h i R j k l c m) f) e
def Xy:=fun b c d i j (R:Value->za->Prop) k l m n e (f:za)=>
 GD b false (fun o=>opt (nb [c,e] (ze Tryz.prog .neq 3 (.tmp 21) (.tmp 23) c e)) fun a=>o a f) (fun a g=>opt (pk b (.bool true) a) fun h=>GD h false (fun p=>p d g) (Xx h d i j R k l m n) g) f
def Xz:=fun a d f g h (R:Value->za->Prop) i j k l (e:za)=>
 GD a false (fun m=>opt (zb Tryz.prog 25 d 3) fun b=>m b e) (fun b c=>GD a false (fun n=>opt (zd Tryz.prog 3 b c) fun o=>n o c) (Xy a l f g h R d i j k) c) e
def Yr:=fun b f g h i (R:Value->za->Prop) j k l (c:za)=>
 opt (JR Tryz.prog .not l) fun a=>GD a false (fun m=>m b c) (fun d e=>GD a false (fun n=>xZ (nb [d] (zn Tryz.prog .len [26] 3 [d] e)) fun o p=>n o p) (Xz a f g h i R b j k) e) c
def AM:=fun (h:za) a d e f g i (R:Value->za->Prop)=>
 opt (nb [a] (some (Value.cells a).toList)) fun j=>nw h j 25 fun b k=>opt (wY Tryz.prog 33) fun l=>nw k (Value.cells l).toList 33 fun m c=>opt (zd Tryz.prog 25 b c) fun n=>zO Tryz.prog (.func (.func 17) #[] #[]) [n] c (Yr d b f g m R e i)
theorem DR (h:za) (t0 t1 t2 t3 t4 t5:Value) (R:Value->za->Prop):WT Tryz.prog (nD Tryz.prog qs) 200 21 [t0,t1,t2,t3,t4,t5] h R=AM h t0 t1 t2 t3 t4 t5 R:=by kernel_rfl
theorem DS {h:za} {t0 t1 t2 t3 t4 t5:Value} {R:Value->za->Prop} (hw:AM h t0 t1 t2 t3 t4 t5 R):DC Tryz.prog 21 [t0,t1,t2,t3,t4,t5] h R:=aU mixed (n:=200) (by rw [DR];exact hw)
def lV:=fun a b (g:List Value->za->Prop) (o:Value) (c:za)=>
 opt (ve a) fun h=>opt (zb Tryz.prog 108 h 5) fun i=>opt (zd Tryz.prog 22 i c) fun d=>xZ (nb [b] (xU Tryz.prog 22 1 [(0,b)] c)) fun e j=>xZ (nb [d,e] (zn Tryz.prog .append [22,22] 22 [d,e] j)) fun f k=>opt (ve a) fun l=>opt (zb Tryz.prog 108 l 5) fun m=>opt (nb [f] (zl Tryz.prog 22 m f k)) fun n=>g [] n
def lW:=fun a (e:List Value->za->Prop) b (c:za)=>
 opt (YW b 0) fun d=>opt (YW b 1) fun i=>opt (ve a) fun f=>opt (zb Tryz.prog 108 f 2) fun g=>opt (zd Tryz.prog 104 g c) fun h=>zO Tryz.prog (.func (.func 63) #[] #[]) [h,d] c (lV a d e)
def lX:=fun c d (a:za) b (e:List Value->za->Prop)=>
 opt (zA Tryz.prog 22 c (nth d 0)) fun f=>opt (zd Tryz.prog 3 f a) fun g=>opt (ve b) fun h=>opt (zb Tryz.prog 108 h 2) fun i=>opt (zd Tryz.prog 104 i a) fun j=>zO Tryz.prog (.func (.func 62) #[] #[]) [j,g] a (lW b e)
def lY:=fun b a c (d:List Value->za->Prop) (h:List Value) (e:za)=>
 BK (lX b a e c)
 (fun i f=>opt (nb [nth a 0,.int .i64 1] (ze Tryz.prog .add 3 (.tmp 32) (.const (.int .i64 1)) (nth a 0) (.int .i64 1))) fun g=>d [g] f)
def bI:=fun b (e:List Value->za->Prop) f g a (c:za) (h:List Value->za->Prop)=>
 opt (nb [nth a 0,b] (ze Tryz.prog .lss 3 (.tmp 32) (.tmp 31) (nth a 0) b)) fun i=>CD i (fun d=>d [] c)
 (fun d=>e [] c)
 (lY f a g h)
def lZ:=fun e (a b:za) c (f:List Value->za->Prop)=>
 opt (zb Tryz.prog 50 e 5) fun g=>opt (zd Tryz.prog 3 g a) fun d=>opt (nb [(vL b).1,d,nth c 0] (k7 Tryz.prog 129 (vL b).1 d (nth c 0) a)) fun h=>f [] h
def l5:=fun g c (d h:za) (i:List Value->za->Prop)=>
 opt (zA Tryz.prog 45 g (nth c 0)) fun j=>opt (zd Tryz.prog 50 j d) fun e=>opt (wY Tryz.prog 50) fun k=>nw d (Value.cells k).toList 50 fun a l=>opt (nb [e] (zl Tryz.prog 50 a e l)) fun b=>opt (zb Tryz.prog 50 a 0) fun m=>opt (zd Tryz.prog 3 m b) fun f=>opt (nb [f,.int .i64 20] (ze Tryz.prog .eql 3 (.tmp 79) (.const (.int .i64 20)) f (.int .i64 20))) fun n=>CD n (lZ a b h c)
 (fun o=>o [] b)
 (fun q p=>i [] p)
def l6:=fun b a (c:za) (d:List Value->za->Prop) (h:List Value) (e:za)=>
 BK (l5 b a e c)
 (fun i f=>opt (nb [nth a 0,.int .i64 1] (ze Tryz.prog .add 3 (.tmp 73) (.const (.int .i64 1)) (nth a 0) (.int .i64 1))) fun g=>d [g] f)
def bJ:=fun b (e:List Value->za->Prop) f (g:za) a (c:za) (h:List Value->za->Prop)=>
 opt (nb [nth a 0,b] (ze Tryz.prog .lss 3 (.tmp 73) (.tmp 72) (nth a 0) b)) fun i=>CD i (fun d=>d [] c)
 (fun d=>e [] c)
 (l6 f a g h)
def fC:=fun a (b:za) (g:List Value->za->Prop) (o:List Value) (c:za)=>
 opt (ve a) fun h=>opt (zb Tryz.prog 108 h 1) fun i=>opt (zd Tryz.prog 103 i c) fun d=>xZ (nb [(vL b).1] (xU Tryz.prog 103 1 [(0,(vL b).1)] c)) fun e j=>xZ (nb [d,e] (zn Tryz.prog .append [103,103] 103 [d,e] j)) fun f k=>opt (ve a) fun l=>opt (zb Tryz.prog 108 l 1) fun m=>opt (nb [f] (zl Tryz.prog 103 m f k)) fun n=>g [] n
def fD:=fun f g (c:za) h (i:List Value->za->Prop)=>
 opt (zA Tryz.prog 23 f (nth g 0)) fun j=>opt (zd Tryz.prog 47 j c) fun d=>opt (wY Tryz.prog 47) fun k=>nw c (Value.cells k).toList 47 fun e l=>opt (nb [d] (zl Tryz.prog 47 e d l)) fun a=>opt (zb Tryz.prog 47 e 1) fun m=>opt (zd Tryz.prog 45 m (vL a).2) fun b=>xZ (nb [b] (zn Tryz.prog .len [45] 3 [b] (vL a).2)) fun n o=>BK (fun p=>LP (bJ n p b a)
 [.int .i64 0] o)
 (fC h a i)
def fE:=fun b a c (d:List Value->za->Prop) (h:List Value) (e:za)=>
 BK (fD b a e c)
 (fun i f=>opt (nb [nth a 0,.int .i64 1] (ze Tryz.prog .add 3 (.tmp 65) (.const (.int .i64 1)) (nth a 0) (.int .i64 1))) fun g=>d [g] f)
def KR:=fun b (e:List Value->za->Prop) f g a (c:za) (h:List Value->za->Prop)=>
 opt (nb [nth a 0,b] (ze Tryz.prog .lss 3 (.tmp 65) (.tmp 64) (nth a 0) b)) fun i=>CD i (fun d=>d [] c)
 (fun d=>e [] c)
 (fE f a g h)
def fF:=fun b c (d:za) (e:List Value->za->Prop) a=>
 opt (ve b) fun f=>opt (zb Tryz.prog 108 f 7) fun g=>opt (zA Tryz.prog 65 g c) fun h=>opt (nb [a] (zl Tryz.prog 64 h a d)) fun i=>e [] i
def fG:=fun c b (a:za) d e (f:List Value->za->Prop)=>
 opt (zA Tryz.prog 26 c (nth b 0)) fun g=>opt (zd Tryz.prog 2 g a) fun h=>opt (zA Tryz.prog 130 d (nth b 0)) fun i=>opt (zd Tryz.prog 3 i a) fun j=>ZQ Tryz.prog 64 [h] a (fF e j a f)
def fH:=fun b a c d (e:List Value->za->Prop) (i:List Value) (f:za)=>
 BK (fG b a f c d)
 (fun j g=>opt (nb [nth a 0,.int .i64 1] (ze Tryz.prog .add 3 (.tmp 100) (.const (.int .i64 1)) (nth a 0) (.int .i64 1))) fun h=>e [h] g)
def KS:=fun b (e:List Value->za->Prop) f g h a (c:za) (i:List Value->za->Prop)=>
 opt (nb [nth a 0,b] (ze Tryz.prog .lss 3 (.tmp 100) (.tmp 99) (nth a 0) b)) fun j=>CD j (fun d=>d [] c)
 (fun d=>e [] c)
 (fH f a g h i)
def fI:=fun a b (R:Value->za->Prop) (m:List Value) (e:za)=>
 opt (nb [.int .i64 7,.int .i64 6,.int .i64 2,.int .i64 1,.int .i64 8,.int .i64 9] (xo Tryz.prog 130 [(0,(.int .i64 7)),(1,(.int .i64 6)),(2,(.int .i64 2)),(3,(.int .i64 1)),(4,(.int .i64 8)),(5,(.int .i64 9))])) fun c=>opt (wY Tryz.prog 130) fun f=>nw e (Value.cells f).toList 130 fun d g=>opt (nb [c] (zl Tryz.prog 130 d c g)) fun h=>xZ (nb [a] (zn Tryz.prog .len [26] 3 [a] h)) fun i j=>BK (fun k=>LP (KS i k a d b)
 [.int .i64 0] j)
 (fun n l=>rv [b] l R)
def fJ:=fun d b e (R:Value->za->Prop) (j:List Value) (c:za)=>
 opt (zb Tryz.prog 25 d 1) fun f=>opt (zd Tryz.prog 23 f c) fun a=>xZ (nb [a] (zn Tryz.prog .len [23] 3 [a] c)) fun g h=>BK (fun i=>LP (KR g i a b)
 [.int .i64 0] h)
 (fI e b R)
def fK:=fun b c d e j (R:Value->za->Prop) f (k:za)=>
 opt (nb [b,c,f,d] (xo Tryz.prog 108 [(0,b),(2,c),(3,f),(12,d)])) fun g=>opt (nb [g] (some (Value.cells g).toList)) fun l=>nw k l 108 fun h i=>opt (zb Tryz.prog 25 e 0) fun m=>opt (zd Tryz.prog 22 m i) fun a=>xZ (nb [a] (zn Tryz.prog .len [22] 3 [a] i)) fun n o=>BK (fun p=>LP (bI n p a h)
 [.int .i64 0] o)
 (fJ e h j R)
def oh:=fun (h:za) a d e f (R:Value->za->Prop)=>
 opt (nb [a] (some (Value.cells a).toList)) fun g=>nw h g 25 fun b c=>opt (zd Tryz.prog 25 b c) fun i=>gG Tryz.prog 60 [] c (fun j k=>gG Tryz.prog 61 [e] k (fK i j f b d R))
theorem AQ (h:za) (t0 t1 t2 t3:Value) (R:Value->za->Prop):WT Tryz.prog (v7 Tryz.prog qs) 200 38 [t0,t1,t2,t3] h R=oh h t0 t1 t2 t3 R:=by kernel_rfl
theorem AR {h:za} {t0 t1 t2 t3:Value} {R:Value->za->Prop} (hw:oh h t0 t1 t2 t3 R):DC Tryz.prog 38 [t0,t1,t2,t3] h R:=yP mixed (n:=200) (by rw [AQ];exact hw)
def r7:=fun a (b:za) (R:Value->za->Prop) (g:List Value->za->Prop)=>
 opt (ve a) fun c=>opt (zb Tryz.prog 108 c 4) fun d=>opt (zb Tryz.prog 33 d 0) fun e=>opt (nb [.int .i64 3] (zl Tryz.prog 3 e (.int .i64 3) b)) fun f=>rv [] f R
def r8:=fun a (b:za) (e:List Value->za->Prop) (k:List Value->za->Prop)=>
 opt (ve a) fun f=>opt (zb Tryz.prog 134 f 1) fun g=>opt (zd Tryz.prog 3 g b) fun c=>opt (nb [c,.int .i64 1] (ze Tryz.prog .add 3 (.tmp 73) (.const (.int .i64 1)) c (.int .i64 1))) fun d=>opt (ve a) fun h=>opt (zb Tryz.prog 134 h 1) fun i=>opt (nb [d] (zl Tryz.prog 3 i d b)) fun j=>e [] j
def r9:=fun a (b:za) (R:Value->za->Prop) (g:List Value->za->Prop)=>
 opt (ve a) fun c=>opt (zb Tryz.prog 108 c 4) fun d=>opt (zb Tryz.prog 33 d 0) fun e=>opt (nb [.int .i64 2] (zl Tryz.prog 3 e (.int .i64 2) b)) fun f=>rv [] f R
def sa:=fun a (b:za) (c:List Value->za->Prop)=>
 opt (ve a) fun d=>opt (zb Tryz.prog 108 d 4) fun e=>opt (zb Tryz.prog 33 e 0) fun f=>opt (nb [.int .i64 3] (zl Tryz.prog 3 f (.int .i64 3) b)) fun g=>c [] g
def sc:=fun a b k (l:List Value->za->Prop) (B:List Value) (c:za)=>
 opt (ve a) fun m=>opt (zb Tryz.prog 108 m 4) fun n=>opt (zb Tryz.prog 33 n 4) fun o=>opt (zd Tryz.prog 3 o c) fun d=>opt (nb [d,.int .i64 1] (ze Tryz.prog .add 3 (.tmp 92) (.const (.int .i64 1)) d (.int .i64 1))) fun e=>opt (ve a) fun p=>opt (zb Tryz.prog 108 p 4) fun q=>opt (zb Tryz.prog 33 q 4) fun r=>opt (nb [e] (zl Tryz.prog 3 r e c)) fun f=>opt (ve b) fun s=>opt (zb Tryz.prog 134 s 1) fun t=>opt (zd Tryz.prog 3 t f) fun g=>opt (nb [g,.int .i64 1] (ze Tryz.prog .add 3 (.tmp 100) (.const (.int .i64 1)) g (.int .i64 1))) fun h=>opt (ve b) fun u=>opt (zb Tryz.prog 134 u 1) fun v=>opt (nb [h] (zl Tryz.prog 3 v h f)) fun i=>opt (zd Tryz.prog 50 k i) fun w=>zO Tryz.prog (.func (.func 66) #[] #[]) [a,b,w] i (fun x j=>opt (JR Tryz.prog .not x) fun y=>CD y (sa a j)
 (fun z=>z [] j)
 (fun C A=>l [] A))
def f7:=fun a c (R:Value->za->Prop) e f (g:List Value->za->Prop) (m:List Value) (b:za)=>
 opt (ve a) fun h=>opt (zb Tryz.prog 108 h 4) fun i=>opt (zb Tryz.prog 33 i 4) fun j=>opt (zd Tryz.prog 3 j b) fun d=>opt (nb [d,c] (ze Tryz.prog .eql 3 (.tmp 81) (.tmp 82) d c)) fun k=>CD k (r9 a b R)
 (fun l=>l [] b)
 (sc a e f g)
def JL:=fun b c (d:List Value->za->Prop) g h (R:Value->za->Prop) i j (e:za)=>
 GD b true (fun k=>opt (JR Tryz.prog .not j) fun a=>k a e) (fun a f=>opt (pk b a (.bool false)) fun l=>CD l (r8 c f d)
 (fun m=>m [] f)
 (f7 g h R c i d)) e
def sd:=fun d h i (j:List Value->za->Prop) k l (R:Value->za->Prop) (u:List Value) (a:za)=>
 opt (ve d) fun m=>opt (zb Tryz.prog 134 m 1) fun n=>opt (zd Tryz.prog 3 n a) fun o=>opt (zA Tryz.prog 45 h o) fun p=>opt (zd Tryz.prog 50 p a) fun e=>opt (wY Tryz.prog 50) fun q=>nw a (Value.cells q).toList 50 fun b r=>opt (nb [e] (zl Tryz.prog 50 b e r)) fun c=>opt (zb Tryz.prog 50 b 0) fun s=>opt (zd Tryz.prog 3 s c) fun f=>opt (nb [f,.int .i64 20] (ze Tryz.prog .eql 3 (.tmp 64) (.const (.int .i64 20)) f (.int .i64 20))) fun g=>GD g true (fun t=>t i c) (JL g d j k l R b) c
def sh:=fun b (a:za) (R:Value->za->Prop) j k (l:List Value->za->Prop)=>
 opt (ve b) fun m=>opt (zb Tryz.prog 108 m 6) fun n=>opt (zd Tryz.prog 106 n a) fun o=>opt (ve b) fun p=>opt (zb Tryz.prog 108 p 6) fun q=>opt (zd Tryz.prog 106 q a) fun e=>xZ (nb [e] (zn Tryz.prog .len [106] 3 [e] a)) fun f _=>opt (nb [f,.int .i64 1] (ze Tryz.prog .sub 3 (.tmp 30) (.const (.int .i64 1)) f (.int .i64 1))) fun r=>opt (zA Tryz.prog 106 o r) fun c=>opt (ve b) fun s=>opt (zb Tryz.prog 108 s 0) fun t=>opt (zb Tryz.prog 25 t 1) fun u=>opt (zd Tryz.prog 23 u a) fun v=>opt (ve c) fun w=>opt (zb Tryz.prog 134 w 0) fun x=>opt (zd Tryz.prog 3 x a) fun y=>opt (zA Tryz.prog 23 v y) fun z=>opt (zb Tryz.prog 47 z 1) fun A=>opt (zd Tryz.prog 45 A a) fun d=>opt (ve c) fun B=>opt (zb Tryz.prog 134 B 1) fun C=>opt (zd Tryz.prog 3 C a) fun g=>xZ (nb [d] (zn Tryz.prog .len [45] 3 [d] a)) fun h i=>opt (nb [g,h] (ze Tryz.prog .eql 3 (.tmp 48) (.tmp 50) g h)) fun D=>CD D (r7 b i R)
 (fun E=>E [] i)
 (sd c d j l b k R)
def bP:=fun b (e:List Value->za->Prop) (R:Value->za->Prop) f g (o:List Value) (a:za) (h:List Value->za->Prop)=>
 opt (ve b) fun i=>opt (zb Tryz.prog 108 i 4) fun j=>opt (zb Tryz.prog 33 j 0) fun k=>opt (zd Tryz.prog 3 k a) fun c=>opt (nb [c,.int .i64 0] (ze Tryz.prog .eql 3 (.tmp 20) (.const (.int .i64 0)) c (.int .i64 0))) fun l=>CD l (fun d=>d [] a)
 (fun d=>e [] a)
 (fun p m=>BK (sh b m R f g)
 (fun q n=>h [] n))
def Bh:=fun (h:za) a b c (R:Value->za->Prop)=>
 opt (ve a) fun d=>opt (zb Tryz.prog 108 d 0) fun e=>opt (zb Tryz.prog 25 e 2) fun f=>opt (zd Tryz.prog 3 f h) fun g=>zO Tryz.prog (.func (.func 65) #[] #[]) [a,g] h (fun l i=>BK (fun j=>LP (bP a j R c b)
 [] i)
 (fun m k=>rv [] k R))
theorem D4 (h:za) (t0 t1 t2:Value) (R:Value->za->Prop):WT Tryz.prog (v7 Tryz.prog qs) 200 39 [t0,t1,t2] h R=Bh h t0 t1 t2 R:=by kernel_rfl
theorem D5 {h:za} {t0 t1 t2:Value} {R:Value->za->Prop} (hw:Bh h t0 t1 t2 R):DC Tryz.prog 39 [t0,t1,t2] h R:=yP mixed (n:=200) (by rw [D4];exact hw)
def si:=fun b c (d:za) (e:List Value->za->Prop) a=>
 opt (ve b) fun f=>opt (zb Tryz.prog 108 f 7) fun g=>opt (zA Tryz.prog 65 g c) fun h=>opt (nb [a] (zl Tryz.prog 64 h a d)) fun i=>e [.bool false] i
def sj:=fun b c (d:za) (e:List Value->za->Prop) a=>
 opt (ve b) fun f=>opt (zb Tryz.prog 108 f 7) fun g=>opt (zA Tryz.prog 65 g c) fun h=>opt (nb [a] (zl Tryz.prog 64 h a d)) fun i=>e [.bool false] i
def f8:=fun b d e f g (R:Value->za->Prop) h (c:za)=>
 GD b true (fun i=>YI Tryz.prog 86 [d,e,f,g,h] c (fun a j=>i a j)) (fun a k=>opt (pk b a (.bool false)) fun l=>rv [l] k R) c
def f9:=fun a f g h i (R:Value->za->Prop) d (e:za)=>
 GD a true (fun j=>opt (nb [d,.int .i64 63] (ze Tryz.prog .and 2 (.tmp 175) (.const (.int .i64 63)) d (.int .i64 63))) fun b=>j b e) (fun b c=>GD a true (fun k=>ZQ Tryz.prog 64 [b] c (fun l=>k l c)) (f8 a f g h i R) c) e
def ga:=fun a e f g h (R:Value->za->Prop) i (d:za)=>
 GD a true (fun j=>opt (zb Tryz.prog 64 e 1) fun b=>j b d) (fun b c=>GD a true (fun k=>opt (zd Tryz.prog 2 b c) fun l=>k l c) (f9 a f g h i R) c) d
def gd:=fun a e f g h i (R:Value->za->Prop) j (d:za)=>
 GD a true (fun k=>opt (zA Tryz.prog 65 j e) fun b=>k b d) (fun b c=>GD a true (fun l=>opt (zd Tryz.prog 64 b c) fun m=>l m c) (ga a f g h i R) c) d
def gf:=fun a e f g h i (R:Value->za->Prop) j (c:za)=>
 GD a true (fun k=>opt (ve e) fun b=>k b c) (fun b d=>GD a true (fun l=>opt (zb Tryz.prog 108 b 7) fun m=>l m d) (gd a j f g h i R) d) c
def gg:=fun a e f g h i (R:Value->za->Prop) j (d:za)=>
 GD a true (fun k=>opt (zb Tryz.prog 50 e 1) fun b=>k b d) (fun b c=>GD a true (fun l=>opt (zd Tryz.prog 3 b c) fun m=>l m c) (gf a j f g h i R) c) d
def gh:=fun a e f g h i (R:Value->za->Prop) j (b:za)=>
 GD a true (fun k=>opt (zd Tryz.prog 3 j b) fun c=>k c b) (fun c d=>GD a true (fun l=>l e d) (gg a f g h i c R) d) b
def bQ:=fun a d f g h (R:Value->za->Prop) i (b:za)=>
 GD a true (fun j=>opt (zd Tryz.prog 3 i b) fun c=>j c b) (fun c e=>GD a true (fun k=>opt (zb Tryz.prog 50 d 1) fun l=>k l e) (gh a f d g h c R) e) b
def mJ:=fun a (e:za) (R:Value->za->Prop) b=>
 opt (ve a) fun f=>opt (zb Tryz.prog 108 f 7) fun g=>opt (zA Tryz.prog 65 g (.int .i64 2)) fun h=>opt (nb [b] (zl Tryz.prog 64 h b e)) fun c=>opt (ve a) fun i=>opt (zb Tryz.prog 108 i 7) fun j=>opt (zA Tryz.prog 65 j (.int .i64 0)) fun k=>opt (zb Tryz.prog 64 k 0) fun l=>opt (zd Tryz.prog 3 l c) fun d=>opt (nb [d,.int .i64 1] (ze Tryz.prog .eql 3 (.tmp 197) (.const (.int .i64 1)) d (.int .i64 1))) fun m=>rv [m] c R
def mK:=fun a (d:za) b (e:List Value->za->Prop) c=>
 opt (ve a) fun f=>opt (zb Tryz.prog 108 f 8) fun g=>opt (nb [.bool true] (zl Tryz.prog 4 g (.bool true) d)) fun h=>opt (ve a) fun i=>opt (zb Tryz.prog 108 i 9) fun j=>opt (nb [b] (zl Tryz.prog 64 j b h)) fun k=>opt (ve a) fun l=>opt (zb Tryz.prog 108 l 10) fun m=>opt (nb [c] (zl Tryz.prog 64 m c k)) fun n=>e [.bool false] n
def bR:=fun b d e f g (R:Value->za->Prop) h (c:za)=>
 GD b true (fun i=>YI Tryz.prog 86 [d,e,f,g,h] c (fun a j=>i a j)) (fun a k=>opt (pk b a (.bool false)) fun l=>rv [l] k R) c
def bS:=fun a e f g h (R:Value->za->Prop) i (d:za)=>
 GD a true (fun j=>opt (zb Tryz.prog 108 i 10) fun b=>j b d) (fun b c=>GD a true (fun k=>opt (zd Tryz.prog 64 b c) fun l=>k l c) (bR a e f g h R) c) d
def bT:=fun a d e f g (R:Value->za->Prop) h (b:za)=>
 GD a true (fun i=>i d b) (fun j c=>GD a true (fun k=>opt (ve j) fun l=>k l c) (bS a e f g h R) c) b
def bU:=fun a e f g h (R:Value->za->Prop) i (d:za)=>
 GD a true (fun j=>opt (zb Tryz.prog 108 i 9) fun b=>j b d) (fun b c=>GD a true (fun k=>opt (zd Tryz.prog 64 b c) fun l=>k l c) (bT a e f g h R) c) d
def bV:=fun a b e f (R:Value->za->Prop) g (c:za)=>
 GD a true (fun h=>h b c) (fun i d=>GD a true (fun j=>opt (ve i) fun k=>j k d) (bU a b e f g R) d) c
def bW:=fun a e f g (R:Value->za->Prop) h (d:za)=>
 GD a true (fun i=>opt (zb Tryz.prog 50 e 1) fun b=>i b d) (fun b c=>GD a true (fun j=>opt (zd Tryz.prog 3 b c) fun k=>j k c) (bV a f g h R) c) d
def bX:=fun a d f (R:Value->za->Prop) g (e:za)=>
 GD a true (fun h=>opt (zb Tryz.prog 50 d 4) fun b=>h b e) (fun b c=>GD a true (fun i=>opt (zd Tryz.prog 3 b c) fun j=>i j c) (bW a d f g R) c) e
def mL:=fun f (a:za) b g (h:List Value->za->Prop)=>
 opt (ve f) fun i=>opt (zb Tryz.prog 108 i 1) fun j=>opt (zd Tryz.prog 103 j a) fun k=>opt (ve b) fun l=>opt (zb Tryz.prog 134 l 0) fun m=>opt (zd Tryz.prog 3 m a) fun n=>opt (zA Tryz.prog 103 k n) fun o=>opt (zd Tryz.prog 129 o a) fun c=>opt (zb Tryz.prog 50 g 5) fun p=>opt (zd Tryz.prog 3 p a) fun d=>opt (nb [c,d] (Z2 Tryz.prog 129 c d false a)) fun e=>opt (ve b) fun q=>opt (zb Tryz.prog 134 q 1) fun r=>opt (nb [e] (zl Tryz.prog 3 r e a)) fun s=>h [] s
def bY:=fun c d e f (g:List Value->za->Prop) h (m:Value) (a:za)=>
 opt (zb Tryz.prog 64 c 1) fun i=>opt (zd Tryz.prog 2 i a) fun b=>opt (nb [b,.int .i64 0] (ze Tryz.prog .neq 2 (.tmp 326) (.const (.int .i64 0)) b (.int .i64 0))) fun j=>CD j (mL d a e f)
 (fun k=>k [] a)
 (fun n l=>g [nth h 0] l)
def mM:=fun a b d e (f:List Value->za->Prop) g (c:za)=>
 opt (zb Tryz.prog 64 a 1) fun h=>opt (zd Tryz.prog 2 h c) fun i=>zO Tryz.prog (.func (.func 92) #[] #[]) [b,.int .i64 1,i,.int .i64 0] c (bY a b d e f g)
def QU:=fun c (R:Value->za->Prop) d e f g (h:List Value->za->Prop) i (a:za)=>
 opt (pk c (.bool true) i) fun j=>CD j (fun b=>rv [.bool false] a R)
 (fun b=>b [.bool false] a)
 (mM d e f g h)
def QV:=fun a (R:Value->za->Prop) e f g h (i:List Value->za->Prop) j (b:za)=>
 GD a false (fun k=>opt (zd Tryz.prog 4 j b) fun c=>k c b) (fun c d=>GD a false (fun l=>opt (JR Tryz.prog .not c) fun m=>l m d) (QU a R e f g h i) d) b
def QW:=fun a (R:Value->za->Prop) e f g h (i:List Value->za->Prop) j (c:za)=>
 GD a false (fun k=>opt (ve j) fun b=>k b c) (fun b d=>GD a false (fun l=>opt (zb Tryz.prog 108 b 8) fun m=>l m d) (QV a R e f g h i) d) c
def mN:=fun (g:za) a (R:Value->za->Prop) h i (j:List Value->za->Prop) b=>
 opt (YW b 0) fun c=>opt (YW b 1) fun k=>opt (wY Tryz.prog 64) fun l=>nw g (Value.cells l).toList 64 fun d m=>opt (nb [c] (zl Tryz.prog 64 d c m)) fun e=>opt (JR Tryz.prog .not k) fun f=>GD f false (fun n=>n a e) (QW f R d a h i j) e
def mO:=fun b c (d:List Value->za->Prop) (h:Value) (a:za)=>
 opt (zb Tryz.prog 50 b 3) fun e=>opt (zd Tryz.prog 3 e a) fun f=>zO Tryz.prog (.func (.func 65) #[] #[]) [c,f] a (fun i g=>d [.bool false] g)
def mP:=fun b (c:za) (d:List Value->za->Prop) a=>
 opt (ve b) fun e=>opt (zb Tryz.prog 108 e 7) fun f=>opt (zA Tryz.prog 65 f (.int .i64 0)) fun g=>opt (nb [a] (zl Tryz.prog 64 g a c)) fun h=>d [.bool false] h
def mQ:=fun a (c:List Value->za->Prop) d (b:za)=>
 opt (ve a) fun e=>opt (zb Tryz.prog 108 e 7) fun f=>opt (zA Tryz.prog 65 f (.int .i64 0)) fun g=>opt (zb Tryz.prog 64 g 1) fun h=>opt (zd Tryz.prog 2 h b) fun i=>zO Tryz.prog (.func (.func 96) #[] #[]) [a,.int .i64 2,i] b (fun k j=>c [nth d 0] j)
def bZ:=fun b (a:za) (R:Value->za->Prop) (e:List Value->za->Prop)=>
 opt (ve b) fun f=>opt (zb Tryz.prog 108 f 7) fun g=>opt (zA Tryz.prog 65 g (.int .i64 0)) fun h=>opt (zb Tryz.prog 64 h 0) fun i=>opt (zd Tryz.prog 3 i a) fun c=>opt (nb [c,.int .i64 1] (ze Tryz.prog .neq 3 (.tmp 392) (.const (.int .i64 1)) c (.int .i64 1))) fun j=>CD j (fun d=>rv [.bool false] a R)
 (fun d=>d [.bool false] a)
 (mQ b e)
def mR:=fun a (b:za) (e:List Value->za->Prop)=>
 opt (ve a) fun f=>opt (zb Tryz.prog 108 f 3) fun g=>opt (zd Tryz.prog 105 g b) fun h=>zO Tryz.prog (.func (.func 95) #[] #[]) [h] b (fun c i=>zO Tryz.prog (.func (.func 96) #[] #[]) [a,.int .i64 1,c] i (fun j d=>ZQ Tryz.prog 64 [c] d (mP a d e)))
def QX:=fun a c (b:za) (R:Value->za->Prop) (d:List Value->za->Prop)=>
 opt (nb [a,.int .i64 26] (ze Tryz.prog .eql 3 (.tmp 12) (.const (.int .i64 26)) a (.int .i64 26))) fun e=>CD e (bZ c b R)
 (fun f=>f [.bool false] b)
 (fun g h=>d [nth g 0] h)
def Vz:=fun a b (c:za) (R:Value->za->Prop) (d:List Value->za->Prop)=>
 opt (nb [a,.int .i64 25] (ze Tryz.prog .eql 3 (.tmp 12) (.const (.int .i64 25)) a (.int .i64 25))) fun e=>CD e (mR b c)
 (QX a b c R)
 (fun f g=>d [nth f 0] g)
def Y7:=fun c b d (R:Value->za->Prop) e (f:List Value->za->Prop) g (a:za)=>
 CD (nth g 0) (fun m=>opt (zd Tryz.prog 50 c a) fun h=>zO Tryz.prog (.func (.func 94) #[] #[]) [b,d,h] a (fun i j=>rv [i] j R))
 (Vz e b a R)
 (fun k l=>f [nth k 0] l)
def Y8:=fun a (c:za) e f g (R:Value->za->Prop) (h:List Value->za->Prop)=>
 opt (nb [a,.int .i64 23] (ze Tryz.prog .eql 3 (.tmp 12) (.const (.int .i64 23)) a (.int .i64 23))) fun d=>CD d (fun b=>b [d] c)
 (fun b=>opt (nb [a,.int .i64 24] (ze Tryz.prog .eql 3 (.tmp 12) (.const (.int .i64 24)) a (.int .i64 24))) fun i=>b [i] c)
 (Y7 e f g R a h)
def mS:=fun a (d:za) b (e:List Value->za->Prop)=>
 opt (ve a) fun f=>opt (zb Tryz.prog 108 f 8) fun g=>opt (nb [.bool false] (zl Tryz.prog 4 g (.bool false) d)) fun c=>opt (zb Tryz.prog 50 b 3) fun h=>opt (zd Tryz.prog 3 h c) fun i=>zO Tryz.prog (.func (.func 92) #[] #[]) [a,.int .i64 4,i,.int .i64 0] c (mO b a e)
def Yu:=fun a b c (d:za) (R:Value->za->Prop) e (f:List Value->za->Prop)=>
 opt (nb [a,.int .i64 22] (ze Tryz.prog .eql 3 (.tmp 12) (.const (.int .i64 22)) a (.int .i64 22))) fun g=>CD g (fun l=>zO Tryz.prog (.func (.func 93) #[] #[]) [b,c] d (fun h i=>rv [h] i R))
 (Y8 a d e b c R)
 (fun j k=>f [nth j 0] k)
def mT:=fun c (a:za) b (R:Value->za->Prop) d (e:List Value->za->Prop)=>
 opt (zb Tryz.prog 50 c 4) fun f=>opt (zd Tryz.prog 3 f a) fun g=>opt (ve b) fun h=>opt (zb Tryz.prog 108 h 9) fun i=>opt (zd Tryz.prog 64 i a) fun j=>opt (ve b) fun k=>opt (zb Tryz.prog 108 k 10) fun l=>opt (zd Tryz.prog 64 l a) fun m=>ZQ Tryz.prog 91 [g,j,m] a (mN a b R d c e)
def ZG:=fun a b (c:za) d e (R:Value->za->Prop) (f:List Value->za->Prop)=>
 opt (nb [a,.int .i64 21] (ze Tryz.prog .eql 3 (.tmp 12) (.const (.int .i64 21)) a (.int .i64 21))) fun g=>CD g (mS b c d)
 (Yu a b e c R d)
 (fun h i=>f [nth h 0] i)
def mU:=fun f (a:za) b g (h:List Value->za->Prop)=>
 opt (ve f) fun i=>opt (zb Tryz.prog 108 i 1) fun j=>opt (zd Tryz.prog 103 j a) fun k=>opt (ve b) fun l=>opt (zb Tryz.prog 134 l 0) fun m=>opt (zd Tryz.prog 3 m a) fun n=>opt (zA Tryz.prog 103 k n) fun o=>opt (zd Tryz.prog 129 o a) fun c=>opt (zb Tryz.prog 50 g 5) fun p=>opt (zd Tryz.prog 3 p a) fun d=>opt (nb [c,d] (Z2 Tryz.prog 129 c d false a)) fun e=>opt (ve b) fun q=>opt (zb Tryz.prog 134 q 1) fun r=>opt (nb [e] (zl Tryz.prog 3 r e a)) fun s=>h [.bool false] s
def j3:=fun a b (c:za) d (R:Value->za->Prop) e (f:List Value->za->Prop)=>
 opt (nb [a,.int .i64 19] (ze Tryz.prog .eql 3 (.tmp 12) (.const (.int .i64 19)) a (.int .i64 19))) fun g=>CD g (mT b c d R e)
 (ZG a d c b e R)
 (fun h i=>f [nth h 0] i)
def cA:=fun a (b:za) d (R:Value->za->Prop) (h:List Value->za->Prop)=>
 opt (ve a) fun e=>opt (zb Tryz.prog 108 e 8) fun f=>opt (zd Tryz.prog 4 f b) fun c=>GD c true (fun g=>g a b) (bX c d a R) b
def jh:=fun a b (c:za) d e (R:Value->za->Prop) (f:List Value->za->Prop)=>
 opt (nb [a,.int .i64 18] (ze Tryz.prog .eql 3 (.tmp 12) (.const (.int .i64 18)) a (.int .i64 18))) fun g=>CD g (mU b c d e)
 (j3 a e c b R d)
 (fun h i=>f [nth h 0] i)
def mV:=fun b (a:za) c (d:List Value->za->Prop)=>
 opt (zb Tryz.prog 50 b 1) fun e=>opt (zd Tryz.prog 3 e a) fun f=>opt (ve c) fun g=>opt (zb Tryz.prog 108 g 7) fun h=>opt (zA Tryz.prog 65 h f) fun i=>opt (zd Tryz.prog 64 i a) fun j=>opt (zb Tryz.prog 50 b 6) fun k=>opt (zd Tryz.prog 2 k a) fun l=>ZQ Tryz.prog 64 [l] a (mK c a j d)
def qG:=fun a b (c:za) d (R:Value->za->Prop) e (f:List Value->za->Prop)=>
 opt (nb [a,.int .i64 17] (ze Tryz.prog .eql 3 (.tmp 12) (.const (.int .i64 17)) a (.int .i64 17))) fun g=>CD g (cA b c d R)
 (jh a b c e d R)
 (fun h i=>f [nth h 0] i)
def mW:=fun c (a:za) b (f:List Value->za->Prop)=>
 opt (zb Tryz.prog 50 c 1) fun g=>opt (zd Tryz.prog 3 g a) fun h=>opt (ve b) fun i=>opt (zb Tryz.prog 108 i 7) fun j=>opt (zA Tryz.prog 65 j h) fun k=>opt (zd Tryz.prog 64 k a) fun d=>opt (zb Tryz.prog 50 c 2) fun l=>opt (zd Tryz.prog 3 l a) fun m=>opt (ve b) fun n=>opt (zb Tryz.prog 108 n 7) fun o=>opt (zA Tryz.prog 65 o m) fun p=>opt (zd Tryz.prog 64 p a) fun e=>opt (ve b) fun q=>opt (zb Tryz.prog 108 q 8) fun r=>opt (nb [.bool true] (zl Tryz.prog 4 r (.bool true) a)) fun s=>opt (ve b) fun t=>opt (zb Tryz.prog 108 t 9) fun u=>opt (nb [d] (zl Tryz.prog 64 u d s)) fun v=>opt (ve b) fun w=>opt (zb Tryz.prog 108 w 10) fun x=>opt (nb [e] (zl Tryz.prog 64 x e v)) fun y=>f [.bool false] y
def qh:=fun a b (c:za) d (R:Value->za->Prop) e (f:List Value->za->Prop)=>
 opt (nb [a,.int .i64 16] (ze Tryz.prog .eql 3 (.tmp 12) (.const (.int .i64 16)) a (.int .i64 16))) fun g=>CD g (mV b c d)
 (qG a d c b R e)
 (fun h i=>f [nth h 0] i)
def mX:=fun c (a:za) b (R:Value->za->Prop) (l:List Value->za->Prop)=>
 opt (zb Tryz.prog 50 c 2) fun d=>opt (zd Tryz.prog 3 d a) fun e=>opt (ve b) fun f=>opt (zb Tryz.prog 108 f 7) fun g=>opt (zA Tryz.prog 65 g e) fun h=>opt (zd Tryz.prog 64 h a) fun i=>YI Tryz.prog 90 [b,i] a (fun j k=>rv [j] k R)
def u1:=fun a b (c:za) d (R:Value->za->Prop) e (f:List Value->za->Prop)=>
 opt (nb [a,.int .i64 15] (ze Tryz.prog .eql 3 (.tmp 12) (.const (.int .i64 15)) a (.int .i64 15))) fun g=>CD g (mW b c d)
 (qh a b c d R e)
 (fun h i=>f [nth h 0] i)
def mY:=fun b (a:za) (R:Value->za->Prop) (g:List Value->za->Prop)=>
 opt (ve b) fun c=>opt (zb Tryz.prog 108 c 7) fun d=>opt (zA Tryz.prog 65 d (.int .i64 0)) fun e=>opt (zd Tryz.prog 64 e a) fun f=>ZQ Tryz.prog 89 [f] a (mJ b a R)
def uQ:=fun a b (c:za) d (R:Value->za->Prop) e (f:List Value->za->Prop)=>
 opt (nb [a,.int .i64 14] (ze Tryz.prog .eql 3 (.tmp 12) (.const (.int .i64 14)) a (.int .i64 14))) fun g=>CD g (mX b c d R)
 (u1 a b c d R e)
 (fun h i=>f [nth h 0] i)
def mZ:=fun a (e:za) f (R:Value->za->Prop) (t:List Value->za->Prop)=>
 opt (ve a) fun j=>opt (zb Tryz.prog 108 j 7) fun k=>opt (zA Tryz.prog 65 k (.int .i64 1)) fun l=>opt (zd Tryz.prog 64 l e) fun g=>opt (wY Tryz.prog 64) fun m=>nw e (Value.cells m).toList 64 fun b n=>opt (nb [g] (zl Tryz.prog 64 b g n)) fun c=>opt (zb Tryz.prog 64 b 0) fun o=>opt (zd Tryz.prog 3 o c) fun h=>opt (nb [h,.int .i64 1] (ze Tryz.prog .eql 3 (.tmp 159) (.const (.int .i64 1)) h (.int .i64 1))) fun d=>GD d true (fun p=>p a c) (fun q i=>GD d true (fun r=>opt (zb Tryz.prog 50 f 3) fun s=>r s i) (bQ d f a b q R) i) c
def uv:=fun a b (c:za) (R:Value->za->Prop) d e (f:List Value->za->Prop)=>
 opt (nb [a,.int .i64 13] (ze Tryz.prog .eql 3 (.tmp 12) (.const (.int .i64 13)) a (.int .i64 13))) fun g=>CD g (mY b c R)
 (uQ a d c b R e)
 (fun h i=>f [nth h 0] i)
def m3:=fun b (a:za) c (R:Value->za->Prop) (p:List Value->za->Prop)=>
 opt (zb Tryz.prog 50 b 3) fun d=>opt (zd Tryz.prog 3 d a) fun e=>opt (zb Tryz.prog 50 b 1) fun f=>opt (zd Tryz.prog 3 f a) fun g=>opt (zb Tryz.prog 50 b 2) fun h=>opt (zd Tryz.prog 3 h a) fun i=>opt (ve c) fun j=>opt (zb Tryz.prog 108 j 7) fun k=>opt (zA Tryz.prog 65 k i) fun l=>opt (zd Tryz.prog 64 l a) fun m=>YI Tryz.prog 88 [c,e,g,m] a (fun n o=>rv [n] o R)
def vW:=fun a b (c:za) d (R:Value->za->Prop) e (f:List Value->za->Prop)=>
 opt (nb [a,.int .i64 12] (ze Tryz.prog .eql 3 (.tmp 12) (.const (.int .i64 12)) a (.int .i64 12))) fun g=>CD g (mZ b c d R)
 (uv a b c R d e)
 (fun h i=>f [nth h 0] i)
def m5:=fun b (a:za) c (R:Value->za->Prop) (p:List Value->za->Prop)=>
 opt (zb Tryz.prog 50 b 3) fun d=>opt (zd Tryz.prog 3 d a) fun e=>opt (zb Tryz.prog 50 b 1) fun f=>opt (zd Tryz.prog 3 f a) fun g=>opt (zb Tryz.prog 50 b 1) fun h=>opt (zd Tryz.prog 3 h a) fun i=>opt (ve c) fun j=>opt (zb Tryz.prog 108 j 7) fun k=>opt (zA Tryz.prog 65 k i) fun l=>opt (zd Tryz.prog 64 l a) fun m=>YI Tryz.prog 88 [c,e,g,m] a (fun n o=>rv [n] o R)
def vJ:=fun a b (c:za) d (R:Value->za->Prop) e (f:List Value->za->Prop)=>
 opt (nb [a,.int .i64 10] (ze Tryz.prog .eql 3 (.tmp 12) (.const (.int .i64 10)) a (.int .i64 10))) fun g=>CD g (m3 b c d R)
 (vW a d c b R e)
 (fun h i=>f [nth h 0] i)
def cB:=fun b (a:za) c (R:Value->za->Prop) (s:List Value->za->Prop)=>
 opt (zb Tryz.prog 50 b 3) fun d=>opt (zd Tryz.prog 3 d a) fun e=>opt (zb Tryz.prog 50 b 1) fun f=>opt (zd Tryz.prog 3 f a) fun g=>opt (zb Tryz.prog 50 b 1) fun h=>opt (zd Tryz.prog 3 h a) fun i=>opt (ve c) fun j=>opt (zb Tryz.prog 108 j 7) fun k=>opt (zA Tryz.prog 65 k i) fun l=>opt (zd Tryz.prog 64 l a) fun m=>opt (zb Tryz.prog 50 b 6) fun n=>opt (zd Tryz.prog 2 n a) fun o=>ZQ Tryz.prog 64 [o] a (fun p=>YI Tryz.prog 86 [c,e,g,m,p] a (fun q r=>rv [q] r R))
def vz:=fun a b (c:za) d (R:Value->za->Prop) e (f:List Value->za->Prop)=>
 opt (nb [a,.int .i64 9] (ze Tryz.prog .eql 3 (.tmp 12) (.const (.int .i64 9)) a (.int .i64 9))) fun g=>CD g (m5 b c d R)
 (vJ a b c d R e)
 (fun h i=>f [nth h 0] i)
def m6:=fun b (a:za) c (R:Value->za->Prop) (v:List Value->za->Prop)=>
 opt (zb Tryz.prog 50 b 3) fun d=>opt (zd Tryz.prog 3 d a) fun e=>opt (zb Tryz.prog 50 b 1) fun f=>opt (zd Tryz.prog 3 f a) fun g=>opt (zb Tryz.prog 50 b 1) fun h=>opt (zd Tryz.prog 3 h a) fun i=>opt (ve c) fun j=>opt (zb Tryz.prog 108 j 7) fun k=>opt (zA Tryz.prog 65 k i) fun l=>opt (zd Tryz.prog 64 l a) fun m=>opt (zb Tryz.prog 50 b 2) fun n=>opt (zd Tryz.prog 3 n a) fun o=>opt (ve c) fun p=>opt (zb Tryz.prog 108 p 7) fun q=>opt (zA Tryz.prog 65 q o) fun r=>opt (zd Tryz.prog 64 r a) fun s=>YI Tryz.prog 86 [c,e,g,m,s] a (fun t u=>rv [t] u R)
def vd:=fun a (c:za) d e (R:Value->za->Prop) h (i:List Value->za->Prop)=>
 opt (nb [a,.int .i64 8] (ze Tryz.prog .eql 3 (.tmp 12) (.const (.int .i64 8)) a (.int .i64 8))) fun f=>CD f (fun b=>b [f] c)
 (fun b=>opt (nb [a,.int .i64 11] (ze Tryz.prog .eql 3 (.tmp 12) (.const (.int .i64 11)) a (.int .i64 11))) fun j=>b [j] c)
 (fun k g=>CD (nth k 0) (cB d g e R)
 (vz a d g e R h)
 (fun l m=>i [nth l 0] m))
def m7:=fun b (a:za) c (d:List Value->za->Prop)=>
 opt (zb Tryz.prog 50 b 1) fun e=>opt (zd Tryz.prog 3 e a) fun f=>opt (ve c) fun g=>opt (zb Tryz.prog 108 g 5) fun h=>opt (zd Tryz.prog 22 h a) fun i=>opt (zb Tryz.prog 50 b 3) fun j=>opt (zd Tryz.prog 3 j a) fun k=>opt (zA Tryz.prog 22 i k) fun l=>opt (zd Tryz.prog 3 l a) fun m=>opt (zb Tryz.prog 50 b 6) fun n=>opt (zd Tryz.prog 2 n a) fun o=>ZQ Tryz.prog 87 [m,o] a (sj c f a d)
def w6:=fun a b (c:za) d (R:Value->za->Prop) e (f:List Value->za->Prop)=>
 opt (nb [a,.int .i64 7] (ze Tryz.prog .eql 3 (.tmp 12) (.const (.int .i64 7)) a (.int .i64 7))) fun g=>CD g (m6 b c d R)
 (vd a c b d R e)
 (fun h i=>f [nth h 0] i)
def m8:=fun b (a:za) c (R:Value->za->Prop) (q:List Value->za->Prop)=>
 opt (zb Tryz.prog 50 b 1) fun d=>opt (zd Tryz.prog 3 d a) fun e=>opt (zb Tryz.prog 50 b 2) fun f=>opt (zd Tryz.prog 3 f a) fun g=>opt (ve c) fun h=>opt (zb Tryz.prog 108 h 7) fun i=>opt (zA Tryz.prog 65 i g) fun j=>opt (zd Tryz.prog 64 j a) fun k=>opt (zb Tryz.prog 50 b 6) fun l=>opt (zd Tryz.prog 2 l a) fun m=>ZQ Tryz.prog 64 [m] a (fun n=>YI Tryz.prog 86 [c,.int .i64 11,e,k,n] a (fun o p=>rv [o] p R))
def wX:=fun a b (c:za) d (R:Value->za->Prop) e (f:List Value->za->Prop)=>
 opt (nb [a,.int .i64 6] (ze Tryz.prog .eql 3 (.tmp 12) (.const (.int .i64 6)) a (.int .i64 6))) fun g=>CD g (m7 b c d)
 (w6 a b c d R e)
 (fun h i=>f [nth h 0] i)
def wC:=fun a b (c:za) d (R:Value->za->Prop) e (f:List Value->za->Prop)=>
 opt (nb [a,.int .i64 5] (ze Tryz.prog .eql 3 (.tmp 12) (.const (.int .i64 5)) a (.int .i64 5))) fun g=>CD g (m8 b c d R)
 (wX a b c d R e)
 (fun h i=>f [nth h 0] i)
def xX:=fun b c (R:Value->za->Prop) d e (f:List Value->za->Prop) g (a:za)=>
 CD (nth g 0) (fun m=>opt (zd Tryz.prog 50 b a) fun h=>zO Tryz.prog (.func (.func 85) #[] #[]) [c,h] a (fun i j=>rv [i] j R))
 (wC d b a c R e)
 (fun k l=>f [nth k 0] l)
def m9:=fun b (a:za) c (d:List Value->za->Prop)=>
 opt (zb Tryz.prog 50 b 1) fun e=>opt (zd Tryz.prog 3 e a) fun f=>opt (zb Tryz.prog 50 b 6) fun g=>opt (zd Tryz.prog 2 g a) fun h=>ZQ Tryz.prog 64 [h] a (si c f a d)
def xY:=fun a (c:za) e f (R:Value->za->Prop) g (h:List Value->za->Prop)=>
 opt (nb [a,.int .i64 3] (ze Tryz.prog .eql 3 (.tmp 12) (.const (.int .i64 3)) a (.int .i64 3))) fun d=>CD d (fun b=>b [d] c)
 (fun b=>opt (nb [a,.int .i64 4] (ze Tryz.prog .eql 3 (.tmp 12) (.const (.int .i64 4)) a (.int .i64 4))) fun i=>b [i] c)
 (xX e f R a g h)
def na:=fun b (a:za) c (e:List Value->za->Prop)=>
 opt (zb Tryz.prog 50 b 1) fun f=>opt (zd Tryz.prog 3 f a) fun g=>opt (zb Tryz.prog 50 b 2) fun h=>opt (zd Tryz.prog 3 h a) fun i=>opt (ve c) fun j=>opt (zb Tryz.prog 108 j 7) fun k=>opt (zA Tryz.prog 65 k i) fun l=>opt (zd Tryz.prog 64 l a) fun d=>opt (ve c) fun m=>opt (zb Tryz.prog 108 m 7) fun n=>opt (zA Tryz.prog 65 n g) fun o=>opt (nb [d] (zl Tryz.prog 64 o d a)) fun p=>e [.bool false] p
def xM:=fun a b (c:za) d (R:Value->za->Prop) e (f:List Value->za->Prop)=>
 opt (nb [a,.int .i64 2] (ze Tryz.prog .eql 3 (.tmp 12) (.const (.int .i64 2)) a (.int .i64 2))) fun g=>CD g (m9 b c d)
 (xY a c b d R e)
 (fun h i=>f [nth h 0] i)
def xt:=fun a b (c:za) d (R:Value->za->Prop) e (f:List Value->za->Prop)=>
 opt (nb [a,.int .i64 1] (ze Tryz.prog .eql 3 (.tmp 12) (.const (.int .i64 1)) a (.int .i64 1))) fun g=>CD g (na b c d)
 (xM a b c d R e)
 (fun h i=>f [nth h 0] i)
def uS:=fun (h:za) d e a (R:Value->za->Prop)=>
 opt (nb [a] (some (Value.cells a).toList)) fun f=>nw h f 50 fun b c=>opt (zb Tryz.prog 50 b 0) fun g=>opt (zd Tryz.prog 3 g c) fun i=>BK (xt i b c d R e)
 (fun k j=>rv [.bool true] j R)
theorem D8 (h:za) (t0 t1 t2:Value) (R:Value->za->Prop):WT Tryz.prog (v7 Tryz.prog qs) 200 66 [t0,t1,t2] h R=uS h t0 t1 t2 R:=by kernel_rfl
theorem wu {h:za} {t0 t1 t2:Value} {R:Value->za->Prop} (hw:uS h t0 t1 t2 R):DC Tryz.prog 66 [t0,t1,t2] h R:=yP mixed (n:=200) (by rw [D8];exact hw)
def l9:=fun a (b:za) c (h:List Value->za->Prop)=>
 opt (ve a) fun i=>opt (zb Tryz.prog 108 i 6) fun j=>opt (zd Tryz.prog 106 j b) fun d=>opt (nb [c] (xo Tryz.prog 134 [(0,c)])) fun e=>xZ (nb [e] (xU Tryz.prog 106 1 [(0,e)] b)) fun f k=>xZ (nb [d,f] (zn Tryz.prog .append [106,106] 106 [d,f] k)) fun g l=>opt (ve a) fun m=>opt (zb Tryz.prog 108 m 6) fun n=>opt (nb [g] (zl Tryz.prog 106 n g l)) fun o=>h [] o
def om:=fun (h:za) a c (R:Value->za->Prop)=>
 zO Tryz.prog (.func (.func 84) #[] #[]) [a,.int .i64 8] h (fun d b=>CD d (l9 a b c)
 (fun e=>e [] b)
 (fun g f=>rv [] f R))
theorem AV (h:za) (t0 t1:Value) (R:Value->za->Prop):WT Tryz.prog (v7 Tryz.prog qs) 200 65 [t0,t1] h R=om h t0 t1 R:=by kernel_rfl
theorem AW {h:za} {t0 t1:Value} {R:Value->za->Prop} (hw:om h t0 t1 R):DC Tryz.prog 65 [t0,t1] h R:=yP mixed (n:=200) (by rw [AV];exact hw)
def rX:=fun a (h:za) (R:Value->za->Prop) (f:List Value->za->Prop)=>
 opt (ve a) fun b=>opt (zb Tryz.prog 108 b 4) fun c=>opt (zb Tryz.prog 33 c 0) fun d=>opt (nb [.int .i64 4] (zl Tryz.prog 3 d (.int .i64 4) h)) fun e=>rv [.bool false] e R
def rY:=fun a c (R:Value->za->Prop) (u:List Value) (d:za)=>
 opt (ve a) fun j=>opt (zb Tryz.prog 108 j 11) fun k=>opt (zd Tryz.prog 3 k d) fun e=>opt (nb [e,c] (ze Tryz.prog .add 3 (.tmp 23) (.tmp 24) e c)) fun f=>opt (ve a) fun l=>opt (zb Tryz.prog 108 l 11) fun m=>opt (nb [f] (zl Tryz.prog 3 m f d)) fun b=>opt (ve a) fun n=>opt (zb Tryz.prog 108 n 13) fun o=>opt (zd Tryz.prog 3 o b) fun g=>opt (ve a) fun p=>opt (zb Tryz.prog 108 p 11) fun q=>opt (zd Tryz.prog 3 q b) fun h=>xZ (nb [g,h] (zn Tryz.prog .max [3,3] 3 [g,h] b)) fun i _=>opt (ve a) fun r=>opt (zb Tryz.prog 108 r 13) fun s=>opt (nb [i] (zl Tryz.prog 3 s i b)) fun t=>rv [.bool true] t R
def A7:=fun (h:za) a b (R:Value->za->Prop)=>
 opt (ve a) fun f=>opt (zb Tryz.prog 108 f 12) fun g=>opt (zd Tryz.prog 3 g h) fun c=>opt (ve a) fun i=>opt (zb Tryz.prog 108 i 11) fun j=>opt (zd Tryz.prog 3 j h) fun d=>opt (nb [c,d] (ze Tryz.prog .sub 3 (.tmp 9) (.tmp 13) c d)) fun e=>opt (nb [b,e] (ze Tryz.prog .gtr 3 (.tmp 5) (.tmp 14) b e)) fun k=>CD k (rX a h R)
 (fun l=>l [.bool false] h)
 (rY a b R)
theorem DZ (h:za) (t0 t1:Value) (R:Value->za->Prop):WT Tryz.prog (v7 Tryz.prog qs) 200 84 [t0,t1] h R=A7 h t0 t1 R:=by kernel_rfl
theorem D0 {h:za} {t0 t1:Value} {R:Value->za->Prop} (hw:A7 h t0 t1 R):DC Tryz.prog 84 [t0,t1] h R:=yP mixed (n:=200) (by rw [DZ];exact hw)
def fu:=fun b (a:za) c d (R:Value->za->Prop) (s:List Value->za->Prop)=>
 opt (ve b) fun e=>opt (zb Tryz.prog 108 e 2) fun f=>opt (zd Tryz.prog 104 f a) fun g=>opt (zb Tryz.prog 50 c 3) fun h=>opt (zd Tryz.prog 3 h a) fun i=>opt (zd Tryz.prog 64 d a) fun j=>opt (zb Tryz.prog 50 c 1) fun k=>opt (zd Tryz.prog 3 k a) fun l=>opt (ve b) fun m=>opt (zb Tryz.prog 108 m 7) fun n=>opt (zA Tryz.prog 65 n l) fun o=>opt (zd Tryz.prog 64 o a) fun p=>YI Tryz.prog 107 [g,i,j,p] a (fun q r=>rv [q] r R)
def fw:=fun c d (R:Value->za->Prop) a (e:za)=>
 opt (YW a 0) fun b=>opt (YW a 1) fun f=>opt (ve c) fun g=>opt (zb Tryz.prog 108 g 7) fun h=>opt (zA Tryz.prog 65 h d) fun i=>opt (nb [b] (zl Tryz.prog 64 i b e)) fun j=>rv [f] j R
def fy:=fun b c d (R:Value->za->Prop) (m:List Value) (a:za)=>
 opt (zb Tryz.prog 50 b 1) fun e=>opt (zd Tryz.prog 3 e a) fun f=>opt (ve c) fun g=>opt (zb Tryz.prog 108 g 2) fun h=>opt (zd Tryz.prog 104 h a) fun i=>opt (zb Tryz.prog 50 b 3) fun j=>opt (zd Tryz.prog 3 j a) fun k=>opt (zd Tryz.prog 64 d a) fun l=>gG Tryz.prog 108 [i,k,l] a (fw c f R)
def KQ:=fun a c d (R:Value->za->Prop) f (j:Value) (b:za)=>
 opt (zb Tryz.prog 50 a 0) fun g=>opt (zd Tryz.prog 3 g b) fun e=>opt (nb [e,.int .i64 4] (ze Tryz.prog .eql 3 (.tmp 35) (.const (.int .i64 4)) e (.int .i64 4))) fun h=>CD h (fu c b a d R)
 (fun i=>i [nth f 0] b)
 (fy a c d R)
def fA:=fun a c d (R:Value->za->Prop) e (b:za)=>
 opt (zb Tryz.prog 64 a 2) fun f=>opt (zd Tryz.prog 3 f b) fun g=>opt (zb Tryz.prog 64 a 1) fun h=>opt (zd Tryz.prog 2 h b) fun i=>zO Tryz.prog (.func (.func 92) #[] #[]) [c,.int .i64 2,g,i] b (KQ d c a R e)
def V2:=fun b (R:Value->za->Prop) g h i c (d:za)=>
 GD b false (fun j=>opt (nb [c,.int .i64 2] (ze Tryz.prog .neq 3 (.tmp 25) (.const (.int .i64 2)) c (.int .i64 2))) fun a=>j a d) (fun a e=>opt (pk b (.bool true) a) fun k=>CD k (fun f=>rv [.bool false] e R)
 (fun f=>f [.bool false] e)
 (fA g h i R)) d
def fB:=fun (h:za) (R:Value->za->Prop) i j e=>
 opt (YW e 0) fun f=>opt (YW e 1) fun k=>opt (wY Tryz.prog 64) fun l=>nw h (Value.cells l).toList 64 fun a m=>opt (nb [f] (zl Tryz.prog 64 a f m)) fun g=>opt (JR Tryz.prog .not k) fun b=>GD b false (fun n=>opt (zb Tryz.prog 64 a 0) fun c=>n c g) (fun c d=>GD b false (fun o=>opt (zd Tryz.prog 3 c d) fun p=>o p d) (V2 b R a i j) d) g
def ft:=fun (h:za) c d (R:Value->za->Prop)=>
 opt (nb [d] (some (Value.cells d).toList)) fun e=>nw h e 50 fun b a=>opt (zb Tryz.prog 50 b 2) fun f=>opt (zd Tryz.prog 3 f a) fun g=>opt (ve c) fun i=>opt (zb Tryz.prog 108 i 7) fun j=>opt (zA Tryz.prog 65 j g) fun k=>opt (zd Tryz.prog 64 k a) fun l=>opt (zb Tryz.prog 50 b 6) fun m=>opt (zd Tryz.prog 2 m a) fun n=>ZQ Tryz.prog 64 [n] a (fun o=>ZQ Tryz.prog 91 [.int .i64 11,l,o] a (fB a R c b))
theorem rM (h:za) (t0 t1:Value) (R:Value->za->Prop):WT Tryz.prog (v7 Tryz.prog qs) 200 85 [t0,t1] h R=ft h t0 t1 R:=by kernel_rfl
theorem rN {h:za} {t0 t1:Value} {R:Value->za->Prop} (hw:ft h t0 t1 R):DC Tryz.prog 85 [t0,t1] h R:=yP mixed (n:=200) (by rw [rM];exact hw)
def CO:=fun f g (R:Value->za->Prop) a (h:za)=>
 opt (YW a 0) fun b=>opt (YW a 1) fun i=>opt (wY Tryz.prog 64) fun j=>nw h (Value.cells j).toList 64 fun c k=>opt (nb [b] (zl Tryz.prog 64 c b k)) fun d=>opt (zd Tryz.prog 64 c d) fun e=>opt (ve f) fun l=>opt (zb Tryz.prog 108 l 7) fun m=>opt (zA Tryz.prog 65 m g) fun n=>opt (nb [e] (zl Tryz.prog 64 n e d)) fun o=>rv [i] o R
def FV:=fun (h:za) d e f b c (R:Value->za->Prop)=>
 opt (nb [b] (some (Value.cells b).toList)) fun g=>nw h g 64 fun i j=>opt (nb [c] (some (Value.cells c).toList)) fun k=>nw j k 64 fun l a=>opt (zd Tryz.prog 64 i a) fun m=>opt (zd Tryz.prog 64 l a) fun n=>zO Tryz.prog (.func (.func 91) #[] #[]) [e,m,n] a (CO d f R)
theorem FW (h:za) (t0 t1 t2 t3 t4:Value) (R:Value->za->Prop):WT Tryz.prog (v7 Tryz.prog qs) 200 86 [t0,t1,t2,t3,t4] h R=FV h t0 t1 t2 t3 t4 R:=by kernel_rfl
theorem FX {h:za} {t0 t1 t2 t3 t4:Value} {R:Value->za->Prop} (hw:FV h t0 t1 t2 t3 t4 R):DC Tryz.prog 86 [t0,t1,t2,t3,t4] h R:=yP mixed (n:=200) (by rw [FW];exact hw)
def Ga:=fun f g (R:Value->za->Prop) a (h:za)=>
 opt (YW a 0) fun b=>opt (YW a 1) fun i=>opt (wY Tryz.prog 64) fun j=>nw h (Value.cells j).toList 64 fun c k=>opt (nb [b] (zl Tryz.prog 64 c b k)) fun d=>opt (zd Tryz.prog 64 c d) fun e=>opt (ve f) fun l=>opt (zb Tryz.prog 108 l 7) fun m=>opt (zA Tryz.prog 65 m g) fun n=>opt (nb [e] (zl Tryz.prog 64 n e d)) fun o=>rv [i] o R
def Mq:=fun (h:za) c d e a (R:Value->za->Prop)=>
 opt (nb [a] (some (Value.cells a).toList)) fun f=>nw h f 64 fun g b=>opt (zd Tryz.prog 64 g b) fun i=>zO Tryz.prog (.func (.func 109) #[] #[]) [d,i] b (Ga c e R)
theorem Im (h:za) (t0 t1 t2 t3:Value) (R:Value->za->Prop):WT Tryz.prog (v7 Tryz.prog qs) 200 88 [t0,t1,t2,t3] h R=Mq h t0 t1 t2 t3 R:=by kernel_rfl
theorem Io {h:za} {t0 t1 t2 t3:Value} {R:Value->za->Prop} (hw:Mq h t0 t1 t2 t3 R):DC Tryz.prog 88 [t0,t1,t2,t3] h R:=yP mixed (n:=200) (by rw [Im];exact hw)
def Bi:=fun (h:za) a (R:Value->za->Prop)=>
 opt (nb [a] (some (Value.cells a).toList)) fun g=>nw h g 64 fun i j=>opt (wY Tryz.prog 64) fun k=>nw j (Value.cells k).toList 64 fun b c=>opt (zb Tryz.prog 64 i 1) fun l=>opt (zd Tryz.prog 2 l c) fun d=>opt (nb [d,.int .u64 63] (ze Tryz.prog .shr 2 (.tmp 4) (.const (.int .u64 63)) d (.int .u64 63))) fun m=>zO Tryz.prog (.func (.func 64) #[] #[]) [m] c (fun e n=>opt (nb [e] (zl Tryz.prog 64 b e n)) fun f=>opt (zd Tryz.prog 64 b f) fun o=>rv [o] f R)
theorem D6 (h:za) (t0:Value) (R:Value->za->Prop):WT Tryz.prog (v7 Tryz.prog qs) 200 89 [t0] h R=Bi h t0 R:=by kernel_rfl
theorem D7 {h:za} {t0:Value} {R:Value->za->Prop} (hw:Bi h t0 R):DC Tryz.prog 89 [t0] h R:=yP mixed (n:=200) (by rw [D6];exact hw)
def KZ:=fun b d e (R:Value->za->Prop) f (c:za)=>
 GD b true (fun g=>zO Tryz.prog (.func (.func 86) #[] #[]) [d,.int .i64 15,.int .i64 2,e,f] c (fun a h=>g a h)) (fun a i=>opt (pk b a (.bool false)) fun j=>rv [j] i R) c
def K0:=fun a e f (R:Value->za->Prop) g (b:za)=>
 GD a true (fun h=>opt (zd Tryz.prog 64 e b) fun c=>h c b) (fun c d=>GD a true (fun i=>opt (zd Tryz.prog 64 f d) fun j=>i j d) (KZ a g c R) d) b
def fQ:=fun b c d (R:Value->za->Prop) (j:List Value) (a:za)=>
 opt (zd Tryz.prog 64 b a) fun g=>opt (zd Tryz.prog 64 c a) fun h=>zO Tryz.prog (.func (.func 86) #[] #[]) [d,.int .i64 14,.int .i64 0,g,h] a (fun e f=>GD e true (fun i=>i d f) (K0 e b c R) f)
def K1:=fun a (b:za) (R:Value->za->Prop) e f g h c=>
 opt (nb [a,c] (ze Tryz.prog .neq 64 (.tmp 29) (.tmp 31) a c)) fun i=>CD i (fun d=>rv [.bool false] b R)
 (fun d=>d [nth e 0] b)
 (fQ f g h R)
def fR:=fun b c (R:Value->za->Prop) d e (k:Value) (a:za)=>
 opt (ve b) fun f=>opt (zb Tryz.prog 108 f 7) fun g=>opt (zA Tryz.prog 65 g (.int .i64 2)) fun h=>opt (zd Tryz.prog 64 h a) fun i=>opt (zd Tryz.prog 64 c a) fun j=>ZQ Tryz.prog 89 [j] a (K1 i a R d c e b)
def fS:=fun b c d (R:Value->za->Prop) e (a:za)=>
 opt (zb Tryz.prog 64 b 1) fun f=>opt (zd Tryz.prog 2 f a) fun g=>opt (zb Tryz.prog 64 c 1) fun h=>opt (zd Tryz.prog 2 h a) fun i=>zO Tryz.prog (.func (.func 92) #[] #[]) [d,.int .i64 3,g,i] a (fR d b R e c)
def V7:=fun b (R:Value->za->Prop) g h i c (d:za)=>
 GD b false (fun j=>opt (nb [c,.int .i64 1] (ze Tryz.prog .neq 3 (.tmp 16) (.const (.int .i64 1)) c (.int .i64 1))) fun a=>j a d) (fun a e=>opt (pk b (.bool true) a) fun k=>CD k (fun f=>rv [.bool false] e R)
 (fun f=>f [.bool false] e)
 (fS g h i R)) d
def fP:=fun (h:za) f g (R:Value->za->Prop)=>
 opt (nb [g] (some (Value.cells g).toList)) fun m=>nw h m 64 fun i j=>opt (ve f) fun n=>opt (zb Tryz.prog 108 n 7) fun o=>opt (zA Tryz.prog 65 o (.int .i64 0)) fun p=>opt (zd Tryz.prog 64 p j) fun k=>opt (wY Tryz.prog 64) fun q=>nw j (Value.cells q).toList 64 fun a r=>opt (nb [k] (zl Tryz.prog 64 a k r)) fun b=>opt (zb Tryz.prog 64 a 0) fun s=>opt (zd Tryz.prog 3 s b) fun l=>opt (nb [l,.int .i64 1] (ze Tryz.prog .neq 3 (.tmp 12) (.const (.int .i64 1)) l (.int .i64 1))) fun c=>GD c false (fun t=>opt (zb Tryz.prog 64 i 0) fun d=>t d b) (fun d e=>GD c false (fun u=>opt (zd Tryz.prog 3 d e) fun v=>u v e) (V7 c R a i f) e) b
theorem rO (h:za) (t0 t1:Value) (R:Value->za->Prop):WT Tryz.prog (v7 Tryz.prog qs) 200 90 [t0,t1] h R=fP h t0 t1 R:=by kernel_rfl
theorem rP {h:za} {t0 t1:Value} {R:Value->za->Prop} (hw:fP h t0 t1 R):DC Tryz.prog 90 [t0,t1] h R:=yP mixed (n:=200) (by rw [rO];exact hw)
def Ba:=fun (h:za) a b c d (R:Value->za->Prop)=>
 opt (ve a) fun j=>opt (zb Tryz.prog 108 j 4) fun k=>opt (zb Tryz.prog 33 k 3) fun l=>opt (zd Tryz.prog 31 l h) fun e=>opt (nb [b,c,d] (xo Tryz.prog 80 [(0,b),(1,c),(2,d)])) fun f=>xZ (nb [f] (xU Tryz.prog 31 1 [(0,f)] h)) fun g m=>xZ (nb [e,g] (zn Tryz.prog .append [31,31] 31 [e,g] m)) fun i n=>opt (ve a) fun o=>opt (zb Tryz.prog 108 o 4) fun p=>opt (zb Tryz.prog 33 p 3) fun q=>opt (nb [i] (zl Tryz.prog 31 q i n)) fun r=>rv [] r R
theorem D2 (h:za) (t0 t1 t2 t3:Value) (R:Value->za->Prop):WT Tryz.prog (v7 Tryz.prog qs) 200 92 [t0,t1,t2,t3] h R=Ba h t0 t1 t2 t3 R:=by kernel_rfl
theorem D3 {h:za} {t0 t1 t2 t3:Value} {R:Value->za->Prop} (hw:Ba h t0 t1 t2 t3 R):DC Tryz.prog 92 [t0,t1,t2,t3] h R:=yP mixed (n:=200) (by rw [D2];exact hw)
def oq:=fun (h:za) a b c (R:Value->za->Prop)=>
 opt (ve a) fun i=>opt (zb Tryz.prog 108 i 4) fun j=>opt (zb Tryz.prog 33 j 2) fun k=>opt (zd Tryz.prog 30 k h) fun d=>opt (nb [b,c] (xo Tryz.prog 85 [(0,b),(1,c)])) fun e=>xZ (nb [e] (xU Tryz.prog 30 1 [(0,e)] h)) fun f l=>xZ (nb [d,f] (zn Tryz.prog .append [30,30] 30 [d,f] l)) fun g m=>opt (ve a) fun n=>opt (zb Tryz.prog 108 n 4) fun o=>opt (zb Tryz.prog 33 o 2) fun p=>opt (nb [g] (zl Tryz.prog 30 p g m)) fun q=>rv [] q R
theorem AX (h:za) (t0 t1 t2:Value) (R:Value->za->Prop):WT Tryz.prog (v7 Tryz.prog qs) 200 96 [t0,t1,t2] h R=oq h t0 t1 t2 R:=by kernel_rfl
theorem AY {h:za} {t0 t1 t2:Value} {R:Value->za->Prop} (hw:oq h t0 t1 t2 R):DC Tryz.prog 96 [t0,t1,t2] h R:=yP mixed (n:=200) (by rw [AX];exact hw)
def mG:=fun f a (R:Value->za->Prop) (n:List Value) (b:za)=>
 opt (zb Tryz.prog 64 f 1) fun c=>opt (zd Tryz.prog 2 c b) fun d=>opt (ve a) fun g=>opt (zb Tryz.prog 108 g 4) fun h=>opt (zb Tryz.prog 33 h 0) fun e=>(Fl 1 e 1 c/\opt (nb [.int .i64 1] (zl Tryz.prog 3 e (.int .i64 1) b)) fun i=>opt (ve a) fun j=>opt (zb Tryz.prog 108 j 4) fun k=>opt (zb Tryz.prog 33 k 1) fun l=>opt (nb [d] (zl Tryz.prog 2 l d i)) fun m=>rv [.bool true] m R)
def mH:=fun c (R:Value->za->Prop) h (d:za)=>
 opt (ve c) fun i=>opt (zb Tryz.prog 108 i 7) fun j=>opt (zA Tryz.prog 65 j (.int .i64 0)) fun k=>opt (zd Tryz.prog 64 k d) fun e=>opt (wY Tryz.prog 64) fun l=>nw d (Value.cells l).toList 64 fun a m=>opt (nb [e] (zl Tryz.prog 64 a e m)) fun b=>opt (zb Tryz.prog 64 a 0) fun n=>opt (zd Tryz.prog 3 n b) fun f=>opt (nb [f,.int .i64 1] (ze Tryz.prog .neq 3 (.tmp 47) (.const (.int .i64 1)) f (.int .i64 1))) fun o=>CD o (fun g=>rv [.bool false] b R)
 (fun g=>g [nth h 0] b)
 (mG a c R)
def mI:=fun a (R:Value->za->Prop) p (q:za)=>
 opt (ve a) fun r=>opt (zb Tryz.prog 108 r 8) fun s=>opt (nb [.bool false] (zl Tryz.prog 4 s (.bool false) q)) fun c=>opt (ve a) fun t=>opt (zb Tryz.prog 108 t 11) fun u=>opt (zd Tryz.prog 3 u c) fun d=>opt (nb [d,.int .i64 8] (ze Tryz.prog .sub 3 (.tmp 17) (.const (.int .i64 8)) d (.int .i64 8))) fun e=>opt (ve a) fun v=>opt (zb Tryz.prog 108 v 11) fun w=>opt (nb [e] (zl Tryz.prog 3 w e c)) fun b=>opt (ve a) fun x=>opt (zb Tryz.prog 108 x 6) fun y=>opt (zd Tryz.prog 106 y b) fun f=>opt (ve a) fun z=>opt (zb Tryz.prog 108 z 6) fun A=>opt (zd Tryz.prog 106 A b) fun g=>xZ (nb [g] (zn Tryz.prog .len [106] 3 [g] b)) fun h _=>opt (nb [h,.int .i64 1] (ze Tryz.prog .sub 3 (.tmp 30) (.const (.int .i64 1)) h (.int .i64 1))) fun i=>opt (nb [f] (cond (HB none && HB (some i)) (GC Tryz.prog 106 f none (some i) b) none)) fun j=>opt (ve a) fun B=>opt (zb Tryz.prog 108 B 6) fun C=>opt (nb [j] (zl Tryz.prog 106 C j b)) fun k=>opt (ve a) fun D=>opt (zb Tryz.prog 108 D 6) fun E=>opt (zd Tryz.prog 106 E k) fun l=>xZ (nb [l] (zn Tryz.prog .len [106] 3 [l] k)) fun m n=>opt (nb [m,.int .i64 0] (ze Tryz.prog .gtr 3 (.tmp 39) (.const (.int .i64 0)) m (.int .i64 0))) fun F=>CD F (fun o=>rv [.bool true] n R)
 (fun o=>o [nth p 0] n)
 (mH a R)
def ov:=fun (h:za) c d (R:Value->za->Prop)=>
 opt (ve d) fun e=>opt (zb Tryz.prog 134 e 2) fun f=>opt (zd Tryz.prog 3 f h) fun a=>opt (nb [a,.int .i64 0] (ze Tryz.prog .neq 3 (.tmp 9) (.const (.int .i64 0)) a (.int .i64 0))) fun g=>CD g (fun b=>rv [.bool false] h R)
 (fun b=>b [.bool false] h)
 (mI c R)
theorem Bb (h:za) (t0 t1:Value) (R:Value->za->Prop):WT Tryz.prog (nD Tryz.prog qs) 200 93 [t0,t1] h R=ov h t0 t1 R:=by kernel_rfl
theorem Bc {h:za} {t0 t1:Value} {R:Value->za->Prop} (hw:ov h t0 t1 R):DC Tryz.prog 93 [t0,t1] h R:=aU mixed (n:=200) (by rw [Bb];exact hw)
def ma:=fun a b (R:Value->za->Prop) (x:Value) (c:za)=>
 opt (ve a) fun i=>opt (zb Tryz.prog 108 i 11) fun j=>opt (zd Tryz.prog 3 j c) fun d=>opt (ve b) fun k=>opt (zb Tryz.prog 134 k 3) fun l=>opt (zd Tryz.prog 3 l c) fun e=>opt (nb [d,e] (ze Tryz.prog .sub 3 (.tmp 38) (.tmp 42) d e)) fun f=>opt (ve a) fun m=>opt (zb Tryz.prog 108 m 11) fun n=>opt (nb [f] (zl Tryz.prog 3 n f c)) fun g=>opt (ve b) fun o=>opt (zb Tryz.prog 134 o 4) fun p=>opt (zd Tryz.prog 64 p g) fun h=>opt (ve a) fun q=>opt (zb Tryz.prog 108 q 7) fun r=>opt (zA Tryz.prog 65 r (.int .i64 4)) fun s=>opt (nb [h] (zl Tryz.prog 64 s h g)) fun t=>opt (ve b) fun u=>opt (zb Tryz.prog 134 u 2) fun v=>opt (nb [.int .i64 0] (zl Tryz.prog 3 v (.int .i64 0) t)) fun w=>rv [.bool true] w R
def mc:=fun b c (R:Value->za->Prop) (j:List Value) (a:za)=>
 opt (ve b) fun d=>opt (zb Tryz.prog 108 d 2) fun e=>opt (zd Tryz.prog 104 e a) fun f=>opt (ve c) fun g=>opt (zb Tryz.prog 134 g 2) fun h=>opt (zd Tryz.prog 3 h a) fun i=>YI Tryz.prog 114 [f,i] a (ma b c R)
def QP:=fun b c (R:Value->za->Prop) h i d (e:za)=>
 GD b false (fun j=>opt (nb [c,d] (ze Tryz.prog .neq 3 (.tmp 21) (.tmp 23) c d)) fun a=>j a e) (fun a f=>opt (pk b (.bool true) a) fun k=>CD k (fun g=>rv [.bool false] f R)
 (fun g=>g [.bool false] f)
 (mc h i R)) e
def QQ:=fun a e (R:Value->za->Prop) f g h (d:za)=>
 GD a false (fun i=>opt (zb Tryz.prog 50 e 6) fun b=>i b d) (fun b c=>GD a false (fun j=>opt (zd Tryz.prog 2 b c) fun k=>j k c) (QP a h R f g) c) d
def QR:=fun a e (R:Value->za->Prop) f g h (d:za)=>
 GD a false (fun i=>opt (zb Tryz.prog 134 h 3) fun b=>i b d) (fun b c=>GD a false (fun j=>opt (zd Tryz.prog 3 b c) fun k=>j k c) (QQ a e R f g) c) d
def me:=fun a (b:za) f (R:Value->za->Prop) g (n:List Value->za->Prop)=>
 opt (ve a) fun h=>opt (zb Tryz.prog 134 h 2) fun i=>opt (zd Tryz.prog 3 i b) fun d=>opt (nb [d,.int .i64 0] (ze Tryz.prog .eql 3 (.tmp 15) (.const (.int .i64 0)) d (.int .i64 0))) fun c=>GD c false (fun j=>j a b) (fun k e=>GD c false (fun l=>opt (ve k) fun m=>l m e) (QR c f R g a) e) b
def mf:=fun c (d:za) a (R:Value->za->Prop) b=>
 opt (ve c) fun e=>opt (zb Tryz.prog 108 e 7) fun f=>opt (zA Tryz.prog 65 f (.int .i64 4)) fun g=>opt (nb [b] (zl Tryz.prog 64 g b d)) fun h=>opt (nb [a,.int .i64 0] (ze Tryz.prog .eql 34 (.tmp 100) (.const (.int .i64 0)) a (.int .i64 0))) fun i=>rv [i] h R
def mg:=fun k d a (R:Value->za->Prop) e (b:za)=>
 opt (YW e 0) fun c=>opt (YW e 1) fun l=>opt (zb Tryz.prog 50 k 6) fun f=>opt (zd Tryz.prog 2 f b) fun g=>opt (ve d) fun m=>opt (zb Tryz.prog 108 m 7) fun n=>opt (zA Tryz.prog 65 n (.int .i64 4)) fun o=>opt (zd Tryz.prog 64 o b) fun h=>opt (ve a) fun p=>opt (zb Tryz.prog 134 p 2) fun i=>(Fl 1 i 1 f/\opt (nb [c] (zl Tryz.prog 3 i c b)) fun q=>opt (ve a) fun r=>opt (zb Tryz.prog 134 r 3) fun s=>opt (nb [g] (zl Tryz.prog 3 s g q)) fun t=>opt (ve a) fun u=>opt (zb Tryz.prog 134 u 4) fun v=>opt (nb [h] (zl Tryz.prog 64 v h t)) fun j=>ZQ Tryz.prog 87 [c,.int .i64 0] j (mf d j l R))
def mi:=fun b c d (R:Value->za->Prop) (j:List Value) (a:za)=>
 opt (ve b) fun e=>opt (zb Tryz.prog 108 e 2) fun f=>opt (zd Tryz.prog 104 f a) fun g=>opt (zb Tryz.prog 50 c 6) fun h=>opt (zd Tryz.prog 2 h a) fun i=>YI Tryz.prog 62 [g,i] a (mg c b d R)
def fW:=fun a b (R:Value->za->Prop) f g (c:za)=>
 opt (zb Tryz.prog 50 a 6) fun h=>opt (zd Tryz.prog 2 h c) fun i=>zO Tryz.prog (.func (.func 84) #[] #[]) [b,i] c (fun j d=>opt (JR Tryz.prog .not j) fun k=>CD k (fun e=>rv [.bool true] d R)
 (fun e=>e [nth g 0] d)
 (mi b a f R))
def fX:=fun b (R:Value->za->Prop) e f g (a:za)=>
 opt (ve b) fun h=>opt (zb Tryz.prog 134 h 2) fun i=>opt (zd Tryz.prog 3 i a) fun c=>opt (nb [c,.int .i64 0] (ze Tryz.prog .neq 3 (.tmp 60) (.const (.int .i64 0)) c (.int .i64 0))) fun j=>CD j (fun d=>rv [.bool false] a R)
 (fun d=>d [nth g 0] a)
 (fW e f R b)
def ou:=fun (h:za) c d e (R:Value->za->Prop)=>
 opt (nb [e] (some (Value.cells e).toList)) fun g=>nw h g 50 fun a b=>opt (zb Tryz.prog 50 a 0) fun i=>opt (zd Tryz.prog 3 i b) fun f=>opt (nb [f,.int .i64 24] (ze Tryz.prog .eql 3 (.tmp 10) (.const (.int .i64 24)) f (.int .i64 24))) fun j=>CD j (me d b a R c)
 (fun k=>k [.bool false] b)
 (fX d R a c)
theorem A5 (h:za) (t0 t1 t2:Value) (R:Value->za->Prop):WT Tryz.prog (nD Tryz.prog qs) 200 94 [t0,t1,t2] h R=ou h t0 t1 t2 R:=by kernel_rfl
theorem A6 {h:za} {t0 t1 t2:Value} {R:Value->za->Prop} (hw:ou h t0 t1 t2 R):DC Tryz.prog 94 [t0,t1,t2] h R:=aU mixed (n:=200) (by rw [A5];exact hw)
end Go.As
