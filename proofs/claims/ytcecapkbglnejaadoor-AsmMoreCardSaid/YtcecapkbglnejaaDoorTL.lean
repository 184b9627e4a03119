/- A part of the proof. -/
import Derived.Test.YtcecapkbglnejaaDoorChecked
import Derived.KernelRfl
import Derived.Test.YtcecapkbglnejaaDoorTH
import Derived.Test.YtcecapkbglnejaaDoorTI
set_option linter.unusedVariables false
set_option linter.unusedSimpArgs false
set_option maxRecDepth 100000
namespace Go.As
open Go.Ai Go.Proofs
def qs:FuncId->Nat:=fun g=>[0,0,0,0,0,0,0,0,0,0,0,0,0,0,0,0,0,0,0,0,0,0,0,0,0,0,0,0,0,0,0,0,0,0,0,0,0,0,0,0,0,0,3,3,0,0,2,0,0,0,0,0,0,0,0,0,0,0,0,0,0,0,0,0,0,2,0,2,0,2,0,0,0,0,0,0,0,0,0,0,0,0,0,0,0,0,0,0,3,2].getD g 0
theorem mixed:Tryd.prog.follows .mixedOrders=true:=Checked.mixed Tryd.checked
def Uc:=fun c (R:Value->za->Prop) d (e:List Value->za->Prop) f (a:za)=>
 opt (pk c (.bool true) f) fun g=>CD g (fun b=>rv [.bool false] a R)
 (fun b=>b [nth d 0] a)
 (fun h i=>e [nth h 0] i)
def Ud:=fun a (R:Value->za->Prop) d (e:List Value->za->Prop) b (c:za)=>
 GD a false (fun f=>opt (nb [b,.int .i64 65536] (zf Tryd.prog .gtr 3 (.tmp 50) (.const (.int .i64 65536)) b (.int .i64 65536))) fun g=>f g c) (Uc a R d e) c
def Ue:=fun e c (a:za) (R:Value->za->Prop) (f:List Value->za->Prop)=>
 opt (zA Tryd.prog 22 e (nth c 1)) fun g=>opt (zd Tryd.prog 3 g a) fun b=>opt (nb [b,.int .i64 0] (zf Tryd.prog .lss 3 (.tmp 47) (.const (.int .i64 0)) b (.int .i64 0))) fun d=>GD d false (fun h=>h b a) (Ud d R c f) a
def i3:=fun a (b:List Value->za->Prop) c (d:za)=>
 opt (nb [nth a 1,.int .i64 1] (zf Tryd.prog .add 3 (.tmp 43) (.const (.int .i64 1)) (nth a 1) (.int .i64 1))) fun e=>b [nth c 0,e] d
def i5:=fun b (e:List Value->za->Prop) f (R:Value->za->Prop) a (c:za) (g:List Value->za->Prop)=>
 opt (nb [nth a 1,b] (zf Tryd.prog .lss 3 (.tmp 43) (.tmp 42) (nth a 1) b)) fun h=>CD h (fun d=>d [] c)
 (fun d=>e [nth a 0] c)
 (fun j i=>BK (Ue f a i R)
 (i3 a g))
def Jh:=fun (R:Value->za->Prop) c (d:List Value->za->Prop) e (a:za)=>
 opt (KE Tryd.prog .not e) fun f=>CD f (fun b=>rv [.bool false] a R)
 (fun b=>b [nth c 0] a)
 (fun g h=>d [nth g 0] h)
def i7:=fun f b (c:za) g (R:Value->za->Prop) (h:List Value->za->Prop)=>
 opt (zA Tryd.prog 23 f (nth b 1)) fun i=>opt (zd Tryd.prog 49 i c) fun d=>opt (xP Tryd.prog 49) fun j=>nw c (Value.cells j).toList 49 fun e k=>opt (nb [d] (zk Tryd.prog 49 e d k)) fun a=>opt (zd Tryd.prog 25 g a) fun l=>opt (zd Tryd.prog 49 e a) fun m=>zR Tryd.prog (.func (.func 26) #[] #[]) [l,m] a (Jh R b h)
def i9:=fun a (b:List Value->za->Prop) c (d:za)=>
 opt (nb [nth a 1,.int .i64 1] (zf Tryd.prog .add 3 (.tmp 57) (.const (.int .i64 1)) (nth a 1) (.int .i64 1))) fun e=>b [nth c 0,e] d
def la:=fun b (e:List Value->za->Prop) f g (R:Value->za->Prop) a (c:za) (h:List Value->za->Prop)=>
 opt (nb [nth a 1,b] (zf Tryd.prog .lss 3 (.tmp 57) (.tmp 56) (nth a 1) b)) fun i=>CD i (fun d=>d [] c)
 (fun d=>e [nth a 0] c)
 (fun k j=>BK (i7 f a j g R)
 (i9 a h))
def U9:=fun b (R:Value->za->Prop) d (c:za)=>
 opt (zb Tryd.prog 25 b 1) fun e=>opt (zd Tryd.prog 23 e c) fun a=>xA (nb [a] (zo Tryd.prog .len [23] 3 [a] c)) fun f g=>BK (fun h=>LP (la f h a b R)
 [nth d 0,.int .i64 0] g)
 (fun j i=>rv [.bool true] i R)
def Qa:=fun b (R:Value->za->Prop) d (c:za)=>
 opt (zb Tryd.prog 25 b 0) fun e=>opt (zd Tryd.prog 22 e c) fun a=>xA (nb [a] (zo Tryd.prog .len [22] 3 [a] c)) fun f g=>BK (fun h=>LP (i5 f h a R)
 [nth d 0,.int .i64 0] g)
 (U9 b R)
def kI:=fun b (R:Value->za->Prop) g c (d:za)=>
 GD b false (fun h=>opt (nb [c,.int .i64 6] (zf Tryd.prog .gtr 3 (.tmp 37) (.const (.int .i64 6)) c (.int .i64 6))) fun a=>h a d) (fun a e=>opt (pk b (.bool true) a) fun i=>CD i (fun f=>rv [.bool false] e R)
 (fun f=>f [.bool false] e)
 (Qa g R)) d
def kJ:=fun f d (R:Value->za->Prop) g (e:za)=>
 opt (pk f (.bool true) g) fun a=>GD a false (fun h=>opt (zb Tryd.prog 25 d 3) fun b=>h b e) (fun b c=>GD a false (fun i=>opt (zd Tryd.prog 3 b c) fun j=>i j c) (kI a R d) c) e
def kK:=fun a d (R:Value->za->Prop) b (c:za)=>
 GD a false (fun e=>opt (nb [b,.int .i64 0] (zf Tryd.prog .lss 3 (.tmp 32) (.const (.int .i64 0)) b (.int .i64 0))) fun f=>e f c) (kJ a d R) c
def kL:=fun f d (R:Value->za->Prop) g (e:za)=>
 opt (pk f (.bool true) g) fun a=>GD a false (fun h=>opt (zb Tryd.prog 25 d 3) fun b=>h b e) (fun b c=>GD a false (fun i=>opt (zd Tryd.prog 3 b c) fun j=>i j c) (kK a d R) c) e
def kM:=fun a d (R:Value->za->Prop) b (c:za)=>
 GD a false (fun e=>opt (nb [b,.int .i64 200] (zf Tryd.prog .gtr 3 (.tmp 27) (.const (.int .i64 200)) b (.int .i64 200))) fun f=>e f c) (kL a d R) c
def kN:=fun b e (R:Value->za->Prop) f (c:za)=>
 GD b false (fun g=>opt (zd Tryd.prog 22 f c) fun a=>g a c) (fun a d=>GD b false (fun h=>xA (nb [a] (zo Tryd.prog .len [22] 3 [a] d)) fun i j=>h i j) (kM b e R) d) c
def kO:=fun b c (R:Value->za->Prop) d (e:za)=>
 GD b false (fun h=>opt (nb [d,.int .i64 100] (zf Tryd.prog .gtr 3 (.tmp 21) (.const (.int .i64 100)) d (.int .i64 100))) fun a=>h a e) (fun a f=>opt (pk b (.bool true) a) fun g=>GD g false (fun i=>opt (zb Tryd.prog 25 c 0) fun j=>i j f) (kN g c R) f) e
def kP:=fun b e (R:Value->za->Prop) f (c:za)=>
 GD b false (fun g=>opt (zd Tryd.prog 23 f c) fun a=>g a c) (fun a d=>GD b false (fun h=>xA (nb [a] (zo Tryd.prog .len [23] 3 [a] d)) fun i j=>h i j) (kO b e R) d) c
def kQ:=fun b c d (R:Value->za->Prop) e (f:za)=>
 GD b false (fun i=>opt (nb [c,e] (zf Tryd.prog .geq 3 (.tmp 12) (.tmp 15) c e)) fun a=>i a f) (fun a g=>opt (pk b (.bool true) a) fun h=>GD h false (fun j=>opt (zb Tryd.prog 25 d 1) fun k=>j k g) (kP h d R) g) f
def kR:=fun b e f (R:Value->za->Prop) g (c:za)=>
 GD b false (fun h=>opt (zd Tryd.prog 23 g c) fun a=>h a c) (fun a d=>GD b false (fun i=>xA (nb [a] (zo Tryd.prog .len [23] 3 [a] d)) fun j k=>i j k) (kQ b e f R) d) c
def kS:=fun a d (R:Value->za->Prop) f (b:za)=>
 GD a false (fun g=>opt (zd Tryd.prog 3 f b) fun c=>g c b) (fun c e=>GD a false (fun h=>opt (zb Tryd.prog 25 d 1) fun i=>h i e) (kR a c d R) e) b
def nW:=fun (h:za) c (R:Value->za->Prop)=>
 opt (nb [c] (some (Value.cells c).toList)) fun f=>nw h f 25 fun a b=>opt (zb Tryd.prog 25 a 2) fun g=>opt (zd Tryd.prog 3 g b) fun d=>opt (nb [d,.int .i64 0] (zf Tryd.prog .lss 3 (.tmp 8) (.const (.int .i64 0)) d (.int .i64 0))) fun e=>GD e false (fun i=>opt (zb Tryd.prog 25 a 2) fun j=>i j b) (kS e a R) b
theorem tw (h:za) (t0:Value) (R:Value->za->Prop):X2 Tryd.prog (vG Tryd.prog qs) 200 16 [t0] h R=nW h t0 R:=by kernel_rfl
theorem tz {h:za} {t0:Value} {R:Value->za->Prop} (hw:nW h t0 R):DC Tryd.prog 16 [t0] h R:=xw mixed (n:=200) (by rw [tw];exact hw)
def Ui:=fun d (a:za) (e:List Value->za->Prop) f g (b:za)=>
 opt (zb Tryd.prog 51 d 5) fun h=>opt (zd Tryd.prog 3 h b) fun c=>opt (nb [(wx a).1,c,.bool true] (uL Tryd.prog 90 (wx a).1 c (.bool true) b)) fun i=>e [nth g 0,nth f 0] i
def Uj:=fun c (b:za) (R:Value->za->Prop) f (g:List Value->za->Prop) h (a:za)=>
 opt (zb Tryd.prog 51 c 5) fun i=>opt (zd Tryd.prog 3 i a) fun d=>opt (nb [(wx b).1,d] (kg Tryd.prog 90 (wx b).1 d false a)) fun j=>CD j (fun e=>rv [.bool false] a R)
 (fun e=>e [nth f 0] a)
 (Ui c b g h)
def Uk:=fun b (c:List Value->za->Prop) g (h:za) (R:Value->za->Prop) d (a:za)=>
 opt (zb Tryd.prog 51 b 0) fun i=>opt (zd Tryd.prog 3 i a) fun e=>opt (nb [e,.int .i64 20] (zf Tryd.prog .neq 3 (.tmp 29) (.const (.int .i64 20)) e (.int .i64 20))) fun j=>CD j (fun f=>c [nth d 0,.bool true] a)
 (fun f=>f [nth g 1] a)
 (Uj b h R d c)
def Ul:=fun h a (d:za) i (R:Value->za->Prop) (j:za) (k:List Value->za->Prop)=>
 opt (zA Tryd.prog 47 h (nth a 2)) fun l=>opt (zd Tryd.prog 51 l d) fun e=>opt (xP Tryd.prog 51) fun m=>nw d (Value.cells m).toList 51 fun b n=>opt (nb [e] (zk Tryd.prog 51 b e n)) fun c=>opt (zd Tryd.prog 51 b c) fun o=>opt (zb Tryd.prog 25 i 0) fun p=>opt (zd Tryd.prog 22 p c) fun q=>zR Tryd.prog (.func (.func 38) #[] #[]) [o,q] c (fun r f=>opt (KE Tryd.prog .not r) fun s=>CD s (fun g=>rv [.bool false] f R)
 (fun g=>g [nth a 0] f)
 (Uk b k a j R))
def Xp:=fun a (c:List Value->za->Prop) b (d:za)=>
 opt (nb [nth a 2,.int .i64 1] (zf Tryd.prog .add 3 (.tmp 19) (.const (.int .i64 1)) (nth a 2) (.int .i64 1))) fun e=>c [nth b 0,nth b 1,e] d
def Um:=fun b (e:List Value->za->Prop) f g (R:Value->za->Prop) (h:za) a (c:za) (i:List Value->za->Prop)=>
 opt (nb [nth a 2,b] (zf Tryd.prog .lss 3 (.tmp 19) (.tmp 18) (nth a 2) b)) fun j=>CD j (fun d=>d [] c)
 (fun d=>e [nth a 0,nth a 1] c)
 (fun l k=>BK (Ul f a k g R h)
 (Xp a i))
def u5:=fun c (R:Value->za->Prop) d (e:List Value->za->Prop) f (a:za)=>
 opt (pk c f (.bool false)) fun g=>CD g (fun b=>rv [.bool false] a R)
 (fun b=>b [nth d 0] a)
 (fun h i=>e [nth h 0] i)
def u6:=fun b c d (R:Value->za->Prop) h (i:List Value->za->Prop) e (f:za)=>
 GD b false (fun j=>opt (nb [c,e] (zf Tryd.prog .geq 3 (.tmp 72) (.tmp 75) c e)) fun a=>j a f) (fun a g=>GD d true (fun k=>opt (pk b (.bool true) a) fun l=>k l g) (u5 d R h i) g) f
def u7:=fun b e f (R:Value->za->Prop) g (h:List Value->za->Prop) i (c:za)=>
 GD b false (fun j=>opt (zd Tryd.prog 23 i c) fun a=>j a c) (fun a d=>GD b false (fun k=>xA (nb [a] (zo Tryd.prog .len [23] 3 [a] d)) fun l m=>k l m) (u6 b e f R g h) d) c
def uu:=fun a e f (R:Value->za->Prop) g (h:List Value->za->Prop) i (b:za)=>
 GD a false (fun j=>opt (zd Tryd.prog 3 i b) fun c=>j c b) (fun c d=>GD a false (fun k=>opt (zb Tryd.prog 25 e 1) fun l=>k l d) (u7 a c f R g h) d) b
def uv:=fun a e f (R:Value->za->Prop) g (h:List Value->za->Prop) i (b:za)=>
 GD a true (fun j=>j i b) (fun c d=>GD c false (fun k=>opt (zb Tryd.prog 51 e 3) fun l=>k l d) (uu c f a R g h) d) b
def uw:=fun a d e (R:Value->za->Prop) f (g:List Value->za->Prop) b (c:za)=>
 GD a true (fun h=>opt (nb [b,.int .i64 0] (zf Tryd.prog .lss 3 (.tmp 68) (.const (.int .i64 0)) b (.int .i64 0))) fun i=>h i c) (uv a d e R f g) c
def ux:=fun a (b:za) g (R:Value->za->Prop) h (i:List Value->za->Prop)=>
 opt (zb Tryd.prog 51 a 0) fun j=>opt (zd Tryd.prog 3 j b) fun f=>opt (nb [f,.int .i64 21] (zf Tryd.prog .eql 3 (.tmp 64) (.const (.int .i64 21)) f (.int .i64 21))) fun c=>GD c true (fun k=>opt (zb Tryd.prog 51 a 3) fun d=>k d b) (fun d e=>GD c true (fun l=>opt (zd Tryd.prog 3 d e) fun m=>l m e) (uw c a g R h i) e) b
def uy:=fun b (R:Value->za->Prop) c d e (f:List Value->za->Prop) g (a:za)=>
 opt (pk b g (.bool false)) fun h=>CD h (fun k=>rv [.bool false] a R)
 (ux c a d R e)
 (fun i j=>f [nth i 0] j)
def uz:=fun a d (R:Value->za->Prop) g h i (j:List Value->za->Prop) e (b:za)=>
 GD a true (fun k=>opt (nb [d,e] (kg Tryd.prog 90 d e false b)) fun c=>k c b) (fun c f=>GD a true (fun l=>opt (KE Tryd.prog .not c) fun m=>l m f) (uy a R g h i j) f) b
def uA:=fun a d (R:Value->za->Prop) f g (h:List Value->za->Prop) i (e:za)=>
 GD a true (fun j=>opt (zb Tryd.prog 51 d 5) fun b=>j b e) (fun b c=>GD a true (fun k=>opt (zd Tryd.prog 3 b c) fun l=>k l c) (uz a i R d f g h) c) e
def uB:=fun b (g:za) h (R:Value->za->Prop) i j (k:List Value->za->Prop) c (d:za)=>
 GD b false (fun l=>opt (nb [c,.int .i64 19] (zf Tryd.prog .eql 3 (.tmp 52) (.const (.int .i64 19)) c (.int .i64 19))) fun a=>l a d) (fun a e=>opt (pk b (.bool true) a) fun f=>GD f true (fun m=>m (wx g).1 e) (uA f h R i j k) e) d
def uC:=fun a (b g:za) (R:Value->za->Prop) h i (j:List Value->za->Prop)=>
 opt (zb Tryd.prog 51 a 0) fun k=>opt (zd Tryd.prog 3 k b) fun f=>opt (nb [f,.int .i64 18] (zf Tryd.prog .eql 3 (.tmp 48) (.const (.int .i64 18)) f (.int .i64 18))) fun c=>GD c false (fun l=>opt (zb Tryd.prog 51 a 0) fun d=>l d b) (fun d e=>GD c false (fun m=>opt (zd Tryd.prog 3 d e) fun n=>m n e) (uB c g a R h i j) e) b
def W9:=fun e a (b f:za) (R:Value->za->Prop) g (h:List Value->za->Prop)=>
 opt (zA Tryd.prog 47 e (nth a 1)) fun i=>opt (zd Tryd.prog 51 i b) fun c=>opt (xP Tryd.prog 51) fun j=>nw b (Value.cells j).toList 51 fun d k=>opt (nb [c] (zk Tryd.prog 51 d c k)) fun l=>BK (uC d l f R g a)
 (fun m n=>h [nth m 0] n)
def q8:=fun a (b:List Value->za->Prop) c (d:za)=>
 opt (nb [nth a 1,.int .i64 1] (zf Tryd.prog .add 3 (.tmp 42) (.const (.int .i64 1)) (nth a 1) (.int .i64 1))) fun e=>b [nth c 0,e] d
def Va:=fun b (e:List Value->za->Prop) f (g:za) (R:Value->za->Prop) h a (c:za) (i:List Value->za->Prop)=>
 opt (nb [nth a 1,b] (zf Tryd.prog .lss 3 (.tmp 42) (.tmp 41) (nth a 1) b)) fun j=>CD j (fun d=>d [] c)
 (fun d=>e [nth a 0] c)
 (fun l k=>BK (W9 f a k g R h)
 (q8 a i))
def Vb:=fun d (e:za) (R:Value->za->Prop) f b (c:za)=>
 opt (zb Tryd.prog 49 d 1) fun g=>opt (zd Tryd.prog 47 g c) fun a=>xA (nb [a] (zo Tryd.prog .len [47] 3 [a] c)) fun h i=>BK (fun j=>LP (Va h j a e R f)
 [nth b 0,.int .i64 0] i)
 (fun l k=>rv [nth b 1] k R)
def Vc:=fun c d (R:Value->za->Prop) e (a:za)=>
 opt (zb Tryd.prog 49 c 1) fun f=>opt (zd Tryd.prog 47 f (wx a).2) fun b=>xA (nb [b] (zo Tryd.prog .len [47] 3 [b] (wx a).2)) fun g h=>BK (fun i=>LP (Um g i b d R a)
 [nth e 0,.bool false,.int .i64 0] h)
 (Vb c a R d)
def VA:=fun (h:za) a b (R:Value->za->Prop)=>
 opt (nb [a] (some (Value.cells a).toList)) fun j=>nw h j 25 fun k l=>opt (nb [b] (some (Value.cells b).toList)) fun m=>nw l m 49 fun c d=>opt (zb Tryd.prog 49 c 1) fun n=>opt (zd Tryd.prog 47 n d) fun e=>xA (nb [e] (zo Tryd.prog .len [47] 3 [e] d)) fun f g=>opt (nb [f,.int .i64 100000] (zf Tryd.prog .gtr 3 (.tmp 13) (.const (.int .i64 100000)) f (.int .i64 100000))) fun o=>CD o (fun i=>rv [.bool false] g R)
 (fun i=>i [.bool false] g)
 (Vc c k R)
theorem cK (h:za) (t0 t1:Value) (R:Value->za->Prop):X2 Tryd.prog (vG Tryd.prog qs) 200 26 [t0,t1] h R=VA h t0 t1 R:=by kernel_rfl
theorem cL {h:za} {t0 t1:Value} {R:Value->za->Prop} (hw:VA h t0 t1 R):DC Tryd.prog 26 [t0,t1] h R:=xw mixed (n:=200) (by rw [cK];exact hw)
def ua:=fun b (R:Value->za->Prop) d (c:za)=>
 GD b true (fun e=>zR Tryd.prog (.func (.func 50) #[] #[]) [d] c (fun a f=>e a f)) (fun a g=>opt (pk b a (.bool false)) fun h=>rv [h] g R) c
def ud:=fun e f (R:Value->za->Prop) g (d:za)=>
 opt (pk e (.bool true) g) fun a=>GD a true (fun h=>opt (zb Tryd.prog 51 f 6) fun b=>h b d) (fun b c=>GD a true (fun i=>opt (zd Tryd.prog 2 b c) fun j=>i j c) (ua a R) c) d
def ui:=fun a d (R:Value->za->Prop) b (c:za)=>
 GD a false (fun e=>opt (nb [b,.int .i64 8] (zf Tryd.prog .eql 3 (.tmp 33) (.const (.int .i64 8)) b (.int .i64 8))) fun f=>e f c) (ud a d R) c
def uk:=fun f d (R:Value->za->Prop) g (e:za)=>
 opt (pk f (.bool true) g) fun a=>GD a false (fun h=>opt (zb Tryd.prog 51 d 3) fun b=>h b e) (fun b c=>GD a false (fun i=>opt (zd Tryd.prog 3 b c) fun j=>i j c) (ui a d R) c) e
def um:=fun a d (R:Value->za->Prop) b (c:za)=>
 GD a false (fun e=>opt (nb [b,.int .i64 4] (zf Tryd.prog .eql 3 (.tmp 28) (.const (.int .i64 4)) b (.int .i64 4))) fun f=>e f c) (uk a d R) c
def kE:=fun b c (R:Value->za->Prop) d (e:za)=>
 GD b true (fun f=>opt (nb [c,d] (zf Tryd.prog .leq 2 (.tmp 66) (.tmp 71) c d)) fun a=>f a e) (fun a g=>opt (pk b a (.bool false)) fun h=>rv [h] g R) e
def kF:=fun a e f (R:Value->za->Prop) g (d:za)=>
 GD a true (fun h=>opt (zA Tryd.prog 22 e g) fun b=>h b d) (fun b c=>GD a true (fun i=>opt (zd Tryd.prog 3 b c) fun j=>i j c) (kE a f R) c) d
def kG:=fun a e f (R:Value->za->Prop) g (d:za)=>
 GD a true (fun h=>opt (zb Tryd.prog 51 e 3) fun b=>h b d) (fun b c=>GD a true (fun i=>opt (zd Tryd.prog 3 b c) fun j=>i j c) (kF a g f R) c) d
def kH:=fun a e f (R:Value->za->Prop) g (b:za)=>
 GD a true (fun h=>opt (zd Tryd.prog 2 g b) fun c=>h c b) (fun c d=>GD a true (fun i=>i e d) (kG a f c R) d) b
def qI:=fun b c h (R:Value->za->Prop) d (e:za)=>
 GD b true (fun i=>opt (nb [d,.int .i64 0] (zf Tryd.prog .geq 2 (.tmp 61) (.const (.int .i64 0)) d (.int .i64 0))) fun a=>i a e) (fun a f=>opt (pk b a (.bool false)) fun g=>GD g true (fun j=>opt (zb Tryd.prog 51 c 6) fun k=>j k f) (kH g h c R) f) e
def qJ:=fun f d g (R:Value->za->Prop) h (e:za)=>
 opt (pk f h (.bool false)) fun a=>GD a true (fun i=>opt (zb Tryd.prog 51 d 6) fun b=>i b e) (fun b c=>GD a true (fun j=>opt (zd Tryd.prog 2 b c) fun k=>j k c) (qI a d g R) c) e
def qK:=fun b d g h (R:Value->za->Prop) e (c:za)=>
 GD b true (fun i=>xA (nb [e] (zo Tryd.prog .len [22] 3 [e] c)) fun a _=>i a c) (fun a f=>GD b true (fun j=>opt (nb [d,a] (zf Tryd.prog .lss 3 (.tmp 54) (.tmp 56) d a)) fun k=>j k f) (qJ b g h R) f) c
def qL:=fun a d f (R:Value->za->Prop) g (b:za)=>
 GD a true (fun h=>opt (zd Tryd.prog 3 g b) fun c=>h c b) (fun c e=>GD a true (fun i=>i d e) (qK a c f d R) e) b
def Xi:=fun b (R:Value->za->Prop) d (c:za)=>
 GD b true (fun e=>zR Tryd.prog (.func (.func 50) #[] #[]) [d] c (fun a f=>e a f)) (fun a g=>opt (pk b a (.bool false)) fun h=>rv [h] g R) c
def Xj:=fun e (R:Value->za->Prop) a (d:za)=>
 GD a true (fun f=>opt (zb Tryd.prog 51 e 6) fun b=>f b d) (fun b c=>GD a true (fun g=>opt (zd Tryd.prog 2 b c) fun h=>g h c) (Xi a R) c) d
def Zv:=fun b (R:Value->za->Prop) c (d:za)=>
 GD b false (fun e=>opt (nb [c,.int .i64 2] (zf Tryd.prog .eql 3 (.tmp 96) (.const (.int .i64 2)) c (.int .i64 2))) fun a=>e a d) (fun a f=>opt (pk b (.bool true) a) fun g=>rv [g] f R) d
def Zw:=fun b (R:Value->za->Prop) c (d:za)=>
 GD b false (fun e=>opt (nb [c,.int .i64 4] (zf Tryd.prog .eql 3 (.tmp 106) (.const (.int .i64 4)) c (.int .i64 4))) fun a=>e a d) (fun a f=>opt (pk b (.bool true) a) fun g=>rv [g] f R) d
def ub:=fun b (R:Value->za->Prop) c (d:za)=>
 GD b true (fun e=>opt (nb [c,.int .i64 63] (zf Tryd.prog .leq 2 (.tmp 126) (.const (.int .i64 63)) c (.int .i64 63))) fun a=>e a d) (fun a f=>opt (pk b a (.bool false)) fun g=>rv [g] f R) d
def uc:=fun e f (R:Value->za->Prop) g (d:za)=>
 opt (pk e g (.bool false)) fun a=>GD a true (fun h=>opt (zb Tryd.prog 51 f 6) fun b=>h b d) (fun b c=>GD a true (fun i=>opt (zd Tryd.prog 2 b c) fun j=>i j c) (ub a R) c) d
def ue:=fun a d (R:Value->za->Prop) b (c:za)=>
 GD a true (fun e=>opt (nb [b,.int .i64 0] (zf Tryd.prog .geq 2 (.tmp 121) (.const (.int .i64 0)) b (.int .i64 0))) fun f=>e f c) (uc a d R) c
def uf:=fun f d (R:Value->za->Prop) g (e:za)=>
 opt (pk f (.bool true) g) fun a=>GD a true (fun h=>opt (zb Tryd.prog 51 d 6) fun b=>h b e) (fun b c=>GD a true (fun i=>opt (zd Tryd.prog 2 b c) fun j=>i j c) (ue a d R) c) e
def ug:=fun a d (R:Value->za->Prop) b (c:za)=>
 GD a false (fun e=>opt (nb [b,.int .i64 20] (zf Tryd.prog .eql 3 (.tmp 116) (.const (.int .i64 20)) b (.int .i64 20))) fun f=>e f c) (uf a d R) c
def Zx:=fun b (R:Value->za->Prop) c (d:za)=>
 GD b false (fun e=>opt (nb [c,.int .i64 20] (zf Tryd.prog .eql 3 (.tmp 136) (.const (.int .i64 20)) c (.int .i64 20))) fun a=>e a d) (fun a f=>opt (pk b (.bool true) a) fun g=>rv [g] f R) d
def Zy:=fun b (R:Value->za->Prop) c (d:za)=>
 GD b true (fun e=>opt (nb [c,.int .i64 10000000] (zf Tryd.prog .leq 3 (.tmp 152) (.const (.int .i64 10000000)) c (.int .i64 10000000))) fun a=>e a d) (fun a f=>opt (pk b a (.bool false)) fun g=>rv [g] f R) d
def u3:=fun b (R:Value->za->Prop) c (d:za)=>
 GD b true (fun e=>opt (nb [c,.int .i64 65536] (zf Tryd.prog .leq 2 (.tmp 163) (.const (.int .i64 65536)) c (.int .i64 65536))) fun a=>e a d) (fun a f=>opt (pk b a (.bool false)) fun g=>rv [g] f R) d
def u4:=fun e (a:za) (R:Value->za->Prop) (k:List Value->za->Prop)=>
 opt (zb Tryd.prog 51 e 6) fun g=>opt (zd Tryd.prog 2 g a) fun f=>opt (nb [f,.int .i64 0] (zf Tryd.prog .geq 2 (.tmp 159) (.const (.int .i64 0)) f (.int .i64 0))) fun b=>GD b true (fun h=>opt (zb Tryd.prog 51 e 6) fun c=>h c a) (fun c d=>GD b true (fun i=>opt (zd Tryd.prog 2 c d) fun j=>i j d) (u3 b R) d) a
def Zz:=fun e (a:za) (R:Value->za->Prop) (k:List Value->za->Prop)=>
 opt (zb Tryd.prog 51 e 5) fun g=>opt (zd Tryd.prog 3 g a) fun f=>opt (nb [f,.int .i64 0] (zf Tryd.prog .geq 3 (.tmp 148) (.const (.int .i64 0)) f (.int .i64 0))) fun b=>GD b true (fun h=>opt (zb Tryd.prog 51 e 5) fun c=>h c a) (fun c d=>GD b true (fun i=>opt (zd Tryd.prog 3 c d) fun j=>i j d) (Zy b R) d) a
def uh:=fun a (c:za) f (R:Value->za->Prop) g (h:List Value->za->Prop)=>
 opt (nb [a,.int .i64 23] (zf Tryd.prog .eql 3 (.tmp 19) (.const (.int .i64 23)) a (.int .i64 23))) fun d=>CD d (fun b=>b [d] c)
 (fun b=>opt (nb [a,.int .i64 24] (zf Tryd.prog .eql 3 (.tmp 19) (.const (.int .i64 24)) a (.int .i64 24))) fun i=>b [i] c)
 (fun j e=>CD (nth j 0) (u4 f e R)
 (fun k=>k [nth g 0] e)
 (fun l m=>h [nth l 0] m))
def Xk:=fun b (a:za) (R:Value->za->Prop) (g:List Value->za->Prop)=>
 opt (zb Tryd.prog 51 b 4) fun c=>opt (zd Tryd.prog 3 c a) fun d=>zR Tryd.prog (.func (.func 52) #[] #[]) [d] a (fun e f=>rv [e] f R)
def wT:=fun a b (c:za) (R:Value->za->Prop) d (e:List Value->za->Prop)=>
 opt (nb [a,.int .i64 20] (zf Tryd.prog .eql 3 (.tmp 19) (.const (.int .i64 20)) a (.int .i64 20))) fun f=>CD f (Zz b c R)
 (uh a c b R d)
 (fun g h=>e [nth g 0] h)
def ZA:=fun e (a:za) (R:Value->za->Prop) (k:List Value->za->Prop)=>
 opt (zb Tryd.prog 51 e 3) fun g=>opt (zd Tryd.prog 3 g a) fun f=>opt (nb [f,.int .i64 19] (zf Tryd.prog .eql 3 (.tmp 132) (.const (.int .i64 19)) f (.int .i64 19))) fun b=>GD b false (fun h=>opt (zb Tryd.prog 51 e 3) fun c=>h c a) (fun c d=>GD b false (fun i=>opt (zd Tryd.prog 3 c d) fun j=>i j d) (Zx b R) d) a
def wk:=fun a (c:za) d (R:Value->za->Prop) g (h:List Value->za->Prop)=>
 opt (nb [a,.int .i64 17] (zf Tryd.prog .eql 3 (.tmp 19) (.const (.int .i64 17)) a (.int .i64 17))) fun e=>CD e (fun b=>b [e] c)
 (fun b=>opt (nb [a,.int .i64 19] (zf Tryd.prog .eql 3 (.tmp 19) (.const (.int .i64 19)) a (.int .i64 19))) fun i=>b [i] c)
 (fun j f=>CD (nth j 0) (Xk d f R)
 (wT a d f R g)
 (fun k l=>h [nth k 0] l))
def uj:=fun a (b:za) (R:Value->za->Prop) (k:List Value->za->Prop)=>
 opt (zb Tryd.prog 51 a 3) fun g=>opt (zd Tryd.prog 3 g b) fun f=>opt (nb [f,.int .i64 19] (zf Tryd.prog .eql 3 (.tmp 112) (.const (.int .i64 19)) f (.int .i64 19))) fun c=>GD c false (fun h=>opt (zb Tryd.prog 51 a 3) fun d=>h d b) (fun d e=>GD c false (fun i=>opt (zd Tryd.prog 3 d e) fun j=>i j e) (ug c a R) e) b
def xF:=fun a b (c:za) (R:Value->za->Prop) d (e:List Value->za->Prop)=>
 opt (nb [a,.int .i64 12] (zf Tryd.prog .eql 3 (.tmp 19) (.const (.int .i64 12)) a (.int .i64 12))) fun f=>CD f (ZA b c R)
 (wk a c b R d)
 (fun g h=>e [nth g 0] h)
def ZB:=fun e (a:za) (R:Value->za->Prop) (k:List Value->za->Prop)=>
 opt (zb Tryd.prog 51 e 3) fun g=>opt (zd Tryd.prog 3 g a) fun f=>opt (nb [f,.int .i64 3] (zf Tryd.prog .eql 3 (.tmp 102) (.const (.int .i64 3)) f (.int .i64 3))) fun b=>GD b false (fun h=>opt (zb Tryd.prog 51 e 3) fun c=>h c a) (fun c d=>GD b false (fun i=>opt (zd Tryd.prog 3 c d) fun j=>i j d) (Zw b R) d) a
def yu:=fun a b (c:za) (R:Value->za->Prop) d (e:List Value->za->Prop)=>
 opt (nb [a,.int .i64 11] (zf Tryd.prog .eql 3 (.tmp 19) (.const (.int .i64 11)) a (.int .i64 11))) fun f=>CD f (uj b c R)
 (xF a b c R d)
 (fun g h=>e [nth g 0] h)
def ZC:=fun e (a:za) (R:Value->za->Prop) (k:List Value->za->Prop)=>
 opt (zb Tryd.prog 51 e 3) fun g=>opt (zd Tryd.prog 3 g a) fun f=>opt (nb [f,.int .i64 1] (zf Tryd.prog .eql 3 (.tmp 92) (.const (.int .i64 1)) f (.int .i64 1))) fun b=>GD b false (fun h=>opt (zb Tryd.prog 51 e 3) fun c=>h c a) (fun c d=>GD b false (fun i=>opt (zd Tryd.prog 3 c d) fun j=>i j d) (Zv b R) d) a
def z9:=fun a b (c:za) (R:Value->za->Prop) d (e:List Value->za->Prop)=>
 opt (nb [a,.int .i64 10] (zf Tryd.prog .eql 3 (.tmp 19) (.const (.int .i64 10)) a (.int .i64 10))) fun f=>CD f (ZB b c R)
 (yu a b c R d)
 (fun g h=>e [nth g 0] h)
def zV:=fun a b (c:za) (R:Value->za->Prop) d (e:List Value->za->Prop)=>
 opt (nb [a,.int .i64 9] (zf Tryd.prog .eql 3 (.tmp 19) (.const (.int .i64 9)) a (.int .i64 9))) fun f=>CD f (ZC b c R)
 (z9 a b c R d)
 (fun g h=>e [nth g 0] h)
def Ub:=fun b (a:za) (R:Value->za->Prop) (g:List Value->za->Prop)=>
 opt (zb Tryd.prog 51 b 3) fun c=>opt (zd Tryd.prog 3 c a) fun d=>zR Tryd.prog (.func (.func 51) #[] #[]) [d] a (fun e f=>rv [e] f R)
def zT:=fun a b (c:za) (R:Value->za->Prop) d (e:List Value->za->Prop)=>
 opt (nb [a,.int .i64 8] (zf Tryd.prog .eql 3 (.tmp 19) (.const (.int .i64 8)) a (.int .i64 8))) fun f=>CD f (fun k=>opt (zb Tryd.prog 51 b 3) fun g=>opt (zd Tryd.prog 3 g c) fun h=>zR Tryd.prog (.func (.func 51) #[] #[]) [h] c (Xj b R))
 (zV a b c R d)
 (fun i j=>e [nth i 0] j)
def qM:=fun a (b:za) e (R:Value->za->Prop) (i:List Value->za->Prop)=>
 opt (zb Tryd.prog 51 a 3) fun f=>opt (zd Tryd.prog 3 f b) fun c=>opt (nb [c,.int .i64 0] (zf Tryd.prog .geq 3 (.tmp 50) (.const (.int .i64 0)) c (.int .i64 0))) fun d=>GD d true (fun g=>opt (zb Tryd.prog 51 a 3) fun h=>g h b) (qL d e a R) b
def zQ:=fun a b (c:za) (R:Value->za->Prop) d (e:List Value->za->Prop)=>
 opt (nb [a,.int .i64 7] (zf Tryd.prog .eql 3 (.tmp 19) (.const (.int .i64 7)) a (.int .i64 7))) fun f=>CD f (Ub b c R)
 (zT a b c R d)
 (fun g h=>e [nth g 0] h)
def Xl:=fun b (a:za) (R:Value->za->Prop) (g:List Value->za->Prop)=>
 opt (zb Tryd.prog 51 b 6) fun c=>opt (zd Tryd.prog 2 c a) fun d=>zR Tryd.prog (.func (.func 50) #[] #[]) [d] a (fun e f=>rv [e] f R)
def zJ:=fun a b (c:za) d (R:Value->za->Prop) e (f:List Value->za->Prop)=>
 opt (nb [a,.int .i64 6] (zf Tryd.prog .eql 3 (.tmp 19) (.const (.int .i64 6)) a (.int .i64 6))) fun g=>CD g (qM b c d R)
 (zQ a b c R e)
 (fun h i=>f [nth h 0] i)
def vK:=fun a (b:za) (R:Value->za->Prop) (k:List Value->za->Prop)=>
 opt (zb Tryd.prog 51 a 3) fun g=>opt (zd Tryd.prog 3 g b) fun f=>opt (nb [f,.int .i64 1] (zf Tryd.prog .eql 3 (.tmp 24) (.const (.int .i64 1)) f (.int .i64 1))) fun c=>GD c false (fun h=>opt (zb Tryd.prog 51 a 3) fun d=>h d b) (fun d e=>GD c false (fun i=>opt (zd Tryd.prog 3 d e) fun j=>i j e) (um c a R) e) b
def zH:=fun a (c:za) d (R:Value->za->Prop) g h (i:List Value->za->Prop)=>
 opt (nb [a,.int .i64 5] (zf Tryd.prog .eql 3 (.tmp 19) (.const (.int .i64 5)) a (.int .i64 5))) fun e=>CD e (fun b=>b [e] c)
 (fun b=>opt (nb [a,.int .i64 16] (zf Tryd.prog .eql 3 (.tmp 19) (.const (.int .i64 16)) a (.int .i64 16))) fun j=>b [j] c)
 (fun k f=>CD (nth k 0) (Xl d f R)
 (zJ a d f g R h)
 (fun l m=>i [nth l 0] m))
def zw:=fun a (c:za) d (R:Value->za->Prop) g h (i:List Value->za->Prop)=>
 opt (nb [a,.int .i64 3] (zf Tryd.prog .eql 3 (.tmp 19) (.const (.int .i64 3)) a (.int .i64 3))) fun e=>CD e (fun b=>b [e] c)
 (fun b=>opt (nb [a,.int .i64 4] (zf Tryd.prog .eql 3 (.tmp 19) (.const (.int .i64 4)) a (.int .i64 4))) fun j=>b [j] c)
 (fun k f=>CD (nth k 0) (vK d f R)
 (zH a f d R g h)
 (fun l m=>i [nth l 0] m))
def zl:=fun a (R:Value->za->Prop) c d (b:za)=>
 opt (zb Tryd.prog 51 a 0) fun e=>opt (zd Tryd.prog 3 e b) fun f=>BK (zw f b a R c d)
 (fun h g=>rv [.bool true] g R)
def jd:=fun b (R:Value->za->Prop) f g h (c:za)=>
 GD b false (fun i=>opt (KE Tryd.prog .not h) fun a=>i a c) (fun a d=>opt (pk b (.bool true) a) fun j=>CD j (fun e=>rv [.bool false] d R)
 (fun e=>e [.bool false] d)
 (zl f R g)) c
def ZD:=fun f d (R:Value->za->Prop) g h (a:za)=>
 opt (pk f (.bool true) h) fun b=>GD b false (fun i=>opt (zd Tryd.prog 51 d a) fun c=>i c a) (fun c e=>GD b false (fun j=>zR Tryd.prog (.func (.func 49) #[] #[]) [c] e (fun k l=>j k l)) (jd b R d g) e) a
def ZE:=fun a d (R:Value->za->Prop) e b (c:za)=>
 GD a false (fun f=>opt (nb [b,.int .i64 26] (zf Tryd.prog .gtr 3 (.tmp 10) (.const (.int .i64 26)) b (.int .i64 26))) fun g=>f g c) (ZD a d R e) c
def U8:=fun (h:za) f i (R:Value->za->Prop)=>
 opt (nb [f] (some (Value.cells f).toList)) fun j=>nw h j 51 fun a b=>opt (zb Tryd.prog 51 a 0) fun k=>opt (zd Tryd.prog 3 k b) fun g=>opt (nb [g,.int .i64 1] (zf Tryd.prog .lss 3 (.tmp 6) (.const (.int .i64 1)) g (.int .i64 1))) fun c=>GD c false (fun l=>opt (zb Tryd.prog 51 a 0) fun d=>l d b) (fun d e=>GD c false (fun m=>opt (zd Tryd.prog 3 d e) fun n=>m n e) (ZE c a R i) e) b
theorem gi (h:za) (t0 t1:Value) (R:Value->za->Prop):X2 Tryd.prog (vG Tryd.prog qs) 200 38 [t0,t1] h R=U8 h t0 t1 R:=by kernel_rfl
theorem gj {h:za} {t0 t1:Value} {R:Value->za->Prop} (hw:U8 h t0 t1 R):DC Tryd.prog 38 [t0,t1] h R:=xw mixed (n:=200) (by rw [gi];exact hw)
def yG:=fun f b (R:Value->za->Prop) c (d:za)=>
 GD c false (fun g=>g f d) (fun h e=>GD b true (fun i=>opt (pk c (.bool true) h) fun a=>i a e) (fun a j=>opt (pk b a (.bool false)) fun k=>rv [k] j R) e) d
def yH:=fun a f (R:Value->za->Prop) c (d:za)=>
 GD a true (fun g=>opt (nb [c,.int .i64 4] (zf Tryd.prog .neq 3 (.tmp 62) (.const (.int .i64 4)) c (.int .i64 4))) fun b=>g b d) (fun b e=>GD a true (fun h=>h b e) (yG f a R) e) d
def yI:=fun e f g (R:Value->za->Prop) h (d:za)=>
 opt (pk e h (.bool false)) fun a=>GD a true (fun i=>opt (zb Tryd.prog 51 f 2) fun b=>i b d) (fun b c=>GD a true (fun j=>opt (zd Tryd.prog 3 b c) fun k=>j k c) (yH a g R) c) d
def yJ:=fun a d e (R:Value->za->Prop) b (c:za)=>
 GD a true (fun f=>opt (nb [b,.int .i64 16] (zf Tryd.prog .lss 3 (.tmp 57) (.const (.int .i64 16)) b (.int .i64 16))) fun g=>f g c) (yI a d e R) c
def yK:=fun g a (R:Value->za->Prop) h (b:za)=>
 opt (pk g (.bool true) h) fun i=>opt (zb Tryd.prog 51 a 2) fun j=>opt (zd Tryd.prog 3 j b) fun f=>opt (nb [f,.int .i64 0] (zf Tryd.prog .geq 3 (.tmp 53) (.const (.int .i64 0)) f (.int .i64 0))) fun c=>GD c true (fun k=>opt (zb Tryd.prog 51 a 2) fun d=>k d b) (fun d e=>GD c true (fun l=>opt (zd Tryd.prog 3 d e) fun m=>l m e) (yJ c a i R) e) b
def yL:=fun a d (R:Value->za->Prop) b (c:za)=>
 GD a false (fun e=>opt (nb [b,.int .i64 1] (zf Tryd.prog .eql 3 (.tmp 49) (.const (.int .i64 1)) b (.int .i64 1))) fun f=>e f c) (yK a d R) c
def yM:=fun f d (R:Value->za->Prop) g (e:za)=>
 opt (pk f (.bool true) g) fun a=>GD a false (fun h=>opt (zb Tryd.prog 51 d 0) fun b=>h b e) (fun b c=>GD a false (fun i=>opt (zd Tryd.prog 3 b c) fun j=>i j c) (yL a d R) c) e
def yN:=fun a d (R:Value->za->Prop) b (c:za)=>
 GD a false (fun e=>opt (nb [b,.int .i64 5] (zf Tryd.prog .eql 3 (.tmp 44) (.const (.int .i64 5)) b (.int .i64 5))) fun f=>e f c) (yM a d R) c
def yO:=fun f d (R:Value->za->Prop) g (e:za)=>
 opt (pk f (.bool true) g) fun a=>GD a false (fun h=>opt (zb Tryd.prog 51 d 0) fun b=>h b e) (fun b c=>GD a false (fun i=>opt (zd Tryd.prog 3 b c) fun j=>i j c) (yN a d R) c) e
def yq:=fun a d (R:Value->za->Prop) b (c:za)=>
 GD a false (fun e=>opt (nb [b,.int .i64 4] (zf Tryd.prog .eql 3 (.tmp 39) (.const (.int .i64 4)) b (.int .i64 4))) fun f=>e f c) (yO a d R) c
def ya:=fun a (R:Value->za->Prop) (k:List Value) (b:za)=>
 opt (zb Tryd.prog 51 a 0) fun g=>opt (zd Tryd.prog 3 g b) fun f=>opt (nb [f,.int .i64 3] (zf Tryd.prog .eql 3 (.tmp 35) (.const (.int .i64 3)) f (.int .i64 3))) fun c=>GD c false (fun h=>opt (zb Tryd.prog 51 a 0) fun d=>h d b) (fun d e=>GD c false (fun i=>opt (zd Tryd.prog 3 d e) fun j=>i j e) (yq c a R) e) b
def vp:=fun e (R:Value->za->Prop) f g h (a:za)=>
 opt (pk e h (.bool false)) fun i=>CD i (fun b=>rv [.bool false] a R)
 (fun b=>b [.bool false] a)
 (fun j c=>opt (KE Tryd.prog .not f) fun k=>CD k (fun d=>rv [.bool true] c R)
 (fun d=>d [nth j 0] c)
 (ya g R))
def uD:=fun b f c (R:Value->za->Prop) g h i (d:za)=>
 GD b false (fun j=>opt (pk f i (.bool false)) fun a=>j a d) (fun a e=>GD c true (fun k=>opt (pk b (.bool true) a) fun l=>k l e) (vp c R g h) e) d
def uE:=fun a d e (R:Value->za->Prop) f g b (c:za)=>
 GD a true (fun h=>opt (nb [b,.int .i64 4] (zf Tryd.prog .eql 3 (.tmp 27) (.const (.int .i64 4)) b (.int .i64 4))) fun i=>h i c) (uD d a e R f g) c
def uF:=fun d f g (R:Value->za->Prop) h a (e:za)=>
 GD a true (fun i=>opt (zb Tryd.prog 51 d 1) fun b=>i b e) (fun b c=>GD a true (fun j=>opt (zd Tryd.prog 3 b c) fun k=>j k c) (uE a f g R h d) c) e
def uG:=fun b f g (R:Value->za->Prop) h i (c:za)=>
 GD b true (fun j=>j i c) (fun a d=>GD a false (fun k=>k f d) (fun l e=>GD a false (fun m=>m l e) (uF g a b R h) e) d) c
def uH:=fun b c g h (R:Value->za->Prop) i d (e:za)=>
 GD b false (fun j=>opt (nb [d,.int .i64 16] (zf Tryd.prog .geq 3 (.tmp 20) (.const (.int .i64 16)) d (.int .i64 16))) fun a=>j a e) (fun a f=>GD c true (fun k=>opt (pk b (.bool true) a) fun l=>k l f) (uG c g h R i) f) e
def uI:=fun d f g (R:Value->za->Prop) h a (e:za)=>
 GD a false (fun i=>opt (zb Tryd.prog 51 d 1) fun b=>i b e) (fun b c=>GD a false (fun j=>opt (zd Tryd.prog 3 b c) fun k=>j k c) (uH a f g d R h) c) e
def uJ:=fun a f g (R:Value->za->Prop) h c (d:za)=>
 GD a true (fun i=>opt (nb [c,.int .i64 0] (zf Tryd.prog .lss 3 (.tmp 16) (.const (.int .i64 0)) c (.int .i64 0))) fun b=>i b d) (fun b e=>GD a true (fun j=>j b e) (uI f a g R h) e) d
def uK:=fun e (R:Value->za->Prop) a (f:za)=>
 opt (ZW a 0) fun b=>opt (ZW a 1) fun g=>opt (ZW a 2) fun h=>GD b true (fun i=>opt (zb Tryd.prog 51 e 1) fun c=>i c f) (fun c d=>GD b true (fun j=>opt (zd Tryd.prog 3 c d) fun k=>j k d) (uJ b e h R g) d) f
def VB:=fun (h:za) a (R:Value->za->Prop)=>
 opt (nb [a] (some (Value.cells a).toList)) fun d=>nw h d 51 fun b c=>opt (zd Tryd.prog 51 b c) fun e=>zR Tryd.prog (.func (.func 75) #[] #[]) [e] c (uK b R)
theorem cM (h:za) (t0:Value) (R:Value->za->Prop):X2 Tryd.prog (vG Tryd.prog qs) 200 49 [t0] h R=VB h t0 R:=by kernel_rfl
theorem cN {h:za} {t0:Value} {R:Value->za->Prop} (hw:VB h t0 R):DC Tryd.prog 49 [t0] h R:=xw mixed (n:=200) (by rw [cM];exact hw)
def vf:=fun a (c:za) (e:List Value->za->Prop)=>
 opt (nb [a,.int .i64 7] (zf Tryd.prog .eql 3 (.tmp 6) (.const (.int .i64 7)) a (.int .i64 7))) fun d=>CD d (fun b=>b [d] c)
 (fun b=>opt (nb [a,.int .i64 10] (zf Tryd.prog .eql 3 (.tmp 6) (.const (.int .i64 10)) a (.int .i64 10))) fun f=>b [f] c)
 (fun g h=>e [nth g 0] h)
def w4:=fun a (b:za) (d:List Value->za->Prop)=>
 opt (nb [a,.int .i64 5] (zf Tryd.prog .eql 3 (.tmp 6) (.const (.int .i64 5)) a (.int .i64 5))) fun c=>CD c (fun e=>e [c] b)
 (vf a b)
 (fun f g=>d [nth f 0] g)
def wI:=fun a (b:za) (d:List Value->za->Prop)=>
 opt (nb [a,.int .i64 3] (zf Tryd.prog .eql 3 (.tmp 6) (.const (.int .i64 3)) a (.int .i64 3))) fun c=>CD c (fun e=>e [c] b)
 (w4 a b)
 (fun f g=>d [nth f 0] g)
def kW:=fun a (c:za) (e:List Value->za->Prop)=>
 opt (nb [a,.int .i64 12] (zf Tryd.prog .eql 3 (.tmp 6) (.const (.int .i64 12)) a (.int .i64 12))) fun d=>CD d (fun b=>b [d] c)
 (fun b=>opt (nb [a,.int .i64 17] (zf Tryd.prog .eql 3 (.tmp 6) (.const (.int .i64 17)) a (.int .i64 17))) fun f=>b [f] c)
 (fun g h=>e [nth g 0] h)
def qO:=fun a (b:za) (d:List Value->za->Prop)=>
 opt (nb [a,.int .i64 11] (zf Tryd.prog .eql 3 (.tmp 6) (.const (.int .i64 11)) a (.int .i64 11))) fun c=>CD c (fun e=>e [c] b)
 (kW a b)
 (fun f g=>d [nth f 0] g)
def qj:=fun a (b:za) (d:List Value->za->Prop)=>
 opt (nb [a,.int .i64 9] (zf Tryd.prog .eql 3 (.tmp 6) (.const (.int .i64 9)) a (.int .i64 9))) fun c=>CD c (fun e=>e [c] b)
 (qO a b)
 (fun f g=>d [nth f 0] g)
def uQ:=fun a (b:za) (d:List Value->za->Prop)=>
 opt (nb [a,.int .i64 8] (zf Tryd.prog .eql 3 (.tmp 6) (.const (.int .i64 8)) a (.int .i64 8))) fun c=>CD c (fun e=>e [c] b)
 (qj a b)
 (fun f g=>d [nth f 0] g)
def v5:=fun a (b:za) (d:List Value->za->Prop)=>
 opt (nb [a,.int .i64 6] (zf Tryd.prog .eql 3 (.tmp 6) (.const (.int .i64 6)) a (.int .i64 6))) fun c=>CD c (fun e=>e [c] b)
 (uQ a b)
 (fun f g=>d [nth f 0] g)
def Qo:=fun b (c:za) (R:Value->za->Prop) (e:List Value->za->Prop)=>
 opt (nb [b,.int .i64 14] (zf Tryd.prog .eql 3 (.tmp 6) (.const (.int .i64 14)) b (.int .i64 14))) fun f=>CD f (fun d=>rv [.bool false,.bool true,.bool false] c R)
 (fun d=>d [.bool false,.bool false,.bool false] c)
 (fun a g=>e [nth a 0,nth a 1,nth a 2] g)
def Xq:=fun a (c:za) (R:Value->za->Prop) (d:List Value->za->Prop)=>
 opt (nb [a,.int .i64 16] (zf Tryd.prog .eql 3 (.tmp 6) (.const (.int .i64 16)) a (.int .i64 16))) fun e=>CD e (fun g=>rv [.bool true,.bool false,.bool false] c R)
 (Qo a c R)
 (fun b f=>d [nth b 0,nth b 1,nth b 2] f)
def jD:=fun (R:Value->za->Prop) c (d:List Value->za->Prop) e (b:za)=>
 CD (nth e 0) (fun g=>rv [.bool true,.bool true,.bool false] b R)
 (Xq c b R)
 (fun a f=>d [nth a 0,nth a 1,nth a 2] f)
def jE:=fun a (c:za) (R:Value->za->Prop) (e:List Value->za->Prop)=>
 opt (nb [a,.int .i64 4] (zf Tryd.prog .eql 3 (.tmp 6) (.const (.int .i64 4)) a (.int .i64 4))) fun d=>CD d (fun b=>b [d] c)
 (fun b=>opt (nb [a,.int .i64 15] (zf Tryd.prog .eql 3 (.tmp 6) (.const (.int .i64 15)) a (.int .i64 15))) fun f=>b [f] c)
 (jD R a e)
def vg:=fun (R:Value->za->Prop) c (d:List Value->za->Prop) e (b:za)=>
 CD (nth e 0) (fun g=>rv [.bool true,.bool false,.bool true] b R)
 (jE c b R)
 (fun a f=>d [nth a 0,nth a 1,nth a 2] f)
def vh:=fun a (b:za) (R:Value->za->Prop) (d:List Value->za->Prop)=>
 opt (nb [a,.int .i64 2] (zf Tryd.prog .eql 3 (.tmp 6) (.const (.int .i64 2)) a (.int .i64 2))) fun c=>CD c (fun e=>e [c] b)
 (v5 a b)
 (vg R a d)
def xV:=fun (R:Value->za->Prop) c (d:List Value->za->Prop) e (b:za)=>
 CD (nth e 0) (fun g=>rv [.bool true,.bool true,.bool true] b R)
 (vh c b R)
 (fun a f=>d [nth a 0,nth a 1,nth a 2] f)
def xW:=fun a (b:za) (R:Value->za->Prop) (d:List Value->za->Prop)=>
 opt (nb [a,.int .i64 1] (zf Tryd.prog .eql 3 (.tmp 6) (.const (.int .i64 1)) a (.int .i64 1))) fun c=>CD c (fun e=>e [c] b)
 (wI a b)
 (xV R a d)
def gF:=fun (h:za) a (R:Value->za->Prop)=>
 opt (nb [a] (some (Value.cells a).toList)) fun c=>nw h c 51 fun d b=>opt (zb Tryd.prog 51 d 0) fun e=>opt (zd Tryd.prog 3 e b) fun f=>BK (xW f b R)
 (fun i g=>rv [.bool false,.bool false,.bool false] g R)
theorem oA (h:za) (t0:Value) (R:Value->za->Prop):X2 Tryd.prog (vG Tryd.prog qs) 200 75 [t0] h R=gF h t0 R:=by kernel_rfl
theorem oB {h:za} {t0:Value} {R:Value->za->Prop} (hw:gF h t0 R):DC Tryd.prog 75 [t0] h R:=xw mixed (n:=200) (by rw [oA];exact hw)
def oh:=fun (h:za) a (R:Value->za->Prop)=>
 xA (nb [a] (vn Tryd.prog 2 21 a h)) fun b d=>xA (nb [b] (vn Tryd.prog 21 2 b d)) fun c e=>opt (nb [a,c] (zf Tryd.prog .eql 2 (.tmp 3) (.tmp 6) a c)) fun f=>rv [f] e R
theorem tF (h:za) (t0:Value) (R:Value->za->Prop):X2 Tryd.prog (vG Tryd.prog qs) 200 50 [t0] h R=oh h t0 R:=by kernel_rfl
theorem tG {h:za} {t0:Value} {R:Value->za->Prop} (hw:oh h t0 R):DC Tryd.prog 50 [t0] h R:=xw mixed (n:=200) (by rw [tF];exact hw)
def KM:=fun a (h:za) (d:List Value->za->Prop)=>
 opt (nb [a,.int .i64 17] (zf Tryd.prog .eql 3 (.tmp 3) (.const (.int .i64 17)) a (.int .i64 17))) fun c=>CD c (fun b=>b [c] h)
 (fun b=>opt (nb [a,.int .i64 18] (zf Tryd.prog .eql 3 (.tmp 3) (.const (.int .i64 18)) a (.int .i64 18))) fun e=>b [e] h)
 (fun f g=>d [nth f 0] g)
def Uf:=fun a (h:za) (c:List Value->za->Prop)=>
 opt (nb [a,.int .i64 16] (zf Tryd.prog .eql 3 (.tmp 3) (.const (.int .i64 16)) a (.int .i64 16))) fun b=>CD b (fun d=>d [b] h)
 (KM a h)
 (fun e f=>c [nth e 0] f)
def WG:=fun a (h:za) (c:List Value->za->Prop)=>
 opt (nb [a,.int .i64 13] (zf Tryd.prog .eql 3 (.tmp 3) (.const (.int .i64 13)) a (.int .i64 13))) fun b=>CD b (fun d=>d [b] h)
 (Uf a h)
 (fun e f=>c [nth e 0] f)
def Xn:=fun a (h:za) (c:List Value->za->Prop)=>
 opt (nb [a,.int .i64 12] (zf Tryd.prog .eql 3 (.tmp 3) (.const (.int .i64 12)) a (.int .i64 12))) fun b=>CD b (fun d=>d [b] h)
 (WG a h)
 (fun e f=>c [nth e 0] f)
def Yh:=fun a (h:za) (R:Value->za->Prop) (e:List Value->za->Prop)=>
 opt (nb [a,.int .i64 11] (zf Tryd.prog .eql 3 (.tmp 3) (.const (.int .i64 11)) a (.int .i64 11))) fun b=>CD b (fun f=>f [b] h)
 (Xn a h)
 (fun g c=>CD (nth g 0) (fun d=>rv [.bool true] c R)
 (fun d=>d [.bool false] c)
 (fun i j=>e [nth i 0] j))
def BB:=fun (h:za) a (R:Value->za->Prop)=>
 BK (Yh a h R)
 (fun c b=>rv [.bool false] b R)
theorem BC (h:za) (t0:Value) (R:Value->za->Prop):X2 Tryd.prog (vG Tryd.prog qs) 200 51 [t0] h R=BB h t0 R:=by kernel_rfl
theorem BD {h:za} {t0:Value} {R:Value->za->Prop} (hw:BB h t0 R):DC Tryd.prog 51 [t0] h R:=xw mixed (n:=200) (by rw [BC];exact hw)
def Vw:=fun (h:za) b (R:Value->za->Prop)=>
 zR Tryd.prog (.func (.func 76) #[] #[]) [b] h (fun a c=>opt (ZW a 0) fun e=>opt (ZW a 1) fun d=>rv [d] c R)
theorem cI (h:za) (t0:Value) (R:Value->za->Prop):X2 Tryd.prog (vG Tryd.prog qs) 200 52 [t0] h R=Vw h t0 R:=by kernel_rfl
theorem cJ {h:za} {t0:Value} {R:Value->za->Prop} (hw:Vw h t0 R):DC Tryd.prog 52 [t0] h R:=xw mixed (n:=200) (by rw [cI];exact hw)
def Jg:=fun a (h:za) (R:Value->za->Prop) (d:List Value->za->Prop)=>
 opt (nb [a,.int .i64 25] (zf Tryd.prog .eql 3 (.tmp 4) (.const (.int .i64 25)) a (.int .i64 25))) fun e=>CD e (fun b=>rv [.int .i64 24,.bool true] h R)
 (fun b=>b [.int .i64 0,.bool false] h)
 (fun c f=>d [nth c 0,nth c 1] f)
def Ua:=fun a (h:za) (R:Value->za->Prop) (c:List Value->za->Prop)=>
 opt (nb [a,.int .i64 24] (zf Tryd.prog .eql 3 (.tmp 4) (.const (.int .i64 24)) a (.int .i64 24))) fun d=>CD d (fun f=>rv [.int .i64 25,.bool true] h R)
 (Jg a h R)
 (fun b e=>c [nth b 0,nth b 1] e)
def X4:=fun a (h:za) (R:Value->za->Prop) (c:List Value->za->Prop)=>
 opt (nb [a,.int .i64 26] (zf Tryd.prog .eql 3 (.tmp 4) (.const (.int .i64 26)) a (.int .i64 26))) fun d=>CD d (fun f=>rv [.int .i64 23,.bool true] h R)
 (Ua a h R)
 (fun b e=>c [nth b 0,nth b 1] e)
def YP:=fun a (h:za) (R:Value->za->Prop) (c:List Value->za->Prop)=>
 opt (nb [a,.int .i64 23] (zf Tryd.prog .eql 3 (.tmp 4) (.const (.int .i64 23)) a (.int .i64 23))) fun d=>CD d (fun f=>rv [.int .i64 26,.bool true] h R)
 (X4 a h R)
 (fun b e=>c [nth b 0,nth b 1] e)
def ZN:=fun a (h:za) (R:Value->za->Prop) (c:List Value->za->Prop)=>
 opt (nb [a,.int .i64 22] (zf Tryd.prog .eql 3 (.tmp 4) (.const (.int .i64 22)) a (.int .i64 22))) fun d=>CD d (fun f=>rv [.int .i64 21,.bool true] h R)
 (YP a h R)
 (fun b e=>c [nth b 0,nth b 1] e)
def j2:=fun a (h:za) (R:Value->za->Prop) (c:List Value->za->Prop)=>
 opt (nb [a,.int .i64 21] (zf Tryd.prog .eql 3 (.tmp 4) (.const (.int .i64 21)) a (.int .i64 21))) fun d=>CD d (fun f=>rv [.int .i64 22,.bool true] h R)
 (ZN a h R)
 (fun b e=>c [nth b 0,nth b 1] e)
def nV:=fun (h:za) a (R:Value->za->Prop)=>
 BK (j2 a h R)
 (fun c b=>rv [.int .i64 0,.bool false] b R)
theorem tt (h:za) (t0:Value) (R:Value->za->Prop):X2 Tryd.prog (vG Tryd.prog qs) 200 76 [t0] h R=nV h t0 R:=by kernel_rfl
theorem tu {h:za} {t0:Value} {R:Value->za->Prop} (hw:nV h t0 R):DC Tryd.prog 76 [t0] h R:=xw mixed (n:=200) (by rw [tt];exact hw)
def gu:=fun b (R:Value->za->Prop) a (h:za)=>
 opt (ZW a 0) fun c=>opt (ZW a 1) fun m=>opt (ZW a 2) fun i=>opt (xP Tryd.prog 34) fun j=>nw h (Value.cells j).toList 34 fun d k=>opt (nb [c] (zk Tryd.prog 34 d c k)) fun e=>opt (zd Tryd.prog 34 d e) fun f=>opt (nb [f] (zk Tryd.prog 34 b f e)) fun g=>opt (zd Tryd.prog 34 b g) fun l=>rv [l,i] g R
def Bt:=fun (h:za) a c d e f (R:Value->za->Prop)=>
 opt (nb [a] (some (Value.cells a).toList)) fun g=>nw h g 25 fun i j=>opt (xP Tryd.prog 34) fun k=>nw j (Value.cells k).toList 34 fun l b=>opt (zd Tryd.prog 25 i b) fun m=>zR Tryd.prog (.func (.func 25) #[] #[]) [m,c,d,e,f,.bool true] b (gu l R)
theorem Bu (h:za) (t0 t1 t2 t3 t4:Value) (R:Value->za->Prop):X2 Tryd.prog (vG Tryd.prog qs) 200 10 [t0,t1,t2,t3,t4] h R=Bt h t0 t1 t2 t3 t4 R:=by kernel_rfl
theorem Bv {h:za} {t0 t1 t2 t3 t4:Value} {R:Value->za->Prop} (hw:Bt h t0 t1 t2 t3 t4 R):DC Tryd.prog 10 [t0,t1,t2,t3,t4] h R:=xw mixed (n:=200) (by rw [Bu];exact hw)
def Ji:=fun a (d:za) (R:Value->za->Prop) (f:List Value->za->Prop)=>
 opt (nb [] (yR Tryd.prog 34 [])) fun b=>opt (nb [b] (zk Tryd.prog 34 a b d)) fun c=>opt (zd Tryd.prog 34 a c) fun e=>rv [e,.int .i64 0,.int .i64 1] c R
def ld:=fun c a (R:Value->za->Prop) (l:Value) (b:za)=>
 opt (xO c) fun g=>opt (zb Tryd.prog 89 g 4) fun h=>opt (zd Tryd.prog 34 h b) fun d=>opt (xO c) fun i=>opt (zb Tryd.prog 89 i 13) fun e=>opt (zd Tryd.prog 3 e b) fun j=>(Bc 5 a 1 e/\opt (nb [d] (zk Tryd.prog 34 a d b)) fun f=>opt (zd Tryd.prog 34 a f) fun k=>rv [k,j,.int .i64 0] f R)
def lg:=fun c d e f g h i (R:Value->za->Prop) (l:List Value) (a:za)=>
 opt (zd Tryd.prog 25 c a) fun j=>zR Tryd.prog (.func (.func 36) #[] #[]) [j,d,e,f] a (fun b k=>zR Tryd.prog (.func (.func 37) #[] #[]) [b,g,h] k (ld b i R))
def j3:=fun b c (R:Value->za->Prop) g h i j k l d (e:za)=>
 GD b false (fun m=>opt (nb [d,.int .i64 2147483647] (zf Tryd.prog .gtr 3 (.tmp 39) (.const (.int .i64 2147483647)) d (.int .i64 2147483647))) fun a=>m a e) (fun a f=>opt (pk b (.bool true) a) fun n=>CD n (Ji c f R)
 (fun o=>o [.int .i64 0,.int .i64 0] f)
 (lg g h i j k l c R)) e
def j4:=fun b c h (R:Value->za->Prop) i j k l m d (e:za)=>
 GD b false (fun n=>opt (nb [d,.int .i64 0] (zf Tryd.prog .lss 3 (.tmp 35) (.const (.int .i64 0)) d (.int .i64 0))) fun a=>n a e) (fun a f=>opt (pk b (.bool true) a) fun g=>GD g false (fun o=>o c f) (j3 g h R i j k c l m) f) e
def j5:=fun b c h (R:Value->za->Prop) i j k l m d (e:za)=>
 GD b false (fun n=>opt (nb [d,.int .i64 100000000] (zf Tryd.prog .gtr 3 (.tmp 31) (.const (.int .i64 100000000)) d (.int .i64 100000000))) fun a=>n a e) (fun a f=>opt (pk b (.bool true) a) fun g=>GD g false (fun o=>o c f) (j4 g c h R i j k l m) f) e
def j6:=fun b c h i (R:Value->za->Prop) j k l m d (e:za)=>
 GD b false (fun n=>opt (nb [d,.int .i64 0] (zf Tryd.prog .lss 3 (.tmp 27) (.const (.int .i64 0)) d (.int .i64 0))) fun a=>n a e) (fun a f=>opt (pk b (.bool true) a) fun g=>GD g false (fun o=>o c f) (j5 g h i R j k l c m) f) e
def j7:=fun b c d i j (R:Value->za->Prop) k l m n e (f:za)=>
 GD b false (fun o=>opt (nb [c,e] (zf Tryd.prog .neq 3 (.tmp 21) (.tmp 23) c e)) fun a=>o a f) (fun a g=>opt (pk b (.bool true) a) fun h=>GD h false (fun p=>p d g) (j6 h d i j R k l m n) g) f
def j8:=fun a d f g h (R:Value->za->Prop) i j k l (e:za)=>
 GD a false (fun m=>opt (zb Tryd.prog 25 d 3) fun b=>m b e) (fun b c=>GD a false (fun n=>opt (zd Tryd.prog 3 b c) fun o=>n o c) (j7 a l f g h R d i j k) c) e
def kU:=fun b f g h i (R:Value->za->Prop) j k l (c:za)=>
 opt (KE Tryd.prog .not l) fun a=>GD a false (fun m=>m b c) (fun d e=>GD a false (fun n=>xA (nb [d] (zo Tryd.prog .len [30] 3 [d] e)) fun o p=>n o p) (j8 a f g h i R b j k) e) c
def nZ:=fun (h:za) a d e f g i (R:Value->za->Prop)=>
 opt (nb [a] (some (Value.cells a).toList)) fun j=>nw h j 25 fun b k=>opt (xP Tryd.prog 34) fun l=>nw k (Value.cells l).toList 34 fun m c=>opt (zd Tryd.prog 25 b c) fun n=>zR Tryd.prog (.func (.func 16) #[] #[]) [n] c (kU d b f g m R e i)
theorem tB (h:za) (t0 t1 t2 t3 t4 t5:Value) (R:Value->za->Prop):X2 Tryd.prog (fF Tryd.prog qs) 200 25 [t0,t1,t2,t3,t4,t5] h R=nZ h t0 t1 t2 t3 t4 t5 R:=by kernel_rfl
theorem tC {h:za} {t0 t1 t2 t3 t4 t5:Value} {R:Value->za->Prop} (hw:nZ h t0 t1 t2 t3 t4 t5 R):DC Tryd.prog 25 [t0,t1,t2,t3,t4,t5] h R:=U5 mixed (n:=200) (by rw [tB];exact hw)
def dD:=fun a b (g:List Value->za->Prop) (o:Value) (c:za)=>
 opt (xO a) fun h=>opt (zb Tryd.prog 89 h 5) fun i=>opt (zd Tryd.prog 22 i c) fun d=>xA (nb [b] (y8 Tryd.prog 22 1 [(0,b)] c)) fun e j=>xA (nb [d,e] (zo Tryd.prog .append [22,22] 22 [d,e] j)) fun f k=>opt (xO a) fun l=>opt (zb Tryd.prog 89 l 5) fun m=>opt (nb [f] (zk Tryd.prog 22 m f k)) fun n=>g [] n
def dE:=fun a (e:List Value->za->Prop) b (c:za)=>
 opt (ZW b 0) fun d=>opt (ZW b 1) fun i=>opt (xO a) fun f=>opt (zb Tryd.prog 89 f 2) fun g=>opt (zd Tryd.prog 82 g c) fun h=>zR Tryd.prog (.func (.func 45) #[] #[]) [h,d] c (dD a d e)
def dF:=fun c d (a:za) b (e:List Value->za->Prop)=>
 opt (zA Tryd.prog 22 c (nth d 0)) fun f=>opt (zd Tryd.prog 3 f a) fun g=>opt (xO b) fun h=>opt (zb Tryd.prog 89 h 2) fun i=>opt (zd Tryd.prog 82 i a) fun j=>zR Tryd.prog (.func (.func 44) #[] #[]) [j,g] a (dE b e)
def dG:=fun b a c (d:List Value->za->Prop) (h:List Value) (e:za)=>
 BK (dF b a e c)
 (fun i f=>opt (nb [nth a 0,.int .i64 1] (zf Tryd.prog .add 3 (.tmp 32) (.const (.int .i64 1)) (nth a 0) (.int .i64 1))) fun g=>d [g] f)
def Qi:=fun b (e:List Value->za->Prop) f g a (c:za) (h:List Value->za->Prop)=>
 opt (nb [nth a 0,b] (zf Tryd.prog .lss 3 (.tmp 32) (.tmp 31) (nth a 0) b)) fun i=>CD i (fun d=>d [] c)
 (fun d=>e [] c)
 (dG f a g h)
def dH:=fun e (a b:za) c (f:List Value->za->Prop)=>
 opt (zb Tryd.prog 51 e 5) fun g=>opt (zd Tryd.prog 3 g a) fun d=>opt (nb [(wx b).1,d,nth c 0] (uL Tryd.prog 99 (wx b).1 d (nth c 0) a)) fun h=>f [] h
def dI:=fun g c (d h:za) (i:List Value->za->Prop)=>
 opt (zA Tryd.prog 47 g (nth c 0)) fun j=>opt (zd Tryd.prog 51 j d) fun e=>opt (xP Tryd.prog 51) fun k=>nw d (Value.cells k).toList 51 fun a l=>opt (nb [e] (zk Tryd.prog 51 a e l)) fun b=>opt (zb Tryd.prog 51 a 0) fun m=>opt (zd Tryd.prog 3 m b) fun f=>opt (nb [f,.int .i64 20] (zf Tryd.prog .eql 3 (.tmp 79) (.const (.int .i64 20)) f (.int .i64 20))) fun n=>CD n (dH a b h c)
 (fun o=>o [] b)
 (fun q p=>i [] p)
def dJ:=fun b a (c:za) (d:List Value->za->Prop) (h:List Value) (e:za)=>
 BK (dI b a e c)
 (fun i f=>opt (nb [nth a 0,.int .i64 1] (zf Tryd.prog .add 3 (.tmp 73) (.const (.int .i64 1)) (nth a 0) (.int .i64 1))) fun g=>d [g] f)
def Qj:=fun b (e:List Value->za->Prop) f (g:za) a (c:za) (h:List Value->za->Prop)=>
 opt (nb [nth a 0,b] (zf Tryd.prog .lss 3 (.tmp 73) (.tmp 72) (nth a 0) b)) fun i=>CD i (fun d=>d [] c)
 (fun d=>e [] c)
 (dJ f a g h)
def Jq:=fun a (b:za) (g:List Value->za->Prop) (o:List Value) (c:za)=>
 opt (xO a) fun h=>opt (zb Tryd.prog 89 h 1) fun i=>opt (zd Tryd.prog 81 i c) fun d=>xA (nb [(wx b).1] (y8 Tryd.prog 81 1 [(0,(wx b).1)] c)) fun e j=>xA (nb [d,e] (zo Tryd.prog .append [81,81] 81 [d,e] j)) fun f k=>opt (xO a) fun l=>opt (zb Tryd.prog 89 l 1) fun m=>opt (nb [f] (zk Tryd.prog 81 m f k)) fun n=>g [] n
def Jr:=fun f g (c:za) h (i:List Value->za->Prop)=>
 opt (zA Tryd.prog 23 f (nth g 0)) fun j=>opt (zd Tryd.prog 49 j c) fun d=>opt (xP Tryd.prog 49) fun k=>nw c (Value.cells k).toList 49 fun e l=>opt (nb [d] (zk Tryd.prog 49 e d l)) fun a=>opt (zb Tryd.prog 49 e 1) fun m=>opt (zd Tryd.prog 47 m (wx a).2) fun b=>xA (nb [b] (zo Tryd.prog .len [47] 3 [b] (wx a).2)) fun n o=>BK (fun p=>LP (Qj n p b a)
 [.int .i64 0] o)
 (Jq h a i)
def Js:=fun b a c (d:List Value->za->Prop) (h:List Value) (e:za)=>
 BK (Jr b a e c)
 (fun i f=>opt (nb [nth a 0,.int .i64 1] (zf Tryd.prog .add 3 (.tmp 65) (.const (.int .i64 1)) (nth a 0) (.int .i64 1))) fun g=>d [g] f)
def Vu:=fun b (e:List Value->za->Prop) f g a (c:za) (h:List Value->za->Prop)=>
 opt (nb [nth a 0,b] (zf Tryd.prog .lss 3 (.tmp 65) (.tmp 64) (nth a 0) b)) fun i=>CD i (fun d=>d [] c)
 (fun d=>e [] c)
 (Js f a g h)
def Jt:=fun b c (d:za) (e:List Value->za->Prop) a=>
 opt (xO b) fun f=>opt (zb Tryd.prog 89 f 7) fun g=>opt (zA Tryd.prog 87 g c) fun h=>opt (nb [a] (zk Tryd.prog 86 h a d)) fun i=>e [] i
def Ju:=fun c b (a:za) d e (f:List Value->za->Prop)=>
 opt (zA Tryd.prog 30 c (nth b 0)) fun g=>opt (zd Tryd.prog 2 g a) fun h=>opt (zA Tryd.prog 100 d (nth b 0)) fun i=>opt (zd Tryd.prog 3 i a) fun j=>qX Tryd.prog 46 [h] a (Jt e j a f)
def Jv:=fun b a c d (e:List Value->za->Prop) (i:List Value) (f:za)=>
 BK (Ju b a f c d)
 (fun j g=>opt (nb [nth a 0,.int .i64 1] (zf Tryd.prog .add 3 (.tmp 100) (.const (.int .i64 1)) (nth a 0) (.int .i64 1))) fun h=>e [h] g)
def Vv:=fun b (e:List Value->za->Prop) f g h a (c:za) (i:List Value->za->Prop)=>
 opt (nb [nth a 0,b] (zf Tryd.prog .lss 3 (.tmp 100) (.tmp 99) (nth a 0) b)) fun j=>CD j (fun d=>d [] c)
 (fun d=>e [] c)
 (Jv f a g h i)
def Jw:=fun a b (R:Value->za->Prop) (m:List Value) (e:za)=>
 opt (nb [.int .i64 7,.int .i64 6,.int .i64 2,.int .i64 1,.int .i64 8,.int .i64 9] (yR Tryd.prog 100 [(0,(.int .i64 7)),(1,(.int .i64 6)),(2,(.int .i64 2)),(3,(.int .i64 1)),(4,(.int .i64 8)),(5,(.int .i64 9))])) fun c=>opt (xP Tryd.prog 100) fun f=>nw e (Value.cells f).toList 100 fun d g=>opt (nb [c] (zk Tryd.prog 100 d c g)) fun h=>xA (nb [a] (zo Tryd.prog .len [30] 3 [a] h)) fun i j=>BK (fun k=>LP (Vv i k a d b)
 [.int .i64 0] j)
 (fun n l=>rv [b] l R)
def Jx:=fun d b e (R:Value->za->Prop) (j:List Value) (c:za)=>
 opt (zb Tryd.prog 25 d 1) fun f=>opt (zd Tryd.prog 23 f c) fun a=>xA (nb [a] (zo Tryd.prog .len [23] 3 [a] c)) fun g h=>BK (fun i=>LP (Vu g i a b)
 [.int .i64 0] h)
 (Jw e b R)
def Jy:=fun b c d e j (R:Value->za->Prop) f (k:za)=>
 opt (nb [b,c,f,d] (yR Tryd.prog 89 [(0,b),(2,c),(3,f),(12,d)])) fun g=>opt (nb [g] (some (Value.cells g).toList)) fun l=>nw k l 89 fun h i=>opt (zb Tryd.prog 25 e 0) fun m=>opt (zd Tryd.prog 22 m i) fun a=>xA (nb [a] (zo Tryd.prog .len [22] 3 [a] i)) fun n o=>BK (fun p=>LP (Qi n p a h)
 [.int .i64 0] o)
 (Jx e h j R)
def gy:=fun (h:za) a d e f (R:Value->za->Prop)=>
 opt (nb [a] (some (Value.cells a).toList)) fun g=>nw h g 25 fun b c=>opt (zd Tryd.prog 25 b c) fun i=>J2 Tryd.prog 42 [] c (fun j k=>J2 Tryd.prog 43 [e] k (Jy i j f b d R))
theorem n9 (h:za) (t0 t1 t2 t3:Value) (R:Value->za->Prop):X2 Tryd.prog (vG Tryd.prog qs) 200 36 [t0,t1,t2,t3] h R=gy h t0 t1 t2 t3 R:=by kernel_rfl
theorem oa {h:za} {t0 t1 t2 t3:Value} {R:Value->za->Prop} (hw:gy h t0 t1 t2 t3 R):DC Tryd.prog 36 [t0,t1,t2,t3] h R:=xw mixed (n:=200) (by rw [n9];exact hw)
def lJ:=fun a (b:za) (R:Value->za->Prop) (g:List Value->za->Prop)=>
 opt (xO a) fun c=>opt (zb Tryd.prog 89 c 4) fun d=>opt (zb Tryd.prog 34 d 0) fun e=>opt (nb [.int .i64 3] (zk Tryd.prog 3 e (.int .i64 3) b)) fun f=>rv [] f R
def lK:=fun a (b:za) (e:List Value->za->Prop) (k:List Value->za->Prop)=>
 opt (xO a) fun f=>opt (zb Tryd.prog 105 f 1) fun g=>opt (zd Tryd.prog 3 g b) fun c=>opt (nb [c,.int .i64 1] (zf Tryd.prog .add 3 (.tmp 73) (.const (.int .i64 1)) c (.int .i64 1))) fun d=>opt (xO a) fun h=>opt (zb Tryd.prog 105 h 1) fun i=>opt (nb [d] (zk Tryd.prog 3 i d b)) fun j=>e [] j
def lL:=fun a (b:za) (R:Value->za->Prop) (g:List Value->za->Prop)=>
 opt (xO a) fun c=>opt (zb Tryd.prog 89 c 4) fun d=>opt (zb Tryd.prog 34 d 0) fun e=>opt (nb [.int .i64 2] (zk Tryd.prog 3 e (.int .i64 2) b)) fun f=>rv [] f R
def lM:=fun a (b:za) (c:List Value->za->Prop)=>
 opt (xO a) fun d=>opt (zb Tryd.prog 89 d 4) fun e=>opt (zb Tryd.prog 34 e 0) fun f=>opt (nb [.int .i64 3] (zk Tryd.prog 3 f (.int .i64 3) b)) fun g=>c [] g
def lN:=fun a b k (l:List Value->za->Prop) (B:List Value) (c:za)=>
 opt (xO a) fun m=>opt (zb Tryd.prog 89 m 4) fun n=>opt (zb Tryd.prog 34 n 4) fun o=>opt (zd Tryd.prog 3 o c) fun d=>opt (nb [d,.int .i64 1] (zf Tryd.prog .add 3 (.tmp 92) (.const (.int .i64 1)) d (.int .i64 1))) fun e=>opt (xO a) fun p=>opt (zb Tryd.prog 89 p 4) fun q=>opt (zb Tryd.prog 34 q 4) fun r=>opt (nb [e] (zk Tryd.prog 3 r e c)) fun f=>opt (xO b) fun s=>opt (zb Tryd.prog 105 s 1) fun t=>opt (zd Tryd.prog 3 t f) fun g=>opt (nb [g,.int .i64 1] (zf Tryd.prog .add 3 (.tmp 100) (.const (.int .i64 1)) g (.int .i64 1))) fun h=>opt (xO b) fun u=>opt (zb Tryd.prog 105 u 1) fun v=>opt (nb [h] (zk Tryd.prog 3 v h f)) fun i=>opt (zd Tryd.prog 51 k i) fun w=>zR Tryd.prog (.func (.func 48) #[] #[]) [a,b,w] i (fun x j=>opt (KE Tryd.prog .not x) fun y=>CD y (lM a j)
 (fun z=>z [] j)
 (fun C A=>l [] A))
def JJ:=fun a c (R:Value->za->Prop) e f (g:List Value->za->Prop) (m:List Value) (b:za)=>
 opt (xO a) fun h=>opt (zb Tryd.prog 89 h 4) fun i=>opt (zb Tryd.prog 34 i 4) fun j=>opt (zd Tryd.prog 3 j b) fun d=>opt (nb [d,c] (zf Tryd.prog .eql 3 (.tmp 81) (.tmp 82) d c)) fun k=>CD k (lL a b R)
 (fun l=>l [] b)
 (lN a e f g)
def Un:=fun b c (d:List Value->za->Prop) g h (R:Value->za->Prop) i j (e:za)=>
 GD b true (fun k=>opt (KE Tryd.prog .not j) fun a=>k a e) (fun a f=>opt (pk b a (.bool false)) fun l=>CD l (lK c f d)
 (fun m=>m [] f)
 (JJ g h R c i d)) e
def lO:=fun d h i (j:List Value->za->Prop) k l (R:Value->za->Prop) (u:List Value) (a:za)=>
 opt (xO d) fun m=>opt (zb Tryd.prog 105 m 1) fun n=>opt (zd Tryd.prog 3 n a) fun o=>opt (zA Tryd.prog 47 h o) fun p=>opt (zd Tryd.prog 51 p a) fun e=>opt (xP Tryd.prog 51) fun q=>nw a (Value.cells q).toList 51 fun b r=>opt (nb [e] (zk Tryd.prog 51 b e r)) fun c=>opt (zb Tryd.prog 51 b 0) fun s=>opt (zd Tryd.prog 3 s c) fun f=>opt (nb [f,.int .i64 20] (zf Tryd.prog .eql 3 (.tmp 64) (.const (.int .i64 20)) f (.int .i64 20))) fun g=>GD g true (fun t=>t i c) (Un g d j k l R b) c
def lP:=fun b (a:za) (R:Value->za->Prop) j k (l:List Value->za->Prop)=>
 opt (xO b) fun m=>opt (zb Tryd.prog 89 m 6) fun n=>opt (zd Tryd.prog 84 n a) fun o=>opt (xO b) fun p=>opt (zb Tryd.prog 89 p 6) fun q=>opt (zd Tryd.prog 84 q a) fun e=>xA (nb [e] (zo Tryd.prog .len [84] 3 [e] a)) fun f _=>opt (nb [f,.int .i64 1] (zf Tryd.prog .sub 3 (.tmp 30) (.const (.int .i64 1)) f (.int .i64 1))) fun r=>opt (zA Tryd.prog 84 o r) fun c=>opt (xO b) fun s=>opt (zb Tryd.prog 89 s 0) fun t=>opt (zb Tryd.prog 25 t 1) fun u=>opt (zd Tryd.prog 23 u a) fun v=>opt (xO c) fun w=>opt (zb Tryd.prog 105 w 0) fun x=>opt (zd Tryd.prog 3 x a) fun y=>opt (zA Tryd.prog 23 v y) fun z=>opt (zb Tryd.prog 49 z 1) fun A=>opt (zd Tryd.prog 47 A a) fun d=>opt (xO c) fun B=>opt (zb Tryd.prog 105 B 1) fun C=>opt (zd Tryd.prog 3 C a) fun g=>xA (nb [d] (zo Tryd.prog .len [47] 3 [d] a)) fun h i=>opt (nb [g,h] (zf Tryd.prog .eql 3 (.tmp 48) (.tmp 50) g h)) fun D=>CD D (lJ b i R)
 (fun E=>E [] i)
 (lO c d j l b k R)
def Qp:=fun b (e:List Value->za->Prop) (R:Value->za->Prop) f g (o:List Value) (a:za) (h:List Value->za->Prop)=>
 opt (xO b) fun i=>opt (zb Tryd.prog 89 i 4) fun j=>opt (zb Tryd.prog 34 j 0) fun k=>opt (zd Tryd.prog 3 k a) fun c=>opt (nb [c,.int .i64 0] (zf Tryd.prog .eql 3 (.tmp 20) (.const (.int .i64 0)) c (.int .i64 0))) fun l=>CD l (fun d=>d [] a)
 (fun d=>e [] a)
 (fun p m=>BK (lP b m R f g)
 (fun q n=>h [] n))
def oC:=fun (h:za) a b c (R:Value->za->Prop)=>
 opt (xO a) fun d=>opt (zb Tryd.prog 89 d 0) fun e=>opt (zb Tryd.prog 25 e 2) fun f=>opt (zd Tryd.prog 3 f h) fun g=>zR Tryd.prog (.func (.func 47) #[] #[]) [a,g] h (fun l i=>BK (fun j=>LP (Qp a j R c b)
 [] i)
 (fun m k=>rv [] k R))
theorem tM (h:za) (t0 t1 t2:Value) (R:Value->za->Prop):X2 Tryd.prog (vG Tryd.prog qs) 200 37 [t0,t1,t2] h R=oC h t0 t1 t2 R:=by kernel_rfl
theorem tN {h:za} {t0 t1 t2:Value} {R:Value->za->Prop} (hw:oC h t0 t1 t2 R):DC Tryd.prog 37 [t0,t1,t2] h R:=xw mixed (n:=200) (by rw [tM];exact hw)
def lQ:=fun b c (d:za) (e:List Value->za->Prop) a=>
 opt (xO b) fun f=>opt (zb Tryd.prog 89 f 7) fun g=>opt (zA Tryd.prog 87 g c) fun h=>opt (nb [a] (zk Tryd.prog 86 h a d)) fun i=>e [.bool false] i
def lR:=fun b c (d:za) (e:List Value->za->Prop) a=>
 opt (xO b) fun f=>opt (zb Tryd.prog 89 f 7) fun g=>opt (zA Tryd.prog 87 g c) fun h=>opt (nb [a] (zk Tryd.prog 86 h a d)) fun i=>e [.bool false] i
def JK:=fun b d e f g (R:Value->za->Prop) h (c:za)=>
 GD b true (fun i=>jj Tryd.prog 64 [d,e,f,g,h] c (fun a j=>i a j)) (fun a k=>opt (pk b a (.bool false)) fun l=>rv [l] k R) c
def JL:=fun a f g h i (R:Value->za->Prop) d (e:za)=>
 GD a true (fun j=>opt (nb [d,.int .i64 63] (zf Tryd.prog .and 2 (.tmp 175) (.const (.int .i64 63)) d (.int .i64 63))) fun b=>j b e) (fun b c=>GD a true (fun k=>qX Tryd.prog 46 [b] c (fun l=>k l c)) (JK a f g h i R) c) e
def JM:=fun a e f g h (R:Value->za->Prop) i (d:za)=>
 GD a true (fun j=>opt (zb Tryd.prog 86 e 1) fun b=>j b d) (fun b c=>GD a true (fun k=>opt (zd Tryd.prog 2 b c) fun l=>k l c) (JL a f g h i R) c) d
def JN:=fun a e f g h i (R:Value->za->Prop) j (d:za)=>
 GD a true (fun k=>opt (zA Tryd.prog 87 j e) fun b=>k b d) (fun b c=>GD a true (fun l=>opt (zd Tryd.prog 86 b c) fun m=>l m c) (JM a f g h i R) c) d
def JO:=fun a e f g h i (R:Value->za->Prop) j (c:za)=>
 GD a true (fun k=>opt (xO e) fun b=>k b c) (fun b d=>GD a true (fun l=>opt (zb Tryd.prog 89 b 7) fun m=>l m d) (JN a j f g h i R) d) c
def JP:=fun a e f g h i (R:Value->za->Prop) j (d:za)=>
 GD a true (fun k=>opt (zb Tryd.prog 51 e 1) fun b=>k b d) (fun b c=>GD a true (fun l=>opt (zd Tryd.prog 3 b c) fun m=>l m c) (JO a j f g h i R) c) d
def JQ:=fun a e f g h i (R:Value->za->Prop) j (b:za)=>
 GD a true (fun k=>opt (zd Tryd.prog 3 j b) fun c=>k c b) (fun c d=>GD a true (fun l=>l e d) (JP a f g h i c R) d) b
def Qq:=fun a d f g h (R:Value->za->Prop) i (b:za)=>
 GD a true (fun j=>opt (zd Tryd.prog 3 i b) fun c=>j c b) (fun c e=>GD a true (fun k=>opt (zb Tryd.prog 51 d 1) fun l=>k l e) (JQ a f d g h c R) e) b
def eE:=fun a (e:za) (R:Value->za->Prop) b=>
 opt (xO a) fun f=>opt (zb Tryd.prog 89 f 7) fun g=>opt (zA Tryd.prog 87 g (.int .i64 2)) fun h=>opt (nb [b] (zk Tryd.prog 86 h b e)) fun c=>opt (xO a) fun i=>opt (zb Tryd.prog 89 i 7) fun j=>opt (zA Tryd.prog 87 j (.int .i64 0)) fun k=>opt (zb Tryd.prog 86 k 0) fun l=>opt (zd Tryd.prog 3 l c) fun d=>opt (nb [d,.int .i64 1] (zf Tryd.prog .eql 3 (.tmp 197) (.const (.int .i64 1)) d (.int .i64 1))) fun m=>rv [m] c R
def eF:=fun a (d:za) b (e:List Value->za->Prop) c=>
 opt (xO a) fun f=>opt (zb Tryd.prog 89 f 8) fun g=>opt (nb [.bool true] (zk Tryd.prog 4 g (.bool true) d)) fun h=>opt (xO a) fun i=>opt (zb Tryd.prog 89 i 9) fun j=>opt (nb [b] (zk Tryd.prog 86 j b h)) fun k=>opt (xO a) fun l=>opt (zb Tryd.prog 89 l 10) fun m=>opt (nb [c] (zk Tryd.prog 86 m c k)) fun n=>e [.bool false] n
def Qr:=fun b d e f g (R:Value->za->Prop) h (c:za)=>
 GD b true (fun i=>jj Tryd.prog 64 [d,e,f,g,h] c (fun a j=>i a j)) (fun a k=>opt (pk b a (.bool false)) fun l=>rv [l] k R) c
def Qs:=fun a e f g h (R:Value->za->Prop) i (d:za)=>
 GD a true (fun j=>opt (zb Tryd.prog 89 i 10) fun b=>j b d) (fun b c=>GD a true (fun k=>opt (zd Tryd.prog 86 b c) fun l=>k l c) (Qr a e f g h R) c) d
def Qt:=fun a d e f g (R:Value->za->Prop) h (b:za)=>
 GD a true (fun i=>i d b) (fun j c=>GD a true (fun k=>opt (xO j) fun l=>k l c) (Qs a e f g h R) c) b
def Qu:=fun a e f g h (R:Value->za->Prop) i (d:za)=>
 GD a true (fun j=>opt (zb Tryd.prog 89 i 9) fun b=>j b d) (fun b c=>GD a true (fun k=>opt (zd Tryd.prog 86 b c) fun l=>k l c) (Qt a e f g h R) c) d
def Qv:=fun a b e f (R:Value->za->Prop) g (c:za)=>
 GD a true (fun h=>h b c) (fun i d=>GD a true (fun j=>opt (xO i) fun k=>j k d) (Qu a b e f g R) d) c
def Qw:=fun a e f g (R:Value->za->Prop) h (d:za)=>
 GD a true (fun i=>opt (zb Tryd.prog 51 e 1) fun b=>i b d) (fun b c=>GD a true (fun j=>opt (zd Tryd.prog 3 b c) fun k=>j k c) (Qv a f g h R) c) d
def Qx:=fun a d f (R:Value->za->Prop) g (e:za)=>
 GD a true (fun h=>opt (zb Tryd.prog 51 d 4) fun b=>h b e) (fun b c=>GD a true (fun i=>opt (zd Tryd.prog 3 b c) fun j=>i j c) (Qw a d f g R) c) e
def eG:=fun f (a:za) b g (h:List Value->za->Prop)=>
 opt (xO f) fun i=>opt (zb Tryd.prog 89 i 1) fun j=>opt (zd Tryd.prog 81 j a) fun k=>opt (xO b) fun l=>opt (zb Tryd.prog 105 l 0) fun m=>opt (zd Tryd.prog 3 m a) fun n=>opt (zA Tryd.prog 81 k n) fun o=>opt (zd Tryd.prog 99 o a) fun c=>opt (zb Tryd.prog 51 g 5) fun p=>opt (zd Tryd.prog 3 p a) fun d=>opt (nb [c,d] (kg Tryd.prog 99 c d false a)) fun e=>opt (xO b) fun q=>opt (zb Tryd.prog 105 q 1) fun r=>opt (nb [e] (zk Tryd.prog 3 r e a)) fun s=>h [] s
def Qy:=fun c d e f (g:List Value->za->Prop) h (m:Value) (a:za)=>
 opt (zb Tryd.prog 86 c 1) fun i=>opt (zd Tryd.prog 2 i a) fun b=>opt (nb [b,.int .i64 0] (zf Tryd.prog .neq 2 (.tmp 326) (.const (.int .i64 0)) b (.int .i64 0))) fun j=>CD j (eG d a e f)
 (fun k=>k [] a)
 (fun n l=>g [nth h 0] l)
def eH:=fun a b d e (f:List Value->za->Prop) g (c:za)=>
 opt (zb Tryd.prog 86 a 1) fun h=>opt (zd Tryd.prog 2 h c) fun i=>zR Tryd.prog (.func (.func 70) #[] #[]) [b,.int .i64 1,i,.int .i64 0] c (Qy a b d e f g)
def WL:=fun c (R:Value->za->Prop) d e f g (h:List Value->za->Prop) i (a:za)=>
 opt (pk c (.bool true) i) fun j=>CD j (fun b=>rv [.bool false] a R)
 (fun b=>b [.bool false] a)
 (eH d e f g h)
def WM:=fun a (R:Value->za->Prop) e f g h (i:List Value->za->Prop) j (b:za)=>
 GD a false (fun k=>opt (zd Tryd.prog 4 j b) fun c=>k c b) (fun c d=>GD a false (fun l=>opt (KE Tryd.prog .not c) fun m=>l m d) (WL a R e f g h i) d) b
def WN:=fun a (R:Value->za->Prop) e f g h (i:List Value->za->Prop) j (c:za)=>
 GD a false (fun k=>opt (xO j) fun b=>k b c) (fun b d=>GD a false (fun l=>opt (zb Tryd.prog 89 b 8) fun m=>l m d) (WM a R e f g h i) d) c
def eI:=fun (g:za) a (R:Value->za->Prop) h i (j:List Value->za->Prop) b=>
 opt (ZW b 0) fun c=>opt (ZW b 1) fun k=>opt (xP Tryd.prog 86) fun l=>nw g (Value.cells l).toList 86 fun d m=>opt (nb [c] (zk Tryd.prog 86 d c m)) fun e=>opt (KE Tryd.prog .not k) fun f=>GD f false (fun n=>n a e) (WN f R d a h i j) e
def eJ:=fun b c (d:List Value->za->Prop) (h:Value) (a:za)=>
 opt (zb Tryd.prog 51 b 3) fun e=>opt (zd Tryd.prog 3 e a) fun f=>zR Tryd.prog (.func (.func 47) #[] #[]) [c,f] a (fun i g=>d [.bool false] g)
def eK:=fun b (c:za) (d:List Value->za->Prop) a=>
 opt (xO b) fun e=>opt (zb Tryd.prog 89 e 7) fun f=>opt (zA Tryd.prog 87 f (.int .i64 0)) fun g=>opt (nb [a] (zk Tryd.prog 86 g a c)) fun h=>d [.bool false] h
def eL:=fun a (c:List Value->za->Prop) d (b:za)=>
 opt (xO a) fun e=>opt (zb Tryd.prog 89 e 7) fun f=>opt (zA Tryd.prog 87 f (.int .i64 0)) fun g=>opt (zb Tryd.prog 86 g 1) fun h=>opt (zd Tryd.prog 2 h b) fun i=>zR Tryd.prog (.func (.func 74) #[] #[]) [a,.int .i64 2,i] b (fun k j=>c [nth d 0] j)
def Qz:=fun b (a:za) (R:Value->za->Prop) (e:List Value->za->Prop)=>
 opt (xO b) fun f=>opt (zb Tryd.prog 89 f 7) fun g=>opt (zA Tryd.prog 87 g (.int .i64 0)) fun h=>opt (zb Tryd.prog 86 h 0) fun i=>opt (zd Tryd.prog 3 i a) fun c=>opt (nb [c,.int .i64 1] (zf Tryd.prog .neq 3 (.tmp 392) (.const (.int .i64 1)) c (.int .i64 1))) fun j=>CD j (fun d=>rv [.bool false] a R)
 (fun d=>d [.bool false] a)
 (eL b e)
def eM:=fun a (b:za) (e:List Value->za->Prop)=>
 opt (xO a) fun f=>opt (zb Tryd.prog 89 f 3) fun g=>opt (zd Tryd.prog 83 g b) fun h=>zR Tryd.prog (.func (.func 73) #[] #[]) [h] b (fun c i=>zR Tryd.prog (.func (.func 74) #[] #[]) [a,.int .i64 1,c] i (fun j d=>qX Tryd.prog 46 [c] d (eK a d e)))
def WO:=fun a c (b:za) (R:Value->za->Prop) (d:List Value->za->Prop)=>
 opt (nb [a,.int .i64 26] (zf Tryd.prog .eql 3 (.tmp 12) (.const (.int .i64 26)) a (.int .i64 26))) fun e=>CD e (Qz c b R)
 (fun f=>f [.bool false] b)
 (fun g h=>d [nth g 0] h)
def YR:=fun a b (c:za) (R:Value->za->Prop) (d:List Value->za->Prop)=>
 opt (nb [a,.int .i64 25] (zf Tryd.prog .eql 3 (.tmp 12) (.const (.int .i64 25)) a (.int .i64 25))) fun e=>CD e (eM b c)
 (WO a b c R)
 (fun f g=>d [nth f 0] g)
def jF:=fun c b d (R:Value->za->Prop) e (f:List Value->za->Prop) g (a:za)=>
 CD (nth g 0) (fun m=>opt (zd Tryd.prog 51 c a) fun h=>zR Tryd.prog (.func (.func 72) #[] #[]) [b,d,h] a (fun i j=>rv [i] j R))
 (YR e b a R)
 (fun k l=>f [nth k 0] l)
def jG:=fun a (c:za) e f g (R:Value->za->Prop) (h:List Value->za->Prop)=>
 opt (nb [a,.int .i64 23] (zf Tryd.prog .eql 3 (.tmp 12) (.const (.int .i64 23)) a (.int .i64 23))) fun d=>CD d (fun b=>b [d] c)
 (fun b=>opt (nb [a,.int .i64 24] (zf Tryd.prog .eql 3 (.tmp 12) (.const (.int .i64 24)) a (.int .i64 24))) fun i=>b [i] c)
 (jF e f g R a h)
def eN:=fun a (d:za) b (e:List Value->za->Prop)=>
 opt (xO a) fun f=>opt (zb Tryd.prog 89 f 8) fun g=>opt (nb [.bool false] (zk Tryd.prog 4 g (.bool false) d)) fun c=>opt (zb Tryd.prog 51 b 3) fun h=>opt (zd Tryd.prog 3 h c) fun i=>zR Tryd.prog (.func (.func 70) #[] #[]) [a,.int .i64 4,i,.int .i64 0] c (eJ b a e)
def kX:=fun a b c (d:za) (R:Value->za->Prop) e (f:List Value->za->Prop)=>
 opt (nb [a,.int .i64 22] (zf Tryd.prog .eql 3 (.tmp 12) (.const (.int .i64 22)) a (.int .i64 22))) fun g=>CD g (fun l=>zR Tryd.prog (.func (.func 71) #[] #[]) [b,c] d (fun h i=>rv [h] i R))
 (jG a d e b c R)
 (fun j k=>f [nth j 0] k)
def eO:=fun c (a:za) b (R:Value->za->Prop) d (e:List Value->za->Prop)=>
 opt (zb Tryd.prog 51 c 4) fun f=>opt (zd Tryd.prog 3 f a) fun g=>opt (xO b) fun h=>opt (zb Tryd.prog 89 h 9) fun i=>opt (zd Tryd.prog 86 i a) fun j=>opt (xO b) fun k=>opt (zb Tryd.prog 89 k 10) fun l=>opt (zd Tryd.prog 86 l a) fun m=>qX Tryd.prog 69 [g,j,m] a (eI a b R d c e)
def qP:=fun a b (c:za) d e (R:Value->za->Prop) (f:List Value->za->Prop)=>
 opt (nb [a,.int .i64 21] (zf Tryd.prog .eql 3 (.tmp 12) (.const (.int .i64 21)) a (.int .i64 21))) fun g=>CD g (eN b c d)
 (kX a b e c R d)
 (fun h i=>f [nth h 0] i)
def eP:=fun f (a:za) b g (h:List Value->za->Prop)=>
 opt (xO f) fun i=>opt (zb Tryd.prog 89 i 1) fun j=>opt (zd Tryd.prog 81 j a) fun k=>opt (xO b) fun l=>opt (zb Tryd.prog 105 l 0) fun m=>opt (zd Tryd.prog 3 m a) fun n=>opt (zA Tryd.prog 81 k n) fun o=>opt (zd Tryd.prog 99 o a) fun c=>opt (zb Tryd.prog 51 g 5) fun p=>opt (zd Tryd.prog 3 p a) fun d=>opt (nb [c,d] (kg Tryd.prog 99 c d false a)) fun e=>opt (xO b) fun q=>opt (zb Tryd.prog 105 q 1) fun r=>opt (nb [e] (zk Tryd.prog 3 r e a)) fun s=>h [.bool false] s
def qk:=fun a b (c:za) d (R:Value->za->Prop) e (f:List Value->za->Prop)=>
 opt (nb [a,.int .i64 19] (zf Tryd.prog .eql 3 (.tmp 12) (.const (.int .i64 19)) a (.int .i64 19))) fun g=>CD g (eO b c d R e)
 (qP a d c b e R)
 (fun h i=>f [nth h 0] i)
def QA:=fun a (b:za) d (R:Value->za->Prop) (h:List Value->za->Prop)=>
 opt (xO a) fun e=>opt (zb Tryd.prog 89 e 8) fun f=>opt (zd Tryd.prog 4 f b) fun c=>GD c true (fun g=>g a b) (Qx c d a R) b
def uR:=fun a b (c:za) d e (R:Value->za->Prop) (f:List Value->za->Prop)=>
 opt (nb [a,.int .i64 18] (zf Tryd.prog .eql 3 (.tmp 12) (.const (.int .i64 18)) a (.int .i64 18))) fun g=>CD g (eP b c d e)
 (qk a e c b R d)
 (fun h i=>f [nth h 0] i)
def eQ:=fun b (a:za) c (d:List Value->za->Prop)=>
 opt (zb Tryd.prog 51 b 1) fun e=>opt (zd Tryd.prog 3 e a) fun f=>opt (xO c) fun g=>opt (zb Tryd.prog 89 g 7) fun h=>opt (zA Tryd.prog 87 h f) fun i=>opt (zd Tryd.prog 86 i a) fun j=>opt (zb Tryd.prog 51 b 6) fun k=>opt (zd Tryd.prog 2 k a) fun l=>qX Tryd.prog 46 [l] a (eF c a j d)
def vQ:=fun a b (c:za) d (R:Value->za->Prop) e (f:List Value->za->Prop)=>
 opt (nb [a,.int .i64 17] (zf Tryd.prog .eql 3 (.tmp 12) (.const (.int .i64 17)) a (.int .i64 17))) fun g=>CD g (QA b c d R)
 (uR a b c e d R)
 (fun h i=>f [nth h 0] i)
def eR:=fun c (a:za) b (f:List Value->za->Prop)=>
 opt (zb Tryd.prog 51 c 1) fun g=>opt (zd Tryd.prog 3 g a) fun h=>opt (xO b) fun i=>opt (zb Tryd.prog 89 i 7) fun j=>opt (zA Tryd.prog 87 j h) fun k=>opt (zd Tryd.prog 86 k a) fun d=>opt (zb Tryd.prog 51 c 2) fun l=>opt (zd Tryd.prog 3 l a) fun m=>opt (xO b) fun n=>opt (zb Tryd.prog 89 n 7) fun o=>opt (zA Tryd.prog 87 o m) fun p=>opt (zd Tryd.prog 86 p a) fun e=>opt (xO b) fun q=>opt (zb Tryd.prog 89 q 8) fun r=>opt (nb [.bool true] (zk Tryd.prog 4 r (.bool true) a)) fun s=>opt (xO b) fun t=>opt (zb Tryd.prog 89 t 9) fun u=>opt (nb [d] (zk Tryd.prog 86 u d s)) fun v=>opt (xO b) fun w=>opt (zb Tryd.prog 89 w 10) fun x=>opt (nb [e] (zk Tryd.prog 86 x e v)) fun y=>f [.bool false] y
def vw:=fun a b (c:za) d (R:Value->za->Prop) e (f:List Value->za->Prop)=>
 opt (nb [a,.int .i64 16] (zf Tryd.prog .eql 3 (.tmp 12) (.const (.int .i64 16)) a (.int .i64 16))) fun g=>CD g (eQ b c d)
 (vQ a d c b R e)
 (fun h i=>f [nth h 0] i)
def eS:=fun c (a:za) b (R:Value->za->Prop) (l:List Value->za->Prop)=>
 opt (zb Tryd.prog 51 c 2) fun d=>opt (zd Tryd.prog 3 d a) fun e=>opt (xO b) fun f=>opt (zb Tryd.prog 89 f 7) fun g=>opt (zA Tryd.prog 87 g e) fun h=>opt (zd Tryd.prog 86 h a) fun i=>jj Tryd.prog 68 [b,i] a (fun j k=>rv [j] k R)
def vi:=fun a b (c:za) d (R:Value->za->Prop) e (f:List Value->za->Prop)=>
 opt (nb [a,.int .i64 15] (zf Tryd.prog .eql 3 (.tmp 12) (.const (.int .i64 15)) a (.int .i64 15))) fun g=>CD g (eR b c d)
 (vw a b c d R e)
 (fun h i=>f [nth h 0] i)
def eT:=fun b (a:za) (R:Value->za->Prop) (g:List Value->za->Prop)=>
 opt (xO b) fun c=>opt (zb Tryd.prog 89 c 7) fun d=>opt (zA Tryd.prog 87 d (.int .i64 0)) fun e=>opt (zd Tryd.prog 86 e a) fun f=>qX Tryd.prog 67 [f] a (eE b a R)
def w5:=fun a b (c:za) d (R:Value->za->Prop) e (f:List Value->za->Prop)=>
 opt (nb [a,.int .i64 14] (zf Tryd.prog .eql 3 (.tmp 12) (.const (.int .i64 14)) a (.int .i64 14))) fun g=>CD g (eS b c d R)
 (vi a b c d R e)
 (fun h i=>f [nth h 0] i)
def eU:=fun a (e:za) f (R:Value->za->Prop) (t:List Value->za->Prop)=>
 opt (xO a) fun j=>opt (zb Tryd.prog 89 j 7) fun k=>opt (zA Tryd.prog 87 k (.int .i64 1)) fun l=>opt (zd Tryd.prog 86 l e) fun g=>opt (xP Tryd.prog 86) fun m=>nw e (Value.cells m).toList 86 fun b n=>opt (nb [g] (zk Tryd.prog 86 b g n)) fun c=>opt (zb Tryd.prog 86 b 0) fun o=>opt (zd Tryd.prog 3 o c) fun h=>opt (nb [h,.int .i64 1] (zf Tryd.prog .eql 3 (.tmp 159) (.const (.int .i64 1)) h (.int .i64 1))) fun d=>GD d true (fun p=>p a c) (fun q i=>GD d true (fun r=>opt (zb Tryd.prog 51 f 3) fun s=>r s i) (Qq d f a b q R) i) c
def wJ:=fun a b (c:za) (R:Value->za->Prop) d e (f:List Value->za->Prop)=>
 opt (nb [a,.int .i64 13] (zf Tryd.prog .eql 3 (.tmp 12) (.const (.int .i64 13)) a (.int .i64 13))) fun g=>CD g (eT b c R)
 (w5 a d c b R e)
 (fun h i=>f [nth h 0] i)
def eV:=fun b (a:za) c (R:Value->za->Prop) (p:List Value->za->Prop)=>
 opt (zb Tryd.prog 51 b 3) fun d=>opt (zd Tryd.prog 3 d a) fun e=>opt (zb Tryd.prog 51 b 1) fun f=>opt (zd Tryd.prog 3 f a) fun g=>opt (zb Tryd.prog 51 b 2) fun h=>opt (zd Tryd.prog 3 h a) fun i=>opt (xO c) fun j=>opt (zb Tryd.prog 89 j 7) fun k=>opt (zA Tryd.prog 87 k i) fun l=>opt (zd Tryd.prog 86 l a) fun m=>jj Tryd.prog 66 [c,e,g,m] a (fun n o=>rv [n] o R)
def wD:=fun a b (c:za) d (R:Value->za->Prop) e (f:List Value->za->Prop)=>
 opt (nb [a,.int .i64 12] (zf Tryd.prog .eql 3 (.tmp 12) (.const (.int .i64 12)) a (.int .i64 12))) fun g=>CD g (eU b c d R)
 (wJ a b c R d e)
 (fun h i=>f [nth h 0] i)
def eW:=fun b (a:za) c (R:Value->za->Prop) (p:List Value->za->Prop)=>
 opt (zb Tryd.prog 51 b 3) fun d=>opt (zd Tryd.prog 3 d a) fun e=>opt (zb Tryd.prog 51 b 1) fun f=>opt (zd Tryd.prog 3 f a) fun g=>opt (zb Tryd.prog 51 b 1) fun h=>opt (zd Tryd.prog 3 h a) fun i=>opt (xO c) fun j=>opt (zb Tryd.prog 89 j 7) fun k=>opt (zA Tryd.prog 87 k i) fun l=>opt (zd Tryd.prog 86 l a) fun m=>jj Tryd.prog 66 [c,e,g,m] a (fun n o=>rv [n] o R)
def wm:=fun a b (c:za) d (R:Value->za->Prop) e (f:List Value->za->Prop)=>
 opt (nb [a,.int .i64 10] (zf Tryd.prog .eql 3 (.tmp 12) (.const (.int .i64 10)) a (.int .i64 10))) fun g=>CD g (eV b c d R)
 (wD a d c b R e)
 (fun h i=>f [nth h 0] i)
def QB:=fun b (a:za) c (R:Value->za->Prop) (s:List Value->za->Prop)=>
 opt (zb Tryd.prog 51 b 3) fun d=>opt (zd Tryd.prog 3 d a) fun e=>opt (zb Tryd.prog 51 b 1) fun f=>opt (zd Tryd.prog 3 f a) fun g=>opt (zb Tryd.prog 51 b 1) fun h=>opt (zd Tryd.prog 3 h a) fun i=>opt (xO c) fun j=>opt (zb Tryd.prog 89 j 7) fun k=>opt (zA Tryd.prog 87 k i) fun l=>opt (zd Tryd.prog 86 l a) fun m=>opt (zb Tryd.prog 51 b 6) fun n=>opt (zd Tryd.prog 2 n a) fun o=>qX Tryd.prog 46 [o] a (fun p=>jj Tryd.prog 64 [c,e,g,m,p] a (fun q r=>rv [q] r R))
def xZ:=fun a b (c:za) d (R:Value->za->Prop) e (f:List Value->za->Prop)=>
 opt (nb [a,.int .i64 9] (zf Tryd.prog .eql 3 (.tmp 12) (.const (.int .i64 9)) a (.int .i64 9))) fun g=>CD g (eW b c d R)
 (wm a b c d R e)
 (fun h i=>f [nth h 0] i)
def eX:=fun b (a:za) c (R:Value->za->Prop) (v:List Value->za->Prop)=>
 opt (zb Tryd.prog 51 b 3) fun d=>opt (zd Tryd.prog 3 d a) fun e=>opt (zb Tryd.prog 51 b 1) fun f=>opt (zd Tryd.prog 3 f a) fun g=>opt (zb Tryd.prog 51 b 1) fun h=>opt (zd Tryd.prog 3 h a) fun i=>opt (xO c) fun j=>opt (zb Tryd.prog 89 j 7) fun k=>opt (zA Tryd.prog 87 k i) fun l=>opt (zd Tryd.prog 86 l a) fun m=>opt (zb Tryd.prog 51 b 2) fun n=>opt (zd Tryd.prog 3 n a) fun o=>opt (xO c) fun p=>opt (zb Tryd.prog 89 p 7) fun q=>opt (zA Tryd.prog 87 q o) fun r=>opt (zd Tryd.prog 86 r a) fun s=>jj Tryd.prog 64 [c,e,g,m,s] a (fun t u=>rv [t] u R)
def xM:=fun a (c:za) d e (R:Value->za->Prop) h (i:List Value->za->Prop)=>
 opt (nb [a,.int .i64 8] (zf Tryd.prog .eql 3 (.tmp 12) (.const (.int .i64 8)) a (.int .i64 8))) fun f=>CD f (fun b=>b [f] c)
 (fun b=>opt (nb [a,.int .i64 11] (zf Tryd.prog .eql 3 (.tmp 12) (.const (.int .i64 11)) a (.int .i64 11))) fun j=>b [j] c)
 (fun k g=>CD (nth k 0) (QB d g e R)
 (xZ a d g e R h)
 (fun l m=>i [nth l 0] m))
def eY:=fun b (a:za) c (d:List Value->za->Prop)=>
 opt (zb Tryd.prog 51 b 1) fun e=>opt (zd Tryd.prog 3 e a) fun f=>opt (xO c) fun g=>opt (zb Tryd.prog 89 g 5) fun h=>opt (zd Tryd.prog 22 h a) fun i=>opt (zb Tryd.prog 51 b 3) fun j=>opt (zd Tryd.prog 3 j a) fun k=>opt (zA Tryd.prog 22 i k) fun l=>opt (zd Tryd.prog 3 l a) fun m=>opt (zb Tryd.prog 51 b 6) fun n=>opt (zd Tryd.prog 2 n a) fun o=>qX Tryd.prog 65 [m,o] a (lR c f a d)
def xH:=fun a b (c:za) d (R:Value->za->Prop) e (f:List Value->za->Prop)=>
 opt (nb [a,.int .i64 7] (zf Tryd.prog .eql 3 (.tmp 12) (.const (.int .i64 7)) a (.int .i64 7))) fun g=>CD g (eX b c d R)
 (xM a c b d R e)
 (fun h i=>f [nth h 0] i)
def eZ:=fun b (a:za) c (R:Value->za->Prop) (q:List Value->za->Prop)=>
 opt (zb Tryd.prog 51 b 1) fun d=>opt (zd Tryd.prog 3 d a) fun e=>opt (zb Tryd.prog 51 b 2) fun f=>opt (zd Tryd.prog 3 f a) fun g=>opt (xO c) fun h=>opt (zb Tryd.prog 89 h 7) fun i=>opt (zA Tryd.prog 87 i g) fun j=>opt (zd Tryd.prog 86 j a) fun k=>opt (zb Tryd.prog 51 b 6) fun l=>opt (zd Tryd.prog 2 l a) fun m=>qX Tryd.prog 46 [m] a (fun n=>jj Tryd.prog 64 [c,.int .i64 11,e,k,n] a (fun o p=>rv [o] p R))
def xB:=fun a b (c:za) d (R:Value->za->Prop) e (f:List Value->za->Prop)=>
 opt (nb [a,.int .i64 6] (zf Tryd.prog .eql 3 (.tmp 12) (.const (.int .i64 6)) a (.int .i64 6))) fun g=>CD g (eY b c d)
 (xH a b c d R e)
 (fun h i=>f [nth h 0] i)
def xt:=fun a b (c:za) d (R:Value->za->Prop) e (f:List Value->za->Prop)=>
 opt (nb [a,.int .i64 5] (zf Tryd.prog .eql 3 (.tmp 12) (.const (.int .i64 5)) a (.int .i64 5))) fun g=>CD g (eZ b c d R)
 (xB a b c d R e)
 (fun h i=>f [nth h 0] i)
def xc:=fun b c (R:Value->za->Prop) d e (f:List Value->za->Prop) g (a:za)=>
 CD (nth g 0) (fun m=>opt (zd Tryd.prog 51 b a) fun h=>zR Tryd.prog (.func (.func 63) #[] #[]) [c,h] a (fun i j=>rv [i] j R))
 (xt d b a c R e)
 (fun k l=>f [nth k 0] l)
def e7:=fun b (a:za) c (d:List Value->za->Prop)=>
 opt (zb Tryd.prog 51 b 1) fun e=>opt (zd Tryd.prog 3 e a) fun f=>opt (zb Tryd.prog 51 b 6) fun g=>opt (zd Tryd.prog 2 g a) fun h=>qX Tryd.prog 46 [h] a (lQ c f a d)
def xe:=fun a (c:za) e f (R:Value->za->Prop) g (h:List Value->za->Prop)=>
 opt (nb [a,.int .i64 3] (zf Tryd.prog .eql 3 (.tmp 12) (.const (.int .i64 3)) a (.int .i64 3))) fun d=>CD d (fun b=>b [d] c)
 (fun b=>opt (nb [a,.int .i64 4] (zf Tryd.prog .eql 3 (.tmp 12) (.const (.int .i64 4)) a (.int .i64 4))) fun i=>b [i] c)
 (xc e f R a g h)
def e8:=fun b (a:za) c (e:List Value->za->Prop)=>
 opt (zb Tryd.prog 51 b 1) fun f=>opt (zd Tryd.prog 3 f a) fun g=>opt (zb Tryd.prog 51 b 2) fun h=>opt (zd Tryd.prog 3 h a) fun i=>opt (xO c) fun j=>opt (zb Tryd.prog 89 j 7) fun k=>opt (zA Tryd.prog 87 k i) fun l=>opt (zd Tryd.prog 86 l a) fun d=>opt (xO c) fun m=>opt (zb Tryd.prog 89 m 7) fun n=>opt (zA Tryd.prog 87 n g) fun o=>opt (nb [d] (zk Tryd.prog 86 o d a)) fun p=>e [.bool false] p
def y4:=fun a b (c:za) d (R:Value->za->Prop) e (f:List Value->za->Prop)=>
 opt (nb [a,.int .i64 2] (zf Tryd.prog .eql 3 (.tmp 12) (.const (.int .i64 2)) a (.int .i64 2))) fun g=>CD g (e7 b c d)
 (xe a c b d R e)
 (fun h i=>f [nth h 0] i)
def yU:=fun a b (c:za) d (R:Value->za->Prop) e (f:List Value->za->Prop)=>
 opt (nb [a,.int .i64 1] (zf Tryd.prog .eql 3 (.tmp 12) (.const (.int .i64 1)) a (.int .i64 1))) fun g=>CD g (e8 b c d)
 (y4 a b c d R e)
 (fun h i=>f [nth h 0] i)
def w8:=fun (h:za) d e a (R:Value->za->Prop)=>
 opt (nb [a] (some (Value.cells a).toList)) fun f=>nw h f 51 fun b c=>opt (zb Tryd.prog 51 b 0) fun g=>opt (zd Tryd.prog 3 g c) fun i=>BK (yU i b c d R e)
 (fun k j=>rv [.bool true] j R)
theorem tQ (h:za) (t0 t1 t2:Value) (R:Value->za->Prop):X2 Tryd.prog (vG Tryd.prog qs) 200 48 [t0,t1,t2] h R=w8 h t0 t1 t2 R:=by kernel_rfl
theorem xn {h:za} {t0 t1 t2:Value} {R:Value->za->Prop} (hw:w8 h t0 t1 t2 R):DC Tryd.prog 48 [t0,t1,t2] h R:=xw mixed (n:=200) (by rw [tQ];exact hw)
def dK:=fun a (b:za) c (h:List Value->za->Prop)=>
 opt (xO a) fun i=>opt (zb Tryd.prog 89 i 6) fun j=>opt (zd Tryd.prog 84 j b) fun d=>opt (nb [c] (yR Tryd.prog 105 [(0,c)])) fun e=>xA (nb [e] (y8 Tryd.prog 84 1 [(0,e)] b)) fun f k=>xA (nb [d,f] (zo Tryd.prog .append [84,84] 84 [d,f] k)) fun g l=>opt (xO a) fun m=>opt (zb Tryd.prog 89 m 6) fun n=>opt (nb [g] (zk Tryd.prog 84 n g l)) fun o=>h [] o
def gz:=fun (h:za) a c (R:Value->za->Prop)=>
 zR Tryd.prog (.func (.func 62) #[] #[]) [a,.int .i64 8] h (fun d b=>CD d (dK a b c)
 (fun e=>e [] b)
 (fun g f=>rv [] f R))
theorem oc (h:za) (t0 t1:Value) (R:Value->za->Prop):X2 Tryd.prog (vG Tryd.prog qs) 200 47 [t0,t1] h R=gz h t0 t1 R:=by kernel_rfl
theorem od {h:za} {t0 t1:Value} {R:Value->za->Prop} (hw:gz h t0 t1 R):DC Tryd.prog 47 [t0,t1] h R:=xw mixed (n:=200) (by rw [oc];exact hw)
def lG:=fun a (h:za) (R:Value->za->Prop) (f:List Value->za->Prop)=>
 opt (xO a) fun b=>opt (zb Tryd.prog 89 b 4) fun c=>opt (zb Tryd.prog 34 c 0) fun d=>opt (nb [.int .i64 4] (zk Tryd.prog 3 d (.int .i64 4) h)) fun e=>rv [.bool false] e R
def lH:=fun a c (R:Value->za->Prop) (u:List Value) (d:za)=>
 opt (xO a) fun j=>opt (zb Tryd.prog 89 j 11) fun k=>opt (zd Tryd.prog 3 k d) fun e=>opt (nb [e,c] (zf Tryd.prog .add 3 (.tmp 23) (.tmp 24) e c)) fun f=>opt (xO a) fun l=>opt (zb Tryd.prog 89 l 11) fun m=>opt (nb [f] (zk Tryd.prog 3 m f d)) fun b=>opt (xO a) fun n=>opt (zb Tryd.prog 89 n 13) fun o=>opt (zd Tryd.prog 3 o b) fun g=>opt (xO a) fun p=>opt (zb Tryd.prog 89 p 11) fun q=>opt (zd Tryd.prog 3 q b) fun h=>xA (nb [g,h] (zo Tryd.prog .max [3,3] 3 [g,h] b)) fun i _=>opt (xO a) fun r=>opt (zb Tryd.prog 89 r 13) fun s=>opt (nb [i] (zk Tryd.prog 3 s i b)) fun t=>rv [.bool true] t R
def oq:=fun (h:za) a b (R:Value->za->Prop)=>
 opt (xO a) fun f=>opt (zb Tryd.prog 89 f 12) fun g=>opt (zd Tryd.prog 3 g h) fun c=>opt (xO a) fun i=>opt (zb Tryd.prog 89 i 11) fun j=>opt (zd Tryd.prog 3 j h) fun d=>opt (nb [c,d] (zf Tryd.prog .sub 3 (.tmp 9) (.tmp 13) c d)) fun e=>opt (nb [b,e] (zf Tryd.prog .gtr 3 (.tmp 5) (.tmp 14) b e)) fun k=>CD k (lG a h R)
 (fun l=>l [.bool false] h)
 (lH a b R)
theorem tH (h:za) (t0 t1:Value) (R:Value->za->Prop):X2 Tryd.prog (vG Tryd.prog qs) 200 62 [t0,t1] h R=oq h t0 t1 R:=by kernel_rfl
theorem tI {h:za} {t0 t1:Value} {R:Value->za->Prop} (hw:oq h t0 t1 R):DC Tryd.prog 62 [t0,t1] h R:=xw mixed (n:=200) (by rw [tH];exact hw)
def Jl:=fun b (a:za) c d (R:Value->za->Prop) (s:List Value->za->Prop)=>
 opt (xO b) fun e=>opt (zb Tryd.prog 89 e 2) fun f=>opt (zd Tryd.prog 82 f a) fun g=>opt (zb Tryd.prog 51 c 3) fun h=>opt (zd Tryd.prog 3 h a) fun i=>opt (zd Tryd.prog 86 d a) fun j=>opt (zb Tryd.prog 51 c 1) fun k=>opt (zd Tryd.prog 3 k a) fun l=>opt (xO b) fun m=>opt (zb Tryd.prog 89 m 7) fun n=>opt (zA Tryd.prog 87 n l) fun o=>opt (zd Tryd.prog 86 o a) fun p=>jj Tryd.prog 87 [g,i,j,p] a (fun q r=>rv [q] r R)
def Jm:=fun c d (R:Value->za->Prop) a (e:za)=>
 opt (ZW a 0) fun b=>opt (ZW a 1) fun f=>opt (xO c) fun g=>opt (zb Tryd.prog 89 g 7) fun h=>opt (zA Tryd.prog 87 h d) fun i=>opt (nb [b] (zk Tryd.prog 86 i b e)) fun j=>rv [f] j R
def Jn:=fun b c d (R:Value->za->Prop) (m:List Value) (a:za)=>
 opt (zb Tryd.prog 51 b 1) fun e=>opt (zd Tryd.prog 3 e a) fun f=>opt (xO c) fun g=>opt (zb Tryd.prog 89 g 2) fun h=>opt (zd Tryd.prog 82 h a) fun i=>opt (zb Tryd.prog 51 b 3) fun j=>opt (zd Tryd.prog 3 j a) fun k=>opt (zd Tryd.prog 86 d a) fun l=>J2 Tryd.prog 88 [i,k,l] a (Jm c f R)
def Vt:=fun a c d (R:Value->za->Prop) f (j:Value) (b:za)=>
 opt (zb Tryd.prog 51 a 0) fun g=>opt (zd Tryd.prog 3 g b) fun e=>opt (nb [e,.int .i64 4] (zf Tryd.prog .eql 3 (.tmp 35) (.const (.int .i64 4)) e (.int .i64 4))) fun h=>CD h (Jl c b a d R)
 (fun i=>i [nth f 0] b)
 (Jn a c d R)
def Jo:=fun a c d (R:Value->za->Prop) e (b:za)=>
 opt (zb Tryd.prog 86 a 2) fun f=>opt (zd Tryd.prog 3 f b) fun g=>opt (zb Tryd.prog 86 a 1) fun h=>opt (zd Tryd.prog 2 h b) fun i=>zR Tryd.prog (.func (.func 70) #[] #[]) [c,.int .i64 2,g,i] b (Vt d c a R e)
def Xm:=fun b (R:Value->za->Prop) g h i c (d:za)=>
 GD b false (fun j=>opt (nb [c,.int .i64 2] (zf Tryd.prog .neq 3 (.tmp 25) (.const (.int .i64 2)) c (.int .i64 2))) fun a=>j a d) (fun a e=>opt (pk b (.bool true) a) fun k=>CD k (fun f=>rv [.bool false] e R)
 (fun f=>f [.bool false] e)
 (Jo g h i R)) d
def Jp:=fun (h:za) (R:Value->za->Prop) i j e=>
 opt (ZW e 0) fun f=>opt (ZW e 1) fun k=>opt (xP Tryd.prog 86) fun l=>nw h (Value.cells l).toList 86 fun a m=>opt (nb [f] (zk Tryd.prog 86 a f m)) fun g=>opt (KE Tryd.prog .not k) fun b=>GD b false (fun n=>opt (zb Tryd.prog 86 a 0) fun c=>n c g) (fun c d=>GD b false (fun o=>opt (zd Tryd.prog 3 c d) fun p=>o p d) (Xm b R a i j) d) g
def Jk:=fun (h:za) c d (R:Value->za->Prop)=>
 opt (nb [d] (some (Value.cells d).toList)) fun e=>nw h e 51 fun b a=>opt (zb Tryd.prog 51 b 2) fun f=>opt (zd Tryd.prog 3 f a) fun g=>opt (xO c) fun i=>opt (zb Tryd.prog 89 i 7) fun j=>opt (zA Tryd.prog 87 j g) fun k=>opt (zd Tryd.prog 86 k a) fun l=>opt (zb Tryd.prog 51 b 6) fun m=>opt (zd Tryd.prog 2 m a) fun n=>qX Tryd.prog 46 [n] a (fun o=>qX Tryd.prog 69 [.int .i64 11,l,o] a (Jp a R c b))
theorem lx (h:za) (t0 t1:Value) (R:Value->za->Prop):X2 Tryd.prog (vG Tryd.prog qs) 200 63 [t0,t1] h R=Jk h t0 t1 R:=by kernel_rfl
theorem ly {h:za} {t0 t1:Value} {R:Value->za->Prop} (hw:Jk h t0 t1 R):DC Tryd.prog 63 [t0,t1] h R:=xw mixed (n:=200) (by rw [lx];exact hw)
def rS:=fun f g (R:Value->za->Prop) a (h:za)=>
 opt (ZW a 0) fun b=>opt (ZW a 1) fun i=>opt (xP Tryd.prog 86) fun j=>nw h (Value.cells j).toList 86 fun c k=>opt (nb [b] (zk Tryd.prog 86 c b k)) fun d=>opt (zd Tryd.prog 86 c d) fun e=>opt (xO f) fun l=>opt (zb Tryd.prog 89 l 7) fun m=>opt (zA Tryd.prog 87 m g) fun n=>opt (nb [e] (zk Tryd.prog 86 n e d)) fun o=>rv [i] o R
def BE:=fun (h:za) d e f b c (R:Value->za->Prop)=>
 opt (nb [b] (some (Value.cells b).toList)) fun g=>nw h g 86 fun i j=>opt (nb [c] (some (Value.cells c).toList)) fun k=>nw j k 86 fun l a=>opt (zd Tryd.prog 86 i a) fun m=>opt (zd Tryd.prog 86 l a) fun n=>zR Tryd.prog (.func (.func 69) #[] #[]) [e,m,n] a (rS d f R)
theorem BF (h:za) (t0 t1 t2 t3 t4:Value) (R:Value->za->Prop):X2 Tryd.prog (vG Tryd.prog qs) 200 64 [t0,t1,t2,t3,t4] h R=BE h t0 t1 t2 t3 t4 R:=by kernel_rfl
theorem BG {h:za} {t0 t1 t2 t3 t4:Value} {R:Value->za->Prop} (hw:BE h t0 t1 t2 t3 t4 R):DC Tryd.prog 64 [t0,t1,t2,t3,t4] h R:=xw mixed (n:=200) (by rw [BF];exact hw)
def BN:=fun f g (R:Value->za->Prop) a (h:za)=>
 opt (ZW a 0) fun b=>opt (ZW a 1) fun i=>opt (xP Tryd.prog 86) fun j=>nw h (Value.cells j).toList 86 fun c k=>opt (nb [b] (zk Tryd.prog 86 c b k)) fun d=>opt (zd Tryd.prog 86 c d) fun e=>opt (xO f) fun l=>opt (zb Tryd.prog 89 l 7) fun m=>opt (zA Tryd.prog 87 m g) fun n=>opt (nb [e] (zk Tryd.prog 86 n e d)) fun o=>rv [i] o R
def FX:=fun (h:za) c d e a (R:Value->za->Prop)=>
 opt (nb [a] (some (Value.cells a).toList)) fun f=>nw h f 86 fun g b=>opt (zd Tryd.prog 86 g b) fun i=>zR Tryd.prog (.func (.func 89) #[] #[]) [d,i] b (BN c e R)
theorem DR (h:za) (t0 t1 t2 t3:Value) (R:Value->za->Prop):X2 Tryd.prog (vG Tryd.prog qs) 200 66 [t0,t1,t2,t3] h R=FX h t0 t1 t2 t3 R:=by kernel_rfl
theorem DS {h:za} {t0 t1 t2 t3:Value} {R:Value->za->Prop} (hw:FX h t0 t1 t2 t3 R):DC Tryd.prog 66 [t0,t1,t2,t3] h R:=xw mixed (n:=200) (by rw [DR];exact hw)
def oD:=fun (h:za) a (R:Value->za->Prop)=>
 opt (nb [a] (some (Value.cells a).toList)) fun g=>nw h g 86 fun i j=>opt (xP Tryd.prog 86) fun k=>nw j (Value.cells k).toList 86 fun b c=>opt (zb Tryd.prog 86 i 1) fun l=>opt (zd Tryd.prog 2 l c) fun d=>opt (nb [d,.int .u64 63] (zf Tryd.prog .shr 2 (.tmp 4) (.const (.int .u64 63)) d (.int .u64 63))) fun m=>zR Tryd.prog (.func (.func 46) #[] #[]) [m] c (fun e n=>opt (nb [e] (zk Tryd.prog 86 b e n)) fun f=>opt (zd Tryd.prog 86 b f) fun o=>rv [o] f R)
theorem tO (h:za) (t0:Value) (R:Value->za->Prop):X2 Tryd.prog (vG Tryd.prog qs) 200 67 [t0] h R=oD h t0 R:=by kernel_rfl
theorem tP {h:za} {t0:Value} {R:Value->za->Prop} (hw:oD h t0 R):DC Tryd.prog 67 [t0] h R:=xw mixed (n:=200) (by rw [tO];exact hw)
def Vx:=fun b d e (R:Value->za->Prop) f (c:za)=>
 GD b true (fun g=>zR Tryd.prog (.func (.func 64) #[] #[]) [d,.int .i64 15,.int .i64 2,e,f] c (fun a h=>g a h)) (fun a i=>opt (pk b a (.bool false)) fun j=>rv [j] i R) c
def Vy:=fun a e f (R:Value->za->Prop) g (b:za)=>
 GD a true (fun h=>opt (zd Tryd.prog 86 e b) fun c=>h c b) (fun c d=>GD a true (fun i=>opt (zd Tryd.prog 86 f d) fun j=>i j d) (Vx a g c R) d) b
def JA:=fun b c d (R:Value->za->Prop) (j:List Value) (a:za)=>
 opt (zd Tryd.prog 86 b a) fun g=>opt (zd Tryd.prog 86 c a) fun h=>zR Tryd.prog (.func (.func 64) #[] #[]) [d,.int .i64 14,.int .i64 0,g,h] a (fun e f=>GD e true (fun i=>i d f) (Vy e b c R) f)
def Vz:=fun a (b:za) (R:Value->za->Prop) e f g h c=>
 opt (nb [a,c] (zf Tryd.prog .neq 86 (.tmp 29) (.tmp 31) a c)) fun i=>CD i (fun d=>rv [.bool false] b R)
 (fun d=>d [nth e 0] b)
 (JA f g h R)
def JB:=fun b c (R:Value->za->Prop) d e (k:Value) (a:za)=>
 opt (xO b) fun f=>opt (zb Tryd.prog 89 f 7) fun g=>opt (zA Tryd.prog 87 g (.int .i64 2)) fun h=>opt (zd Tryd.prog 86 h a) fun i=>opt (zd Tryd.prog 86 c a) fun j=>qX Tryd.prog 67 [j] a (Vz i a R d c e b)
def JC:=fun b c d (R:Value->za->Prop) e (a:za)=>
 opt (zb Tryd.prog 86 b 1) fun f=>opt (zd Tryd.prog 2 f a) fun g=>opt (zb Tryd.prog 86 c 1) fun h=>opt (zd Tryd.prog 2 h a) fun i=>zR Tryd.prog (.func (.func 70) #[] #[]) [d,.int .i64 3,g,i] a (JB d b R e c)
def Xo:=fun b (R:Value->za->Prop) g h i c (d:za)=>
 GD b false (fun j=>opt (nb [c,.int .i64 1] (zf Tryd.prog .neq 3 (.tmp 16) (.const (.int .i64 1)) c (.int .i64 1))) fun a=>j a d) (fun a e=>opt (pk b (.bool true) a) fun k=>CD k (fun f=>rv [.bool false] e R)
 (fun f=>f [.bool false] e)
 (JC g h i R)) d
def Jz:=fun (h:za) f g (R:Value->za->Prop)=>
 opt (nb [g] (some (Value.cells g).toList)) fun m=>nw h m 86 fun i j=>opt (xO f) fun n=>opt (zb Tryd.prog 89 n 7) fun o=>opt (zA Tryd.prog 87 o (.int .i64 0)) fun p=>opt (zd Tryd.prog 86 p j) fun k=>opt (xP Tryd.prog 86) fun q=>nw j (Value.cells q).toList 86 fun a r=>opt (nb [k] (zk Tryd.prog 86 a k r)) fun b=>opt (zb Tryd.prog 86 a 0) fun s=>opt (zd Tryd.prog 3 s b) fun l=>opt (nb [l,.int .i64 1] (zf Tryd.prog .neq 3 (.tmp 12) (.const (.int .i64 1)) l (.int .i64 1))) fun c=>GD c false (fun t=>opt (zb Tryd.prog 86 i 0) fun d=>t d b) (fun d e=>GD c false (fun u=>opt (zd Tryd.prog 3 d e) fun v=>u v e) (Xo c R a i f) e) b
theorem lz (h:za) (t0 t1:Value) (R:Value->za->Prop):X2 Tryd.prog (vG Tryd.prog qs) 200 68 [t0,t1] h R=Jz h t0 t1 R:=by kernel_rfl
theorem lA {h:za} {t0 t1:Value} {R:Value->za->Prop} (hw:Jz h t0 t1 R):DC Tryd.prog 68 [t0,t1] h R:=xw mixed (n:=200) (by rw [lz];exact hw)
def ov:=fun (h:za) a b c d (R:Value->za->Prop)=>
 opt (xO a) fun j=>opt (zb Tryd.prog 89 j 4) fun k=>opt (zb Tryd.prog 34 k 3) fun l=>opt (zd Tryd.prog 32 l h) fun e=>opt (nb [b,c,d] (yR Tryd.prog 41 [(0,b),(1,c),(2,d)])) fun f=>xA (nb [f] (y8 Tryd.prog 32 1 [(0,f)] h)) fun g m=>xA (nb [e,g] (zo Tryd.prog .append [32,32] 32 [e,g] m)) fun i n=>opt (xO a) fun o=>opt (zb Tryd.prog 89 o 4) fun p=>opt (zb Tryd.prog 34 p 3) fun q=>opt (nb [i] (zk Tryd.prog 32 q i n)) fun r=>rv [] r R
theorem tK (h:za) (t0 t1 t2 t3:Value) (R:Value->za->Prop):X2 Tryd.prog (vG Tryd.prog qs) 200 70 [t0,t1,t2,t3] h R=ov h t0 t1 t2 t3 R:=by kernel_rfl
theorem tL {h:za} {t0 t1 t2 t3:Value} {R:Value->za->Prop} (hw:ov h t0 t1 t2 t3 R):DC Tryd.prog 70 [t0,t1,t2,t3] h R:=xw mixed (n:=200) (by rw [tK];exact hw)
def gB:=fun (h:za) a b c (R:Value->za->Prop)=>
 opt (xO a) fun i=>opt (zb Tryd.prog 89 i 4) fun j=>opt (zb Tryd.prog 34 j 2) fun k=>opt (zd Tryd.prog 31 k h) fun d=>opt (nb [b,c] (yR Tryd.prog 69 [(0,b),(1,c)])) fun e=>xA (nb [e] (y8 Tryd.prog 31 1 [(0,e)] h)) fun f l=>xA (nb [d,f] (zo Tryd.prog .append [31,31] 31 [d,f] l)) fun g m=>opt (xO a) fun n=>opt (zb Tryd.prog 89 n 4) fun o=>opt (zb Tryd.prog 34 o 2) fun p=>opt (nb [g] (zk Tryd.prog 31 p g m)) fun q=>rv [] q R
theorem oe (h:za) (t0 t1 t2:Value) (R:Value->za->Prop):X2 Tryd.prog (vG Tryd.prog qs) 200 74 [t0,t1,t2] h R=gB h t0 t1 t2 R:=by kernel_rfl
theorem og {h:za} {t0 t1 t2:Value} {R:Value->za->Prop} (hw:gB h t0 t1 t2 R):DC Tryd.prog 74 [t0,t1,t2] h R:=xw mixed (n:=200) (by rw [oe];exact hw)
def eA:=fun f a (R:Value->za->Prop) (n:List Value) (b:za)=>
 opt (zb Tryd.prog 86 f 1) fun c=>opt (zd Tryd.prog 2 c b) fun d=>opt (xO a) fun g=>opt (zb Tryd.prog 89 g 4) fun h=>opt (zb Tryd.prog 34 h 0) fun e=>(Bc 1 e 1 c/\opt (nb [.int .i64 1] (zk Tryd.prog 3 e (.int .i64 1) b)) fun i=>opt (xO a) fun j=>opt (zb Tryd.prog 89 j 4) fun k=>opt (zb Tryd.prog 34 k 1) fun l=>opt (nb [d] (zk Tryd.prog 2 l d i)) fun m=>rv [.bool true] m R)
def eC:=fun c (R:Value->za->Prop) h (d:za)=>
 opt (xO c) fun i=>opt (zb Tryd.prog 89 i 7) fun j=>opt (zA Tryd.prog 87 j (.int .i64 0)) fun k=>opt (zd Tryd.prog 86 k d) fun e=>opt (xP Tryd.prog 86) fun l=>nw d (Value.cells l).toList 86 fun a m=>opt (nb [e] (zk Tryd.prog 86 a e m)) fun b=>opt (zb Tryd.prog 86 a 0) fun n=>opt (zd Tryd.prog 3 n b) fun f=>opt (nb [f,.int .i64 1] (zf Tryd.prog .neq 3 (.tmp 47) (.const (.int .i64 1)) f (.int .i64 1))) fun o=>CD o (fun g=>rv [.bool false] b R)
 (fun g=>g [nth h 0] b)
 (eA a c R)
def eD:=fun a (R:Value->za->Prop) p (q:za)=>
 opt (xO a) fun r=>opt (zb Tryd.prog 89 r 8) fun s=>opt (nb [.bool false] (zk Tryd.prog 4 s (.bool false) q)) fun c=>opt (xO a) fun t=>opt (zb Tryd.prog 89 t 11) fun u=>opt (zd Tryd.prog 3 u c) fun d=>opt (nb [d,.int .i64 8] (zf Tryd.prog .sub 3 (.tmp 17) (.const (.int .i64 8)) d (.int .i64 8))) fun e=>opt (xO a) fun v=>opt (zb Tryd.prog 89 v 11) fun w=>opt (nb [e] (zk Tryd.prog 3 w e c)) fun b=>opt (xO a) fun x=>opt (zb Tryd.prog 89 x 6) fun y=>opt (zd Tryd.prog 84 y b) fun f=>opt (xO a) fun z=>opt (zb Tryd.prog 89 z 6) fun A=>opt (zd Tryd.prog 84 A b) fun g=>xA (nb [g] (zo Tryd.prog .len [84] 3 [g] b)) fun h _=>opt (nb [h,.int .i64 1] (zf Tryd.prog .sub 3 (.tmp 30) (.const (.int .i64 1)) h (.int .i64 1))) fun i=>opt (nb [f] (cond (Da none && Da (some i)) (Cf Tryd.prog 84 f none (some i) b) none)) fun j=>opt (xO a) fun B=>opt (zb Tryd.prog 89 B 6) fun C=>opt (nb [j] (zk Tryd.prog 84 C j b)) fun k=>opt (xO a) fun D=>opt (zb Tryd.prog 89 D 6) fun E=>opt (zd Tryd.prog 84 E k) fun l=>xA (nb [l] (zo Tryd.prog .len [84] 3 [l] k)) fun m n=>opt (nb [m,.int .i64 0] (zf Tryd.prog .gtr 3 (.tmp 39) (.const (.int .i64 0)) m (.int .i64 0))) fun F=>CD F (fun o=>rv [.bool true] n R)
 (fun o=>o [nth p 0] n)
 (eC a R)
def gE:=fun (h:za) c d (R:Value->za->Prop)=>
 opt (xO d) fun e=>opt (zb Tryd.prog 105 e 2) fun f=>opt (zd Tryd.prog 3 f h) fun a=>opt (nb [a,.int .i64 0] (zf Tryd.prog .neq 3 (.tmp 9) (.const (.int .i64 0)) a (.int .i64 0))) fun g=>CD g (fun b=>rv [.bool false] h R)
 (fun b=>b [.bool false] h)
 (eD c R)
theorem ow (h:za) (t0 t1:Value) (R:Value->za->Prop):X2 Tryd.prog (fF Tryd.prog qs) 200 71 [t0,t1] h R=gE h t0 t1 R:=by kernel_rfl
theorem oz {h:za} {t0 t1:Value} {R:Value->za->Prop} (hw:gE h t0 t1 R):DC Tryd.prog 71 [t0,t1] h R:=U5 mixed (n:=200) (by rw [ow];exact hw)
def dL:=fun a b (R:Value->za->Prop) (x:Value) (c:za)=>
 opt (xO a) fun i=>opt (zb Tryd.prog 89 i 11) fun j=>opt (zd Tryd.prog 3 j c) fun d=>opt (xO b) fun k=>opt (zb Tryd.prog 105 k 3) fun l=>opt (zd Tryd.prog 3 l c) fun e=>opt (nb [d,e] (zf Tryd.prog .sub 3 (.tmp 38) (.tmp 42) d e)) fun f=>opt (xO a) fun m=>opt (zb Tryd.prog 89 m 11) fun n=>opt (nb [f] (zk Tryd.prog 3 n f c)) fun g=>opt (xO b) fun o=>opt (zb Tryd.prog 105 o 4) fun p=>opt (zd Tryd.prog 86 p g) fun h=>opt (xO a) fun q=>opt (zb Tryd.prog 89 q 7) fun r=>opt (zA Tryd.prog 87 r (.int .i64 4)) fun s=>opt (nb [h] (zk Tryd.prog 86 s h g)) fun t=>opt (xO b) fun u=>opt (zb Tryd.prog 105 u 2) fun v=>opt (nb [.int .i64 0] (zk Tryd.prog 3 v (.int .i64 0) t)) fun w=>rv [.bool true] w R
def dM:=fun b c (R:Value->za->Prop) (j:List Value) (a:za)=>
 opt (xO b) fun d=>opt (zb Tryd.prog 89 d 2) fun e=>opt (zd Tryd.prog 82 e a) fun f=>opt (xO c) fun g=>opt (zb Tryd.prog 105 g 2) fun h=>opt (zd Tryd.prog 3 h a) fun i=>jj Tryd.prog 94 [f,i] a (dL b c R)
def WH:=fun b c (R:Value->za->Prop) h i d (e:za)=>
 GD b false (fun j=>opt (nb [c,d] (zf Tryd.prog .neq 3 (.tmp 21) (.tmp 23) c d)) fun a=>j a e) (fun a f=>opt (pk b (.bool true) a) fun k=>CD k (fun g=>rv [.bool false] f R)
 (fun g=>g [.bool false] f)
 (dM h i R)) e
def WI:=fun a e (R:Value->za->Prop) f g h (d:za)=>
 GD a false (fun i=>opt (zb Tryd.prog 51 e 6) fun b=>i b d) (fun b c=>GD a false (fun j=>opt (zd Tryd.prog 2 b c) fun k=>j k c) (WH a h R f g) c) d
def WJ:=fun a e (R:Value->za->Prop) f g h (d:za)=>
 GD a false (fun i=>opt (zb Tryd.prog 105 h 3) fun b=>i b d) (fun b c=>GD a false (fun j=>opt (zd Tryd.prog 3 b c) fun k=>j k c) (WI a e R f g) c) d
def dN:=fun a (b:za) f (R:Value->za->Prop) g (n:List Value->za->Prop)=>
 opt (xO a) fun h=>opt (zb Tryd.prog 105 h 2) fun i=>opt (zd Tryd.prog 3 i b) fun d=>opt (nb [d,.int .i64 0] (zf Tryd.prog .eql 3 (.tmp 15) (.const (.int .i64 0)) d (.int .i64 0))) fun c=>GD c false (fun j=>j a b) (fun k e=>GD c false (fun l=>opt (xO k) fun m=>l m e) (WJ c f R g a) e) b
def dO:=fun c (d:za) a (R:Value->za->Prop) b=>
 opt (xO c) fun e=>opt (zb Tryd.prog 89 e 7) fun f=>opt (zA Tryd.prog 87 f (.int .i64 4)) fun g=>opt (nb [b] (zk Tryd.prog 86 g b d)) fun h=>opt (nb [a,.int .i64 0] (zf Tryd.prog .eql 35 (.tmp 100) (.const (.int .i64 0)) a (.int .i64 0))) fun i=>rv [i] h R
def dP:=fun k d a (R:Value->za->Prop) e (b:za)=>
 opt (ZW e 0) fun c=>opt (ZW e 1) fun l=>opt (zb Tryd.prog 51 k 6) fun f=>opt (zd Tryd.prog 2 f b) fun g=>opt (xO d) fun m=>opt (zb Tryd.prog 89 m 7) fun n=>opt (zA Tryd.prog 87 n (.int .i64 4)) fun o=>opt (zd Tryd.prog 86 o b) fun h=>opt (xO a) fun p=>opt (zb Tryd.prog 105 p 2) fun i=>(Bc 1 i 1 f/\opt (nb [c] (zk Tryd.prog 3 i c b)) fun q=>opt (xO a) fun r=>opt (zb Tryd.prog 105 r 3) fun s=>opt (nb [g] (zk Tryd.prog 3 s g q)) fun t=>opt (xO a) fun u=>opt (zb Tryd.prog 105 u 4) fun v=>opt (nb [h] (zk Tryd.prog 86 v h t)) fun j=>qX Tryd.prog 65 [c,.int .i64 0] j (dO d j l R))
def dQ:=fun b c d (R:Value->za->Prop) (j:List Value) (a:za)=>
 opt (xO b) fun e=>opt (zb Tryd.prog 89 e 2) fun f=>opt (zd Tryd.prog 82 f a) fun g=>opt (zb Tryd.prog 51 c 6) fun h=>opt (zd Tryd.prog 2 h a) fun i=>jj Tryd.prog 44 [g,i] a (dP c b d R)
def JF:=fun a b (R:Value->za->Prop) f g (c:za)=>
 opt (zb Tryd.prog 51 a 6) fun h=>opt (zd Tryd.prog 2 h c) fun i=>zR Tryd.prog (.func (.func 62) #[] #[]) [b,i] c (fun j d=>opt (KE Tryd.prog .not j) fun k=>CD k (fun e=>rv [.bool true] d R)
 (fun e=>e [nth g 0] d)
 (dQ b a f R))
def JG:=fun b (R:Value->za->Prop) e f g (a:za)=>
 opt (xO b) fun h=>opt (zb Tryd.prog 105 h 2) fun i=>opt (zd Tryd.prog 3 i a) fun c=>opt (nb [c,.int .i64 0] (zf Tryd.prog .neq 3 (.tmp 60) (.const (.int .i64 0)) c (.int .i64 0))) fun j=>CD j (fun d=>rv [.bool false] a R)
 (fun d=>d [nth g 0] a)
 (JF e f R b)
def gD:=fun (h:za) c d e (R:Value->za->Prop)=>
 opt (nb [e] (some (Value.cells e).toList)) fun g=>nw h g 51 fun a b=>opt (zb Tryd.prog 51 a 0) fun i=>opt (zd Tryd.prog 3 i b) fun f=>opt (nb [f,.int .i64 24] (zf Tryd.prog .eql 3 (.tmp 10) (.const (.int .i64 24)) f (.int .i64 24))) fun j=>CD j (dN d b a R c)
 (fun k=>k [.bool false] b)
 (JG d R a c)
theorem oj (h:za) (t0 t1 t2:Value) (R:Value->za->Prop):X2 Tryd.prog (fF Tryd.prog qs) 200 72 [t0,t1,t2] h R=gD h t0 t1 t2 R:=by kernel_rfl
theorem om {h:za} {t0 t1 t2:Value} {R:Value->za->Prop} (hw:gD h t0 t1 t2 R):DC Tryd.prog 72 [t0,t1,t2] h R:=U5 mixed (n:=200) (by rw [oj];exact hw)
end Go.As
