import Derived.Test.YtpjjmindjodknaaGreatChecked
import Derived.KernelRfl
import Derived.Test.YtpjjmindjodknaaGreatTH
import Derived.Test.YtpjjmindjodknaaGreatTI
set_option linter.unusedVariables false
set_option linter.unusedSimpArgs false
set_option maxRecDepth 100000
namespace Go.Ec
open Go.Ai Go.Proofs Go.Proofs.Tryz
noncomputable abbrev zz:=prog
abbrev VK:=Value->za->Prop
abbrev LK:=List Value->za->Prop
abbrev ci (n:Int):Operand := .const (.int .i64 n)
abbrev fn (n:Nat):Value := .func (.func n) #[] #[]
variable {h:za} {t0 t1 t2 t3 t4 t5 t6:Value} {R:VK}
def qs:FuncId->Nat:=fun g=>[0,0,0,0,0,0,0,0,0,0,0,0,0,0,0,0,0,0,0,0,0,0,0,0,0,0,0,0,0,0,0,2].getD g 0
theorem mixed:prog.follows .mixedOrders=true:=Pm Tryz.checked
theorem xB {f:FuncId} {args:List Value} {X:Prop} (e:Fi zz (U8 zz qs) 200 f args h R=X) (hw:X):DC zz f args h R:=XY mixed (q:=qs) (n:=200) (Eq.mpr e hw)
def bE:=fun c (R:VK) d (e:LK) f (a:za)=>
 opt (pk c f (.bool false)) fun g=>CD g (fun b=>rv [.bool false] a R)
 (fun b=>b [nth d 0] a)
 (fun h i=>e [nth h 0] i)
def bF:=fun a (R:VK) d (e:LK) b (c:za)=>
 GD a true (fun f=>opt (nb [b,.int .i64 1024] (zd zz .gtr 2 (.tmp 63) (.const (.int .i64 1024)) b (.int .i64 1024))) fun g=>f g c) (bE a R d e) c
def bG:=fun a (R:VK) e (f:LK) g (d:za)=>
 GD a true (fun h=>opt (zb zz 42 g 6) fun b=>h b d) (fun b c=>GD a true (fun i=>opt (zc zz 2 b c) fun j=>i j c) (bF a R e f) c) d
def bH:=fun a b (R:VK) (e:LK) f (c:za)=>
 GD a true (fun g=>g (nth b 1) c) (fun h d=>GD a true (fun i=>opt (zI zz 48 f h) fun j=>i j d) (bG a R b e) d) c
def bI:=fun a e (R:VK) (f:LK) g (d:za)=>
 GD a true (fun h=>opt (zb zz 50 g 1) fun b=>h b d) (fun b c=>GD a true (fun i=>opt (zc zz 48 b c) fun j=>i j c) (bH a e R f) c) d
def bJ:=fun a d e (R:VK) (f:LK) g (b:za)=>
 GD a true (fun h=>h (nth d 1) b) (fun i c=>GD a true (fun j=>opt (zI zz 23 g i) fun k=>j k c) (bI a e R f) c) b
def bK:=fun e (a:za) f g (R:VK) (i:LK)=>
 opt (zb zz 25 e 1) fun j=>opt (zc zz 23 j a) fun k=>opt (zI zz 23 k (nth f 1)) fun l=>opt (zb zz 50 l 1) fun m=>opt (zc zz 48 m a) fun n=>opt (zI zz 48 n (nth g 1)) fun o=>opt (zb zz 42 o 0) fun p=>opt (zc zz 3 p a) fun h=>opt (nb [h,.int .i64 23] (zd zz .eql 3 (.tmp 51) (.const (.int .i64 23)) h (.int .i64 23))) fun b=>GD b true (fun q=>opt (zb zz 25 e 1) fun c=>q c a) (fun c d=>GD b true (fun r=>opt (zc zz 23 c d) fun s=>r s d) (bJ b f g R i) d) a
def lz:=fun a (b:LK) c (d:za)=>
 opt (nb [nth a 1,.int .i64 1] (zd zz .add 3 (.tmp 40) (ci 1) (nth a 1) (.int .i64 1))) fun e=>b [nth c 0,e] d
def tE:=fun c d (i:LK) (R:VK) a (b:za) (j:LK)=>
 opt (zb zz 25 c 1) fun k=>opt (zc zz 23 k b) fun l=>opt (zI zz 23 l (nth d 1)) fun m=>opt (zb zz 50 m 1) fun n=>opt (zc zz 48 n b) fun e=>zB (nb [e] (zg zz .len [48] 3 [e] b)) fun f g=>opt (nb [nth a 1,f] (zd zz .lss 3 (.tmp 31) (.tmp 38) (nth a 1) f)) fun o=>CD o (fun h=>h [] g)
 (fun h=>i [nth a 0] g)
 (fun q p=>BK (bK c p d a R)
 (lz a j))
def dm:=fun c (a:za) b (R:VK) (h:LK)=>
 opt (zb zz 25 c 1) fun i=>opt (zc zz 23 i a) fun j=>opt (zI zz 23 j (nth b 1)) fun k=>opt (zb zz 50 k 1) fun l=>opt (zc zz 48 l a) fun d=>zB (nb [d] (zg zz .len [48] 3 [d] a)) fun e f=>opt (nb [e,.int .i64 60] (zd zz .gtr 3 (.tmp 29) (.const (.int .i64 60)) e (.int .i64 60))) fun m=>CD m (fun g=>rv [.bool false] f R)
 (fun g=>g [nth b 0] f)
 (fun n o=>BK (fun p=>LP (tE c b p R)
 [nth n 0,.int .i64 0] o)
 (fun q r=>h [nth q 0] r))
def nt:=fun a (b:LK) c (d:za)=>
 opt (nb [nth a 1,.int .i64 1] (zd zz .add 3 (.tmp 21) (ci 1) (nth a 1) (.int .i64 1))) fun e=>b [nth c 0,e] d
def nu:=fun b (h:LK) (R:VK) a (c:za) (i:LK)=>
 opt (zb zz 25 b 1) fun j=>opt (zc zz 23 j c) fun d=>zB (nb [d] (zg zz .len [23] 3 [d] c)) fun e f=>opt (nb [nth a 1,e] (zd zz .lss 3 (.tmp 16) (.tmp 19) (nth a 1) e)) fun k=>CD k (fun g=>g [] f)
 (fun g=>h [nth a 0] f)
 (fun m l=>BK (dm b l a R)
 (nt a i))
def dp:=fun e (a:za) b (R:VK) (f:LK)=>
 opt (zb zz 25 e 0) fun g=>opt (zc zz 22 g a) fun h=>opt (zI zz 22 h (nth b 1)) fun i=>opt (zc zz 3 i a) fun c=>opt (nb [c,.int .i64 1024] (zd zz .gtr 3 (.tmp 77) (.const (.int .i64 1024)) c (.int .i64 1024))) fun j=>CD j (fun d=>rv [.bool false] a R)
 (fun d=>d [nth b 0] a)
 (fun k l=>f [nth k 0] l)
def nv:=fun a (b:LK) c (d:za)=>
 opt (nb [nth a 1,.int .i64 1] (zd zz .add 3 (.tmp 71) (ci 1) (nth a 1) (.int .i64 1))) fun e=>b [nth c 0,e] d
def nz:=fun b (h:LK) (R:VK) a (c:za) (i:LK)=>
 opt (zb zz 25 b 0) fun j=>opt (zc zz 22 j c) fun d=>zB (nb [d] (zg zz .len [22] 3 [d] c)) fun e f=>opt (nb [nth a 1,e] (zd zz .lss 3 (.tmp 66) (.tmp 69) (nth a 1) e)) fun k=>CD k (fun g=>g [] f)
 (fun g=>h [nth a 0] f)
 (fun m l=>BK (dp b l a R)
 (nv a i))
def nB:=fun a (R:VK) b (c:za)=>
 BK (fun d=>LP (nu a d R)
 [nth b 0,.int .i64 0] c)
 (fun e f=>BK (fun g=>LP (nz a g R)
 [nth e 0,.int .i64 0] f)
 (fun i h=>rv [.bool true] h R))
def Ky:=fun b (R:VK) g c (d:za)=>
 GD b false (fun h=>opt (nb [c,.int .i64 6] (zd zz .gtr 3 (.tmp 13) (.const (.int .i64 6)) c (.int .i64 6))) fun a=>h a d) (fun a e=>opt (pk b (.bool true) a) fun i=>CD i (fun f=>rv [.bool false] e R)
 (fun f=>f [.bool false] e)
 (nB g R)) d
def Kz:=fun b (R:VK) e f (c:za)=>
 GD b false (fun g=>opt (zc zz 22 f c) fun a=>g a c) (fun a d=>GD b false (fun h=>zB (nb [a] (zg zz .len [22] 3 [a] d)) fun i j=>h i j) (Ky b R e) d) c
def GI:=fun (h:za) b (R:VK)=>
 opt (nb [b] (some (Value.cells b).toList)) fun i=>nw h i 25 fun a c=>opt (zb zz 25 a 1) fun j=>opt (zc zz 23 j c) fun d=>zB (nb [d] (zg zz .len [23] 3 [d] c)) fun e f=>opt (nb [e,.int .i64 6] (zd zz .gtr 3 (.tmp 8) (.const (.int .i64 6)) e (.int .i64 6))) fun g=>GD g false (fun k=>opt (zb zz 25 a 0) fun l=>k l f) (Kz g R a) f
theorem Db (hw:GI h t0 R):DC zz 8 [t0] h R:=xB (by kernel_rfl) hw
def KF:=fun f b (a:za) g (R:VK) (h:LK)=>
 opt (zI zz 22 f (nth b 1)) fun i=>opt (zc zz 3 i a) fun c=>opt (zI zz 22 g (nth b 1)) fun j=>opt (zc zz 3 j a) fun d=>opt (nb [c,d] (zd zz .neq 3 (.tmp 20) (.tmp 24) c d)) fun k=>CD k (fun e=>rv [.bool false] a R)
 (fun e=>e [nth b 0] a)
 (fun l m=>h [nth l 0] m)
def KG:=fun a (b:LK) c (d:za)=>
 opt (nb [nth a 1,.int .i64 1] (zd zz .add 3 (.tmp 15) (ci 1) (nth a 1) (.int .i64 1))) fun e=>b [nth c 0,e] d
def KH:=fun b (f:LK) g (R:VK) a (h:za) (i:LK)=>
 zB (nb [b] (zg zz .len [22] 3 [b] h)) fun c d=>opt (nb [nth a 1,c] (zd zz .lss 3 (.tmp 11) (.tmp 13) (nth a 1) c)) fun j=>CD j (fun e=>e [] d)
 (fun e=>f [nth a 0] d)
 (fun l k=>BK (KF b a k g R)
 (KG a i))
def lA:=fun (h:za) a b (R:VK)=>
 zB (nb [a] (zg zz .len [22] 3 [a] h)) fun c g=>zB (nb [b] (zg zz .len [22] 3 [b] g)) fun d e=>opt (nb [c,d] (zd zz .neq 3 (.tmp 7) (.tmp 9) c d)) fun i=>CD i (fun f=>rv [.bool false] e R)
 (fun f=>f [.bool false] e)
 (fun j k=>BK (fun l=>LP (KH a l b R)
 [nth j 0,.int .i64 0] k)
 (fun n m=>rv [.bool true] m R))
theorem hX (hw:lA h t0 t1 R):DC zz 13 [t0,t1] h R:=xB (by kernel_rfl) hw
def na:=fun f (a:za) b g (R:VK) (h:LK)=>
 opt (zb zz 25 f 0) fun i=>opt (zc zz 22 i a) fun j=>opt (zI zz 22 j (nth b 1)) fun k=>opt (zc zz 3 k a) fun c=>opt (zb zz 25 g 0) fun l=>opt (zc zz 22 l a) fun m=>opt (zI zz 22 m (nth b 1)) fun n=>opt (zc zz 3 n a) fun d=>opt (nb [c,d] (zd zz .neq 3 (.tmp 48) (.tmp 53) c d)) fun o=>CD o (fun e=>rv [.bool false] a R)
 (fun e=>e [nth b 0] a)
 (fun p q=>h [nth p 0] q)
def nc:=fun a (b:LK) c (d:za)=>
 opt (nb [nth a 1,.int .i64 1] (zd zz .add 3 (.tmp 42) (ci 1) (nth a 1) (.int .i64 1))) fun e=>b [nth c 0,e] d
def nd:=fun b (h:LK) i (R:VK) a (c:za) (j:LK)=>
 opt (zb zz 25 b 0) fun k=>opt (zc zz 22 k c) fun d=>zB (nb [d] (zg zz .len [22] 3 [d] c)) fun e f=>opt (nb [nth a 1,e] (zd zz .lss 3 (.tmp 37) (.tmp 40) (nth a 1) e)) fun l=>CD l (fun g=>g [] f)
 (fun g=>h [nth a 0] f)
 (fun n m=>BK (na b m a i R)
 (nc a j))
def ng:=fun c (R:VK) d (e:LK) f (a:za)=>
 opt (pk c (.bool true) f) fun g=>CD g (fun b=>rv [.bool false] a R)
 (fun b=>b [nth d 0] a)
 (fun h i=>e [nth h 0] i)
def nh:=fun a e (R:VK) f (g:LK) h (b:za)=>
 GD a false (fun i=>uj zz 31 [e,h] b (fun c=>i c b)) (fun c d=>GD a false (fun j=>opt (rB zz .not c) fun k=>j k d) (ng a R f g) d) b
def ni:=fun a e (R:VK) f (g:LK) h (d:za)=>
 GD a false (fun i=>opt (zb zz 50 h 1) fun b=>i b d) (fun b c=>GD a false (fun j=>opt (zc zz 48 b c) fun k=>j k c) (nh a e R f g) c) d
def nj:=fun a b e (R:VK) (f:LK) g (c:za)=>
 GD a false (fun h=>h (nth b 1) c) (fun i d=>GD a false (fun j=>opt (zI zz 23 g i) fun k=>j k d) (ni a e R b f) d) c
def nk:=fun a e f (R:VK) (g:LK) h (d:za)=>
 GD a false (fun i=>opt (zb zz 25 e 1) fun b=>i b d) (fun b c=>GD a false (fun j=>opt (zc zz 23 b c) fun k=>j k c) (nj a f h R g) c) d
def nn:=fun a e f (R:VK) (g:LK) h (d:za)=>
 GD a false (fun i=>opt (zb zz 50 h 1) fun b=>i b d) (fun b c=>GD a false (fun j=>opt (zc zz 48 b c) fun k=>j k c) (nk a e f R g) c) d
def gO:=fun a b e (R:VK) (f:LK) g (c:za)=>
 GD a false (fun h=>h (nth b 1) c) (fun i d=>GD a false (fun j=>opt (zI zz 23 g i) fun k=>j k d) (nn a e b R f) d) c
def gP:=fun f (a:za) b g (R:VK) (j:LK)=>
 opt (zb zz 25 f 1) fun k=>opt (zc zz 23 k a) fun l=>opt (zI zz 23 l (nth b 1)) fun m=>opt (zb zz 50 m 0) fun n=>opt (zc zz 9 n a) fun h=>opt (zb zz 25 g 1) fun o=>opt (zc zz 23 o a) fun p=>opt (zI zz 23 p (nth b 1)) fun q=>opt (zb zz 50 q 0) fun r=>opt (zc zz 9 r a) fun i=>opt (nb [h,i] (zd zz .neq 9 (.tmp 67) (.tmp 73) h i)) fun c=>GD c false (fun s=>opt (zb zz 25 f 1) fun d=>s d a) (fun d e=>GD c false (fun t=>opt (zc zz 23 d e) fun u=>t u e) (gO c b g R j) e) a
def gQ:=fun a (b:LK) c (d:za)=>
 opt (nb [nth a 1,.int .i64 1] (zd zz .add 3 (.tmp 60) (ci 1) (nth a 1) (.int .i64 1))) fun e=>b [nth c 0,e] d
def gR:=fun b (h:LK) i (R:VK) a (c:za) (j:LK)=>
 opt (zb zz 25 b 1) fun k=>opt (zc zz 23 k c) fun d=>zB (nb [d] (zg zz .len [23] 3 [d] c)) fun e f=>opt (nb [nth a 1,e] (zd zz .lss 3 (.tmp 55) (.tmp 58) (nth a 1) e)) fun l=>CD l (fun g=>g [] f)
 (fun g=>h [nth a 0] f)
 (fun n m=>BK (gP b m a i R)
 (gQ a j))
def gS:=fun a b (R:VK) c (d:za)=>
 BK (fun e=>LP (nd a e b R)
 [nth c 0,.int .i64 0] d)
 (fun f g=>BK (fun h=>LP (gR a h b R)
 [nth f 0,.int .i64 0] g)
 (fun j i=>rv [.bool true] i R))
def gT:=fun b c (R:VK) h i d (e:za)=>
 GD b false (fun j=>opt (nb [c,d] (zd zz .neq 3 (.tmp 31) (.tmp 34) c d)) fun a=>j a e) (fun a f=>opt (pk b (.bool true) a) fun k=>CD k (fun g=>rv [.bool false] f R)
 (fun g=>g [.bool false] f)
 (gS h i R)) e
def gU:=fun b e (R:VK) f g h (c:za)=>
 GD b false (fun i=>opt (zc zz 22 h c) fun a=>i a c) (fun a d=>GD b false (fun j=>zB (nb [a] (zg zz .len [22] 3 [a] d)) fun k l=>j k l) (gT b e R f g) d) c
def gV:=fun a c (R:VK) g d (e:za)=>
 GD a false (fun h=>zB (nb [d] (zg zz .len [22] 3 [d] e)) fun b i=>h b i) (fun b f=>GD a false (fun j=>opt (zb zz 25 c 0) fun k=>j k f) (gU a b R g c) f) e
def gW:=fun f d g (R:VK) h (e:za)=>
 opt (pk f (.bool true) h) fun a=>GD a false (fun i=>opt (zb zz 25 d 0) fun b=>i b e) (fun b c=>GD a false (fun j=>opt (zc zz 22 b c) fun k=>j k c) (gV a g R d) c) e
def gX:=fun b c g h (R:VK) d (e:za)=>
 GD b false (fun i=>zB (nb [d] (zg zz .len [23] 3 [d] e)) fun a j=>i a j) (fun a f=>GD b false (fun k=>opt (nb [c,a] (zd zz .neq 3 (.tmp 22) (.tmp 25) c a)) fun l=>k l f) (gW b g h R) f) e
def gY:=fun a d f (R:VK) g (e:za)=>
 GD a false (fun h=>opt (zb zz 25 d 1) fun b=>h b e) (fun b c=>GD a false (fun i=>opt (zc zz 23 b c) fun j=>i j c) (gX a g f d R) c) e
def gZ:=fun b e f (R:VK) g (c:za)=>
 GD b false (fun h=>opt (zc zz 23 g c) fun a=>h a c) (fun a d=>GD b false (fun i=>zB (nb [a] (zg zz .len [23] 3 [a] d)) fun j k=>i j k) (gY b e f R) d) c
def g7:=fun b c d i (R:VK) e (f:za)=>
 GD b false (fun j=>opt (nb [c,e] (zd zz .neq 3 (.tmp 14) (.tmp 16) c e)) fun a=>j a f) (fun a g=>opt (pk b (.bool true) a) fun h=>GD h false (fun k=>opt (zb zz 25 d 1) fun l=>k l g) (gZ h i d R) g) f
def hE:=fun a d f (R:VK) g (e:za)=>
 GD a false (fun h=>opt (zb zz 25 d 3) fun b=>h b e) (fun b c=>GD a false (fun i=>opt (zc zz 3 b c) fun j=>i j c) (g7 a g f d R) c) e
def C5:=fun (h:za) f g (R:VK)=>
 opt (nb [f] (some (Value.cells f).toList)) fun l=>nw h l 25 fun b m=>opt (nb [g] (some (Value.cells g).toList)) fun n=>nw m n 25 fun i a=>opt (zb zz 25 b 2) fun o=>opt (zc zz 3 o a) fun j=>opt (zb zz 25 i 2) fun p=>opt (zc zz 3 p a) fun k=>opt (nb [j,k] (zd zz .neq 3 (.tmp 8) (.tmp 10) j k)) fun c=>GD c false (fun q=>opt (zb zz 25 b 3) fun d=>q d a) (fun d e=>GD c false (fun r=>opt (zc zz 3 d e) fun s=>r s e) (hE c i b R) e) a
theorem Ba (hw:C5 h t0 t1 R):DC zz 14 [t0,t1] h R:=xB (by kernel_rfl) hw
def Kk:=fun f b (a:za) g (R:VK) (h:LK)=>
 opt (zI zz 48 f (nth b 1)) fun i=>opt (zc zz 42 i a) fun c=>opt (zI zz 48 g (nth b 1)) fun j=>opt (zc zz 42 j a) fun d=>opt (nb [c,d] (zd zz .neq 42 (.tmp 20) (.tmp 24) c d)) fun k=>CD k (fun e=>rv [.bool false] a R)
 (fun e=>e [nth b 0] a)
 (fun l m=>h [nth l 0] m)
def Kl:=fun a (b:LK) c (d:za)=>
 opt (nb [nth a 1,.int .i64 1] (zd zz .add 3 (.tmp 15) (ci 1) (nth a 1) (.int .i64 1))) fun e=>b [nth c 0,e] d
def Km:=fun b (f:LK) g (R:VK) a (h:za) (i:LK)=>
 zB (nb [b] (zg zz .len [48] 3 [b] h)) fun c d=>opt (nb [nth a 1,c] (zd zz .lss 3 (.tmp 11) (.tmp 13) (nth a 1) c)) fun j=>CD j (fun e=>e [] d)
 (fun e=>f [nth a 0] d)
 (fun l k=>BK (Kk b a k g R)
 (Kl a i))
def c7:=fun (h:za) a b (R:VK)=>
 zB (nb [a] (zg zz .len [48] 3 [a] h)) fun c g=>zB (nb [b] (zg zz .len [48] 3 [b] g)) fun d e=>opt (nb [c,d] (zd zz .neq 3 (.tmp 7) (.tmp 9) c d)) fun i=>CD i (fun f=>rv [.bool false] e R)
 (fun f=>f [.bool false] e)
 (fun j k=>BK (fun l=>LP (Km a l b R)
 [nth j 0,.int .i64 0] k)
 (fun n m=>rv [.bool true] m R))
theorem fS (hw:c7 h t0 t1 R):DC zz 31 [t0,t1] h R:=xB (by kernel_rfl) hw
def Q5:=fun b (R:VK) c (d:za)=>
 GD b true (fun e=>opt (nb [c,.int .i64 0] (zd zz .eql 3 (.tmp 34) (ci 0) c (.int .i64 0))) fun a=>e a d) (fun a f=>opt (pk b a (.bool false)) fun g=>rv [g] f R) d
def Q7:=fun b (R:VK) e (c:za)=>
 GD b true (fun f=>opt (zc zz 22 e c) fun a=>f a c) (fun a d=>GD b true (fun g=>zB (nb [a] (zg zz .len [22] 3 [a] d)) fun h i=>g h i) (Q5 b R) d) c
def Q8:=fun b g (R:VK) c (d:za)=>
 GD b true (fun h=>opt (nb [c,.int .i64 0] (zd zz .eql 3 (.tmp 28) (ci 0) c (.int .i64 0))) fun a=>h a d) (fun a e=>opt (pk b a (.bool false)) fun f=>GD f true (fun i=>opt (zb zz 31 g 1) fun j=>i j e) (Q7 f R) e) d
def Q9:=fun b e (R:VK) f (c:za)=>
 GD b true (fun g=>opt (zc zz 29 f c) fun a=>g a c) (fun a d=>GD b true (fun h=>zB (nb [a] (zg zz .len [29] 3 [a] d)) fun i j=>h i j) (Q8 b e R) d) c
def Ka:=fun a b (c:za) (R:VK) (g:LK)=>
 opt (nb [a,.int .i64 1] (zd zz .eql 32 (.tmp 23) (ci 1) a (.int .i64 1))) fun d=>GD d true (fun e=>opt (zb zz 31 b 0) fun f=>e f c) (Q9 d b R) c
def Kb:=fun b d (R:VK) e (c:za)=>
 GD b true (fun f=>zH zz (fn 14) [d,e] c (fun a g=>f a g)) (fun a h=>opt (pk b a (.bool false)) fun i=>rv [i] h R) c
def Kc:=fun e f g (R:VK) h (a:za)=>
 opt (pk e h (.bool false)) fun b=>GD b true (fun i=>opt (zc zz 25 f a) fun c=>i c a) (fun c d=>GD b true (fun j=>opt (zc zz 25 g d) fun k=>j k d) (Kb b c R) d) a
def Kd:=fun b d f g (R:VK) h (c:za)=>
 GD b true (fun i=>opt (zc zz 3 h c) fun a=>i a c) (fun a e=>GD b true (fun j=>opt (nb [d,a] (zd zz .eql 3 (.tmp 74) (.tmp 76) d a)) fun k=>j k e) (Kc b f g R) e) c
def Ke:=fun a d f (R:VK) g (b:za)=>
 GD a true (fun h=>opt (zc zz 3 g b) fun c=>h c b) (fun c e=>GD a true (fun i=>opt (zb zz 25 d 3) fun j=>i j e) (Kd a c f d R) e) b
def UJ:=fun b c h i j (R:VK) d (e:za)=>
 GD b true (fun k=>opt (nb [c,d] (zd zz .eql 3 (.tmp 67) (.tmp 69) c d)) fun a=>k a e) (fun a f=>opt (pk b a (.bool false)) fun g=>GD g true (fun l=>opt (zb zz 31 h 4) fun m=>l m f) (Ke g i j R) f) e
def UK:=fun a d f g (R:VK) h (e:za)=>
 GD a true (fun i=>opt (zb zz 25 d 2) fun b=>i b e) (fun b c=>GD a true (fun j=>opt (zc zz 3 b c) fun k=>j k c) (UJ a h f d g R) c) e
def UL:=fun f d g h (R:VK) i (e:za)=>
 opt (pk f i (.bool false)) fun a=>GD a true (fun j=>opt (zb zz 31 d 3) fun b=>j b e) (fun b c=>GD a true (fun k=>opt (zc zz 3 b c) fun l=>k l c) (UK a g d h R) c) e
def UM:=fun a e f g h (R:VK) i (b:za)=>
 GD a true (fun j=>opt (zc zz 22 i b) fun c=>j c b) (fun c d=>GD a true (fun k=>zH zz (fn 13) [e,c] d (fun l m=>k l m)) (UL a f g h R) d) b
def UN:=fun a d f g (R:VK) h (b:za)=>
 GD a true (fun i=>opt (zc zz 22 h b) fun c=>i c b) (fun c e=>GD a true (fun j=>opt (zb zz 25 d 0) fun k=>j k e) (UM a c f d g R) e) b
def UO:=fun b g c h i (R:VK) j (d:za)=>
 GD b true (fun k=>zH zz (fn 13) [g,j] d (fun a l=>k a l)) (fun a e=>opt (pk b a (.bool false)) fun f=>GD f true (fun m=>opt (zb zz 31 c 2) fun n=>m n e) (UN f h c i R) e) d
def UP:=fun a e f g h (R:VK) i (b:za)=>
 GD a true (fun j=>opt (zc zz 22 i b) fun c=>j c b) (fun c d=>GD a true (fun k=>k e d) (UO a c f g h R) d) b
def UQ:=fun b c d i j k (R:VK) e (f:za)=>
 GD b true (fun l=>opt (nb [c,e] (zd zz .eql 9 (.tmp 47) (.tmp 49) c e)) fun a=>l a f) (fun a g=>opt (pk b a (.bool false)) fun h=>GD h true (fun m=>opt (zb zz 31 d 1) fun n=>m n g) (UP h i d j k R) g) f
def UR:=fun a e f g h i (R:VK) j (b:za)=>
 GD a true (fun k=>k e b) (fun c d=>GD a true (fun l=>zB (nb [c] (wM zz 29 9 c d)) fun m n=>l m n) (UQ a j f g h i R) d) b
def US:=fun b e f g h i (R:VK) j (c:za)=>
 GD b true (fun k=>opt (zc zz 29 j c) fun a=>k a c) (fun a d=>GD b true (fun l=>zB (nb [a] (wM zz 29 9 a d)) fun m n=>l m n) (UR b e f g h i R) d) c
def UT:=fun a b f g (R:VK) c (d:za)=>
 opt (gi c 0) fun h=>opt (gi c 1) fun i=>opt (nb [a,.int .i64 0] (zd zz .eql 32 (.tmp 42) (ci 0) a (.int .i64 0))) fun e=>GD e true (fun j=>opt (zb zz 31 b 0) fun k=>j k d) (US e h b i f g R) d
def XH:=fun a b (R:VK) f c g h (d:za)=>
 opt (rB zz .not h) fun i=>CD i (Ka a b d R)
 (fun j=>j [nth f 0] d)
 (fun l e=>opt (zc zz 25 c e) fun k=>zH zz (fn 12) [k] e (UT a b c g R))
def XI:=fun a (R:VK) f g b (h:za)=>
 opt (gi b 0) fun c=>opt (gi b 1) fun i=>opt (vK zz 31) fun j=>nw h (Value.cells j).toList 31 fun d k=>opt (nb [c] (zZ zz 31 d c k)) fun e=>opt (zc zz 25 a e) fun l=>zH zz (fn 11) [l] e (XH i d R f a g)
def UU:=fun a (R:VK) e b (f:za)=>
 opt (vK zz 25) fun g=>nw f (Value.cells g).toList 25 fun c h=>opt (nb [b] (zZ zz 25 c b h)) fun d=>opt (zc zz 25 a d) fun i=>zH zz (fn 10) [i] d (XI c R e a)
def XJ:=fun (R:VK) e a f (b:za)=>
 opt (rB zz .not f) fun g=>CD g (fun c=>rv [.bool true] b R)
 (fun c=>c [nth e 0] b)
 (fun h d=>opt (zc zz 25 a d) fun i=>zH zz (fn 9) [i] d (UU a R h))
def UW:=fun (R:VK) a e (b:za)=>
 opt (rB zz .not e) fun f=>CD f (fun c=>rv [.bool false] b R)
 (fun c=>c [.bool false] b)
 (fun g d=>opt (zc zz 25 a d) fun h=>zH zz (fn 8) [h] d (XJ R g a))
def cP:=fun (h:za) a (R:VK)=>
 opt (nb [a] (some (Value.cells a).toList)) fun b=>nw h b 25 fun c d=>zH zz (fn 7) [] d (UW R c)
theorem fR (hw:cP h t0 R):DC zz 3 [t0] h R:=xB (by kernel_rfl) hw
noncomputable def D7:Array Field:=match Program.underlying Tryz.prog 42 with | some (.struct f)=>f | _ => #[]
theorem xA (b off:Nat) (h:za):zc Tryz.prog 2 (.pointer (some ⟨b,off,none⟩)) h=zq h b off:=ym (by kernel_rfl) b off h
theorem wL (b off:Nat) (h:za):zc Tryz.prog 22 (.pointer (some ⟨b,off,none⟩)) h=zq h b off:=ym (by kernel_rfl) b off h
theorem wN (b off:Nat) (h:za):zc Tryz.prog 23 (.pointer (some ⟨b,off,none⟩)) h=zq h b off:=ym (by kernel_rfl) b off h
theorem Xv (b off:Nat) (h:za):zc Tryz.prog 25 (.pointer (some ⟨b,off,none⟩)) h=jF h b off 4:=uW (by kernel_rfl) (by kernel_rfl) b off h
theorem ig (b off:Nat) (h:za):zc Tryz.prog 29 (.pointer (some ⟨b,off,none⟩)) h=zq h b off:=ym (by kernel_rfl) b off h
theorem zi (b off:Nat) (h:za):zc Tryz.prog 3 (.pointer (some ⟨b,off,none⟩)) h=zq h b off:=ym (by kernel_rfl) b off h
theorem qf (b off:Nat) (h:za):zc Tryz.prog 42 (.pointer (some ⟨b,off,none⟩)) h=jF h b off 7:=uW (by kernel_rfl) (by kernel_rfl) b off h
theorem uP (b off:Nat) (h:za):zc Tryz.prog 48 (.pointer (some ⟨b,off,none⟩)) h=zq h b off:=ym (by kernel_rfl) b off h
theorem Hu (b off:Nat) (h:za):zc Tryz.prog 9 (.pointer (some ⟨b,off,none⟩)) h=zq h b off:=ym (by kernel_rfl) b off h
theorem tX (b off:Nat) (l:List Value) (h:za) (hv:l.length=4):zZ Tryz.prog 25 (.pointer (some ⟨b,off,none⟩)) (.agg l.toArray) h=fO h b off l:=qF (by kernel_rfl) b off l h hv
theorem ir (b off:Nat) (l:List Value) (h:za) (hv:l.length=5):zZ Tryz.prog 31 (.pointer (some ⟨b,off,none⟩)) (.agg l.toArray) h=fO h b off l:=qF (by kernel_rfl) b off l h hv
theorem tY:vK Tryz.prog 25=some (.agg #[(.slice none 0 0),(.slice none 0 0),(.int .i64 0),(.int .i64 0)]):=zK (by kernel_rfl)
theorem oJ:vK Tryz.prog 31=some (.agg #[(.slice none 0 0),(.slice none 0 0),(.slice none 0 0),(.int .i64 0),(.int .i64 0)]):=zK (by kernel_rfl)
theorem Lq (x y:Operand) (a b:ByteArray):zd Tryz.prog .eql 9 x y (.string a) (.string b)=some (.bool (a.toList == b.toList)):=zK (by kernel_rfl)
theorem yZ (b off:Nat):zb Tryz.prog 25 (.pointer (some ⟨b,off,none⟩)) 0=some (.pointer (some ⟨b,off,none⟩)):=zK (by kernel_rfl)
theorem yo (b off:Nat):zb Tryz.prog 25 (.pointer (some ⟨b,off,none⟩)) 1=some (.pointer (some ⟨b,off + 1,none⟩)):=zK (by kernel_rfl)
theorem ug (b off:Nat):zb Tryz.prog 25 (.pointer (some ⟨b,off,none⟩)) 2=some (.pointer (some ⟨b,off + 2,none⟩)):=zK (by kernel_rfl)
theorem kL (b off:Nat):zb Tryz.prog 25 (.pointer (some ⟨b,off,none⟩)) 3=some (.pointer (some ⟨b,off + 3,none⟩)):=zK (by kernel_rfl)
theorem Us (b off:Nat):zb Tryz.prog 31 (.pointer (some ⟨b,off,none⟩)) 0=some (.pointer (some ⟨b,off,none⟩)):=zK (by kernel_rfl)
theorem KY (b off:Nat):zb Tryz.prog 31 (.pointer (some ⟨b,off,none⟩)) 1=some (.pointer (some ⟨b,off + 1,none⟩)):=zK (by kernel_rfl)
theorem FG (b off:Nat):zb Tryz.prog 31 (.pointer (some ⟨b,off,none⟩)) 2=some (.pointer (some ⟨b,off + 2,none⟩)):=zK (by kernel_rfl)
theorem FH (b off:Nat):zb Tryz.prog 31 (.pointer (some ⟨b,off,none⟩)) 3=some (.pointer (some ⟨b,off + 3,none⟩)):=zK (by kernel_rfl)
theorem FI (b off:Nat):zb Tryz.prog 31 (.pointer (some ⟨b,off,none⟩)) 4=some (.pointer (some ⟨b,off + 4,none⟩)):=zK (by kernel_rfl)
theorem ze (b off:Nat):zb Tryz.prog 42 (.pointer (some ⟨b,off,none⟩)) 0=some (.pointer (some ⟨b,off,none⟩)):=zK (by kernel_rfl)
theorem zu (b off:Nat):zb Tryz.prog 42 (.pointer (some ⟨b,off,none⟩)) 6=some (.pointer (some ⟨b,off + 6,none⟩)):=zK (by kernel_rfl)
theorem l9 (b off:Nat):zb Tryz.prog 50 (.pointer (some ⟨b,off,none⟩)) 0=some (.pointer (some ⟨b,off,none⟩)):=zK (by kernel_rfl)
theorem wj (b off:Nat):zb Tryz.prog 50 (.pointer (some ⟨b,off,none⟩)) 1=some (.pointer (some ⟨b,off + 1,none⟩)):=zK (by kernel_rfl)
theorem pr (b off len c:Nat) (k:IntKind) (i:Int):zI Tryz.prog 22 (.slice (some ⟨b,off,none⟩) len c) (.int k i)=if 0<=i/\i < len then some (.pointer (some ⟨b,off + i.toNat * 1,none⟩)) else none:=xo (e:=3) (by kernel_rfl) (by kernel_rfl)
theorem pw (b off len c:Nat) (k:IntKind) (i:Int):zI Tryz.prog 23 (.slice (some ⟨b,off,none⟩) len c) (.int k i)=if 0<=i/\i < len then some (.pointer (some ⟨b,off + i.toNat * 2,none⟩)) else none:=xo (e:=50) (by kernel_rfl) (by kernel_rfl)
theorem Am (b off len c:Nat) (k:IntKind) (i:Int):zI Tryz.prog 48 (.slice (some ⟨b,off,none⟩) len c) (.int k i)=if 0<=i/\i < len then some (.pointer (some ⟨b,off + i.toNat * 7,none⟩)) else none:=xo (e:=42) (by kernel_rfl) (by kernel_rfl)
theorem JS (r:TypeId) (a:Option Addr) (n c:Nat) (h:za):zg Tryz.prog .len [22] r [.slice a n c] h=some (.int .i64 n,h):=zK (by kernel_rfl)
theorem JT (r:TypeId) (a:Option Addr) (n c:Nat) (h:za):zg Tryz.prog .len [23] r [.slice a n c] h=some (.int .i64 n,h):=zK (by kernel_rfl)
theorem Er (r:TypeId) (a:Option Addr) (n c:Nat) (h:za):zg Tryz.prog .len [29] r [.slice a n c] h=some (.int .i64 n,h):=zK (by kernel_rfl)
theorem eX (r:TypeId) (a:Option Addr) (n c:Nat) (h:za):zg Tryz.prog .len [48] r [.slice a n c] h=some (.int .i64 n,h):=zK (by kernel_rfl)
theorem Ij (x y:Operand) (a0:Int) (a1:Int) (a2:Int) (a3:Int) (a4:Int) (a5:Int) (a6:Int) (b0:Int) (b1:Int) (b2:Int) (b3:Int) (b4:Int) (b5:Int) (b6:Int):zd Tryz.prog .neq 42 x y (.agg #[(.int .i64 a0),(.int .i64 a1),(.int .i64 a2),(.int .i64 a3),(.int .i64 a4),(.int .i64 a5),(.int .i64 a6)]) (.agg #[(.int .i64 b0),(.int .i64 b1),(.int .i64 b2),(.int .i64 b3),(.int .i64 b4),(.int .i64 b5),(.int .i64 b6)])=some (.bool (!((a0 == b0) && ((a1 == b1) && ((a2 == b2) && ((a3 == b3) && ((a4 == b4) && ((a5 == b5) && ((a6 == b6)))))))))):=(lC (fs:=D7) (r:=(a0 == b0) && ((a1 == b1) && ((a2 == b2) && ((a3 == b3) && ((a4 == b4) && ((a5 == b5) && ((a6 == b6)))))))) (by kernel_rfl) (by kernel_rfl) (by kernel_rfl) rfl rfl (Eq.trans (b:=(cond (a0 == b0) (cond (a1 == b1) (cond (a2 == b2) (cond (a3 == b3) (cond (a4 == b4) (cond (a5 == b5) (cond (a6 == b6) (some true) (some false)) (some false)) (some false)) (some false)) (some false)) (some false)) (some false))) (by kernel_rfl) (by cases (a0 == b0) <;> cases (a1 == b1) <;> cases (a2 == b2) <;> cases (a3 == b3) <;> cases (a4 == b4) <;> cases (a5 == b5) <;> cases (a6 == b6) <;> rfl))).2
theorem L4 (x y:Operand) (a b:ByteArray):zd Tryz.prog .neq 9 x y (.string a) (.string b)=some (.bool (!(a.toList == b.toList))):=zK (by kernel_rfl)
end Go.Ec
namespace Go.Eb
open Go.Ai Go.Proofs Go.Proofs.Tryz
noncomputable abbrev zz:=prog
abbrev VK:=Value->za->Prop
abbrev LK:=List Value->za->Prop
abbrev ci (n:Int):Operand := .const (.int .i64 n)
abbrev fn (n:Nat):Value := .func (.func n) #[] #[]
variable {h:za} {t0 t1 t2 t3 t4 t5 t6:Value} {R:VK}
def qs:FuncId->Nat:=fun g=>[0,0,0,0,0,0,0,0,0,0,0,0,0,0,0,0,0,0,0,0,0,0,0,2,3,3,3,0,2,3,3,0,0,0,0,0,0,2,2,3,0,0,0,0,0,0,0,3,2,2,3,2,3,0,0,0,0,2,3,2,2,2,2,3,0,0,0,0,0,0,0,0,0,0,0,0,0,0,0,0,0,0,0,2].getD g 0
theorem mixed:prog.follows .mixedOrders=true:=Pm Tryz.checked
theorem xB {f:FuncId} {args:List Value} {X:Prop} (e:Fi zz (U8 zz qs) 200 f args h R=X) (hw:X):DC zz f args h R:=XY mixed (q:=qs) (n:=200) (Eq.mpr e hw)
def dy:=fun a b (g:za) (h:LK)=>
 opt (nb [.int .i64 8,nth a 1] (zd zz .mul 3 (.const (.int .i64 8)) (.tmp 13) (.int .i64 8) (nth a 1))) fun c=>opt (nb [b,c] (zd zz .shr 2 (.tmp 12) (.tmp 14) b c)) fun d=>zB (nb [d] (wM zz 2 5 d g)) fun e i=>zB (nb [e] (zf zz 29 1 [(0,e)] i)) fun f j=>zB (nb [nth a 0,f] (zg zz .append [29,29] 29 [nth a 0,f] j)) fun k l=>h [k] l
def dz:=fun a (b:LK) c (d:za)=>
 opt (nb [nth a 1,.int .i64 1] (zd zz .add 3 (.tmp 8) (ci 1) (nth a 1) (.int .i64 1))) fun e=>b [nth c 0,e] d
def dC:=fun b (e:LK) f a (c:za) (g:LK)=>
 opt (nb [nth a 1,b] (zd zz .lss 3 (.tmp 8) (.tmp 7) (nth a 1) b)) fun h=>CD h (fun d=>d [] c)
 (fun d=>e [nth a 0] c)
 (fun j i=>BK (dy a f i)
 (dz a g))
def nU:=fun (h:za) a b (R:VK)=>
 BK (fun c=>LP (dC a c b)
 [.slice none 0 0,.int .i64 0] h)
 (fun d e=>rv [nth d 0] e R)
theorem nV (hw:nU h t0 t1 R):DC zz 26 [t0,t1] h R:=xB (by kernel_rfl) hw
def tD:=fun (h:za) a (R:VK)=>
 zB (nb [a] (wM zz 2 21 a h)) fun b d=>zB (nb [b] (wM zz 21 2 b d)) fun c e=>opt (nb [a,c] (zd zz .eql 2 (.tmp 3) (.tmp 6) a c)) fun f=>rv [f] e R
theorem rJ (hw:tD h t0 R):DC zz 48 [t0] h R:=xB (by kernel_rfl) hw
def YE:=fun c (R:VK) a (d:za)=>
 opt (nb [c,.int .i64 8] (zd zz .geq 3 (.tmp 11) (.const (.int .i64 8)) c (.int .i64 8))) fun e=>CD e (fun b=>opt (nb [nth a 0,.int .u8 1] (zd zz .or 5 (.tmp 13) (.const (.int .u8 1)) (nth a 0) (.int .u8 1))) fun f=>b [f] d)
 (fun b=>b [nth a 0] d)
 (fun g h=>rv [nth g 0] h R)
def GL:=fun (h:za) a c d (R:VK)=>
 opt (nb [c,.int .i64 8] (zd zz .geq 3 (.tmp 7) (.const (.int .i64 8)) c (.int .i64 8))) fun e=>CD e (fun b=>opt (nb [a,.int .u8 4] (zd zz .or 5 (.tmp 9) (.const (.int .u8 4)) a (.int .u8 4))) fun f=>b [f] h)
 (fun b=>b [a] h)
 (YE d R)
theorem Dn (hw:GL h t0 t1 t2 R):DC zz 49 [t0,t1,t2] h R:=xB (by kernel_rfl) hw
def n8:=fun a b c (R:VK) d (o:za)=>
 zB (nb [d] (zf zz 29 1 [(0,d)] o)) fun e p=>zB (nb [e,a] (zg zz .append [29,29] 29 [e,a] p)) fun f q=>opt (nb [b,.int .i64 7] (zd zz .and 3 (.tmp 18) (.const (.int .i64 7)) b (.int .i64 7))) fun g=>zB (nb [g] (wM zz 3 5 g q)) fun h r=>opt (nb [h,.int .u64 3] (zd zz .shl 5 (.tmp 20) (.const (.int .u64 3)) h (.int .u64 3))) fun i=>opt (nb [.int .u8 192,i] (zd zz .or 5 (.const (.int .u8 192)) (.tmp 21) (.int .u8 192) i)) fun j=>opt (nb [c,.int .i64 7] (zd zz .and 3 (.tmp 23) (.const (.int .i64 7)) c (.int .i64 7))) fun k=>zB (nb [k] (wM zz 3 5 k r)) fun l s=>opt (nb [j,l] (zd zz .or 5 (.tmp 22) (.tmp 25) j l)) fun m=>zB (nb [m] (zf zz 29 1 [(0,m)] s)) fun n t=>zB (nb [f,n] (zg zz .append [29,29] 29 [f,n] t)) fun u v=>rv [u] v R
def Dl:=fun (h:za) c d a b (R:VK)=>
 zH zz (fn 49) [c,a,b] h (n8 d a b R)
theorem BM (hw:Dl h t0 t1 t2 t3 R):DC zz 47 [t0,t1,t2,t3] h R:=xB (by kernel_rfl) hw
def dD:=fun (c:za) a (d:LK)=>
 zB (nb [.int .u8 36] (zf zz 29 1 [(0,(.int .u8 36))] c)) fun b e=>zB (nb [a,b] (zg zz .append [29,29] 29 [a,b] e)) fun f g=>d [f] g
def Qz:=fun c (R:VK) a (d:za)=>
 zH zz (fn 26) [.int .i64 4,c] d (fun b e=>zB (nb [nth a 0,b] (zg zz .append [29,29] 29 [nth a 0,b] e)) fun f g=>rv [f] g R)
def dE:=fun b c a r (R:VK) d (s:za)=>
 zB (nb [d] (zf zz 29 1 [(0,d)] s)) fun e t=>zB (nb [e,b] (zg zz .append [29,29] 29 [e,b] t)) fun f u=>opt (nb [c,.int .i64 7] (zd zz .and 3 (.tmp 20) (.const (.int .i64 7)) c (.int .i64 7))) fun g=>zB (nb [g] (wM zz 3 5 g u)) fun h v=>opt (nb [h,.int .u64 3] (zd zz .shl 5 (.tmp 22) (.const (.int .u64 3)) h (.int .u64 3))) fun i=>opt (nb [.int .u8 128,i] (zd zz .or 5 (.const (.int .u8 128)) (.tmp 23) (.int .u8 128) i)) fun j=>opt (nb [a,.int .i64 7] (zd zz .and 3 (.tmp 25) (.const (.int .i64 7)) a (.int .i64 7))) fun k=>zB (nb [k] (wM zz 3 5 k v)) fun l w=>opt (nb [j,l] (zd zz .or 5 (.tmp 24) (.tmp 27) j l)) fun m=>zB (nb [m] (zf zz 29 1 [(0,m)] w)) fun n x=>zB (nb [f,n] (zg zz .append [29,29] 29 [f,n] x)) fun o p=>opt (nb [a,.int .i64 7] (zd zz .and 3 (.tmp 31) (.const (.int .i64 7)) a (.int .i64 7))) fun q=>opt (nb [q,.int .i64 4] (zd zz .eql 3 (.tmp 32) (.const (.int .i64 4)) q (.int .i64 4))) fun y=>CD y (dD p o)
 (fun z=>z [o] p)
 (Qz r R)
def nW:=fun (h:za) c d a b e (R:VK)=>
 zH zz (fn 49) [c,a,b] h (dE d a b e R)
theorem nX (hw:nW h t0 t1 t2 t3 t4 R):DC zz 50 [t0,t1,t2,t3,t4] h R:=xB (by kernel_rfl) hw
def UX:=fun a (h:za) (R:VK) (c:LK)=>
 opt (nb [a,.int .i64 24] (zd zz .eql 3 (.tmp 3) (.const (.int .i64 24)) a (.int .i64 24))) fun d=>CD d (fun b=>rv [.int .u8 14] h R)
 (fun b=>b [.int .u8 0] h)
 (fun e f=>c [nth e 0] f)
def UY:=fun a (h:za) (R:VK) (b:LK)=>
 opt (nb [a,.int .i64 26] (zd zz .eql 3 (.tmp 3) (.const (.int .i64 26)) a (.int .i64 26))) fun c=>CD c (fun f=>rv [.int .u8 13] h R)
 (UX a h R)
 (fun d e=>b [nth d 0] e)
def UZ:=fun a (h:za) (R:VK) (b:LK)=>
 opt (nb [a,.int .i64 23] (zd zz .eql 3 (.tmp 3) (.const (.int .i64 23)) a (.int .i64 23))) fun c=>CD c (fun f=>rv [.int .u8 12] h R)
 (UY a h R)
 (fun d e=>b [nth d 0] e)
def U0:=fun a (h:za) (R:VK) (b:LK)=>
 opt (nb [a,.int .i64 22] (zd zz .eql 3 (.tmp 3) (.const (.int .i64 22)) a (.int .i64 22))) fun c=>CD c (fun f=>rv [.int .u8 5] h R)
 (UZ a h R)
 (fun d e=>b [nth d 0] e)
def U1:=fun a (h:za) (R:VK) (b:LK)=>
 opt (nb [a,.int .i64 21] (zd zz .eql 3 (.tmp 3) (.const (.int .i64 21)) a (.int .i64 21))) fun c=>CD c (fun f=>rv [.int .u8 4] h R)
 (U0 a h R)
 (fun d e=>b [nth d 0] e)
def aD:=fun (h:za) a (R:VK)=>
 BK (U1 a h R)
 (fun c b=>rv [.int .u8 15] b R)
theorem df (hw:aD h t0 R):DC zz 83 [t0] h R:=xB (by kernel_rfl) hw
def VB:=fun a (h:za) (R:VK) (c:LK)=>
 opt (nb [a,.int .i64 17] (zd zz .eql 3 (.tmp 3) (.const (.int .i64 17)) a (.int .i64 17))) fun d=>CD d (fun b=>rv [.int .u8 9] h R)
 (fun b=>b [.int .u8 0] h)
 (fun e f=>c [nth e 0] f)
def Xo:=fun a (h:za) (R:VK) (b:LK)=>
 opt (nb [a,.int .i64 16] (zd zz .eql 3 (.tmp 3) (.const (.int .i64 16)) a (.int .i64 16))) fun c=>CD c (fun f=>rv [.int .u8 33] h R)
 (VB a h R)
 (fun d e=>b [nth d 0] e)
def Z6:=fun a (h:za) (R:VK) (b:LK)=>
 opt (nb [a,.int .i64 12] (zd zz .eql 3 (.tmp 3) (.const (.int .i64 12)) a (.int .i64 12))) fun c=>CD c (fun f=>rv [.int .u8 41] h R)
 (Xo a h R)
 (fun d e=>b [nth d 0] e)
def Ze:=fun a (h:za) (R:VK) (b:LK)=>
 opt (nb [a,.int .i64 11] (zd zz .eql 3 (.tmp 3) (.const (.int .i64 11)) a (.int .i64 11))) fun c=>CD c (fun f=>rv [.int .u8 1] h R)
 (Z6 a h R)
 (fun d e=>b [nth d 0] e)
def hH:=fun (h:za) a (R:VK)=>
 BK (Ze a h R)
 (fun c b=>rv [.int .u8 49] b R)
theorem lu (hw:hH h t0 R):DC zz 51 [t0] h R:=xB (by kernel_rfl) hw
def tF:=fun d (e:za) (R:VK) a (b:za)=>
 opt (zb zz 42 d 6) fun f=>opt (zc zz 2 f (trim b e.next)) fun g=>Y3 zz 26 [.int .i64 4,g] b (fun c h=>zB (nb [a,c] (zg zz .append [29,29] 29 [a,c] h)) fun i j=>rv [i] j R)
def tG:=fun (a:za) b (R:VK) (g:LK)=>
 zB (nb [.int .u8 199] (zf zz 29 1 [(0,(.int .u8 199))] a)) fun d c=>opt (zb zz 42 b 1) fun e=>opt (zc zz 3 e (trim c a.next)) fun f=>Y3 zz 47 [.int .u8 72,d,.int .i64 0,f] c (tF b a R)
def tH:=fun c (d:za) (R:VK) e=>
 opt (zb zz 42 c 1) fun k=>opt (zc zz 3 k d) fun f=>opt (nb [f,.int .i64 7] (zd zz .and 3 (.tmp 30) (.const (.int .i64 7)) f (.int .i64 7))) fun g=>zB (nb [g] (wM zz 3 5 g d)) fun h b=>opt (nb [.int .u8 184,h] (zd zz .add 5 (.const (.int .u8 184)) (.tmp 32) (.int .u8 184) h)) fun i=>zB (nb [e,i] (zf zz 29 2 [(0,e),(1,i)] b)) fun l a=>opt (zb zz 42 c 6) fun m=>opt (zc zz 2 m (cut a b.next a.next)) fun n=>qG zz 26 [.int .i64 8,n] (cut a b.next a.next) a (fun o j=>WQ zz [29,29] 29 [l,o] (some (b.next,a.next)) j j (fun p q=>rv [p] q R))
def tI:=fun b (R:VK) (e:List Value) (a:za)=>
 opt (zb zz 42 b 1) fun c=>opt (zc zz 3 c a) fun d=>uj zz 49 [.int .u8 72,.int .i64 0,d] a (tH b a R)
def tJ:=fun (c:za) b (R:VK) (m:LK)=>
 zB (nb [.int .u8 99] (zf zz 29 1 [(0,(.int .u8 99))] c)) fun d a=>opt (zb zz 42 b 1) fun e=>opt (zc zz 3 e a) fun f=>opt (zb zz 42 b 2) fun g=>opt (zc zz 3 g a) fun h=>opt (zb zz 42 b 6) fun i=>opt (zc zz 2 i a) fun j=>zH zz (fn 50) [.int .u8 72,d,f,h,j] a (fun k l=>rv [k] l R)
def tK:=fun (c:za) b (R:VK) (m:LK)=>
 zB (nb [.int .u8 139] (zf zz 29 1 [(0,(.int .u8 139))] c)) fun d a=>opt (zb zz 42 b 1) fun e=>opt (zc zz 3 e a) fun f=>opt (zb zz 42 b 2) fun g=>opt (zc zz 3 g a) fun h=>opt (zb zz 42 b 6) fun i=>opt (zc zz 2 i a) fun j=>zH zz (fn 50) [.int .u8 72,d,f,h,j] a (fun k l=>rv [k] l R)
def lB:=fun a (b:za) c (R:VK) (d:LK)=>
 opt (nb [a,.int .i64 4] (zd zz .eql 3 (.tmp 42) (.const (.int .i64 4)) a (.int .i64 4))) fun e=>CD e (tJ b c R)
 (fun f=>f [.slice none 0 0] b)
 (fun g h=>d [nth g 0] h)
def bL:=fun a (b:za) c (R:VK) (d:LK)=>
 opt (nb [a,.int .i64 8] (zd zz .eql 3 (.tmp 42) (.const (.int .i64 8)) a (.int .i64 8))) fun e=>CD e (tK b c R)
 (lB a b c R)
 (fun f g=>d [nth f 0] g)
def tL:=fun b (R:VK) (m:List Value) (c:za)=>
 zB (nb [.int .u8 15,.int .u8 190] (zf zz 29 2 [(0,(.int .u8 15)),(1,(.int .u8 190))] c)) fun d a=>opt (zb zz 42 b 1) fun e=>opt (zc zz 3 e a) fun f=>opt (zb zz 42 b 2) fun g=>opt (zc zz 3 g a) fun h=>opt (zb zz 42 b 6) fun i=>opt (zc zz 2 i a) fun j=>zH zz (fn 50) [.int .u8 72,d,f,h,j] a (fun k l=>rv [k] l R)
def nC:=fun (c:za) b (R:VK) (m:LK)=>
 zB (nb [.int .u8 137] (zf zz 29 1 [(0,(.int .u8 137))] c)) fun d a=>opt (zb zz 42 b 1) fun e=>opt (zc zz 3 e a) fun f=>opt (zb zz 42 b 2) fun g=>opt (zc zz 3 g a) fun h=>opt (zb zz 42 b 6) fun i=>opt (zc zz 2 i a) fun j=>zH zz (fn 50) [.int .u8 64,d,f,h,j] a (fun k l=>rv [k] l R)
def nD:=fun (c:za) b (R:VK) (m:LK)=>
 zB (nb [.int .u8 137] (zf zz 29 1 [(0,(.int .u8 137))] c)) fun d a=>opt (zb zz 42 b 1) fun e=>opt (zc zz 3 e a) fun f=>opt (zb zz 42 b 2) fun g=>opt (zc zz 3 g a) fun h=>opt (zb zz 42 b 6) fun i=>opt (zc zz 2 i a) fun j=>zH zz (fn 50) [.int .u8 72,d,f,h,j] a (fun k l=>rv [k] l R)
def dt:=fun a (b:za) c (R:VK) (d:LK)=>
 opt (nb [a,.int .i64 4] (zd zz .eql 3 (.tmp 74) (.const (.int .i64 4)) a (.int .i64 4))) fun e=>CD e (nC b c R)
 (fun f=>f [.slice none 0 0] b)
 (fun g h=>d [nth g 0] h)
def KI:=fun a (b:za) c (R:VK) (d:LK)=>
 opt (nb [a,.int .i64 8] (zd zz .eql 3 (.tmp 74) (.const (.int .i64 8)) a (.int .i64 8))) fun e=>CD e (nD b c R)
 (dt a b c R)
 (fun f g=>d [nth f 0] g)
def nE:=fun b (R:VK) (m:List Value) (c:za)=>
 zB (nb [.int .u8 136] (zf zz 29 1 [(0,(.int .u8 136))] c)) fun d a=>opt (zb zz 42 b 1) fun e=>opt (zc zz 3 e a) fun f=>opt (zb zz 42 b 2) fun g=>opt (zc zz 3 g a) fun h=>opt (zb zz 42 b 6) fun i=>opt (zc zz 2 i a) fun j=>zH zz (fn 50) [.int .u8 64,d,f,h,j] a (fun k l=>rv [k] l R)
def nF:=fun k (c:za) (R:VK) d=>
 opt (zb zz 42 k 1) fun l=>opt (zc zz 3 l c) fun e=>opt (nb [e,.int .i64 7] (zd zz .and 3 (.tmp 119) (.const (.int .i64 7)) e (.int .i64 7))) fun f=>zB (nb [f] (wM zz 3 5 f c)) fun g b=>opt (nb [g,.int .u64 3] (zd zz .shl 5 (.tmp 121) (.const (.int .u64 3)) g (.int .u64 3))) fun h=>opt (nb [.int .u8 5,h] (zd zz .or 5 (.const (.int .u8 5)) (.tmp 122) (.int .u8 5) h)) fun i=>zB (nb [d,.int .u8 141,i] (zf zz 29 3 [(0,d),(1,(.int .u8 141)),(2,i)] b)) fun m a=>qG zz 26 [.int .i64 4,.int .i64 0] (cut a b.next a.next) a (fun n j=>WQ zz [29,29] 29 [m,n] (some (b.next,a.next)) j j (fun o p=>rv [o] p R))
def nG:=fun (c:za) b (R:VK) (k:LK)=>
 zB (nb [.int .u8 15,.int .u8 175] (zf zz 29 2 [(0,(.int .u8 15)),(1,(.int .u8 175))] c)) fun d a=>opt (zb zz 42 b 1) fun e=>opt (zc zz 3 e a) fun f=>opt (zb zz 42 b 2) fun g=>opt (zc zz 3 g a) fun h=>zH zz (fn 47) [.int .u8 72,d,f,h] a (fun i j=>rv [i] j R)
def nH:=fun (a:za) c (R:VK) d=>
 zB (nb [d] (zf zz 29 1 [(0,d)] a)) fun e b=>opt (zb zz 42 c 2) fun f=>opt (zc zz 3 f (trim b a.next)) fun g=>opt (zb zz 42 c 1) fun h=>opt (zc zz 3 h (trim b a.next)) fun i=>Y3 zz 47 [.int .u8 72,e,g,i] b (fun j k=>rv [j] k R)
def nI:=fun d (e:za) (R:VK) a (b:za)=>
 opt (zb zz 42 d 6) fun f=>opt (zc zz 2 f (trim b e.next)) fun g=>Y3 zz 26 [.int .i64 4,g] b (fun c h=>zB (nb [a,c] (zg zz .append [29,29] 29 [a,c] h)) fun i j=>rv [i] j R)
def nJ:=fun (a:za) b (R:VK) (i:LK)=>
 zB (nb [.int .u8 105] (zf zz 29 1 [(0,(.int .u8 105))] a)) fun d c=>opt (zb zz 42 b 1) fun e=>opt (zc zz 3 e (trim c a.next)) fun f=>opt (zb zz 42 b 1) fun g=>opt (zc zz 3 g (trim c a.next)) fun h=>Y3 zz 47 [.int .u8 72,d,f,h] c (nI b a R)
def nK:=fun d (e f g:za) (R:VK) b (a:za)=>
 opt (zb zz 42 d 6) fun h=>opt (zc zz 2 h (cut (cut a e.next f.next) g.next a.next)) fun i=>qG zz 26 [.int .i64 4,i] a a (fun c j=>zB (nb [b,c] (zg zz .append [29,29] 29 [b,c] j)) fun k l=>rv [k] l R)
def nL:=fun (b:za) c (d:za) g (R:VK) e=>
 opt (nb [e,.int .u64 3] (zd zz .shr 5 (.tmp 165) (.const (.int .u64 3)) e (.int .u64 3))) fun f=>zB (nb [f] (wM zz 5 3 f b)) fun h a=>opt (zb zz 42 c 1) fun i=>opt (zc zz 3 i (cut a d.next b.next)) fun j=>qG zz 47 [.int .u8 72,g,h,j] a a (nK c d b a R)
def nM:=fun c (R:VK) (g:List Value) (b:za)=>
 zB (nb [.int .u8 129] (zf zz 29 1 [(0,(.int .u8 129))] b)) fun d a=>opt (zb zz 42 c 3) fun e=>opt (zc zz 3 e (cut a b.next a.next)) fun f=>uj zz 51 [f] (cut a b.next a.next) (nL a c b d R)
def nN:=fun d (e:za) (R:VK) a (b:za)=>
 opt (zb zz 42 d 6) fun f=>opt (zc zz 2 f (trim b e.next)) fun g=>Y3 zz 26 [.int .i64 4,g] b (fun c h=>zB (nb [a,c] (zg zz .append [29,29] 29 [a,c] h)) fun i j=>rv [i] j R)
def nO:=fun (d:za) e (R:VK) (k:LK)=>
 zB (nb [.int .u8 72,.int .u8 129,.int .u8 196] (zf zz 29 3 [(0,(.int .u8 72)),(1,(.int .u8 129)),(2,(.int .u8 196))] d)) fun a b=>opt (zb zz 42 e 6) fun f=>opt (zc zz 2 f b) fun g=>zH zz (fn 26) [.int .i64 4,g] b (fun c h=>zB (nb [a,c] (zg zz .append [29,29] 29 [a,c] h)) fun i j=>rv [i] j R)
def nP:=fun (d:za) e (R:VK) (k:LK)=>
 zB (nb [.int .u8 72,.int .u8 129,.int .u8 236] (zf zz 29 3 [(0,(.int .u8 72)),(1,(.int .u8 129)),(2,(.int .u8 236))] d)) fun a b=>opt (zb zz 42 e 6) fun f=>opt (zc zz 2 f b) fun g=>zH zz (fn 26) [.int .i64 4,g] b (fun c h=>zB (nb [a,c] (zg zz .append [29,29] 29 [a,c] h)) fun i j=>rv [i] j R)
def du:=fun a (b:za) c (R:VK) (d:LK)=>
 opt (nb [a,.int .i64 24] (zd zz .eql 3 (.tmp 4) (.const (.int .i64 24)) a (.int .i64 24))) fun e=>CD e (nO b c R)
 (fun f=>f [.slice none 0 0] b)
 (fun g h=>d [nth g 0] h)
def nQ:=fun (a:za) b (R:VK) (g:LK)=>
 zB (nb [.int .u8 129] (zf zz 29 1 [(0,(.int .u8 129))] a)) fun d c=>opt (zb zz 42 b 1) fun e=>opt (zc zz 3 e (trim c a.next)) fun f=>Y3 zz 47 [.int .u8 72,d,.int .i64 7,f] c (nN b a R)
def KJ:=fun a (b:za) c (R:VK) (d:LK)=>
 opt (nb [a,.int .i64 23] (zd zz .eql 3 (.tmp 4) (.const (.int .i64 23)) a (.int .i64 23))) fun e=>CD e (nP b c R)
 (du a b c R)
 (fun f g=>d [nth f 0] g)
def dv:=fun a (b:za) (R:VK) (g:LK)=>
 opt (zb zz 42 a 3) fun d=>opt (zc zz 3 d b) fun c=>opt (nb [c,.int .i64 13] (zd zz .eql 3 (.tmp 150) (.const (.int .i64 13)) c (.int .i64 13))) fun e=>CD e (nJ b a R)
 (fun f=>f [.slice none 0 0] b)
 (nM a R)
def VH:=fun a (b:za) c (R:VK) (d:LK)=>
 opt (nb [a,.int .i64 16] (zd zz .eql 3 (.tmp 4) (.const (.int .i64 16)) a (.int .i64 16))) fun e=>CD e (nQ b c R)
 (KJ a b c R)
 (fun f g=>d [nth f 0] g)
def dw:=fun a (b:za) (R:VK) (j:LK)=>
 opt (zb zz 42 a 3) fun e=>opt (zc zz 3 e b) fun d=>opt (nb [d,.int .i64 13] (zd zz .eql 3 (.tmp 130) (.const (.int .i64 13)) d (.int .i64 13))) fun f=>CD f (nG b a R)
 (fun g=>g [.slice none 0 0] b)
 (fun k c=>opt (zb zz 42 a 3) fun h=>opt (zc zz 3 h c) fun i=>uj zz 51 [i] c (nH c a R))
def YP:=fun a b (c:za) (R:VK) (d:LK)=>
 opt (nb [a,.int .i64 8] (zd zz .eql 3 (.tmp 4) (.const (.int .i64 8)) a (.int .i64 8))) fun e=>CD e (dv b c R)
 (VH a c b R)
 (fun f g=>d [nth f 0] g)
def nR:=fun b (a:za) (R:VK) (e:LK)=>
 opt (zb zz 42 b 1) fun c=>opt (zc zz 3 c a) fun d=>uj zz 49 [.int .u8 72,d,.int .i64 0] a (nF b a R)
def Zv:=fun a b (c:za) (R:VK) (d:LK)=>
 opt (nb [a,.int .i64 7] (zd zz .eql 3 (.tmp 4) (.const (.int .i64 7)) a (.int .i64 7))) fun e=>CD e (dw b c R)
 (YP a b c R)
 (fun f g=>d [nth f 0] g)
def nS:=fun (c:za) b (R:VK) (m:LK)=>
 zB (nb [.int .u8 141] (zf zz 29 1 [(0,(.int .u8 141))] c)) fun d a=>opt (zb zz 42 b 1) fun e=>opt (zc zz 3 e a) fun f=>opt (zb zz 42 b 2) fun g=>opt (zc zz 3 g a) fun h=>opt (zb zz 42 b 6) fun i=>opt (zc zz 2 i a) fun j=>zH zz (fn 50) [.int .u8 72,d,f,h,j] a (fun k l=>rv [k] l R)
def jJ:=fun a b (c:za) (R:VK) (d:LK)=>
 opt (nb [a,.int .i64 6] (zd zz .eql 3 (.tmp 4) (.const (.int .i64 6)) a (.int .i64 6))) fun e=>CD e (nR b c R)
 (Zv a b c R)
 (fun f g=>d [nth f 0] g)
def jc:=fun a (b:za) c (R:VK) (d:LK)=>
 opt (nb [a,.int .i64 5] (zd zz .eql 3 (.tmp 4) (.const (.int .i64 5)) a (.int .i64 5))) fun e=>CD e (nS b c R)
 (jJ a c b R)
 (fun f g=>d [nth f 0] g)
def qe:=fun b a (c:za) (R:VK) (d:LK)=>
 opt (nb [b,.int .i64 4] (zd zz .eql 3 (.tmp 4) (.const (.int .i64 4)) b (.int .i64 4))) fun e=>CD e (fun j=>opt (zb zz 42 a 3) fun f=>opt (zc zz 3 f c) fun g=>BK (KI g c a R)
 (nE a R))
 (jc b c a R)
 (fun h i=>d [nth h 0] i)
def dx:=fun a (b:za) (R:VK) (h:LK)=>
 opt (zb zz 42 a 6) fun d=>opt (zc zz 2 d b) fun e=>zH zz (fn 48) [e] b (fun f c=>CD f (tG c a R)
 (fun g=>g [.slice none 0 0] c)
 (tI a R))
def ui:=fun b a (c:za) (R:VK) (d:LK)=>
 opt (nb [b,.int .i64 3] (zd zz .eql 3 (.tmp 4) (.const (.int .i64 3)) b (.int .i64 3))) fun e=>CD e (fun j=>opt (zb zz 42 a 3) fun f=>opt (zc zz 3 f c) fun g=>BK (bL g c a R)
 (tL a R))
 (qe b a c R)
 (fun h i=>d [nth h 0] i)
def nT:=fun (c:za) b (R:VK) (k:LK)=>
 zB (nb [.int .u8 137] (zf zz 29 1 [(0,(.int .u8 137))] c)) fun d a=>opt (zb zz 42 b 2) fun e=>opt (zc zz 3 e a) fun f=>opt (zb zz 42 b 1) fun g=>opt (zc zz 3 g a) fun h=>zH zz (fn 47) [.int .u8 72,d,f,h] a (fun i j=>rv [i] j R)
def vN:=fun a b (c:za) (R:VK) (d:LK)=>
 opt (nb [a,.int .i64 2] (zd zz .eql 3 (.tmp 4) (.const (.int .i64 2)) a (.int .i64 2))) fun e=>CD e (dx b c R)
 (ui a b c R)
 (fun f g=>d [nth f 0] g)
def yy:=fun a (b:za) c (R:VK) (d:LK)=>
 opt (nb [a,.int .i64 1] (zd zz .eql 3 (.tmp 4) (ci 1) a (.int .i64 1))) fun e=>CD e (nT b c R)
 (vN a c b R)
 (fun f g=>d [nth f 0] g)
def GJ:=fun (h:za) b (R:VK)=>
 opt (nb [b] (some (Value.cells b).toList)) fun e=>nw h e 42 fun a c=>opt (zb zz 42 a 0) fun f=>opt (zc zz 3 f c) fun g=>BK (yy g c a R)
 (fun l d=>opt (zc zz 42 a d) fun i=>zH zz (fn 52) [i] d (fun j k=>rv [j] k R))
theorem Dj (hw:GJ h t0 R):DC zz 24 [t0] h R:=V6 mixed (q:=qs) (n:=200) (Eq.mpr (by kernel_rfl) hw)
def Jw:=fun b (R:VK) c (d:za)=>
 zB (nb [.int .u8 247] (zf zz 29 1 [(0,(.int .u8 247))] d)) fun e a=>opt (zb zz 42 b 1) fun f=>opt (zc zz 3 f a) fun g=>zH zz (fn 47) [.int .u8 72,e,nth c 0,g] a (fun h i=>rv [h] i R)
def ia:=fun (c:za) b (R:VK) (k:LK)=>
 zB (nb [.int .u8 15,.int .u8 190] (zf zz 29 2 [(0,(.int .u8 15)),(1,(.int .u8 190))] c)) fun d a=>opt (zb zz 42 b 1) fun e=>opt (zc zz 3 e a) fun f=>opt (zb zz 42 b 2) fun g=>opt (zc zz 3 g a) fun h=>zH zz (fn 47) [.int .u8 72,d,f,h] a (fun i j=>rv [i] j R)
def ib:=fun b (R:VK) (k:List Value) (c:za)=>
 zB (nb [.int .u8 99] (zf zz 29 1 [(0,(.int .u8 99))] c)) fun d a=>opt (zb zz 42 b 1) fun e=>opt (zc zz 3 e a) fun f=>opt (zb zz 42 b 2) fun g=>opt (zc zz 3 g a) fun h=>zH zz (fn 47) [.int .u8 72,d,f,h] a (fun i j=>rv [i] j R)
def Jx:=fun g (h b:za) (R:VK) c (a:za)=>
 opt (zb zz 42 g 6) fun i=>opt (zc zz 2 i (cut (cut a h.next b.next) b.next a.next)) fun d=>zB (nb [d] (wM zz 2 5 d a)) fun e j=>zB (nb [e] (zf zz 29 1 [(0,e)] j)) fun f k=>zB (nb [c,f] (zg zz .append [29,29] 29 [c,f] k)) fun l m=>rv [l] m R
def Jy:=fun (b:za) c d (R:VK) (h:LK)=>
 zB (nb [.int .u8 193] (zf zz 29 1 [(0,(.int .u8 193))] b)) fun e a=>opt (zb zz 42 c 1) fun f=>opt (zc zz 3 f (cut a b.next a.next)) fun g=>qG zz 47 [.int .u8 72,e,nth d 0,g] a a (Jx c b a R)
def Jz:=fun b c (R:VK) (j:List Value) (d:za)=>
 zB (nb [.int .u8 211] (zf zz 29 1 [(0,(.int .u8 211))] d)) fun e a=>opt (zb zz 42 b 1) fun f=>opt (zc zz 3 f a) fun g=>zH zz (fn 47) [.int .u8 72,e,nth c 0,g] a (fun h i=>rv [h] i R)
def X2:=fun a (R:VK) c (b:za)=>
 opt (zb zz 42 a 0) fun e=>opt (zc zz 3 e b) fun d=>opt (nb [d,.int .i64 11] (zd zz .eql 3 (.tmp 41) (.const (.int .i64 11)) d (.int .i64 11))) fun f=>CD f (Jy b a c R)
 (fun g=>g [.slice none 0 0] b)
 (Jz a c R)
def ic:=fun d (e c:za) (R:VK) f (b:za)=>
 zB (nb [.int .u8 15,.int .u8 182] (zf zz 29 2 [(0,(.int .u8 15)),(1,(.int .u8 182))] b)) fun h a=>opt (zb zz 42 d 1) fun i=>opt (zc zz 3 i (cut (cut (cut a e.next c.next) c.next b.next) b.next a.next)) fun j=>opt (zb zz 42 d 1) fun k=>opt (zc zz 3 k (cut (cut (cut a e.next c.next) c.next b.next) b.next a.next)) fun l=>qG zz 47 [.int .u8 72,h,j,l] a a (fun g m=>zB (nb [f,g] (zg zz .append [29,29] 29 [f,g] m)) fun n o=>rv [n] o R)
def ie:=fun (b:za) c (R:VK) d=>
 opt (nb [.int .u8 144,d] (zd zz .add 5 (.const (.int .u8 144)) (.tmp 79) (.int .u8 144) d)) fun e=>zB (nb [.int .u8 15,e] (zf zz 29 2 [(0,(.int .u8 15)),(1,e)] b)) fun f a=>opt (zb zz 42 c 1) fun g=>opt (zc zz 3 g (cut a b.next a.next)) fun h=>qG zz 47 [.int .u8 64,f,.int .i64 0,h] a a (ic c b a R)
def dJ:=fun (R:VK) a (e:za)=>
 opt (nb [.int .u8 128,a] (zd zz .add 5 (.const (.int .u8 128)) (.tmp 101) (.int .u8 128) a)) fun b=>zB (nb [.int .u8 15,b] (zf zz 29 2 [(0,(.int .u8 15)),(1,b)] e)) fun c f=>zH zz (fn 26) [.int .i64 4,.int .i64 0] f (fun d g=>zB (nb [c,d] (zg zz .append [29,29] 29 [c,d] g)) fun h i=>rv [h] i R)
def QB:=fun a (b:za) (R:VK) (d:LK)=>
 opt (nb [a,.int .i64 26] (zd zz .eql 3 (.tmp 6) (.const (.int .i64 26)) a (.int .i64 26))) fun e=>CD e (fun c=>zB (nb [.int .u8 72,.int .u8 239] (zf zz 29 2 [(0,(.int .u8 72)),(1,(.int .u8 239))] b)) fun f g=>rv [f] g R)
 (fun c=>c [.slice none 0 0] b)
 (fun h i=>d [nth h 0] i)
def WK:=fun a (b:za) (R:VK) (c:LK)=>
 opt (nb [a,.int .i64 25] (zd zz .eql 3 (.tmp 6) (.const (.int .i64 25)) a (.int .i64 25))) fun d=>CD d (fun i=>zB (nb [.int .u8 72,.int .u8 237] (zf zz 29 2 [(0,(.int .u8 72)),(1,(.int .u8 237))] b)) fun e f=>rv [e] f R)
 (QB a b R)
 (fun g h=>c [nth g 0] h)
def dK:=fun (c:za) (R:VK) (h:LK)=>
 zB (nb [.int .u8 232] (zf zz 29 1 [(0,(.int .u8 232))] c)) fun a d=>zH zz (fn 26) [.int .i64 4,.int .i64 0] d (fun b e=>zB (nb [a,b] (zg zz .append [29,29] 29 [a,b] e)) fun f g=>rv [f] g R)
def YT:=fun a (b:za) (R:VK) (c:LK)=>
 opt (nb [a,.int .i64 22] (zd zz .eql 3 (.tmp 6) (.const (.int .i64 22)) a (.int .i64 22))) fun d=>CD d (fun i=>zB (nb [.int .u8 195] (zf zz 29 1 [(0,(.int .u8 195))] b)) fun e f=>rv [e] f R)
 (WK a b R)
 (fun g h=>c [nth g 0] h)
def ZP:=fun a (b:za) (R:VK) (c:LK)=>
 opt (nb [a,.int .i64 21] (zd zz .eql 3 (.tmp 6) (.const (.int .i64 21)) a (.int .i64 21))) fun d=>CD d (dK b R)
 (YT a b R)
 (fun e f=>c [nth e 0] f)
def dL:=fun (c:za) (R:VK) (h:LK)=>
 zB (nb [.int .u8 233] (zf zz 29 1 [(0,(.int .u8 233))] c)) fun a d=>zH zz (fn 26) [.int .i64 4,.int .i64 0] d (fun b e=>zB (nb [a,b] (zg zz .append [29,29] 29 [a,b] e)) fun f g=>rv [f] g R)
def jS:=fun a c (b:za) (R:VK) (d:LK)=>
 opt (nb [a,.int .i64 19] (zd zz .eql 3 (.tmp 6) (.const (.int .i64 19)) a (.int .i64 19))) fun e=>CD e (fun j=>opt (zb zz 42 c 4) fun f=>opt (zc zz 3 f b) fun g=>zH zz (fn 83) [g] b (dJ R))
 (ZP a b R)
 (fun h i=>d [nth h 0] i)
def jd:=fun a (b:za) (R:VK) c (d:LK)=>
 opt (nb [a,.int .i64 18] (zd zz .eql 3 (.tmp 6) (.const (.int .i64 18)) a (.int .i64 18))) fun e=>CD e (dL b R)
 (jS a c b R)
 (fun f g=>d [nth f 0] g)
def dM:=fun (c:za) b (R:VK) (k:LK)=>
 zB (nb [.int .u8 57] (zf zz 29 1 [(0,(.int .u8 57))] c)) fun d a=>opt (zb zz 42 b 2) fun e=>opt (zc zz 3 e a) fun f=>opt (zb zz 42 b 1) fun g=>opt (zc zz 3 g a) fun h=>zH zz (fn 47) [.int .u8 72,d,f,h] a (fun i j=>rv [i] j R)
def kx:=fun b c (a:za) (R:VK) (d:LK)=>
 opt (nb [b,.int .i64 17] (zd zz .eql 3 (.tmp 6) (.const (.int .i64 17)) b (.int .i64 17))) fun e=>CD e (fun j=>opt (zb zz 42 c 4) fun f=>opt (zc zz 3 f a) fun g=>uj zz 83 [g] a (ie a c R))
 (jd b a R c)
 (fun h i=>d [nth h 0] i)
def dN:=fun (b:za) c (R:VK) (i:LK)=>
 zB (nb [.int .u8 247] (zf zz 29 1 [(0,(.int .u8 247))] b)) fun d a=>opt (zb zz 42 c 2) fun e=>opt (zc zz 3 e a) fun f=>zH zz (fn 47) [.int .u8 72,d,.int .i64 7,f] a (fun g h=>rv [g] h R)
def qC:=fun a (b:za) c (R:VK) (d:LK)=>
 opt (nb [a,.int .i64 15] (zd zz .eql 3 (.tmp 6) (.const (.int .i64 15)) a (.int .i64 15))) fun e=>CD e (dM b c R)
 (kx a c b R)
 (fun f g=>d [nth f 0] g)
def uI:=fun a (b:za) c (R:VK) (d:LK)=>
 opt (nb [a,.int .i64 14] (zd zz .eql 3 (.tmp 6) (.const (.int .i64 14)) a (.int .i64 14))) fun e=>CD e (dN b c R)
 (qC a b c R)
 (fun f g=>d [nth f 0] g)
def YU:=fun c (a:za) (R:VK) (g:LK)=>
 opt (zb zz 42 c 3) fun e=>opt (zc zz 3 e a) fun d=>opt (nb [d,.int .i64 20] (zd zz .eql 3 (.tmp 38) (.const (.int .i64 20)) d (.int .i64 20))) fun f=>CD f (fun b=>b [.int .i64 7] a)
 (fun b=>b [.int .i64 4] a)
 (X2 c R)
def uz:=fun a (b:za) (R:VK) c (d:LK)=>
 opt (nb [a,.int .i64 13] (zd zz .eql 3 (.tmp 6) (.const (.int .i64 13)) a (.int .i64 13))) fun e=>CD e (fun j=>zB (nb [.int .u8 72,.int .u8 153] (zf zz 29 2 [(0,(.int .u8 72)),(1,(.int .u8 153))] b)) fun f g=>rv [f] g R)
 (uI a b c R)
 (fun h i=>d [nth h 0] i)
def QC:=fun a (b:za) (R:VK) (g:LK)=>
 opt (zb zz 42 a 3) fun d=>opt (zc zz 3 d b) fun c=>opt (nb [c,.int .i64 3] (zd zz .eql 3 (.tmp 20) (.const (.int .i64 3)) c (.int .i64 3))) fun e=>CD e (ia b a R)
 (fun f=>f [.slice none 0 0] b)
 (ib a R)
def ve:=fun a (c:za) d (R:VK) (g:LK)=>
 opt (nb [a,.int .i64 11] (zd zz .eql 3 (.tmp 6) (.const (.int .i64 11)) a (.int .i64 11))) fun e=>CD e (fun b=>b [e] c)
 (fun b=>opt (nb [a,.int .i64 12] (zd zz .eql 3 (.tmp 6) (.const (.int .i64 12)) a (.int .i64 12))) fun h=>b [h] c)
 (fun i f=>CD (nth i 0) (YU d f R)
 (uz a f R d)
 (fun j k=>g [nth j 0] k))
def QD:=fun c (a:za) (R:VK) (g:LK)=>
 opt (zb zz 42 c 3) fun e=>opt (zc zz 3 e a) fun d=>opt (nb [d,.int .i64 1] (zd zz .eql 3 (.tmp 10) (ci 1) d (.int .i64 1))) fun f=>CD f (fun b=>b [.int .i64 3] a)
 (fun b=>b [.int .i64 2] a)
 (Jw c R)
def wK:=fun a b (c:za) (R:VK) (d:LK)=>
 opt (nb [a,.int .i64 10] (zd zz .eql 3 (.tmp 6) (.const (.int .i64 10)) a (.int .i64 10))) fun e=>CD e (QC b c R)
 (ve a c b R)
 (fun f g=>d [nth f 0] g)
def zS:=fun a b (c:za) (R:VK) (d:LK)=>
 opt (nb [a,.int .i64 9] (zd zz .eql 3 (.tmp 6) (.const (.int .i64 9)) a (.int .i64 9))) fun e=>CD e (QD b c R)
 (wK a b c R)
 (fun f g=>d [nth f 0] g)
def tS:=fun (h:za) a (R:VK)=>
 opt (nb [a] (some (Value.cells a).toList)) fun d=>nw h d 42 fun b c=>opt (zb zz 42 b 0) fun e=>opt (zc zz 3 e c) fun f=>BK (zS f b c R)
 (fun i g=>rv [.slice none 0 0] g R)
theorem rN (hw:tS h t0 R):DC zz 52 [t0] h R:=V6 mixed (q:=qs) (n:=200) (Eq.mpr (by kernel_rfl) hw)
def dF:=fun j a (b:za) (k:LK)=>
 opt (zI zz 22 j (nth a 2)) fun l=>opt (zc zz 3 l b) fun c=>zB (nb [nth a 0] (zf zz 67 1 [(0,(nth a 0))] b)) fun d m=>zB (nb [nth a 1,d] (zg zz .append [67,67] 67 [nth a 1,d] m)) fun n o=>opt (nb [c,.int .i64 16] (zd zz .add 2 (.tmp 18) (.const (.int .i64 16)) c (.int .i64 16))) fun e=>opt (nb [e,.int .i64 16] (zd zz .add 2 (.tmp 19) (.const (.int .i64 16)) e (.int .i64 16))) fun f=>opt (nb [f,.int .i64 1] (zd zz .sub 2 (.tmp 20) (ci 1) f (.int .i64 1))) fun g=>opt (nb [g,.int .i64 16] (zd zz .quo 2 (.tmp 21) (.const (.int .i64 16)) g (.int .i64 16))) fun h=>opt (nb [h,.int .i64 16] (zd zz .mul 2 (.tmp 22) (.const (.int .i64 16)) h (.int .i64 16))) fun i=>opt (nb [nth a 0,i] (zd zz .add 2 (.tmp 17) (.tmp 23) (nth a 0) i)) fun p=>k [p,n] o
def dG:=fun a (c:LK) b (d:za)=>
 opt (nb [nth a 2,.int .i64 1] (zd zz .add 3 (.tmp 9) (ci 1) (nth a 2) (.int .i64 1))) fun e=>c [nth b 0,nth b 1,e] d
def dH:=fun b (e:LK) f a (c:za) (g:LK)=>
 opt (nb [nth a 2,b] (zd zz .lss 3 (.tmp 9) (.tmp 8) (nth a 2) b)) fun h=>CD h (fun d=>d [] c)
 (fun d=>e [nth a 1] c)
 (fun j i=>BK (dF f a i)
 (dG a g))
def n6:=fun (h:za) a (R:VK)=>
 zB (nb [a] (zg zz .len [22] 3 [a] h)) fun b c=>BK (fun d=>LP (dH b d a)
 [.int .i64 16777216,.slice none 0 0,.int .i64 0] c)
 (fun e f=>rv [nth e 0] f R)
theorem n7 (hw:n6 h t0 R):DC zz 25 [t0] h R:=xB (by kernel_rfl) hw
def cQ:=fun a (d:za) (R:VK) (f:LK)=>
 opt (nb [] (jD zz 31 [])) fun b=>opt (nb [b] (zZ zz 31 a b d)) fun c=>opt (zc zz 31 a c) fun e=>rv [e,.int .i64 1] c R
def cR:=fun e f (a:za) g b (h:LK)=>
 opt (zI zz 64 e (nth f 2)) fun i=>opt (zc zz 65 i a) fun c=>opt (zb zz 42 g 5) fun j=>opt (zc zz 3 j a) fun d=>opt (nb [c,d,nth b 0] (qE zz 65 c d (nth b 0) a)) fun k=>h [] k
def Qp:=fun a (d:LK) b (e:za)=>
 zB (nb [b] (zg zz .len [29] 3 [b] e)) fun c f=>opt (nb [nth a 0,c] (zd zz .add 3 (.tmp 71) (.tmp 74) (nth a 0) c)) fun g=>d [g] f
def cS:=fun h b (d:za) i j (k:LK)=>
 opt (zI zz 48 h (nth b 1)) fun l=>opt (zc zz 42 l d) fun e=>opt (vK zz 42) fun m=>nw d (Value.cells m).toList 42 fun a n=>opt (nb [e] (zZ zz 42 a e n)) fun c=>opt (zb zz 42 a 0) fun o=>opt (zc zz 3 o c) fun f=>opt (nb [f,.int .i64 20] (zd zz .eql 3 (.tmp 62) (.const (.int .i64 20)) f (.int .i64 20))) fun p=>CD p (cR i j c a b)
 (fun q=>q [] c)
 (fun s g=>opt (zc zz 42 a g) fun r=>zH zz (fn 24) [r] g (Qp b k))
def Qq:=fun a (b:LK) c (d:za)=>
 opt (nb [nth a 1,.int .i64 1] (zd zz .add 3 (.tmp 57) (ci 1) (nth a 1) (.int .i64 1))) fun e=>b [nth c 0,e] d
def Qr:=fun b (e:LK) f g h a (c:za) (i:LK)=>
 opt (nb [nth a 1,b] (zd zz .lss 3 (.tmp 57) (.tmp 56) (nth a 1) b)) fun j=>CD j (fun d=>d [] c)
 (fun d=>e [nth a 0] c)
 (fun l k=>BK (cS f a k g h)
 (Qq a i))
def rF:=fun a (d:za) (R:VK) (f:LK)=>
 opt (nb [] (jD zz 31 [])) fun b=>opt (nb [b] (zZ zz 31 a b d)) fun c=>opt (zc zz 31 a c) fun e=>rv [e,.int .i64 2] c R
def cT:=fun c (R:VK) d (e:LK) a (b:za)=>
 opt (nb [nth a 0,.int .i64 8388608] (zd zz .gtr 3 (.tmp 77) (.const (.int .i64 8388608)) (nth a 0) (.int .i64 8388608))) fun f=>CD f (rF c b R)
 (fun g=>g [nth d 0] b)
 (fun h i=>e [nth h 0,nth a 0] i)
def cU:=fun n a (d:za) e f o (R:VK) (p:LK)=>
 opt (zI zz 23 n (nth a 2)) fun q=>opt (zc zz 50 q d) fun g=>opt (vK zz 50) fun r=>nw d (Value.cells r).toList 50 fun h s=>opt (nb [g] (zZ zz 50 h g s)) fun i=>opt (zb zz 31 e 1) fun t=>opt (zc zz 22 t i) fun j=>zB (nb [nth a 1] (zf zz 22 1 [(0,(nth a 1))] i)) fun k u=>zB (nb [j,k] (zg zz .append [22,22] 22 [j,k] u)) fun l v=>opt (zb zz 31 e 1) fun w=>opt (nb [l] (zZ zz 22 w l v)) fun b=>opt (zI zz 64 f (nth a 2)) fun x=>opt (nb [(vO b).1] (zZ zz 65 x (vO b).1 (vO b).2)) fun m=>opt (zb zz 50 h 1) fun y=>opt (zc zz 48 y m) fun c=>zB (nb [c] (zg zz .len [48] 3 [c] m)) fun z A=>BK (fun B=>LP (Qr z B c f a)
 [nth a 1,.int .i64 0] A)
 (cT o R a p)
def ah:=fun a (c:LK) b (d:za)=>
 opt (nb [nth a 2,.int .i64 1] (zd zz .add 3 (.tmp 39) (ci 1) (nth a 2) (.int .i64 1))) fun e=>c [nth b 0,nth b 1,e] d
def Vt:=fun b (e:LK) f g h i (R:VK) a (c:za) (j:LK)=>
 opt (nb [nth a 2,b] (zd zz .lss 3 (.tmp 39) (.tmp 38) (nth a 2) b)) fun k=>CD k (fun d=>d [] c)
 (fun d=>e [nth a 0] c)
 (fun m l=>BK (cU f a l g h i R)
 (ah a j))
def ai:=fun b (a:za) e (f:LK)=>
 opt (zb zz 42 b 3) fun g=>opt (zc zz 3 g a) fun h=>opt (zI zz 67 e h) fun i=>opt (zc zz 2 i a) fun c=>opt (zb zz 42 b 6) fun j=>opt (zc zz 2 j a) fun d=>opt (nb [c,d] (zd zz .add 2 (.tmp 135) (.tmp 137) c d)) fun k=>f [k] a
def aj:=fun b (a:za) c (d:LK)=>
 opt (zb zz 31 b 1) fun e=>opt (zc zz 22 e a) fun f=>opt (zb zz 42 c 3) fun g=>opt (zc zz 3 g a) fun h=>opt (zI zz 22 f h) fun i=>opt (zc zz 3 i a) fun j=>d [j] a
def Vu:=fun a c (b:za) d (e f:LK)=>
 opt (nb [a,.int .i64 6] (zd zz .eql 3 (.tmp 110) (.const (.int .i64 6)) a (.int .i64 6))) fun g=>CD g (ai c b d)
 (fun j=>e [] b)
 (fun h i=>f [nth h 0] i)
def Vv:=fun d e (a:za) f (g:LK)=>
 opt (zI zz 64 d (nth e 0)) fun h=>opt (zc zz 65 h a) fun b=>opt (zb zz 42 f 5) fun i=>opt (zc zz 3 i a) fun c=>opt (nb [b,c] (Zw zz 65 b c false a)) fun j=>g [j] a
def Xn:=fun a d (b:za) c e (f g:LK)=>
 opt (nb [a,.int .i64 21] (zd zz .eql 3 (.tmp 110) (.const (.int .i64 21)) a (.int .i64 21))) fun h=>CD h (aj d b c)
 (Vu a c b e f)
 (fun i j=>g [nth i 0] j)
def Vw:=fun a (c:za) g h d i j (k l:LK)=>
 opt (nb [a,.int .i64 18] (zd zz .eql 3 (.tmp 110) (.const (.int .i64 18)) a (.int .i64 18))) fun e=>CD e (fun b=>b [e] c)
 (fun b=>opt (nb [a,.int .i64 19] (zd zz .eql 3 (.tmp 110) (.const (.int .i64 19)) a (.int .i64 19))) fun m=>b [m] c)
 (fun n f=>CD (nth n 0) (Vv g h f d)
 (Xn a i f d j k)
 (fun o p=>l [nth o 0] p))
def ak:=fun h a (i:LK) c (b:za)=>
 opt (zb zz 31 h 0) fun j=>opt (zc zz 29 j b) fun d=>opt (nb [a,.int .i64 4] (zd zz .sub 2 (.tmp 141) (.const (.int .i64 4)) a (.int .i64 4))) fun e=>opt (nb [d] (cond (Gc (some e) && Gc none) (IA zz 29 d (some e) none b) none)) fun f=>opt (nb [nth c 0,a] (zd zz .sub 2 (.tmp 144) (.tmp 145) (nth c 0) a)) fun k=>Y3 zz 26 [.int .i64 4,k] b (fun g l=>zB (nb [f,g] (zg zz .copy [29,29] 3 [f,g] l)) fun n m=>i [] m)
def Vx:=fun a b k l m (c:LK) d (e:za)=>
 opt (zb zz 31 a 0) fun n=>opt (zc zz 29 n e) fun f=>zB (nb [f,d] (zg zz .append [29,29] 29 [f,d] e)) fun g o=>opt (zb zz 31 a 0) fun p=>opt (nb [g] (zZ zz 29 p g o)) fun h=>opt (zb zz 31 a 0) fun q=>opt (zc zz 29 q h) fun i=>zB (nb [i] (zg zz .len [29] 3 [i] h)) fun r j=>opt (zb zz 42 b 0) fun s=>opt (zc zz 3 s j) fun t=>BK (Vw t j k l b a m c)
 (ak a r c)
def aq:=fun e f (b:za) g h i j (k:LK)=>
 opt (zI zz 48 e (nth f 0)) fun l=>opt (zc zz 42 l b) fun c=>opt (vK zz 42) fun m=>nw b (Value.cells m).toList 42 fun a n=>opt (nb [c] (zZ zz 42 a c n)) fun d=>opt (zc zz 42 a d) fun o=>zH zz (fn 24) [o] d (Vx g a h i j k)
def ar:=fun b a c d e f (g:LK) (k:List Value) (h:za)=>
 BK (aq b a h c d e f)
 (fun l i=>opt (nb [nth a 0,.int .i64 1] (zd zz .add 3 (.tmp 95) (ci 1) (nth a 0) (.int .i64 1))) fun j=>g [j] i)
def Vy:=fun b (e:LK) f g h i j a (c:za) (k:LK)=>
 opt (nb [nth a 0,b] (zd zz .lss 3 (.tmp 95) (.tmp 94) (nth a 0) b)) fun l=>CD l (fun d=>d [] c)
 (fun d=>e [] c)
 (ar f a g h i j k)
def au:=fun g b (c:za) h i j (k:LK)=>
 opt (zI zz 23 g (nth b 0)) fun l=>opt (zc zz 50 l c) fun d=>opt (vK zz 50) fun m=>nw c (Value.cells m).toList 50 fun e n=>opt (nb [d] (zZ zz 50 e d n)) fun f=>opt (zb zz 50 e 1) fun o=>opt (zc zz 48 o f) fun a=>zB (nb [a] (zg zz .len [48] 3 [a] f)) fun p q=>BK (fun r=>LP (Vy p r a h i b j)
 [.int .i64 0] q)
 (fun t s=>k [] s)
def ax:=fun b a c d e (f:LK) (j:List Value) (g:za)=>
 BK (au b a g c d e)
 (fun k h=>opt (nb [nth a 0,.int .i64 1] (zd zz .add 3 (.tmp 87) (ci 1) (nth a 0) (.int .i64 1))) fun i=>f [i] h)
def Vz:=fun b (e:LK) f g h i a (c:za) (j:LK)=>
 opt (nb [nth a 0,b] (zd zz .lss 3 (.tmp 87) (.tmp 86) (nth a 0) b)) fun k=>CD k (fun d=>d [] c)
 (fun d=>e [] c)
 (ax f a g h i j)
def ay:=fun e a (R:VK) (g:List Value) (b:za)=>
 opt (zc zz 31 e b) fun c=>opt (nb [c] (zZ zz 31 a c b)) fun d=>opt (zc zz 31 a d) fun f=>rv [f,.int .i64 0] d R
def az:=fun d b e f (R:VK) g (c:za)=>
 opt (zb zz 25 d 1) fun h=>opt (zc zz 23 h c) fun a=>zB (nb [a] (zg zz .len [23] 3 [a] c)) fun i j=>BK (fun k=>LP (Vz i k a b e g)
 [.int .i64 0] j)
 (ay b f R)
def aA:=fun a c d e (R:VK) (h:List Value) (b:za)=>
 opt (zb zz 25 a 0) fun f=>opt (zc zz 22 f b) fun g=>zH zz (fn 25) [g] b (az a c d e R)
def aB:=fun a (f c:za) g (R:VK) q h (b:za)=>
 opt (zb zz 25 a 2) fun r=>opt (zc zz 3 r (cut (cut b f.next c.next) c.next b.next)) fun i=>opt (zb zz 25 a 3) fun s=>opt (zc zz 3 s (cut (cut b f.next c.next) c.next b.next)) fun j=>opt (nb [h,i,j] (jD zz 31 [(2,h),(3,i),(4,j)])) fun k=>opt (vK zz 31) fun t=>nw b (Value.cells t).toList 31 fun d u=>opt (nb [k] (zZ zz 31 d k u)) fun l=>opt (zb zz 25 a 1) fun v=>opt (zc zz 23 v l) fun m=>zB (nb [m] (zg zz .len [23] 3 [m] l)) fun n w=>zB (Yg zz 64 n n w) fun o p=>opt (zb zz 25 a 1) fun x=>opt (zc zz 23 x p) fun e=>zB (nb [e] (zg zz .len [23] 3 [e] p)) fun y z=>BK (fun A=>LP (Vt y A e d o g R)
 [nth q 0,.int .i64 0,.int .i64 0] z)
 (aA a d o g R)
def aC:=fun c d (R:VK) e (b:za)=>
 zB (nb [] (zf zz 22 0 [] b)) fun f a=>opt (zb zz 25 c 0) fun g=>opt (zc zz 22 g (cut a b.next a.next)) fun h=>WQ zz [22,22] 22 [f,h] (some (b.next,a.next)) a a (aB c b a d R e)
def mX:=fun (h:za) a (R:VK)=>
 opt (nb [a] (some (Value.cells a).toList)) fun f=>nw h f 25 fun b g=>opt (vK zz 31) fun i=>nw g (Value.cells i).toList 31 fun c d=>opt (zc zz 25 b d) fun j=>zH zz (fn 23) [j] d (fun k e=>opt (rB zz .not k) fun l=>CD l (cQ c e R)
 (fun m=>m [.int .i64 0] e)
 (aC b c R))
theorem mY (hw:mX h t0 R):DC zz 10 [t0] h R:=V6 mixed (q:=qs) (n:=200) (Eq.mpr (by kernel_rfl) hw)
def tM:=fun a (h:za) b (i:LK)=>
 opt (nb [.int .i64 8,nth a 1] (zd zz .mul 3 (.const (.int .i64 8)) (.tmp 15) (.int .i64 8) (nth a 1))) fun c=>zB (nb [c] (wM zz 3 99 c h)) fun d j=>opt (nb [b,d] (zd zz .shr 2 (.tmp 14) (.tmp 17) b d)) fun e=>zB (nb [e] (wM zz 2 5 e j)) fun f k=>zB (nb [f] (zf zz 29 1 [(0,f)] k)) fun g l=>zB (nb [nth a 0,g] (zg zz .append [29,29] 29 [nth a 0,g] l)) fun m n=>i [m] n
def tN:=fun a (b:LK) c (d:za)=>
 opt (nb [nth a 1,.int .i64 1] (zd zz .add 3 (.tmp 11) (ci 1) (nth a 1) (.int .i64 1))) fun e=>b [nth c 0,e] d
def tO:=fun b (e:LK) f a (c:za) (g:LK)=>
 opt (nb [nth a 1,b] (zd zz .lss 3 (.tmp 8) (.tmp 9) (nth a 1) b)) fun h=>CD h (fun d=>d [] c)
 (fun d=>e [nth a 0] c)
 (fun j i=>BK (tM a i f)
 (tN a g))
def GK:=fun (h:za) a b (R:VK)=>
 zB (Yg zz 29 (.int .i64 0) (.int .i64 0) h) fun c d=>BK (fun e=>LP (tO b e a)
 [c,.int .i64 0] d)
 (fun f g=>rv [nth f 0] g R)
theorem Dk (hw:GK h t0 t1 R):DC zz 39 [t0,t1] h R:=xB (by kernel_rfl) hw
def Zu:=fun c (R:VK) a (d:za)=>
 opt (nb [c,.int .i64 8] (zd zz .geq 3 (.tmp 11) (.const (.int .i64 8)) c (.int .i64 8))) fun e=>CD e (fun b=>opt (nb [nth a 0,.int .u8 1] (zd zz .or 5 (.tmp 13) (.const (.int .u8 1)) (nth a 0) (.int .u8 1))) fun f=>b [f] d)
 (fun b=>b [nth a 0] d)
 (fun g h=>rv [nth g 0] h R)
def Da:=fun (h:za) a c d (R:VK)=>
 opt (nb [c,.int .i64 8] (zd zz .geq 3 (.tmp 7) (.const (.int .i64 8)) c (.int .i64 8))) fun e=>CD e (fun b=>opt (nb [a,.int .u8 4] (zd zz .or 5 (.tmp 9) (.const (.int .u8 4)) a (.int .u8 4))) fun f=>b [f] h)
 (fun b=>b [a] h)
 (Zu d R)
theorem Bd (hw:Da h t0 t1 t2 R):DC zz 38 [t0,t1,t2] h R:=xB (by kernel_rfl) hw
def GM:=fun (h:za) a b (R:VK)=>
 opt (nb [a,.int .i64 7] (zd zz .and 3 (.tmp 5) (.const (.int .i64 7)) a (.int .i64 7))) fun c=>opt (nb [c,.int .u64 3] (zd zz .shl 3 (.tmp 6) (.const (.int .u64 3)) c (.int .u64 3))) fun d=>opt (nb [.int .i64 192,d] (zd zz .or 3 (.const (.int .i64 192)) (.tmp 7) (.int .i64 192) d)) fun e=>opt (nb [b,.int .i64 7] (zd zz .and 3 (.tmp 9) (.const (.int .i64 7)) b (.int .i64 7))) fun f=>opt (nb [e,f] (zd zz .or 3 (.tmp 8) (.tmp 10) e f)) fun g=>zB (nb [g] (wM zz 3 5 g h)) fun i j=>rv [i] j R
theorem Dp (hw:GM h t0 t1 R):DC zz 57 [t0,t1] h R:=xB (by kernel_rfl) hw
def aK:=fun (c:za) a (d:LK)=>
 zB (nb [.int .u8 36] (zf zz 29 1 [(0,(.int .u8 36))] c)) fun b e=>zB (nb [a,b] (zg zz .append [29,29] 29 [a,b] e)) fun f g=>d [f] g
def VF:=fun c (R:VK) a (d:za)=>
 zH zz (fn 39) [c,.int .i64 4] d (fun b e=>zB (nb [nth a 0,b] (zg zz .append [29,29] 29 [nth a 0,b] e)) fun f g=>rv [f] g R)
def hU:=fun (h:za) b a m (R:VK)=>
 opt (nb [b,.int .i64 7] (zd zz .and 3 (.tmp 8) (.const (.int .i64 7)) b (.int .i64 7))) fun c=>opt (nb [c,.int .u64 3] (zd zz .shl 3 (.tmp 9) (.const (.int .u64 3)) c (.int .u64 3))) fun d=>opt (nb [.int .i64 128,d] (zd zz .or 3 (.const (.int .i64 128)) (.tmp 10) (.int .i64 128) d)) fun e=>opt (nb [a,.int .i64 7] (zd zz .and 3 (.tmp 12) (.const (.int .i64 7)) a (.int .i64 7))) fun f=>opt (nb [e,f] (zd zz .or 3 (.tmp 11) (.tmp 13) e f)) fun g=>zB (nb [g] (wM zz 3 5 g h)) fun i n=>zB (nb [i] (zf zz 29 1 [(0,i)] n)) fun j k=>opt (nb [a,.int .i64 7] (zd zz .and 3 (.tmp 17) (.const (.int .i64 7)) a (.int .i64 7))) fun l=>opt (nb [l,.int .i64 4] (zd zz .eql 3 (.tmp 18) (.const (.int .i64 4)) l (.int .i64 4))) fun o=>CD o (aK k j)
 (fun p=>p [j] k)
 (VF m R)
theorem ly (hw:hU h t0 t1 t2 R):DC zz 58 [t0,t1,t2] h R:=xB (by kernel_rfl) hw
def C7:=fun (h:za) a (R:VK)=>
 zB (nb [.int .u8 4,.int .u8 5,.int .u8 12,.int .u8 14,.int .u8 15,.int .u8 13] (zf zz 29 6 [(0,(.int .u8 4)),(1,(.int .u8 5)),(2,(.int .u8 12)),(3,(.int .u8 14)),(4,(.int .u8 15)),(5,(.int .u8 13))] h)) fun c b=>opt (nb [a,.int .i64 21] (zd zz .sub 3 (.tmp 4) (.const (.int .i64 21)) a (.int .i64 21))) fun d=>opt (zI zz 29 c d) fun e=>opt (zc zz 5 e b) fun f=>rv [f] b R
theorem Bb (hw:C7 h t0 R):DC zz 62 [t0] h R:=xB (by kernel_rfl) hw
def Ju:=fun a (h:za) (R:VK) (c:LK)=>
 opt (nb [a,.int .i64 12] (zd zz .eql 3 (.tmp 3) (.const (.int .i64 12)) a (.int .i64 12))) fun d=>CD d (fun b=>rv [.int .i64 5] h R)
 (fun b=>b [.int .i64 0] h)
 (fun e f=>c [nth e 0] f)
def Uj:=fun a (h:za) (R:VK) (b:LK)=>
 opt (nb [a,.int .i64 16] (zd zz .eql 3 (.tmp 3) (.const (.int .i64 16)) a (.int .i64 16))) fun c=>CD c (fun f=>rv [.int .i64 4] h R)
 (Ju a h R)
 (fun d e=>b [nth d 0] e)
def X0:=fun a (h:za) (R:VK) (b:LK)=>
 opt (nb [a,.int .i64 17] (zd zz .eql 3 (.tmp 3) (.const (.int .i64 17)) a (.int .i64 17))) fun c=>CD c (fun f=>rv [.int .i64 1] h R)
 (Uj a h R)
 (fun d e=>b [nth d 0] e)
def YJ:=fun a (h:za) (R:VK) (b:LK)=>
 opt (nb [a,.int .i64 11] (zd zz .eql 3 (.tmp 3) (.const (.int .i64 11)) a (.int .i64 11))) fun c=>CD c (fun f=>rv [.int .i64 0] h R)
 (X0 a h R)
 (fun d e=>b [nth d 0] e)
def tC:=fun (h:za) a (R:VK)=>
 BK (YJ a h R)
 (fun c b=>rv [.int .i64 6] b R)
theorem rI (hw:tC h t0 R):DC zz 60 [t0] h R:=xB (by kernel_rfl) hw
def QA:=fun a (h:za) (R:VK) (c:LK)=>
 opt (nb [a,.int .i64 12] (zd zz .eql 3 (.tmp 3) (.const (.int .i64 12)) a (.int .i64 12))) fun d=>CD d (fun b=>rv [.int .u8 41] h R)
 (fun b=>b [.int .u8 0] h)
 (fun e f=>c [nth e 0] f)
def WJ:=fun a (h:za) (R:VK) (b:LK)=>
 opt (nb [a,.int .i64 16] (zd zz .eql 3 (.tmp 3) (.const (.int .i64 16)) a (.int .i64 16))) fun c=>CD c (fun f=>rv [.int .u8 33] h R)
 (QA a h R)
 (fun d e=>b [nth d 0] e)
def YQ:=fun a (h:za) (R:VK) (b:LK)=>
 opt (nb [a,.int .i64 17] (zd zz .eql 3 (.tmp 3) (.const (.int .i64 17)) a (.int .i64 17))) fun c=>CD c (fun f=>rv [.int .u8 9] h R)
 (WJ a h R)
 (fun d e=>b [nth d 0] e)
def ZO:=fun a (h:za) (R:VK) (b:LK)=>
 opt (nb [a,.int .i64 11] (zd zz .eql 3 (.tmp 3) (.const (.int .i64 11)) a (.int .i64 11))) fun c=>CD c (fun f=>rv [.int .u8 1] h R)
 (YQ a h R)
 (fun d e=>b [nth d 0] e)
def nY:=fun (h:za) a (R:VK)=>
 BK (ZO a h R)
 (fun c b=>rv [.int .u8 49] b R)
theorem nZ (hw:nY h t0 R):DC zz 59 [t0] h R:=xB (by kernel_rfl) hw
def tR:=fun (h:za) a (R:VK)=>
 opt (nb [a,.int .i64 19] (zd zz .eql 3 (.tmp 3) (.const (.int .i64 19)) a (.int .i64 19))) fun c=>CD c (fun b=>rv [.int .i64 4] h R)
 (fun b=>b [.int .i64 0] h)
 (fun e d=>rv [.int .i64 7] d R)
theorem rM (hw:tR h t0 R):DC zz 61 [t0] h R:=xB (by kernel_rfl) hw
def gE:=fun c (b:za) f (R:VK) d=>
 zB (nb [c,.int .u8 199,d] (zf zz 29 3 [(0,c),(1,(.int .u8 199)),(2,d)] b)) fun g a=>opt (zb zz 42 f 6) fun h=>opt (zc zz 2 h (cut a b.next a.next)) fun i=>qG zz 39 [i,.int .i64 4] (cut a b.next a.next) a (fun j e=>WQ zz [29,29] 29 [g,j] (some (b.next,a.next)) e e (fun k l=>rv [k] l R))
def gF:=fun c d (R:VK) (r:List Value) (e:za)=>
 opt (zb zz 42 c 1) fun k=>opt (zc zz 3 k e) fun f=>opt (nb [f,.int .i64 7] (zd zz .and 3 (.tmp 48) (.const (.int .i64 7)) f (.int .i64 7))) fun g=>opt (nb [.int .i64 184,g] (zd zz .add 3 (.const (.int .i64 184)) (.tmp 49) (.int .i64 184) g)) fun h=>zB (nb [h] (wM zz 3 5 h e)) fun i b=>zB (nb [d,i] (zf zz 29 2 [(0,d),(1,i)] b)) fun l a=>opt (zb zz 42 c 6) fun m=>opt (zc zz 2 m (cut a b.next a.next)) fun n=>qG zz 39 [n,.int .i64 8] (cut a b.next a.next) a (fun o j=>WQ zz [29,29] 29 [l,o] (some (b.next,a.next)) j j (fun p q=>rv [p] q R))
def Jp:=fun b c (R:VK) e (a:za)=>
 CD e (fun d=>opt (zb zz 42 b 1) fun f=>opt (zc zz 3 f a) fun g=>uj zz 57 [.int .i64 0,g] a (gE c a b R))
 (fun d=>d [.slice none 0 0] a)
 (gF b c R)
def gG:=fun c (f:za) b (R:VK) (p:LK)=>
 zB (nb [c,.int .u8 99] (zf zz 29 2 [(0,c),(1,(.int .u8 99))] f)) fun d a=>opt (zb zz 42 b 1) fun g=>opt (zc zz 3 g a) fun h=>opt (zb zz 42 b 2) fun i=>opt (zc zz 3 i a) fun j=>opt (zb zz 42 b 6) fun k=>opt (zc zz 2 k a) fun l=>zH zz (fn 58) [h,j,l] a (fun e m=>zB (nb [d,e] (zg zz .append [29,29] 29 [d,e] m)) fun n o=>rv [n] o R)
def gH:=fun c (f:za) b (R:VK) (p:LK)=>
 zB (nb [c,.int .u8 139] (zf zz 29 2 [(0,c),(1,(.int .u8 139))] f)) fun d a=>opt (zb zz 42 b 1) fun g=>opt (zc zz 3 g a) fun h=>opt (zb zz 42 b 2) fun i=>opt (zc zz 3 i a) fun j=>opt (zb zz 42 b 6) fun k=>opt (zc zz 2 k a) fun l=>zH zz (fn 58) [h,j,l] a (fun e m=>zB (nb [d,e] (zg zz .append [29,29] 29 [d,e] m)) fun n o=>rv [n] o R)
def Jq:=fun a c (b:za) d (R:VK) (e:LK)=>
 opt (nb [a,.int .i64 4] (zd zz .eql 3 (.tmp 60) (.const (.int .i64 4)) a (.int .i64 4))) fun f=>CD f (gG c b d R)
 (fun g=>g [.slice none 0 0] b)
 (fun h i=>e [nth h 0] i)
def V7:=fun a b (c:za) d (R:VK) (e:LK)=>
 opt (nb [a,.int .i64 8] (zd zz .eql 3 (.tmp 60) (.const (.int .i64 8)) a (.int .i64 8))) fun f=>CD f (gH b c d R)
 (Jq a b c d R)
 (fun g h=>e [nth g 0] h)
def gI:=fun c b (R:VK) (p:List Value) (f:za)=>
 zB (nb [c,.int .u8 15,.int .u8 190] (zf zz 29 3 [(0,c),(1,(.int .u8 15)),(2,(.int .u8 190))] f)) fun d a=>opt (zb zz 42 b 1) fun g=>opt (zc zz 3 g a) fun h=>opt (zb zz 42 b 2) fun i=>opt (zc zz 3 i a) fun j=>opt (zb zz 42 b 6) fun k=>opt (zc zz 2 k a) fun l=>zH zz (fn 58) [h,j,l] a (fun e m=>zB (nb [d,e] (zg zz .append [29,29] 29 [d,e] m)) fun n o=>rv [n] o R)
def gJ:=fun (b:za) c (R:VK) d=>
 zB (nb [d,.int .u8 137] (zf zz 29 2 [(0,d),(1,(.int .u8 137))] b)) fun f a=>opt (zb zz 42 c 1) fun g=>opt (zc zz 3 g (cut a b.next a.next)) fun h=>opt (zb zz 42 c 2) fun i=>opt (zc zz 3 i (cut a b.next a.next)) fun j=>opt (zb zz 42 c 6) fun k=>opt (zc zz 2 k (cut a b.next a.next)) fun l=>qG zz 58 [h,j,l] (cut a b.next a.next) a (fun m e=>WQ zz [29,29] 29 [f,m] (some (b.next,a.next)) e e (fun n o=>rv [n] o R))
def bX:=fun b (a:za) (R:VK) (g:LK)=>
 opt (zb zz 42 b 1) fun c=>opt (zc zz 3 c a) fun d=>opt (zb zz 42 b 2) fun e=>opt (zc zz 3 e a) fun f=>uj zz 38 [.int .u8 64,d,f] a (gJ a b R)
def bY:=fun c (f:za) b (R:VK) (p:LK)=>
 zB (nb [c,.int .u8 137] (zf zz 29 2 [(0,c),(1,(.int .u8 137))] f)) fun d a=>opt (zb zz 42 b 1) fun g=>opt (zc zz 3 g a) fun h=>opt (zb zz 42 b 2) fun i=>opt (zc zz 3 i a) fun j=>opt (zb zz 42 b 6) fun k=>opt (zc zz 2 k a) fun l=>zH zz (fn 58) [h,j,l] a (fun e m=>zB (nb [d,e] (zg zz .append [29,29] 29 [d,e] m)) fun n o=>rv [n] o R)
def Qg:=fun a c (b:za) (R:VK) (d:LK)=>
 opt (nb [a,.int .i64 4] (zd zz .eql 3 (.tmp 98) (.const (.int .i64 4)) a (.int .i64 4))) fun e=>CD e (bX c b R)
 (fun f=>f [.slice none 0 0] b)
 (fun g h=>d [nth g 0] h)
def Wp:=fun a d (b:za) c (R:VK) (e:LK)=>
 opt (nb [a,.int .i64 8] (zd zz .eql 3 (.tmp 98) (.const (.int .i64 8)) a (.int .i64 8))) fun f=>CD f (bY d b c R)
 (Qg a c b R)
 (fun g h=>e [nth g 0] h)
def bZ:=fun (b:za) c (R:VK) d=>
 zB (nb [d,.int .u8 136] (zf zz 29 2 [(0,d),(1,(.int .u8 136))] b)) fun f a=>opt (zb zz 42 c 1) fun g=>opt (zc zz 3 g (cut a b.next a.next)) fun h=>opt (zb zz 42 c 2) fun i=>opt (zc zz 3 i (cut a b.next a.next)) fun j=>opt (zb zz 42 c 6) fun k=>opt (zc zz 2 k (cut a b.next a.next)) fun l=>qG zz 58 [h,j,l] (cut a b.next a.next) a (fun m e=>WQ zz [29,29] 29 [f,m] (some (b.next,a.next)) e e (fun n o=>rv [n] o R))
def b7:=fun b (R:VK) (g:List Value) (a:za)=>
 opt (zb zz 42 b 1) fun c=>opt (zc zz 3 c a) fun d=>opt (zb zz 42 b 2) fun e=>opt (zc zz 3 e a) fun f=>uj zz 38 [.int .u8 64,d,f] a (bZ a b R)
def b9:=fun k (c:za) l (R:VK) d=>
 opt (zb zz 42 k 1) fun m=>opt (zc zz 3 m c) fun e=>opt (nb [e,.int .i64 7] (zd zz .and 3 (.tmp 159) (.const (.int .i64 7)) e (.int .i64 7))) fun f=>opt (nb [f,.int .u64 3] (zd zz .shl 3 (.tmp 160) (.const (.int .u64 3)) f (.int .u64 3))) fun g=>opt (nb [.int .i64 5,g] (zd zz .or 3 (.const (.int .i64 5)) (.tmp 161) (.int .i64 5) g)) fun h=>zB (nb [h] (wM zz 3 5 h c)) fun i b=>zB (nb [d,.int .u8 141,i] (zf zz 29 3 [(0,d),(1,(.int .u8 141)),(2,i)] b)) fun n a=>qG zz 39 [l,.int .i64 4] (cut a b.next a.next) a (fun o j=>WQ zz [29,29] 29 [n,o] (some (b.next,a.next)) j j (fun p q=>rv [p] q R))
def ca:=fun a (R:VK) b (c:za)=>
 zB (nb [a,.int .u8 15,.int .u8 175,b] (zf zz 29 4 [(0,a),(1,(.int .u8 15)),(2,(.int .u8 175)),(3,b)] c)) fun d e=>rv [d] e R
def cd:=fun b (a:za) c (R:VK) (h:LK)=>
 opt (zb zz 42 b 1) fun d=>opt (zc zz 3 d a) fun e=>opt (zb zz 42 b 2) fun f=>opt (zc zz 3 f a) fun g=>zH zz (fn 57) [e,g] a (ca c R)
def ch:=fun b (a:za) c (R:VK) d=>
 opt (zb zz 42 b 2) fun f=>opt (zc zz 3 f a) fun g=>opt (zb zz 42 b 1) fun h=>opt (zc zz 3 h a) fun i=>uj zz 57 [g,i] a (fun e=>zB (nb [c,d,e] (zf zz 29 3 [(0,c),(1,d),(2,e)] a)) fun j k=>rv [j] k R)
def cj:=fun c (b:za) f (R:VK) d=>
 zB (nb [c,.int .u8 105,d] (zf zz 29 3 [(0,c),(1,(.int .u8 105)),(2,d)] b)) fun g a=>opt (zb zz 42 f 6) fun h=>opt (zc zz 2 h (cut a b.next a.next)) fun i=>qG zz 39 [i,.int .i64 4] (cut a b.next a.next) a (fun j e=>WQ zz [29,29] 29 [g,j] (some (b.next,a.next)) e e (fun k l=>rv [k] l R))
def ck:=fun b (a:za) (R:VK) c=>
 opt (zb zz 42 b 1) fun d=>opt (zc zz 3 d a) fun e=>opt (zb zz 42 b 1) fun f=>opt (zc zz 3 f a) fun g=>uj zz 57 [e,g] a (cj c a b R)
def cm:=fun b (a:za) (R:VK) (g:LK)=>
 opt (zb zz 42 b 1) fun c=>opt (zc zz 3 c a) fun d=>opt (zb zz 42 b 1) fun e=>opt (zc zz 3 e a) fun f=>uj zz 38 [.int .u8 72,d,f] a (ck b a R)
def cq:=fun c (b:za) f (R:VK) d=>
 zB (nb [c,.int .u8 129,d] (zf zz 29 3 [(0,c),(1,(.int .u8 129)),(2,d)] b)) fun g a=>opt (zb zz 42 f 6) fun h=>opt (zc zz 2 h (cut a b.next a.next)) fun i=>qG zz 39 [i,.int .i64 4] (cut a b.next a.next) a (fun j e=>WQ zz [29,29] 29 [g,j] (some (b.next,a.next)) e e (fun k l=>rv [k] l R))
def cr:=fun b c (R:VK) (i:List Value) (a:za)=>
 opt (zb zz 42 b 3) fun d=>opt (zc zz 3 d a) fun e=>uj zz 60 [e] a (fun f=>opt (zb zz 42 b 1) fun g=>opt (zc zz 3 g a) fun h=>uj zz 57 [f,h] a (cq c a b R))
def ct:=fun d (a:za) b (R:VK) (j:LK)=>
 opt (zb zz 42 d 1) fun e=>opt (zc zz 3 e a) fun f=>zH zz (fn 57) [.int .i64 2,f] a (fun c g=>zB (nb [b,.int .u8 247,c] (zf zz 29 3 [(0,b),(1,(.int .u8 247)),(2,c)] g)) fun h i=>rv [h] i R)
def cu:=fun d a (R:VK) (j:List Value) (b:za)=>
 opt (zb zz 42 d 1) fun e=>opt (zc zz 3 e b) fun f=>zH zz (fn 57) [.int .i64 3,f] b (fun c g=>zB (nb [a,.int .u8 247,c] (zf zz 29 3 [(0,a),(1,(.int .u8 247)),(2,c)] g)) fun h i=>rv [h] i R)
def cw:=fun a (R:VK) b (c:za)=>
 zB (nb [a,.int .u8 15,.int .u8 190,b] (zf zz 29 4 [(0,a),(1,(.int .u8 15)),(2,(.int .u8 190)),(3,b)] c)) fun d e=>rv [d] e R
def cx:=fun b (a:za) c (R:VK) (h:LK)=>
 opt (zb zz 42 b 1) fun d=>opt (zc zz 3 d a) fun e=>opt (zb zz 42 b 2) fun f=>opt (zc zz 3 f a) fun g=>zH zz (fn 57) [e,g] a (cw c R)
def cy:=fun b c (R:VK) (l:List Value) (a:za)=>
 opt (zb zz 42 b 1) fun e=>opt (zc zz 3 e a) fun f=>opt (zb zz 42 b 2) fun g=>opt (zc zz 3 g a) fun h=>zH zz (fn 57) [f,h] a (fun d i=>zB (nb [c,.int .u8 99,d] (zf zz 29 3 [(0,c),(1,(.int .u8 99)),(2,d)] i)) fun j k=>rv [j] k R)
def Qh:=fun f (a:za) b (R:VK) c=>
 opt (zb zz 42 f 6) fun g=>opt (zc zz 2 g a) fun d=>zB (nb [d] (wM zz 2 5 d a)) fun e h=>zB (nb [b,.int .u8 193,c,e] (zf zz 29 4 [(0,b),(1,(.int .u8 193)),(2,c),(3,e)] h)) fun i j=>rv [i] j R
def Qi:=fun d (a:za) b (R:VK) e=>
 opt (zb zz 42 d 1) fun f=>opt (zc zz 3 f a) fun g=>uj zz 57 [e,g] a (fun c=>zB (nb [b,.int .u8 211,c] (zf zz 29 3 [(0,b),(1,(.int .u8 211)),(2,c)] a)) fun h i=>rv [h] i R)
def cA:=fun d (a:za) (R:VK) b=>
 opt (zb zz 42 d 2) fun e=>opt (zc zz 3 e a) fun f=>uj zz 57 [.int .i64 7,f] a (fun c=>zB (nb [b,.int .u8 247,c] (zf zz 29 3 [(0,b),(1,(.int .u8 247)),(2,c)] a)) fun g h=>rv [g] h R)
def cB:=fun c (b:za) f (R:VK) d=>
 zB (nb [c,.int .u8 129,d] (zf zz 29 3 [(0,c),(1,(.int .u8 129)),(2,d)] b)) fun g a=>opt (zb zz 42 f 6) fun h=>opt (zc zz 2 h (cut a b.next a.next)) fun i=>qG zz 39 [i,.int .i64 4] (cut a b.next a.next) a (fun j e=>WQ zz [29,29] 29 [g,j] (some (b.next,a.next)) e e (fun k l=>rv [k] l R))
def cC:=fun a b c d (f:za) (R:VK) e=>
 zB (nb [a,.int .u8 15,b,c,d,.int .u8 15,.int .u8 182,e] (zf zz 29 8 [(0,a),(1,(.int .u8 15)),(2,b),(3,c),(4,d),(5,(.int .u8 15)),(6,(.int .u8 182)),(7,e)] f)) fun g h=>rv [g] h R
def cD:=fun b (a:za) c d e (R:VK) f=>
 opt (zb zz 42 b 1) fun g=>opt (zc zz 3 g a) fun h=>opt (zb zz 42 b 1) fun i=>opt (zc zz 3 i a) fun j=>uj zz 57 [h,j] a (cC c d e f a R)
def cE:=fun b (a:za) c d (R:VK) e=>
 opt (zb zz 42 b 1) fun f=>opt (zc zz 3 f a) fun g=>opt (zb zz 42 b 1) fun h=>opt (zc zz 3 h a) fun i=>uj zz 38 [.int .u8 72,g,i] a (cD b a c d e R)
def cF:=fun b (a:za) d (R:VK) c=>
 opt (nb [.int .u8 144,c] (zd zz .add 5 (.const (.int .u8 144)) (.tmp 318) (.int .u8 144) c)) fun e=>opt (zb zz 42 b 1) fun f=>opt (zc zz 3 f a) fun g=>uj zz 57 [.int .i64 0,g] a (cE b a d e R)
def cG:=fun b (a:za) (R:VK) (h:LK)=>
 opt (zb zz 42 b 1) fun c=>opt (zc zz 3 c a) fun d=>uj zz 38 [.int .u8 64,.int .i64 0,d] a (fun e=>opt (zb zz 42 b 4) fun f=>opt (zc zz 3 f a) fun g=>uj zz 62 [g] a (cF b a e R))
def Qj:=fun a c (b:za) (R:VK) (d:LK)=>
 opt (nb [a,.int .i64 17] (zd zz .eql 3 (.tmp 22) (.const (.int .i64 17)) a (.int .i64 17))) fun e=>CD e (cG c b R)
 (fun f=>f [.slice none 0 0] b)
 (fun g h=>d [nth g 0] h)
def cH:=fun b (a:za) c (R:VK) (l:LK)=>
 opt (zb zz 42 b 2) fun e=>opt (zc zz 3 e a) fun f=>opt (zb zz 42 b 1) fun g=>opt (zc zz 3 g a) fun h=>zH zz (fn 57) [f,h] a (fun d i=>zB (nb [c,.int .u8 57,d] (zf zz 29 3 [(0,c),(1,(.int .u8 57)),(2,d)] i)) fun j k=>rv [j] k R)
def Wq:=fun b c (a:za) d (R:VK) (e:LK)=>
 opt (nb [b,.int .i64 16] (zd zz .eql 3 (.tmp 22) (.const (.int .i64 16)) b (.int .i64 16))) fun f=>CD f (fun k=>opt (zb zz 42 c 1) fun g=>opt (zc zz 3 g a) fun h=>uj zz 57 [.int .i64 7,h] a (cB d a c R))
 (Qj b c a R)
 (fun i j=>e [nth i 0] j)
def cI:=fun b (a:za) (R:VK) (e:LK)=>
 opt (zb zz 42 b 2) fun c=>opt (zc zz 3 c a) fun d=>uj zz 38 [.int .u8 72,.int .i64 0,d] a (cA b a R)
def YN:=fun a b (c:za) d (R:VK) e (f:LK)=>
 opt (nb [a,.int .i64 15] (zd zz .eql 3 (.tmp 22) (.const (.int .i64 15)) a (.int .i64 15))) fun g=>CD g (cH b c d R)
 (Wq a b c e R)
 (fun h i=>f [nth h 0] i)
def ZL:=fun a b (c:za) (R:VK) d e (f:LK)=>
 opt (nb [a,.int .i64 14] (zd zz .eql 3 (.tmp 22) (.const (.int .i64 14)) a (.int .i64 14))) fun g=>CD g (cI b c R)
 (YN a b c d R e)
 (fun h i=>f [nth h 0] i)
def jR:=fun a (b:za) (R:VK) c d e (f:LK)=>
 opt (nb [a,.int .i64 13] (zd zz .eql 3 (.tmp 22) (.const (.int .i64 13)) a (.int .i64 13))) fun g=>CD g (fun l=>zB (nb [.int .u8 72,.int .u8 153] (zf zz 29 2 [(0,(.int .u8 72)),(1,(.int .u8 153))] b)) fun h i=>rv [h] i R)
 (ZL a c b R d e)
 (fun j k=>f [nth j 0] k)
def Qk:=fun b (a:za) c (R:VK) (i:LK)=>
 opt (zb zz 42 b 3) fun d=>opt (zc zz 3 d a) fun e=>uj zz 61 [e] a (fun f=>opt (zb zz 42 b 1) fun g=>opt (zc zz 3 g a) fun h=>uj zz 57 [f,h] a (Qh b a c R))
def kh:=fun b c (a:za) d (R:VK) e (f:LK)=>
 opt (nb [b,.int .i64 12] (zd zz .eql 3 (.tmp 22) (.const (.int .i64 12)) b (.int .i64 12))) fun g=>CD g (fun l=>opt (zb zz 42 c 3) fun h=>opt (zc zz 3 h a) fun i=>uj zz 61 [i] a (Qi c a d R))
 (jR b a R c e d)
 (fun j k=>f [nth j 0] k)
def Ql:=fun a (b:za) c (R:VK) (h:LK)=>
 opt (zb zz 42 a 3) fun e=>opt (zc zz 3 e b) fun d=>opt (nb [d,.int .i64 3] (zd zz .eql 3 (.tmp 240) (.const (.int .i64 3)) d (.int .i64 3))) fun f=>CD f (cx a b c R)
 (fun g=>g [.slice none 0 0] b)
 (cy a c R)
def uH:=fun a b (c:za) d (R:VK) e (f:LK)=>
 opt (nb [a,.int .i64 11] (zd zz .eql 3 (.tmp 22) (.const (.int .i64 11)) a (.int .i64 11))) fun g=>CD g (Qk b c d R)
 (kh a b c d R e)
 (fun h i=>f [nth h 0] i)
def Qm:=fun a (b:za) c (R:VK) (h:LK)=>
 opt (zb zz 42 a 3) fun e=>opt (zc zz 3 e b) fun d=>opt (nb [d,.int .i64 2] (zd zz .eql 3 (.tmp 225) (.const (.int .i64 2)) d (.int .i64 2))) fun f=>CD f (ct a b c R)
 (fun g=>g [.slice none 0 0] b)
 (cu a c R)
def vY:=fun a b (c:za) d (R:VK) e f (g:LK)=>
 opt (nb [a,.int .i64 10] (zd zz .eql 3 (.tmp 22) (.const (.int .i64 10)) a (.int .i64 10))) fun h=>CD h (Ql b c d R)
 (uH a b c e R f)
 (fun i j=>g [nth i 0] j)
def Qn:=fun a (b:za) (R:VK) d (h:LK)=>
 opt (zb zz 42 a 3) fun e=>opt (zc zz 3 e b) fun c=>opt (nb [c,.int .i64 13] (zd zz .eql 3 (.tmp 193) (.const (.int .i64 13)) c (.int .i64 13))) fun f=>CD f (cm a b R)
 (fun g=>g [.slice none 0 0] b)
 (cr a d R)
def vq:=fun a b (c:za) d (R:VK) e f (g:LK)=>
 opt (nb [a,.int .i64 9] (zd zz .eql 3 (.tmp 22) (.const (.int .i64 9)) a (.int .i64 9))) fun h=>CD h (Qm b c d R)
 (vY a b c e R d f)
 (fun i j=>g [nth i 0] j)
def Qo:=fun a (b:za) e (R:VK) f (l:LK)=>
 opt (zb zz 42 a 3) fun g=>opt (zc zz 3 g b) fun d=>opt (nb [d,.int .i64 13] (zd zz .eql 3 (.tmp 171) (.const (.int .i64 13)) d (.int .i64 13))) fun h=>CD h (cd a b e R)
 (fun i=>i [.slice none 0 0] b)
 (fun m c=>opt (zb zz 42 a 3) fun j=>opt (zc zz 3 j c) fun k=>uj zz 59 [k] c (ch a c f R))
def wP:=fun a b (c:za) (R:VK) d e f (g:LK)=>
 opt (nb [a,.int .i64 8] (zd zz .eql 3 (.tmp 22) (.const (.int .i64 8)) a (.int .i64 8))) fun h=>CD h (Qn b c R d)
 (vq a b c d R e f)
 (fun i j=>g [nth i 0] j)
def cJ:=fun b (a:za) c (R:VK) (f:LK)=>
 opt (zb zz 42 b 1) fun d=>opt (zc zz 3 d a) fun e=>uj zz 38 [.int .u8 72,e,.int .i64 0] a (b9 b a c R)
def x8:=fun a b (c:za) d (R:VK) e f (g:LK)=>
 opt (nb [a,.int .i64 7] (zd zz .eql 3 (.tmp 22) (.const (.int .i64 7)) a (.int .i64 7))) fun h=>CD h (Qo b c d R e)
 (wP a b c R f d e)
 (fun i j=>g [nth i 0] j)
def cK:=fun c (f:za) b (R:VK) (p:LK)=>
 zB (nb [c,.int .u8 141] (zf zz 29 2 [(0,c),(1,(.int .u8 141))] f)) fun d a=>opt (zb zz 42 b 1) fun g=>opt (zc zz 3 g a) fun h=>opt (zb zz 42 b 2) fun i=>opt (zc zz 3 i a) fun j=>opt (zb zz 42 b 6) fun k=>opt (zc zz 2 k a) fun l=>zH zz (fn 58) [h,j,l] a (fun e m=>zB (nb [d,e] (zg zz .append [29,29] 29 [d,e] m)) fun n o=>rv [n] o R)
def xY:=fun a b (c:za) d (R:VK) e f g (h:LK)=>
 opt (nb [a,.int .i64 6] (zd zz .eql 3 (.tmp 22) (.const (.int .i64 6)) a (.int .i64 6))) fun i=>CD i (cJ b c d R)
 (x8 a b c e R f g)
 (fun j k=>h [nth j 0] k)
def xF:=fun a b (c:za) d (R:VK) e f g (h:LK)=>
 opt (nb [a,.int .i64 5] (zd zz .eql 3 (.tmp 22) (.const (.int .i64 5)) a (.int .i64 5))) fun i=>CD i (cK b c d R)
 (xY a d c e R b f g)
 (fun j k=>h [nth j 0] k)
def xl:=fun b a (c:za) d (R:VK) e f g (h:LK)=>
 opt (nb [b,.int .i64 4] (zd zz .eql 3 (.tmp 22) (.const (.int .i64 4)) b (.int .i64 4))) fun i=>CD i (fun n=>opt (zb zz 42 a 3) fun j=>opt (zc zz 3 j c) fun k=>BK (Wp k d c a R)
 (b7 a R))
 (xF b d c a R e f g)
 (fun l m=>h [nth l 0] m)
def yD:=fun b a (c:za) d (R:VK) e f g (h:LK)=>
 opt (nb [b,.int .i64 3] (zd zz .eql 3 (.tmp 22) (.const (.int .i64 3)) b (.int .i64 3))) fun i=>CD i (fun n=>opt (zb zz 42 a 3) fun j=>opt (zc zz 3 j c) fun k=>BK (V7 k d c a R)
 (gI d a R))
 (xl b a c d R e f g)
 (fun l m=>h [nth l 0] m)
def cL:=fun b (a:za) c (R:VK) (l:LK)=>
 opt (zb zz 42 b 2) fun e=>opt (zc zz 3 e a) fun f=>opt (zb zz 42 b 1) fun g=>opt (zc zz 3 g a) fun h=>zH zz (fn 57) [f,h] a (fun d i=>zB (nb [c,.int .u8 137,d] (zf zz 29 3 [(0,c),(1,(.int .u8 137)),(2,d)] i)) fun j k=>rv [j] k R)
def yw:=fun a b (c:za) d (R:VK) e f g (h:LK)=>
 opt (nb [a,.int .i64 2] (zd zz .eql 3 (.tmp 22) (.const (.int .i64 2)) a (.int .i64 2))) fun i=>CD i (fun n=>opt (zb zz 42 b 6) fun j=>opt (zc zz 2 j c) fun k=>zH zz (fn 37) [k] c (Jp b d R))
 (yD a b c e R f g d)
 (fun l m=>h [nth l 0] m)
def zv:=fun a b (c:za) d (R:VK) e f g (h:LK)=>
 opt (nb [a,.int .i64 1] (zd zz .eql 3 (.tmp 22) (ci 1) a (.int .i64 1))) fun i=>CD i (cL b c d R)
 (yw a b c e R f g d)
 (fun j k=>h [nth j 0] k)
def cM:=fun a e (R:VK) f b g (c:za)=>
 opt (zb zz 42 a 0) fun h=>opt (zc zz 3 h c) fun i=>BK (zv i a c e R g f b)
 (fun m d=>opt (zc zz 42 a d) fun j=>zH zz (fn 63) [j,b] d (fun k l=>rv [k] l R))
def cN:=fun a (R:VK) c d e (b:za)=>
 opt (zb zz 42 a 1) fun f=>opt (zc zz 3 f b) fun g=>zH zz (fn 38) [.int .u8 72,.int .i64 0,g] b (cM a e R c d)
def cO:=fun a (R:VK) c d (b:za)=>
 opt (zb zz 42 a 2) fun e=>opt (zc zz 3 e b) fun f=>opt (zb zz 42 a 1) fun g=>opt (zc zz 3 g b) fun h=>zH zz (fn 38) [.int .u8 72,f,h] b (cN a R d c)
def tw:=fun (h:za) c d (R:VK)=>
 opt (nb [c] (some (Value.cells c).toList)) fun e=>nw h e 42 fun a b=>opt (zb zz 42 a 1) fun f=>opt (zc zz 3 f b) fun g=>opt (zb zz 42 a 2) fun i=>opt (zc zz 3 i b) fun j=>zH zz (fn 38) [.int .u8 72,g,j] b (cO a R d)
theorem rE (hw:tw h t0 t1 R):DC zz 29 [t0,t1] h R:=V6 mixed (q:=qs) (n:=200) (Eq.mpr (by kernel_rfl) hw)
def n9:=fun e (R:VK) a (f:za)=>
 opt (nb [.int .u8 128,a] (zd zz .add 5 (.const (.int .u8 128)) (.tmp 17) (.int .u8 128) a)) fun b=>zB (nb [.int .u8 15,b] (zf zz 29 2 [(0,(.int .u8 15)),(1,b)] f)) fun c g=>zH zz (fn 39) [e,.int .i64 4] g (fun d h=>zB (nb [c,d] (zg zz .append [29,29] 29 [c,d] h)) fun i j=>rv [i] j R)
def dI:=fun a (b:za) (R:VK) (d:LK)=>
 opt (nb [a,.int .i64 26] (zd zz .eql 3 (.tmp 6) (.const (.int .i64 26)) a (.int .i64 26))) fun e=>CD e (fun c=>zB (nb [.int .u8 72,.int .u8 239] (zf zz 29 2 [(0,(.int .u8 72)),(1,(.int .u8 239))] b)) fun f g=>rv [f] g R)
 (fun c=>c [.slice none 0 0] b)
 (fun h i=>d [nth h 0] i)
def oc:=fun (d:za) e (R:VK) (k:LK)=>
 zB (nb [.int .u8 72,.int .u8 129,.int .u8 196] (zf zz 29 3 [(0,(.int .u8 72)),(1,(.int .u8 129)),(2,(.int .u8 196))] d)) fun a b=>opt (zb zz 42 e 6) fun f=>opt (zc zz 2 f b) fun g=>zH zz (fn 39) [g,.int .i64 4] b (fun c h=>zB (nb [a,c] (zg zz .append [29,29] 29 [a,c] h)) fun i j=>rv [i] j R)
def KK:=fun a (b:za) (R:VK) (c:LK)=>
 opt (nb [a,.int .i64 25] (zd zz .eql 3 (.tmp 6) (.const (.int .i64 25)) a (.int .i64 25))) fun d=>CD d (fun i=>zB (nb [.int .u8 72,.int .u8 237] (zf zz 29 2 [(0,(.int .u8 72)),(1,(.int .u8 237))] b)) fun e f=>rv [e] f R)
 (dI a b R)
 (fun g h=>c [nth g 0] h)
def od:=fun (d:za) e (R:VK) (k:LK)=>
 zB (nb [.int .u8 72,.int .u8 129,.int .u8 236] (zf zz 29 3 [(0,(.int .u8 72)),(1,(.int .u8 129)),(2,(.int .u8 236))] d)) fun a b=>opt (zb zz 42 e 6) fun f=>opt (zc zz 2 f b) fun g=>zH zz (fn 39) [g,.int .i64 4] b (fun c h=>zB (nb [a,c] (zg zz .append [29,29] 29 [a,c] h)) fun i j=>rv [i] j R)
def VI:=fun a (b:za) c (R:VK) (d:LK)=>
 opt (nb [a,.int .i64 24] (zd zz .eql 3 (.tmp 6) (.const (.int .i64 24)) a (.int .i64 24))) fun e=>CD e (oc b c R)
 (KK a b R)
 (fun f g=>d [nth f 0] g)
def X1:=fun a (b:za) c (R:VK) (d:LK)=>
 opt (nb [a,.int .i64 23] (zd zz .eql 3 (.tmp 6) (.const (.int .i64 23)) a (.int .i64 23))) fun e=>CD e (od b c R)
 (VI a b c R)
 (fun f g=>d [nth f 0] g)
def oe:=fun (c:za) d (R:VK) (i:LK)=>
 zB (nb [.int .u8 232] (zf zz 29 1 [(0,(.int .u8 232))] c)) fun a e=>zH zz (fn 39) [d,.int .i64 4] e (fun b f=>zB (nb [a,b] (zg zz .append [29,29] 29 [a,b] f)) fun g h=>rv [g] h R)
def YS:=fun a (b:za) (R:VK) c (d:LK)=>
 opt (nb [a,.int .i64 22] (zd zz .eql 3 (.tmp 6) (.const (.int .i64 22)) a (.int .i64 22))) fun e=>CD e (fun j=>zB (nb [.int .u8 195] (zf zz 29 1 [(0,(.int .u8 195))] b)) fun f g=>rv [f] g R)
 (X1 a b c R)
 (fun h i=>d [nth h 0] i)
def Zg:=fun a (b:za) c (R:VK) d (e:LK)=>
 opt (nb [a,.int .i64 21] (zd zz .eql 3 (.tmp 6) (.const (.int .i64 21)) a (.int .i64 21))) fun f=>CD f (oe b c R)
 (YS a b R d)
 (fun g h=>e [nth g 0] h)
def hZ:=fun (c:za) d (R:VK) (i:LK)=>
 zB (nb [.int .u8 233] (zf zz 29 1 [(0,(.int .u8 233))] c)) fun a e=>zH zz (fn 39) [d,.int .i64 4] e (fun b f=>zB (nb [a,b] (zg zz .append [29,29] 29 [a,b] f)) fun g h=>rv [g] h R)
def ju:=fun a c (b:za) d (R:VK) (e:LK)=>
 opt (nb [a,.int .i64 19] (zd zz .eql 3 (.tmp 6) (.const (.int .i64 19)) a (.int .i64 19))) fun f=>CD f (fun k=>opt (zb zz 42 c 4) fun g=>opt (zc zz 3 g b) fun h=>zH zz (fn 62) [h] b (n9 d R))
 (Zg a b d R c)
 (fun i j=>e [nth i 0] j)
def wY:=fun a (b:za) c (R:VK) d (e:LK)=>
 opt (nb [a,.int .i64 18] (zd zz .eql 3 (.tmp 6) (.const (.int .i64 18)) a (.int .i64 18))) fun f=>CD f (hZ b c R)
 (ju a d b c R)
 (fun g h=>e [nth g 0] h)
def Dm:=fun (h:za) a d (R:VK)=>
 opt (nb [a] (some (Value.cells a).toList)) fun e=>nw h e 42 fun b c=>opt (zb zz 42 b 0) fun f=>opt (zc zz 3 f c) fun g=>BK (wY g c d R b)
 (fun l i=>zB (nb [] (zf zz 29 0 [] i)) fun j k=>rv [j] k R)
theorem BN (hw:Dm h t0 t1 R):DC zz 63 [t0,t1] h R:=xB (by kernel_rfl) hw
def cX:=fun a (i:za) j (k:LK)=>
 zB (nb [nth a 1] (zf zz 67 1 [(0,(nth a 1))] i)) fun b l=>zB (nb [nth a 0,b] (zg zz .append [67,67] 67 [nth a 0,b] l)) fun m c=>opt (zI zz 22 j (nth a 2)) fun n=>opt (zc zz 3 n c) fun d=>opt (nb [d,.int .i64 16] (zd zz .add 3 (.tmp 21) (.const (.int .i64 16)) d (.int .i64 16))) fun e=>opt (nb [e,.int .i64 15] (zd zz .add 3 (.tmp 22) (.const (.int .i64 15)) e (.int .i64 15))) fun f=>opt (nb [f,.int .i64 16] (zd zz .quo 2 (.tmp 23) (.const (.int .i64 16)) f (.int .i64 16))) fun g=>opt (nb [g,.int .i64 16] (zd zz .mul 2 (.tmp 24) (.const (.int .i64 16)) g (.int .i64 16))) fun h=>opt (nb [nth a 1,h] (zd zz .add 2 (.tmp 17) (.tmp 25) (nth a 1) h)) fun o=>k [m,o] c
def cY:=fun a (c:LK) b (d:za)=>
 opt (nb [nth a 2,.int .i64 1] (zd zz .add 3 (.tmp 11) (ci 1) (nth a 2) (.int .i64 1))) fun e=>c [nth b 0,nth b 1,e] d
def cZ:=fun b (f:LK) a (g:za) (h:LK)=>
 zB (nb [b] (zg zz .len [22] 3 [b] g)) fun c d=>opt (nb [nth a 2,c] (zd zz .lss 3 (.tmp 7) (.tmp 9) (nth a 2) c)) fun i=>CD i (fun e=>e [] d)
 (fun e=>f [nth a 0] d)
 (fun k j=>BK (cX a j b)
 (cY a h))
def m8:=fun (h:za) a (R:VK)=>
 zB (Yg zz 67 (.int .i64 0) (.int .i64 0) h) fun b c=>BK (fun d=>LP (cZ a d)
 [b,.int .i64 16777216,.int .i64 0] c)
 (fun e f=>rv [nth e 0] f R)
theorem m9 (hw:m8 h t0 R):DC zz 30 [t0] h R:=xB (by kernel_rfl) hw
def aE:=fun a (d:LK) e b (f:za)=>
 zB (nb [b] (zg zz .len [29] 3 [b] f)) fun c g=>opt (nb [nth a 0,c] (zd zz .add 3 (.tmp 44) (.tmp 55) (nth a 0) c)) fun h=>d [h,e] g
def aF:=fun a (d:za) e f (g:LK)=>
 zB (nb [nth a 0] (zf zz 22 1 [(0,(nth a 0))] d)) fun c h=>zB (nb [nth a 1,c] (zg zz .append [22,22] 22 [nth a 1,c] h)) fun i b=>opt (zb zz 25 e 1) fun j=>opt (zc zz 23 j b) fun k=>opt (zI zz 23 k (nth f 3)) fun l=>opt (zb zz 50 l 1) fun m=>opt (zc zz 48 m b) fun n=>opt (zI zz 48 n (nth a 2)) fun o=>opt (zc zz 42 o b) fun p=>zH zz (fn 29) [p,.int .i64 0] b (aE a g i)
def aG:=fun a (c:LK) b (d:za)=>
 opt (nb [nth a 2,.int .i64 1] (zd zz .add 3 (.tmp 38) (ci 1) (nth a 2) (.int .i64 1))) fun e=>c [nth b 0,nth b 1,e] d
def VC:=fun c d (i:LK) a (b:za) (j:LK)=>
 opt (zb zz 25 c 1) fun k=>opt (zc zz 23 k b) fun l=>opt (zI zz 23 l (nth d 3)) fun m=>opt (zb zz 50 m 1) fun n=>opt (zc zz 48 n b) fun e=>zB (nb [e] (zg zz .len [48] 3 [e] b)) fun f g=>opt (nb [nth a 2,f] (zd zz .lss 3 (.tmp 29) (.tmp 36) (nth a 2) f)) fun o=>CD o (fun h=>h [] g)
 (fun h=>i [nth a 0,nth a 1] g)
 (fun q p=>BK (aF a p c d)
 (aG a j))
def aH:=fun b (d:LK) e a (f:za)=>
 zB (nb [nth a 1] (zf zz 72 1 [(0,(nth a 1))] f)) fun c g=>zB (nb [nth b 1,c] (zg zz .append [72,72] 72 [nth b 1,c] g)) fun h i=>d [e,h,nth a 0] i
def aI:=fun a (c:za) d (e:LK)=>
 zB (nb [nth a 2] (zf zz 22 1 [(0,(nth a 2))] c)) fun b f=>zB (nb [nth a 0,b] (zg zz .append [22,22] 22 [nth a 0,b] f)) fun g h=>BK (fun i=>LP (VC d a i)
 [nth a 2,.slice none 0 0,.int .i64 0] h)
 (aH a e g)
def aJ:=fun b (c:LK) a (d:za)=>
 opt (nb [nth b 3,.int .i64 1] (zd zz .add 3 (.tmp 23) (ci 1) (nth b 3) (.int .i64 1))) fun e=>c [nth a 0,nth a 1,nth a 2,e] d
def VD:=fun b (h:LK) a (c:za) (i:LK)=>
 opt (zb zz 25 b 1) fun j=>opt (zc zz 23 j c) fun d=>zB (nb [d] (zg zz .len [23] 3 [d] c)) fun e f=>opt (nb [nth a 3,e] (zd zz .lss 3 (.tmp 18) (.tmp 21) (nth a 3) e)) fun k=>CD k (fun g=>g [] f)
 (fun g=>h [nth a 0,nth a 1] f)
 (fun m l=>BK (aI a l b)
 (aJ a i))
def VE:=fun d (a:za) b (e:LK) f=>
 opt (zI zz 22 d f) fun g=>opt (zc zz 3 g a) fun c=>opt (nb [c,b] (zd zz .sub 2 (.tmp 114) (.tmp 115) c b)) fun h=>e [h] a
def Ko:=fun b (a:za) g c (h:LK)=>
 opt (zb zz 42 b 3) fun i=>opt (zc zz 3 i a) fun j=>opt (zI zz 67 g j) fun k=>opt (zc zz 2 k a) fun d=>opt (zb zz 42 b 6) fun l=>opt (zc zz 2 l a) fun e=>opt (nb [d,e] (zd zz .add 2 (.tmp 132) (.tmp 134) d e)) fun f=>opt (nb [f,c] (zd zz .sub 2 (.tmp 135) (.tmp 136) f c)) fun m=>h [m] a
def Kp:=fun d (a:za) e b (f:LK)=>
 opt (zb zz 42 d 3) fun g=>opt (zc zz 3 g a) fun h=>opt (zI zz 22 (nth e 0) h) fun i=>opt (zc zz 3 i a) fun c=>opt (nb [c,b] (zd zz .sub 2 (.tmp 123) (.tmp 124) c b)) fun j=>f [j] a
def Ww:=fun a c (b:za) d e (f:LK)=>
 opt (nb [a,.int .i64 6] (zd zz .eql 3 (.tmp 101) (.const (.int .i64 6)) a (.int .i64 6))) fun g=>CD g (Ko c b d e)
 (fun h=>h [.int .i64 0] b)
 (fun i j=>f [nth i 0] j)
def Wx:=fun b c (a:za) d e f (g:LK)=>
 opt (zI zz 72 (nth b 1) (nth c 1)) fun h=>opt (zc zz 22 h a) fun i=>opt (zc zz 50 d a) fun j=>opt (zb zz 42 e 5) fun k=>opt (zc zz 3 k a) fun l=>uj zz 28 [j,l] a (VE i a f g)
def YD:=fun a b (c:za) e d f (g:LK)=>
 opt (nb [a,.int .i64 21] (zd zz .eql 3 (.tmp 101) (.const (.int .i64 21)) a (.int .i64 21))) fun h=>CD h (Kp b c e d)
 (Ww a b c f d)
 (fun i j=>g [nth i 0] j)
def Wy:=fun a (c:za) d i j e f k (l:LK)=>
 opt (nb [a,.int .i64 18] (zd zz .eql 3 (.tmp 101) (.const (.int .i64 18)) a (.int .i64 18))) fun g=>CD g (fun b=>b [g] c)
 (fun b=>opt (nb [a,.int .i64 19] (zd zz .eql 3 (.tmp 101) (.const (.int .i64 19)) a (.int .i64 19))) fun m=>b [m] c)
 (fun n h=>CD (nth n 0) (Wx d i h j e f)
 (YD a e h d f k)
 (fun o p=>l [nth o 0] p))
def Kq:=fun d a (e:LK) f (b:za)=>
 opt (zc zz 42 d b) fun g=>zH zz (fn 29) [g,nth f 0] b (fun c h=>zB (nb [nth a 0,c] (zg zz .append [29,29] 29 [nth a 0,c] h)) fun i j=>e [i] j)
def Kr:=fun c a f g h i j (k:LK) d (b:za)=>
 zB (nb [d] (zg zz .len [29] 3 [d] b)) fun e _=>opt (nb [c,e] (zd zz .add 3 (.tmp 95) (.tmp 98) c e)) fun l=>opt (zb zz 42 a 0) fun m=>opt (zc zz 3 m b) fun n=>BK (Wy n b f g h a l i)
 (Kq a j k)
def Kt:=fun e (b:za) c f g i (j:LK)=>
 opt (zb zz 50 e 1) fun k=>opt (zc zz 48 k b) fun l=>opt (zI zz 48 l (nth c 1)) fun m=>opt (zc zz 42 m b) fun h=>opt (vK zz 42) fun n=>nw b (Value.cells n).toList 42 fun d o=>opt (nb [h] (zZ zz 42 d h o)) fun a=>opt (zI zz 72 (nth f 1) (nth g 1)) fun p=>opt (zc zz 22 p a) fun q=>opt (zI zz 22 q (nth c 1)) fun r=>opt (zc zz 3 r a) fun s=>opt (zc zz 42 d a) fun t=>Y3 zz 29 [t,.int .i64 0] a (Kr s d f g e i c j)
def Ku:=fun a (b:LK) c (d:za)=>
 opt (nb [nth a 1,.int .i64 1] (zd zz .add 3 (.tmp 82) (ci 1) (nth a 1) (.int .i64 1))) fun e=>b [nth c 0,e] d
def Wz:=fun b (h:LK) i j k a (c:za) (l:LK)=>
 opt (zb zz 50 b 1) fun m=>opt (zc zz 48 m c) fun d=>zB (nb [d] (zg zz .len [48] 3 [d] c)) fun e f=>opt (nb [nth a 1,e] (zd zz .lss 3 (.tmp 77) (.tmp 80) (nth a 1) e)) fun n=>CD n (fun g=>g [] f)
 (fun g=>h [nth a 0] f)
 (fun p o=>BK (Kt b o a i j k)
 (Ku a l))
def Kv:=fun e (a:za) b f g (h:LK)=>
 opt (zb zz 25 e 1) fun i=>opt (zc zz 23 i a) fun j=>opt (zI zz 23 j (nth b 1)) fun k=>opt (zc zz 50 k a) fun c=>opt (vK zz 50) fun l=>nw a (Value.cells l).toList 50 fun d m=>opt (nb [c] (zZ zz 50 d c m)) fun n=>BK (fun o=>LP (Wz d o f b g)
 [nth b 0,.int .i64 0] n)
 (fun p q=>h [nth p 0] q)
def Kw:=fun a (b:LK) c (d:za)=>
 opt (nb [nth a 1,.int .i64 1] (zd zz .add 3 (.tmp 70) (ci 1) (nth a 1) (.int .i64 1))) fun e=>b [nth c 0,e] d
def WA:=fun b (h:LK) i j a (c:za) (k:LK)=>
 opt (zb zz 25 b 1) fun l=>opt (zc zz 23 l c) fun d=>zB (nb [d] (zg zz .len [23] 3 [d] c)) fun e f=>opt (nb [nth a 1,e] (zd zz .lss 3 (.tmp 65) (.tmp 68) (nth a 1) e)) fun m=>CD m (fun g=>g [] f)
 (fun g=>h [nth a 0] f)
 (fun o n=>BK (Kv b n a i j)
 (Kw a k))
def Kx:=fun b a (R:VK) c (d:za)=>
 zB (Yg zz 29 (.int .i64 0) (.int .i64 0) d) fun e f=>BK (fun g=>LP (WA b g a c)
 [e,.int .i64 0] f)
 (fun h i=>rv [nth h 0,nth a 0] i R)
def hO:=fun (h:za) b (R:VK)=>
 opt (nb [b] (some (Value.cells b).toList)) fun d=>nw h d 25 fun a e=>BK (fun f=>LP (VD a f)
 [.slice none 0 0,.slice none 0 0,.int .i64 0,.int .i64 0] e)
 (fun g c=>opt (zb zz 25 a 0) fun i=>opt (zc zz 22 i c) fun j=>zH zz (fn 30) [j] c (Kx a g R))
theorem lx (hw:hO h t0 R):DC zz 12 [t0] h R:=xB (by kernel_rfl) hw
theorem xA (b off:Nat) (h:za):zc Tryz.prog 2 (.pointer (some ⟨b,off,none⟩)) h=zq h b off:=ym (by kernel_rfl) b off h
theorem wL (b off:Nat) (h:za):zc Tryz.prog 22 (.pointer (some ⟨b,off,none⟩)) h=zq h b off:=ym (by kernel_rfl) b off h
theorem wN (b off:Nat) (h:za):zc Tryz.prog 23 (.pointer (some ⟨b,off,none⟩)) h=zq h b off:=ym (by kernel_rfl) b off h
theorem Xv (b off:Nat) (h:za):zc Tryz.prog 25 (.pointer (some ⟨b,off,none⟩)) h=jF h b off 4:=uW (by kernel_rfl) (by kernel_rfl) b off h
theorem ig (b off:Nat) (h:za):zc Tryz.prog 29 (.pointer (some ⟨b,off,none⟩)) h=zq h b off:=ym (by kernel_rfl) b off h
theorem zi (b off:Nat) (h:za):zc Tryz.prog 3 (.pointer (some ⟨b,off,none⟩)) h=zq h b off:=ym (by kernel_rfl) b off h
theorem DD (b off:Nat) (h:za):zc Tryz.prog 31 (.pointer (some ⟨b,off,none⟩)) h=jF h b off 5:=uW (by kernel_rfl) (by kernel_rfl) b off h
theorem qf (b off:Nat) (h:za):zc Tryz.prog 42 (.pointer (some ⟨b,off,none⟩)) h=jF h b off 7:=uW (by kernel_rfl) (by kernel_rfl) b off h
theorem uP (b off:Nat) (h:za):zc Tryz.prog 48 (.pointer (some ⟨b,off,none⟩)) h=zq h b off:=ym (by kernel_rfl) b off h
theorem IJ (b off:Nat) (h:za):zc Tryz.prog 5 (.pointer (some ⟨b,off,none⟩)) h=zq h b off:=ym (by kernel_rfl) b off h
theorem Yr (b off:Nat) (h:za):zc Tryz.prog 50 (.pointer (some ⟨b,off,none⟩)) h=jF h b off 2:=uW (by kernel_rfl) (by kernel_rfl) b off h
theorem DE (b off:Nat) (h:za):zc Tryz.prog 65 (.pointer (some ⟨b,off,none⟩)) h=zq h b off:=ym (by kernel_rfl) b off h
theorem oH (r:TypeId) (v x:Value) (n:Nat) (new:List Value) (h:za) (h1:jK x=some n) (h2:wZ h n 1 x=some new) (h3:new.all xp=true) (h4:new.length=n * 1):zg Tryz.prog .append [22,22] r [v,x] h=Yh h 3 1 8 n new v:=jx (e:=3) (e2:=3) (by kernel_rfl) (by kernel_rfl) (by kernel_rfl) (by kernel_rfl) (by decide) h1 h2 h3 h4
theorem IP (r:TypeId) (v x:Value) (n:Nat) (new:List Value) (h:za) (h1:jK x=some n) (h2:wZ h n 1 x=some new) (h3:new.all xp=true) (h4:new.length=n * 1):zg Tryz.prog .append [29,29] r [v,x] h=Yh h 5 1 1 n new v:=jx (e:=5) (e2:=5) (by kernel_rfl) (by kernel_rfl) (by kernel_rfl) (by kernel_rfl) (by decide) h1 h2 h3 h4
theorem GN (r:TypeId) (v x:Value) (n:Nat) (new:List Value) (h:za) (h1:jK x=some n) (h2:wZ h n 1 x=some new) (h3:new.all xp=true) (h4:new.length=n * 1):zg Tryz.prog .append [67,67] r [v,x] h=Yh h 2 1 8 n new v:=jx (e:=2) (e2:=2) (by kernel_rfl) (by kernel_rfl) (by kernel_rfl) (by kernel_rfl) (by decide) h1 h2 h3 h4
theorem IS (r:TypeId) (v x:Value) (n:Nat) (new:List Value) (h:za) (h1:jK x=some n) (h2:wZ h n 1 x=some new) (h3:new.all xp=true) (h4:new.length=n * 1):zg Tryz.prog .append [72,72] r [v,x] h=Yh h 22 1 24 n new v:=jx (e:=22) (e2:=22) (by kernel_rfl) (by kernel_rfl) (by kernel_rfl) (by kernel_rfl) (by decide) h1 h2 h3 h4
theorem GP (b off:Nat) (v:Option Addr) (vl vc:Nat) (h:za):zZ Tryz.prog 22 (.pointer (some ⟨b,off,none⟩)) (.slice v vl vc) h=fO h b off [(.slice v vl vc)]:=Y0 (by kernel_rfl) b off _ h rfl
theorem IV (b off:Nat) (v:Option Addr) (vl vc:Nat) (h:za):zZ Tryz.prog 29 (.pointer (some ⟨b,off,none⟩)) (.slice v vl vc) h=fO h b off [(.slice v vl vc)]:=Y0 (by kernel_rfl) b off _ h rfl
theorem ir (b off:Nat) (l:List Value) (h:za) (hv:l.length=5):zZ Tryz.prog 31 (.pointer (some ⟨b,off,none⟩)) (.agg l.toArray) h=fO h b off l:=qF (by kernel_rfl) b off l h hv
theorem aS (b off:Nat) (l:List Value) (h:za) (hv:l.length=7):zZ Tryz.prog 42 (.pointer (some ⟨b,off,none⟩)) (.agg l.toArray) h=fO h b off l:=qF (by kernel_rfl) b off l h hv
theorem dZ (b off:Nat) (l:List Value) (h:za) (hv:l.length=2):zZ Tryz.prog 50 (.pointer (some ⟨b,off,none⟩)) (.agg l.toArray) h=fO h b off l:=qF (by kernel_rfl) b off l h hv
theorem IW (b off:Nat) (v:Option Nat) (h:za):zZ Tryz.prog 65 (.pointer (some ⟨b,off,none⟩)) (.map v) h=fO h b off [(.map v)]:=Y0 (by kernel_rfl) b off _ h rfl
theorem oJ:vK Tryz.prog 31=some (.agg #[(.slice none 0 0),(.slice none 0 0),(.slice none 0 0),(.int .i64 0),(.int .i64 0)]):=zK (by kernel_rfl)
theorem aT:vK Tryz.prog 42=some (.agg #[(.int .i64 0),(.int .i64 0),(.int .i64 0),(.int .i64 0),(.int .i64 0),(.int .i64 0),(.int .i64 0)]):=zK (by kernel_rfl)
theorem eu:vK Tryz.prog 50=some (.agg #[(.string ⟨#[]⟩),(.slice none 0 0)]):=zK (by kernel_rfl)
theorem Hy:jD Tryz.prog 31 []=some (.agg #[(.slice none 0 0),(.slice none 0 0),(.slice none 0 0),(.int .i64 0),(.int .i64 0)]):=zK (by kernel_rfl)
theorem oM (v2:Option Addr) (v2l v2c:Nat) (v3:Int) (v4:Int):jD Tryz.prog 31 [(2,(.slice v2 v2l v2c)),(3,(.int .i64 v3)),(4,(.int .i64 v4))]=some (.agg #[(.slice none 0 0),(.slice none 0 0),(.slice v2 v2l v2c),(.int .i64 v3),(.int .i64 v4)]):=zK (by kernel_rfl)
theorem ey (h:za):zf Tryz.prog 22 0 [] h=some (.slice (some ⟨h.next,0,none⟩) 0 2,h.push (.cells [] 3)):=zK (by kernel_rfl)
theorem Un (v0:Int) (h:za):zf Tryz.prog 22 1 [(0,(.int .i64 v0))] h=some (.slice (some ⟨h.next,0,none⟩) 1 3,h.push (.cells [(.int .i64 v0)] 3)):=zK (by kernel_rfl)
theorem DR (h:za):zf Tryz.prog 29 0 [] h=some (.slice (some ⟨h.next,0,none⟩) 0 2,h.push (.cells [] 5)):=zK (by kernel_rfl)
theorem yf (v0:Int) (h:za):zf Tryz.prog 29 1 [(0,(.int .u8 v0))] h=some (.slice (some ⟨h.next,0,none⟩) 1 3,h.push (.cells [(.int .u8 v0)] 5)):=zK (by kernel_rfl)
theorem xw (v0:Int) (v1:Int) (h:za):zf Tryz.prog 29 2 [(0,(.int .u8 v0)),(1,(.int .u8 v1))] h=some (.slice (some ⟨h.next,0,none⟩) 2 4,h.push (.cells [(.int .u8 v0),(.int .u8 v1)] 5)):=zK (by kernel_rfl)
theorem yA (v0:Int) (v1:Int) (v2:Int) (h:za):zf Tryz.prog 29 3 [(0,(.int .u8 v0)),(1,(.int .u8 v1)),(2,(.int .u8 v2))] h=some (.slice (some ⟨h.next,0,none⟩) 3 5,h.push (.cells [(.int .u8 v0),(.int .u8 v1),(.int .u8 v2)] 5)):=zK (by kernel_rfl)
theorem jN (v0:Int) (v1:Int) (v2:Int) (v3:Int) (h:za):zf Tryz.prog 29 4 [(0,(.int .u8 v0)),(1,(.int .u8 v1)),(2,(.int .u8 v2)),(3,(.int .u8 v3))] h=some (.slice (some ⟨h.next,0,none⟩) 4 6,h.push (.cells [(.int .u8 v0),(.int .u8 v1),(.int .u8 v2),(.int .u8 v3)] 5)):=zK (by kernel_rfl)
theorem UC (v0:Int) (v1:Int) (v2:Int) (v3:Int) (v4:Int) (v5:Int) (h:za):zf Tryz.prog 29 6 [(0,(.int .u8 v0)),(1,(.int .u8 v1)),(2,(.int .u8 v2)),(3,(.int .u8 v3)),(4,(.int .u8 v4)),(5,(.int .u8 v5))] h=some (.slice (some ⟨h.next,0,none⟩) 6 8,h.push (.cells [(.int .u8 v0),(.int .u8 v1),(.int .u8 v2),(.int .u8 v3),(.int .u8 v4),(.int .u8 v5)] 5)):=zK (by kernel_rfl)
theorem X7 (v0:Int) (v1:Int) (v2:Int) (v3:Int) (v4:Int) (v5:Int) (v6:Int) (v7:Int) (h:za):zf Tryz.prog 29 8 [(0,(.int .u8 v0)),(1,(.int .u8 v1)),(2,(.int .u8 v2)),(3,(.int .u8 v3)),(4,(.int .u8 v4)),(5,(.int .u8 v5)),(6,(.int .u8 v6)),(7,(.int .u8 v7))] h=some (.slice (some ⟨h.next,0,none⟩) 8 10,h.push (.cells [(.int .u8 v0),(.int .u8 v1),(.int .u8 v2),(.int .u8 v3),(.int .u8 v4),(.int .u8 v5),(.int .u8 v6),(.int .u8 v7)] 5)):=zK (by kernel_rfl)
theorem iy (v0:Int) (h:za):zf Tryz.prog 67 1 [(0,(.int .i64 v0))] h=some (.slice (some ⟨h.next,0,none⟩) 1 3,h.push (.cells [(.int .i64 v0)] 2)):=zK (by kernel_rfl)
theorem B6 (v0:Option Addr) (v0l v0c:Nat) (h:za):zf Tryz.prog 72 1 [(0,(.slice v0 v0l v0c))] h=some (.slice (some ⟨h.next,0,none⟩) 1 3,h.push (.cells [(.slice v0 v0l v0c)] 22)):=zK (by kernel_rfl)
theorem WX (n:Int) (h:za):wM Tryz.prog 21 2 (.int .i32 n) h=some (.int .i64 (IntKind.wrap .i64 n),h):=zK (by kernel_rfl)
theorem Uq (n:Int) (h:za):wM Tryz.prog 2 21 (.int .i64 n) h=some (.int .i32 (IntKind.wrap .i32 n),h):=zK (by kernel_rfl)
theorem QJ (n:Int) (h:za):wM Tryz.prog 2 5 (.int .i64 n) h=some (.int .u8 (IntKind.wrap .u8 n),h):=zK (by kernel_rfl)
theorem WY (n:Int) (h:za):wM Tryz.prog 3 5 (.int .i64 n) h=some (.int .u8 (IntKind.wrap .u8 n),h):=zK (by kernel_rfl)
theorem FA (n:Int) (h:za):wM Tryz.prog 3 99 (.int .i64 n) h=some (.int .u64 (IntKind.wrap .u64 n),h):=zK (by kernel_rfl)
theorem D1 (n:Int) (h:za):wM Tryz.prog 5 3 (.int .u8 n) h=some (.int .i64 (IntKind.wrap .i64 n),h):=zK (by kernel_rfl)
theorem yZ (b off:Nat):zb Tryz.prog 25 (.pointer (some ⟨b,off,none⟩)) 0=some (.pointer (some ⟨b,off,none⟩)):=zK (by kernel_rfl)
theorem yo (b off:Nat):zb Tryz.prog 25 (.pointer (some ⟨b,off,none⟩)) 1=some (.pointer (some ⟨b,off + 1,none⟩)):=zK (by kernel_rfl)
theorem ug (b off:Nat):zb Tryz.prog 25 (.pointer (some ⟨b,off,none⟩)) 2=some (.pointer (some ⟨b,off + 2,none⟩)):=zK (by kernel_rfl)
theorem kL (b off:Nat):zb Tryz.prog 25 (.pointer (some ⟨b,off,none⟩)) 3=some (.pointer (some ⟨b,off + 3,none⟩)):=zK (by kernel_rfl)
theorem Us (b off:Nat):zb Tryz.prog 31 (.pointer (some ⟨b,off,none⟩)) 0=some (.pointer (some ⟨b,off,none⟩)):=zK (by kernel_rfl)
theorem KY (b off:Nat):zb Tryz.prog 31 (.pointer (some ⟨b,off,none⟩)) 1=some (.pointer (some ⟨b,off + 1,none⟩)):=zK (by kernel_rfl)
theorem ze (b off:Nat):zb Tryz.prog 42 (.pointer (some ⟨b,off,none⟩)) 0=some (.pointer (some ⟨b,off,none⟩)):=zK (by kernel_rfl)
theorem zC (b off:Nat):zb Tryz.prog 42 (.pointer (some ⟨b,off,none⟩)) 1=some (.pointer (some ⟨b,off + 1,none⟩)):=zK (by kernel_rfl)
theorem zM (b off:Nat):zb Tryz.prog 42 (.pointer (some ⟨b,off,none⟩)) 2=some (.pointer (some ⟨b,off + 2,none⟩)):=zK (by kernel_rfl)
theorem zk (b off:Nat):zb Tryz.prog 42 (.pointer (some ⟨b,off,none⟩)) 3=some (.pointer (some ⟨b,off + 3,none⟩)):=zK (by kernel_rfl)
theorem Z0 (b off:Nat):zb Tryz.prog 42 (.pointer (some ⟨b,off,none⟩)) 4=some (.pointer (some ⟨b,off + 4,none⟩)):=zK (by kernel_rfl)
theorem x9 (b off:Nat):zb Tryz.prog 42 (.pointer (some ⟨b,off,none⟩)) 5=some (.pointer (some ⟨b,off + 5,none⟩)):=zK (by kernel_rfl)
theorem zu (b off:Nat):zb Tryz.prog 42 (.pointer (some ⟨b,off,none⟩)) 6=some (.pointer (some ⟨b,off + 6,none⟩)):=zK (by kernel_rfl)
theorem wj (b off:Nat):zb Tryz.prog 50 (.pointer (some ⟨b,off,none⟩)) 1=some (.pointer (some ⟨b,off + 1,none⟩)):=zK (by kernel_rfl)
theorem pr (b off len c:Nat) (k:IntKind) (i:Int):zI Tryz.prog 22 (.slice (some ⟨b,off,none⟩) len c) (.int k i)=if 0<=i/\i < len then some (.pointer (some ⟨b,off + i.toNat * 1,none⟩)) else none:=xo (e:=3) (by kernel_rfl) (by kernel_rfl)
theorem pw (b off len c:Nat) (k:IntKind) (i:Int):zI Tryz.prog 23 (.slice (some ⟨b,off,none⟩) len c) (.int k i)=if 0<=i/\i < len then some (.pointer (some ⟨b,off + i.toNat * 2,none⟩)) else none:=xo (e:=50) (by kernel_rfl) (by kernel_rfl)
theorem LI (b off len c:Nat) (k:IntKind) (i:Int):zI Tryz.prog 29 (.slice (some ⟨b,off,none⟩) len c) (.int k i)=if 0<=i/\i < len then some (.pointer (some ⟨b,off + i.toNat * 1,none⟩)) else none:=xo (e:=5) (by kernel_rfl) (by kernel_rfl)
theorem Am (b off len c:Nat) (k:IntKind) (i:Int):zI Tryz.prog 48 (.slice (some ⟨b,off,none⟩) len c) (.int k i)=if 0<=i/\i < len then some (.pointer (some ⟨b,off + i.toNat * 7,none⟩)) else none:=xo (e:=42) (by kernel_rfl) (by kernel_rfl)
theorem An (b off len c:Nat) (k:IntKind) (i:Int):zI Tryz.prog 64 (.slice (some ⟨b,off,none⟩) len c) (.int k i)=if 0<=i/\i < len then some (.pointer (some ⟨b,off + i.toNat * 1,none⟩)) else none:=xo (e:=65) (by kernel_rfl) (by kernel_rfl)
theorem El (b off len c:Nat) (k:IntKind) (i:Int):zI Tryz.prog 67 (.slice (some ⟨b,off,none⟩) len c) (.int k i)=if 0<=i/\i < len then some (.pointer (some ⟨b,off + i.toNat * 1,none⟩)) else none:=xo (e:=2) (by kernel_rfl) (by kernel_rfl)
theorem LJ (b off len c:Nat) (k:IntKind) (i:Int):zI Tryz.prog 72 (.slice (some ⟨b,off,none⟩) len c) (.int k i)=if 0<=i/\i < len then some (.pointer (some ⟨b,off + i.toNat * 1,none⟩)) else none:=xo (e:=22) (by kernel_rfl) (by kernel_rfl)
theorem JS (r:TypeId) (a:Option Addr) (n c:Nat) (h:za):zg Tryz.prog .len [22] r [.slice a n c] h=some (.int .i64 n,h):=zK (by kernel_rfl)
theorem JT (r:TypeId) (a:Option Addr) (n c:Nat) (h:za):zg Tryz.prog .len [23] r [.slice a n c] h=some (.int .i64 n,h):=zK (by kernel_rfl)
theorem Er (r:TypeId) (a:Option Addr) (n c:Nat) (h:za):zg Tryz.prog .len [29] r [.slice a n c] h=some (.int .i64 n,h):=zK (by kernel_rfl)
theorem eX (r:TypeId) (a:Option Addr) (n c:Nat) (h:za):zg Tryz.prog .len [48] r [.slice a n c] h=some (.int .i64 n,h):=zK (by kernel_rfl)
theorem LZ (k k2:IntKind) (l c:Int) (h:za) (h0:0<=l) (h1:l<=c) (h2:c < 2 ^ 31):Yg Tryz.prog 64 (.int k l) (.int k2 c) h=some (.slice (some ⟨h.next,0,none⟩) l.toNat (c.toNat + 2),h.push (.cells (jH [(.map none)] (c.toNat * 1)) 65)):=DG (e:=65) (z:=(.map none)) (n:=1) (bytes:=8) (by kernel_rfl) (by kernel_rfl) (by kernel_rfl) rfl (by decide) (by decide) rfl h0 h1 h2
theorem Mk (b off len c:Nat) (lo hi:Option Value) (h:za):IA Tryz.prog 29 (.slice (some ⟨b,off,none⟩) len c) lo hi h=(kK hi len len).bind fun hh=>(kK lo 0 hh).bind fun l=>some (.slice (some ⟨b,off + l * 1,none⟩) (hh - l) (cond (wide Tryz.prog h b 1) (QG c l) 0)):=BU (e:=5) (by kernel_rfl) (by kernel_rfl)
end Go.Eb
