/- A part of the proof. -/
import Derived.Test.YtfhacoddmpbgnaaGreatDoorChecked
import Derived.KernelRfl
import Derived.Test.YtfhacoddmpbgnaaGreatDoorTH
import Derived.Test.YtfhacoddmpbgnaaGreatDoorTI
set_option linter.unusedVariables false
set_option linter.unusedSimpArgs false
set_option maxRecDepth 100000
namespace Go.Rl
open Go.Ai Go.Proofs Go.Proofs.Tryz
noncomputable abbrev zz:=prog
abbrev VK:=Value->za->Prop
abbrev LK:=List Value->za->Prop
abbrev ci (n:Int):Operand := .const (.int .i64 n)
abbrev fn (n:Nat):Value := .func (.func n) #[] #[]
variable {h:za} {t0 t1 t2 t3 t4 t5 t6:Value} {R:VK}
def qs:FuncId->Nat:=fun g=>[0,0,0,0,0,0,0,0,0,0,0,0,0,0,0,0,0,3,0,0,0,0,0,0,0,0,0,0,0,0,0,0,0,0,0,0,0,0,0,0,0,2].getD g 0
theorem mixed:prog.follows .mixedOrders=true:=Checked.mixed Tryz.checked
def bJ:=fun c (R:VK) d (e:LK) f (a:za)=>
 opt (pk c (.bool true) f) fun g=>CD g (fun b=>rv [.bool false] a R)
 (fun b=>b [nth d 0] a)
 (fun h i=>e [nth h 0] i)
def bM:=fun a (R:VK) d (e:LK) b (c:za)=>
 GD a false (fun f=>opt (nb [b,.int .i64 4096] (ze zz .gtr 3 (.tmp 45) (.const (.int .i64 4096)) b (.int .i64 4096))) fun g=>f g c) (bJ a R d e) c
def bN:=fun a (R:VK) e (f:LK) g (d:za)=>
 GD a false (fun h=>opt (zb zz 45 g 3) fun b=>h b d) (fun b c=>GD a false (fun i=>opt (zd zz 3 b c) fun j=>i j c) (bM a R e f) c) d
def bO:=fun a b (R:VK) (e:LK) f (c:za)=>
 GD a false (fun g=>g (nth b 1) c) (fun h d=>GD a false (fun i=>opt (zw zz 23 f h) fun j=>i j d) (bN a R b e) d) c
def bP:=fun e f g (R:VK) (h:LK) i (d:za)=>
 opt (pk e (.bool true) i) fun a=>GD a false (fun j=>opt (zb zz 25 f 1) fun b=>j b d) (fun b c=>GD a false (fun k=>opt (zd zz 23 b c) fun l=>k l c) (bO a g R h) c) d
def bQ:=fun a d e (R:VK) (f:LK) b (c:za)=>
 GD a false (fun g=>opt (nb [b,.int .i64 40] (ze zz .gtr 3 (.tmp 36) (.const (.int .i64 40)) b (.int .i64 40))) fun h=>g h c) (bP a d e R f) c
def bR:=fun a e f (R:VK) (g:LK) h (d:za)=>
 GD a false (fun i=>opt (zb zz 45 h 2) fun b=>i b d) (fun b c=>GD a false (fun j=>opt (zd zz 3 b c) fun k=>j k c) (bQ a e f R g) c) d
def bS:=fun a b e (R:VK) (f:LK) g (c:za)=>
 GD a false (fun h=>h (nth b 1) c) (fun i d=>GD a false (fun j=>opt (zw zz 23 g i) fun k=>j k d) (bR a e b R f) d) c
def bT:=fun a (b:za) f (R:VK) (j:LK)=>
 opt (zb zz 25 a 1) fun k=>opt (zd zz 23 k b) fun l=>opt (zw zz 23 l (nth f 1)) fun m=>opt (zb zz 45 m 5) fun n=>opt (zd zz 43 n b) fun g=>zV (nb [g] (zg zz .len [43] 3 [g] b)) fun h i=>opt (nb [h,.int .i64 60] (ze zz .gtr 3 (.tmp 28) (.const (.int .i64 60)) h (.int .i64 60))) fun c=>GD c false (fun o=>opt (zb zz 25 a 1) fun d=>o d i) (fun d e=>GD c false (fun p=>opt (zd zz 23 d e) fun q=>p q e) (bS c f a R j) e) i
def AS:=fun a (b:LK) c (d:za)=>
 opt (nb [nth a 1,.int .i64 1] (ze zz .add 3 (.tmp 20) (ci 1) (nth a 1) (.int .i64 1))) fun e=>b [nth c 0,e] d
def AT:=fun b (h:LK) (R:VK) a (c:za) (i:LK)=>
 opt (zb zz 25 b 1) fun j=>opt (zd zz 23 j c) fun d=>zV (nb [d] (zg zz .len [23] 3 [d] c)) fun e f=>opt (nb [nth a 1,e] (ze zz .lss 3 (.tmp 15) (.tmp 18) (nth a 1) e)) fun k=>CD k (fun g=>g [] f)
 (fun g=>h [nth a 0] f)
 (fun m l=>BK (bT b l a R)
 (AS a i))
def lg:=fun e (a:za) b (R:VK) (f:LK)=>
 opt (zb zz 25 e 0) fun g=>opt (zd zz 22 g a) fun h=>opt (zw zz 22 h (nth b 1)) fun i=>opt (zd zz 3 i a) fun c=>opt (nb [c,.int .i64 4096] (ze zz .gtr 3 (.tmp 59) (.const (.int .i64 4096)) c (.int .i64 4096))) fun j=>CD j (fun d=>rv [.bool false] a R)
 (fun d=>d [nth b 0] a)
 (fun k l=>f [nth k 0] l)
def AU:=fun a (b:LK) c (d:za)=>
 opt (nb [nth a 1,.int .i64 1] (ze zz .add 3 (.tmp 53) (ci 1) (nth a 1) (.int .i64 1))) fun e=>b [nth c 0,e] d
def AV:=fun b (h:LK) (R:VK) a (c:za) (i:LK)=>
 opt (zb zz 25 b 0) fun j=>opt (zd zz 22 j c) fun d=>zV (nb [d] (zg zz .len [22] 3 [d] c)) fun e f=>opt (nb [nth a 1,e] (ze zz .lss 3 (.tmp 48) (.tmp 51) (nth a 1) e)) fun k=>CD k (fun g=>g [] f)
 (fun g=>h [nth a 0] f)
 (fun m l=>BK (lg b l a R)
 (AU a i))
def AW:=fun a (R:VK) b (c:za)=>
 BK (fun d=>LP (AT a d R)
 [nth b 0,.int .i64 0] c)
 (fun e f=>BK (fun g=>LP (AV a g R)
 [nth e 0,.int .i64 0] f)
 (fun i h=>rv [.bool true] h R))
def bK:=fun b (R:VK) g c (d:za)=>
 GD b false (fun h=>opt (nb [c,.int .i64 12] (ze zz .gtr 3 (.tmp 12) (.const (.int .i64 12)) c (.int .i64 12))) fun a=>h a d) (fun a e=>opt (pk b (.bool true) a) fun i=>CD i (fun f=>rv [.bool false] e R)
 (fun f=>f [.bool false] e)
 (AW g R)) d
def bL:=fun b (R:VK) e f (c:za)=>
 GD b false (fun g=>opt (zd zz 22 f c) fun a=>g a c) (fun a d=>GD b false (fun h=>zV (nb [a] (zg zz .len [22] 3 [a] d)) fun i j=>h i j) (bK b R e) d) c
def Oa:=fun (h:za) b (R:VK)=>
 opt (nb [b] (some (Value.cells b).toList)) fun i=>nw h i 25 fun a c=>opt (zb zz 25 a 1) fun j=>opt (zd zz 23 j c) fun d=>zV (nb [d] (zg zz .len [23] 3 [d] c)) fun e f=>opt (nb [e,.int .i64 12] (ze zz .gtr 3 (.tmp 7) (.const (.int .i64 12)) e (.int .i64 12))) fun g=>GD g false (fun k=>opt (zb zz 25 a 0) fun l=>k l f) (bL g R a) f
theorem Iq (hw:Oa h t0 R):DC zz 7 [t0] h R:=zL mixed (q:=qs) (n:=200) (Eq.mpr (by kernel_rfl) hw)
def iQ:=fun f b (a:za) g (R:VK) (h:LK)=>
 opt (zw zz 30 f (nth b 1)) fun i=>opt (zd zz 97 i a) fun c=>opt (zw zz 30 g (nth b 1)) fun j=>opt (zd zz 97 j a) fun d=>opt (nb [c,d] (ze zz .neq 97 (.tmp 32) (.tmp 36) c d)) fun k=>CD k (fun e=>rv [.bool false] a R)
 (fun e=>e [nth b 0] a)
 (fun l m=>h [nth l 0] m)
def iR:=fun a (b:LK) c (d:za)=>
 opt (nb [nth a 1,.int .i64 1] (ze zz .add 3 (.tmp 27) (ci 1) (nth a 1) (.int .i64 1))) fun e=>b [nth c 0,e] d
def iS:=fun b (f:LK) g (R:VK) a (h:za) (i:LK)=>
 zV (nb [b] (zg zz .len [30] 3 [b] h)) fun c d=>opt (nb [nth a 1,c] (ze zz .lss 3 (.tmp 23) (.tmp 25) (nth a 1) c)) fun j=>CD j (fun e=>e [] d)
 (fun e=>f [nth a 0] d)
 (fun l k=>BK (iQ b a k g R)
 (iR a i))
def JE:=fun c (R:VK) d e f (a:za)=>
 opt (pk c (.bool true) f) fun g=>CD g (fun b=>rv [.bool false] a R)
 (fun b=>b [.bool false] a)
 (fun h i=>BK (fun j=>LP (iS d j e R)
 [nth h 0,.int .i64 0] i)
 (fun l k=>rv [.bool true] k R))
def JF:=fun b c d (R:VK) h i e (f:za)=>
 GD b true (fun j=>opt (nb [c,e] (ze zz .neq 3 (.tmp 17) (.tmp 19) c e)) fun a=>j a f) (fun a g=>GD d false (fun k=>opt (pk b a (.bool false)) fun l=>k l g) (JE d R h i) g) f
def JG:=fun a b f (R:VK) g h (c:za)=>
 GD a true (fun i=>i b c) (fun d e=>GD a true (fun j=>zV (nb [d] (zg zz .len [30] 3 [d] e)) fun k l=>j k l) (JF a h f R g b) e) c
def JH:=fun b f g (R:VK) a (c:za)=>
 GD a true (fun h=>h b c) (fun d e=>GD a true (fun i=>zV (nb [d] (zg zz .len [30] 3 [d] e)) fun j k=>i j k) (JG a f g R b) e) c
def Ap:=fun (h:za) a b i (R:VK)=>
 zV (nb [a] (zg zz .len [30] 3 [a] h)) fun d j=>zV (nb [b] (zg zz .len [30] 3 [b] j)) fun e f=>opt (nb [d,e] (ze zz .gtr 3 (.tmp 9) (.tmp 11) d e)) fun c=>GD c false (fun k=>k i f) (fun l g=>GD c false (fun m=>m l g) (JH a b c R) g) f
theorem Aq (hw:Ap h t0 t1 t2 R):DC zz 29 [t0,t1,t2] h R:=zL mixed (q:=qs) (n:=200) (Eq.mpr (by kernel_rfl) hw)
def bE:=fun b d (R:VK) e (c:za)=>
 GD b true (fun f=>zH zz (fn 29) [d,e,.bool true] c (fun a g=>f a g)) (fun a h=>opt (pk b a (.bool false)) fun i=>rv [i] h R) c
def bF:=fun a e (R:VK) f (d:za)=>
 GD a true (fun g=>opt (zb zz 33 e 2) fun b=>g b d) (fun b c=>GD a true (fun h=>opt (zd zz 30 b c) fun i=>h i c) (bE a f R) c) d
def bH:=fun e f g (R:VK) h (d:za)=>
 opt (pk e h (.bool false)) fun a=>GD a true (fun i=>opt (zb zz 33 f 2) fun b=>i b d) (fun b c=>GD a true (fun j=>opt (zd zz 30 b c) fun k=>j k c) (bF a g R) c) d
def VT:=fun b d f g (R:VK) h (c:za)=>
 GD b true (fun i=>opt (zd zz 2 h c) fun a=>i a c) (fun a e=>GD b true (fun j=>opt (nb [d,a] (ze zz .eql 2 (.tmp 12) (.tmp 14) d a)) fun k=>j k e) (bH b f g R) e) c
def QD:=fun a d f (R:VK) g (b:za)=>
 GD a true (fun h=>opt (zd zz 2 g b) fun c=>h c b) (fun c e=>GD a true (fun i=>opt (zb zz 33 d 1) fun j=>i j e) (VT a c f d R) e) b
def sC:=fun (h:za) c d (R:VK)=>
 opt (nb [c] (some (Value.cells c).toList)) fun j=>nw h j 33 fun b k=>opt (nb [d] (some (Value.cells d).toList)) fun l=>nw k l 33 fun e a=>opt (zb zz 33 b 0) fun m=>opt (zd zz 3 m a) fun f=>opt (zb zz 33 e 0) fun n=>opt (zd zz 3 n a) fun g=>opt (nb [f,g] (ze zz .eql 3 (.tmp 6) (.tmp 8) f g)) fun i=>GD i true (fun o=>opt (zb zz 33 b 1) fun p=>o p a) (QD i e b R) a
theorem oH (hw:sC h t0 t1 R):DC zz 11 [t0,t1] h R:=zL mixed (q:=qs) (n:=200) (Eq.mpr (by kernel_rfl) hw)
def og:=fun f (a:za) b g (R:VK) (h:LK)=>
 opt (zb zz 33 f 3) fun i=>opt (zd zz 31 i a) fun j=>opt (zw zz 31 j (nth b 1)) fun k=>opt (zd zz 74 k a) fun c=>opt (zb zz 33 g 3) fun l=>opt (zd zz 31 l a) fun m=>opt (zw zz 31 m (nth b 1)) fun n=>opt (zd zz 74 n a) fun d=>opt (nb [c,d] (ze zz .neq 74 (.tmp 31) (.tmp 36) c d)) fun o=>CD o (fun e=>rv [.bool false] a R)
 (fun e=>e [nth b 0] a)
 (fun p q=>h [nth p 0] q)
def oh:=fun a (b:LK) c (d:za)=>
 opt (nb [nth a 1,.int .i64 1] (ze zz .add 3 (.tmp 25) (ci 1) (nth a 1) (.int .i64 1))) fun e=>b [nth c 0,e] d
def oj:=fun b (h:LK) i (R:VK) a (c:za) (j:LK)=>
 opt (zb zz 33 b 3) fun k=>opt (zd zz 31 k c) fun d=>zV (nb [d] (zg zz .len [31] 3 [d] c)) fun e f=>opt (nb [nth a 1,e] (ze zz .lss 3 (.tmp 20) (.tmp 23) (nth a 1) e)) fun l=>CD l (fun g=>g [] f)
 (fun g=>h [nth a 0] f)
 (fun n m=>BK (og b m a i R)
 (oh a j))
def om:=fun c (R:VK) d e f (a:za)=>
 opt (pk c (.bool true) f) fun g=>CD g (fun b=>rv [.bool false] a R)
 (fun b=>b [.bool false] a)
 (fun h i=>BK (fun j=>LP (oj d j e R)
 [nth h 0,.int .i64 0] i)
 (fun l k=>rv [.bool true] k R))
def oq:=fun b c (R:VK) g h d (e:za)=>
 GD b false (fun i=>zV (nb [d] (zg zz .len [31] 3 [d] e)) fun a j=>i a j) (fun a f=>GD b false (fun k=>opt (nb [c,a] (ze zz .neq 3 (.tmp 14) (.tmp 17) c a)) fun l=>k l f) (om b R g h) f) e
def ot:=fun a d (R:VK) f g (e:za)=>
 GD a false (fun h=>opt (zb zz 33 d 3) fun b=>h b e) (fun b c=>GD a false (fun i=>opt (zd zz 31 b c) fun j=>i j c) (oq a g R f d) c) e
def ou:=fun b e (R:VK) f g (c:za)=>
 GD b false (fun h=>opt (zd zz 31 g c) fun a=>h a c) (fun a d=>GD b false (fun i=>zV (nb [a] (zg zz .len [31] 3 [a] d)) fun j k=>i j k) (ot b e R f) d) c
def EB:=fun (h:za) c d (R:VK)=>
 opt (nb [c] (some (Value.cells c).toList)) fun j=>nw h j 33 fun b k=>opt (nb [d] (some (Value.cells d).toList)) fun l=>nw k l 33 fun e a=>opt (zb zz 33 b 0) fun m=>opt (zd zz 3 m a) fun f=>opt (zb zz 33 e 0) fun n=>opt (zd zz 3 n a) fun g=>opt (nb [f,g] (ze zz .neq 3 (.tmp 7) (.tmp 9) f g)) fun i=>GD i false (fun o=>opt (zb zz 33 b 3) fun p=>o p a) (ou i e R b) a
theorem CV (hw:EB h t0 t1 R):DC zz 12 [t0,t1] h R:=zL mixed (q:=qs) (n:=200) (Eq.mpr (by kernel_rfl) hw)
def QB:=fun b (a:za) c e f (g:LK)=>
 opt (zb zz 25 b 1) fun h=>opt (zd zz 23 h a) fun i=>opt (zb zz 25 b 1) fun j=>opt (zd zz 23 j a) fun k=>opt (zw zz 23 k (nth c 0)) fun l=>opt (zd zz 45 l a) fun m=>cG zz 17 [m,e,f] a (fun d n=>opt (zw zz 23 i (nth c 0)) fun o=>opt (nb [d] (zh zz 45 o d n)) fun p=>g [] p)
def QC:=fun b a c d (e:LK) (i:List Value) (f:za)=>
 BK (QB b f a c d)
 (fun j g=>opt (nb [nth a 0,.int .i64 1] (ze zz .add 3 (.tmp 44) (ci 1) (nth a 0) (.int .i64 1))) fun h=>e [h] g)
def XU:=fun b (h:LK) i j a (c:za) (k:LK)=>
 opt (zb zz 25 b 1) fun l=>opt (zd zz 23 l c) fun d=>zV (nb [d] (zg zz .len [23] 3 [d] c)) fun e f=>opt (nb [nth a 0,e] (ze zz .lss 3 (.tmp 39) (.tmp 42) (nth a 0) e)) fun m=>CD m (fun g=>g [] f)
 (fun g=>h [] f)
 (QC b a i j k)
def XV:=fun b c (R:VK) d (e:za)=>
 GD b true (fun f=>opt (nb [c,d] (ze zz .eql 3 (.tmp 93) (.tmp 95) c d)) fun a=>f a e) (fun a g=>opt (pk b a (.bool false)) fun h=>rv [h] g R) e
def XW:=fun a e (R:VK) f (d:za)=>
 GD a true (fun g=>opt (zb zz 33 e 4) fun b=>g b d) (fun b c=>GD a true (fun h=>opt (zd zz 3 b c) fun i=>h i c) (XV a f R) c) d
def XX:=fun e f g (R:VK) h (d:za)=>
 opt (pk e h (.bool false)) fun a=>GD a true (fun i=>opt (zb zz 33 f 4) fun b=>i b d) (fun b c=>GD a true (fun j=>opt (zd zz 3 b c) fun k=>j k c) (XW a g R) c) d
def XY:=fun a d f (R:VK) g (b:za)=>
 GD a true (fun h=>opt (zd zz 33 d b) fun c=>h c b) (fun c e=>GD a true (fun i=>zH zz (fn 12) [g,c] e (fun j k=>i j k)) (XX a f d R) e) b
def XZ:=fun c g d h (R:VK) i (e:za)=>
 GD c true (fun j=>zH zz (fn 11) [g,i] e (fun a k=>j a k)) (fun a b=>opt (pk c a (.bool false)) fun f=>GD f true (fun l=>opt (zd zz 33 d b) fun m=>l m b) (XY f h d R) b) e
def X0:=fun g e f (R:VK) h (a:za)=>
 opt (pk g h (.bool false)) fun b=>GD b true (fun i=>opt (zd zz 33 e a) fun c=>i c a) (fun c d=>GD b true (fun j=>opt (zd zz 33 f d) fun k=>j k d) (XZ b c e f R) d) a
def Xi:=fun a f g h (R:VK) b (c:za)=>
 GD a true (fun i=>i f c) (fun d e=>GD a true (fun j=>opt (nb [b,d] (ze zz .eql 34 (.tmp 77) (.tmp 78) b d)) fun k=>j k e) (X0 a g h R) e) c
def Xj:=fun g h i (R:VK) a (j:za)=>
 opt (Wf a 0) fun b=>opt (Wf a 1) fun k=>opt (yV zz 33) fun l=>nw j (Value.cells l).toList 33 fun c m=>opt (nb [b] (zh zz 33 c b m)) fun d=>opt (zd zz 25 g d) fun n=>zH zz (fn 14) [n] d (fun e f=>GD e true (fun o=>o h f) (Xi e k i c R) f)
def Xk:=fun a f g h (R:VK) b (i:za)=>
 opt (Wf b 0) fun c=>opt (Wf b 1) fun j=>opt (yV zz 33) fun k=>nw i (Value.cells k).toList 33 fun d l=>opt (nb [c] (zh zz 33 d c l)) fun e=>opt (zd zz 25 a e) fun m=>zH zz (fn 9) [m,f,g,h] e (Xj a j d R)
def Qo:=fun g h i b c d (R:VK) e (j:za)=>
 opt (yV zz 25) fun k=>nw j (Value.cells k).toList 25 fun a l=>opt (nb [e] (zh zz 25 a e l)) fun m=>BK (fun n=>LP (XU a n g h)
 [.int .i64 0] m)
 (fun p f=>opt (zd zz 25 i f) fun o=>zH zz (fn 9) [o,b,c,d] f (Xk a b c d R))
def uS:=fun e (R:VK) f a g h i j k l (b:za)=>
 opt (pk e (.bool true) l) fun m=>CD m (fun c=>rv [.bool true] b R)
 (fun c=>c [nth f 0] b)
 (fun o d=>opt (zd zz 25 a d) fun n=>zH zz (fn 8) [n] d (Qo g h a i j k R))
def uT:=fun a (R:VK) d e f g h i j b (c:za)=>
 GD a false (fun k=>opt (nb [b,.int .i64 1000] (ze zz .gtr 3 (.tmp 34) (.const (.int .i64 1000)) b (.int .i64 1000))) fun l=>k l c) (uS a R d e f g h i j) c
def uU:=fun b c (R:VK) h i j k l m d (e:za)=>
 GD b false (fun n=>opt (nb [d,.int .i64 0] (ze zz .lss 3 (.tmp 30) (ci 0) d (.int .i64 0))) fun a=>n a e) (fun a f=>opt (pk b (.bool true) a) fun g=>GD g false (fun o=>o c f) (uT g R h i j k l m c) f) e
def uV:=fun b c (R:VK) g h i j k l m (d:za)=>
 GD b false (fun n=>opt (Wz zz .not m) fun a=>n a d) (fun a e=>opt (pk b (.bool true) a) fun f=>GD f false (fun o=>o c e) (uU f c R g h i j k l) e) d
def Xl:=fun d f (R:VK) g h i j k l (a:za)=>
 opt (Wz zz .not l) fun b=>GD b false (fun m=>opt (zd zz 25 d a) fun c=>m c a) (fun c e=>GD b false (fun n=>zH zz (fn 16) [c] e (fun o p=>n o p)) (uV b f R g d h i j k) e) a
def Qp:=fun (R:VK) a e f g h i j (b:za)=>
 opt (Wz zz .not j) fun k=>CD k (fun c=>rv [.bool false] b R)
 (fun c=>c [.bool false] b)
 (fun l d=>opt (zd zz 25 a d) fun m=>zH zz (fn 7) [m] d (Xl a e R l f g h i))
def bD:=fun (h:za) a b c d e f (R:VK)=>
 opt (nb [a] (some (Value.cells a).toList)) fun g=>nw h g 25 fun i j=>zH zz (fn 6) [] j (Qp R i d e f b c)
theorem ic (hw:bD h t0 t1 t2 t3 t4 t5 R):DC zz 5 [t0,t1,t2,t3,t4,t5] h R:=zL mixed (q:=qs) (n:=200) (Eq.mpr (by kernel_rfl) hw)
def lK:=fun b (a:za) e c (f:LK)=>
 opt (zb zz 45 b 1) fun g=>opt (zd zz 22 g a) fun h=>opt (zd zz 92 e a) fun i=>opt (zb zz 45 b 1) fun j=>opt (zd zz 22 j a) fun k=>opt (zw zz 22 k (nth c 0)) fun l=>opt (zd zz 3 l a) fun m=>qN zz 41 [i,m] a (fun d=>opt (zw zz 22 h (nth c 0)) fun n=>opt (nb [d] (zh zz 3 n d a)) fun o=>f [] o)
def lL:=fun b c a (d:LK) (h:List Value) (e:za)=>
 BK (lK b e c a)
 (fun i f=>opt (nb [nth a 0,.int .i64 1] (ze zz .add 3 (.tmp 38) (ci 1) (nth a 0) (.int .i64 1))) fun g=>d [g] f)
def JY:=fun b (h:LK) i a (c:za) (j:LK)=>
 opt (zb zz 45 b 1) fun k=>opt (zd zz 22 k c) fun d=>zV (nb [d] (zg zz .len [22] 3 [d] c)) fun e f=>opt (nb [nth a 0,e] (ze zz .lss 3 (.tmp 33) (.tmp 36) (nth a 0) e)) fun l=>CD l (fun g=>g [] f)
 (fun g=>h [] f)
 (lL b i a j)
def lM:=fun b (a:za) e c (f:LK)=>
 opt (zb zz 53 b 6) fun g=>opt (zd zz 22 g a) fun h=>opt (zd zz 92 e a) fun i=>opt (zb zz 53 b 6) fun j=>opt (zd zz 22 j a) fun k=>opt (zw zz 22 k (nth c 0)) fun l=>opt (zd zz 3 l a) fun m=>qN zz 41 [i,m] a (fun d=>opt (zw zz 22 h (nth c 0)) fun n=>opt (nb [d] (zh zz 3 n d a)) fun o=>f [] o)
def lN:=fun b c a (d:LK) (h:List Value) (e:za)=>
 BK (lM b e c a)
 (fun i f=>opt (nb [nth a 0,.int .i64 1] (ze zz .add 3 (.tmp 93) (ci 1) (nth a 0) (.int .i64 1))) fun g=>d [g] f)
def JZ:=fun b (h:LK) i a (c:za) (j:LK)=>
 opt (zb zz 53 b 6) fun k=>opt (zd zz 22 k c) fun d=>zV (nb [d] (zg zz .len [22] 3 [d] c)) fun e f=>opt (nb [nth a 0,e] (ze zz .lss 3 (.tmp 88) (.tmp 91) (nth a 0) e)) fun l=>CD l (fun g=>g [] f)
 (fun g=>h [] f)
 (lN b i a j)
def lO:=fun c (a:za) d (e:LK) f=>
 opt (zd zz 53 c a) fun b=>opt (zw zz 43 d f) fun g=>opt (nb [b] (zh zz 53 g b a)) fun h=>e [] h
def lP:=fun a d e f g (h:LK) c (i:za)=>
 opt (zb zz 53 a 8) fun j=>opt (nb [c] (zh zz 3 j c i)) fun k=>BK (fun l=>LP (JZ a l d)
 [.int .i64 0] k)
 (fun n b=>opt (zd zz 92 e b) fun m=>qN zz 41 [m,nth f 0] b (lO a b g h))
def lQ:=fun a c e f g (h:LK) d (i:za)=>
 opt (zb zz 53 a 7) fun j=>opt (nb [d] (zh zz 3 j d i)) fun b=>opt (zd zz 92 c b) fun k=>opt (zb zz 53 a 8) fun l=>opt (zd zz 3 l b) fun m=>zH zz (fn 41) [k,m] b (lP a e c f g h)
def fW:=fun a c e f g (h:LK) d (i:za)=>
 opt (zb zz 53 a 4) fun j=>opt (nb [d] (zh zz 3 j d i)) fun b=>opt (zd zz 92 c b) fun k=>opt (zb zz 53 a 7) fun l=>opt (zd zz 3 l b) fun m=>zH zz (fn 41) [k,m] b (lQ a c e f g h)
def fX:=fun a c e f g (h:LK) d (i:za)=>
 opt (zb zz 53 a 3) fun j=>opt (nb [d] (zh zz 3 j d i)) fun b=>opt (zd zz 92 c b) fun k=>opt (zb zz 53 a 4) fun l=>opt (zd zz 3 l b) fun m=>zH zz (fn 41) [k,m] b (fW a e c f g h)
def fY:=fun a c e f g (h:LK) d (i:za)=>
 opt (zb zz 53 a 2) fun j=>opt (nb [d] (zh zz 3 j d i)) fun b=>opt (zd zz 92 c b) fun k=>opt (zb zz 53 a 3) fun l=>opt (zd zz 3 l b) fun m=>zH zz (fn 41) [k,m] b (fX a c e f g h)
def Q8:=fun g (a:za) d e h i (j:LK)=>
 opt (zb zz 45 g 5) fun k=>opt (zd zz 43 k a) fun l=>opt (zw zz 43 l (nth d 0)) fun m=>opt (zd zz 53 m a) fun f=>opt (yV zz 53) fun n=>nw a (Value.cells n).toList 53 fun b o=>opt (nb [f] (zh zz 53 b f o)) fun c=>opt (zd zz 92 e c) fun p=>opt (zb zz 53 b 2) fun q=>opt (zd zz 3 q c) fun r=>zH zz (fn 41) [p,r] c (fY b e h d i j)
def fZ:=fun b a c d e (f:LK) (j:List Value) (g:za)=>
 BK (Q8 b g a c d e)
 (fun k h=>opt (nb [nth a 0,.int .i64 1] (ze zz .add 3 (.tmp 56) (ci 1) (nth a 0) (.int .i64 1))) fun i=>f [i] h)
def Q9:=fun b (e:LK) f g h i a (c:za) (j:LK)=>
 opt (nb [nth a 0,b] (ze zz .lss 3 (.tmp 53) (.tmp 54) (nth a 0) b)) fun k=>CD k (fun d=>d [] c)
 (fun d=>e [] c)
 (fZ f a g h i j)
def gi:=fun a b (R:VK) c (g:za)=>
 opt (zb zz 45 a 4) fun h=>opt (nb [c] (zh zz 3 h c g)) fun d=>opt (zd zz 45 a d) fun e=>opt (nb [e] (zh zz 45 b e d)) fun f=>opt (zd zz 45 b f) fun i=>rv [i] f R
def gj:=fun a c d e (R:VK) (k:List Value) (f:za)=>
 opt (zb zz 45 a 5) fun g=>opt (nb [c] (zh zz 43 g c f)) fun b=>opt (zd zz 92 d b) fun h=>opt (zb zz 45 a 4) fun i=>opt (zd zz 3 i b) fun j=>zH zz (fn 41) [h,j] b (gi a e R)
def gk:=fun a b d g (R:VK) e (h:za)=>
 opt (yV zz 92) fun i=>nw h (Value.cells i).toList 92 fun c j=>opt (nb [e] (zh zz 92 c e j)) fun k=>BK (fun l=>LP (JY a l c)
 [.int .i64 0] k)
 (fun p m=>zV (ZY zz 43 b b m) fun f n=>BK (fun o=>LP (Q9 b o a c d f)
 [.int .i64 0] n)
 (gj a f d g R))
def gu:=fun a e f g (R:VK) b (h:za)=>
 opt (yV zz 92) fun i=>nw h (Value.cells i).toList 92 fun c j=>opt (nb [b] (zh zz 92 c b j)) fun d=>opt (zb zz 45 a 2) fun k=>opt (zd zz 3 k d) fun l=>zH zz (fn 40) [l,e] d (gk a f c g R)
def gx:=fun g h i (R:VK) j (b:za)=>
 opt (ON zz 25 j 1) fun k=>opt (zw zz 23 k (.int .i64 0)) fun l=>opt (zd zz 45 l b) fun c=>opt (yV zz 45) fun m=>nw b (Value.cells m).toList 45 fun a n=>opt (nb [c] (zh zz 45 a c n)) fun d=>opt (zb zz 45 a 5) fun o=>opt (zd zz 43 o d) fun e=>zV (nb [e] (zg zz .len [43] 3 [e] d)) fun f p=>zH zz (fn 40) [f,g] p (gu a h f i R)
def A7:=fun (h:za) a e f (R:VK)=>
 opt (nb [a] (some (Value.cells a).toList)) fun g=>nw h g 45 fun i j=>opt (yV zz 45) fun k=>nw j (Value.cells k).toList 45 fun l b=>opt (zd zz 45 i b) fun c=>zV (nb [c] (zO zz 23 1 [(0,c)] b)) fun d m=>opt (nb [d] (yg zz 25 [(1,d)])) fun n=>zH zz (fn 8) [n] m (gx e f l R)
theorem A8 (hw:A7 h t0 t1 t2 R):DC zz 17 [t0,t1,t2] h R:=zL mixed (q:=qs) (n:=200) (Eq.mpr (by kernel_rfl) hw)
def lq:=fun (h:za) a b (R:VK)=>
 opt (yV zz 92) fun f=>nw h (Value.cells f).toList 92 fun c g=>opt (nb [a,b] (yg zz 92 [(0,a),(1,b)])) fun d=>opt (nb [d] (zh zz 92 c d g)) fun e=>opt (zd zz 92 c e) fun i=>rv [i] e R
theorem nE (hw:lq h t0 t1 R):DC zz 40 [t0,t1] h R:=zL mixed (q:=qs) (n:=200) (Eq.mpr (by kernel_rfl) hw)
def EY:=fun e a (R:VK) (h:List Value) (b:za)=>
 opt (zb zz 92 e 0) fun f=>opt (zd zz 3 f b) fun c=>opt (nb [c,.int .i64 1] (ze zz .sub 3 (.tmp 20) (ci 1) c (.int .i64 1))) fun d=>opt (nb [d,a] (ze zz .sub 3 (.tmp 21) (.tmp 22) d a)) fun g=>rv [g] b R
def bU:=fun b c d (R:VK) i e (f:za)=>
 GD b false (fun j=>opt (nb [c,e] (ze zz .geq 3 (.tmp 13) (.tmp 15) c e)) fun a=>j a f) (fun a g=>opt (pk b (.bool true) a) fun k=>CD k (fun h=>rv [d] g R)
 (fun h=>h [.int .i64 0] g)
 (EY i d R)) f
def bV:=fun a d f (R:VK) g (e:za)=>
 GD a false (fun h=>opt (zb zz 92 d 0) fun b=>h b e) (fun b c=>GD a false (fun i=>opt (zd zz 3 b c) fun j=>i j c) (bU a g f R d) c) e
def bW:=fun b c h (R:VK) d (e:za)=>
 GD b false (fun i=>opt (nb [d,.int .i64 0] (ze zz .lss 3 (.tmp 9) (ci 0) d (.int .i64 0))) fun a=>i a e) (fun a f=>opt (pk b (.bool true) a) fun g=>GD g false (fun j=>j c f) (bV g h c R) f) e
def Od:=fun (h:za) b c (R:VK)=>
 opt (nb [b] (some (Value.cells b).toList)) fun f=>nw h f 92 fun d a=>opt (zb zz 92 d 1) fun g=>opt (zd zz 4 g a) fun i=>opt (Wz zz .not i) fun e=>GD e false (fun j=>j c a) (bW e c d R) a
theorem Iw (hw:Od h t0 t1 R):DC zz 41 [t0,t1] h R:=zL mixed (q:=qs) (n:=200) (Eq.mpr (by kernel_rfl) hw)
noncomputable def LG:Array Field:=match Program.underlying Tryz.prog 74 with | some (.struct f)=>f | _ => #[]
noncomputable def LH:Array Field:=match Program.underlying Tryz.prog 97 with | some (.struct f)=>f | _ => #[]
theorem wj (b off:Nat) (h:za):zd Tryz.prog 2 (.pointer (some ⟨b,off,none⟩)) h=zC h b off:=yd (by kernel_rfl) b off h
theorem xr (b off:Nat) (h:za):zd Tryz.prog 22 (.pointer (some ⟨b,off,none⟩)) h=zC h b off:=yd (by kernel_rfl) b off h
theorem vA (b off:Nat) (h:za):zd Tryz.prog 23 (.pointer (some ⟨b,off,none⟩)) h=zC h b off:=yd (by kernel_rfl) b off h
theorem ZX (b off:Nat) (h:za):zd Tryz.prog 25 (.pointer (some ⟨b,off,none⟩)) h=zZ h b off 3:=vh (by kernel_rfl) (by kernel_rfl) b off h
theorem zj (b off:Nat) (h:za):zd Tryz.prog 3 (.pointer (some ⟨b,off,none⟩)) h=zC h b off:=yd (by kernel_rfl) b off h
theorem IN (b off:Nat) (h:za):zd Tryz.prog 30 (.pointer (some ⟨b,off,none⟩)) h=zC h b off:=yd (by kernel_rfl) b off h
theorem Bj (b off:Nat) (h:za):zd Tryz.prog 31 (.pointer (some ⟨b,off,none⟩)) h=zC h b off:=yd (by kernel_rfl) b off h
theorem Kb (b off:Nat) (h:za):zd Tryz.prog 33 (.pointer (some ⟨b,off,none⟩)) h=zZ h b off 5:=vh (by kernel_rfl) (by kernel_rfl) b off h
theorem Yv (b off:Nat) (h:za):zd Tryz.prog 4 (.pointer (some ⟨b,off,none⟩)) h=zC h b off:=yd (by kernel_rfl) b off h
theorem vK (b off:Nat) (h:za):zd Tryz.prog 43 (.pointer (some ⟨b,off,none⟩)) h=zC h b off:=yd (by kernel_rfl) b off h
theorem Qq (b off:Nat) (h:za):zd Tryz.prog 45 (.pointer (some ⟨b,off,none⟩)) h=zZ h b off 6:=vh (by kernel_rfl) (by kernel_rfl) b off h
theorem ka (b off:Nat) (h:za):zd Tryz.prog 53 (.pointer (some ⟨b,off,none⟩)) h=zZ h b off 9:=vh (by kernel_rfl) (by kernel_rfl) b off h
theorem RC (b off:Nat) (h:za):zd Tryz.prog 74 (.pointer (some ⟨b,off,none⟩)) h=zZ h b off 3:=vh (by kernel_rfl) (by kernel_rfl) b off h
theorem Js (b off:Nat) (h:za):zd Tryz.prog 92 (.pointer (some ⟨b,off,none⟩)) h=zZ h b off 2:=vh (by kernel_rfl) (by kernel_rfl) b off h
theorem RD (b off:Nat) (h:za):zd Tryz.prog 97 (.pointer (some ⟨b,off,none⟩)) h=zZ h b off 2:=vh (by kernel_rfl) (by kernel_rfl) b off h
theorem E8 (b off:Nat) (l:List Value) (h:za) (hv:l.length=3):zh Tryz.prog 25 (.pointer (some ⟨b,off,none⟩)) (.agg l.toArray) h=yU h b off l:=vw (by kernel_rfl) b off l h hv
theorem Wy (b off:Nat) (v:Int) (h:za):zh Tryz.prog 3 (.pointer (some ⟨b,off,none⟩)) (.int .i64 v) h=yU h b off [(.int .i64 v)]:=xI (by kernel_rfl) b off _ h rfl
theorem Ju (b off:Nat) (l:List Value) (h:za) (hv:l.length=5):zh Tryz.prog 33 (.pointer (some ⟨b,off,none⟩)) (.agg l.toArray) h=yU h b off l:=vw (by kernel_rfl) b off l h hv
theorem I7 (b off:Nat) (v:Option Addr) (vl vc:Nat) (h:za):zh Tryz.prog 43 (.pointer (some ⟨b,off,none⟩)) (.slice v vl vc) h=yU h b off [(.slice v vl vc)]:=xI (by kernel_rfl) b off _ h rfl
theorem lZ (b off:Nat) (l:List Value) (h:za) (hv:l.length=6):zh Tryz.prog 45 (.pointer (some ⟨b,off,none⟩)) (.agg l.toArray) h=yU h b off l:=vw (by kernel_rfl) b off l h hv
theorem gH (b off:Nat) (l:List Value) (h:za) (hv:l.length=9):zh Tryz.prog 53 (.pointer (some ⟨b,off,none⟩)) (.agg l.toArray) h=yU h b off l:=vw (by kernel_rfl) b off l h hv
theorem I8 (b off:Nat) (l:List Value) (h:za) (hv:l.length=2):zh Tryz.prog 92 (.pointer (some ⟨b,off,none⟩)) (.agg l.toArray) h=yU h b off l:=vw (by kernel_rfl) b off l h hv
theorem Fa:yV Tryz.prog 25=some (.agg #[(.slice none 0 0),(.slice none 0 0),(.int .i64 0)]):=zB (by kernel_rfl)
theorem l9:yV Tryz.prog 33=some (.agg #[(.int .i64 0),(.int .i64 0),(.slice none 0 0),(.slice none 0 0),(.int .i64 0)]):=zB (by kernel_rfl)
theorem gJ:yV Tryz.prog 45=some (.agg #[(.string ⟨#[]⟩),(.slice none 0 0),(.int .i64 0),(.int .i64 0),(.int .i64 0),(.slice none 0 0)]):=zB (by kernel_rfl)
theorem cE:yV Tryz.prog 53=some (.agg #[(.int .i64 0),(.int .i64 0),(.int .i64 0),(.int .i64 0),(.int .i64 0),(.int .i64 0),(.slice none 0 0),(.int .i64 0),(.int .i64 0)]):=zB (by kernel_rfl)
theorem La:yV Tryz.prog 92=some (.agg #[(.int .i64 0),(.bool false)]):=zB (by kernel_rfl)
theorem Nh (v1:Option Addr) (v1l v1c:Nat):yg Tryz.prog 25 [(1,(.slice v1 v1l v1c))]=some (.agg #[(.slice none 0 0),(.slice v1 v1l v1c),(.int .i64 0)]):=zB (by kernel_rfl)
theorem GY (v0:Int) (v1:Bool):yg Tryz.prog 92 [(0,(.int .i64 v0)),(1,(.bool v1))]=some (.agg #[(.int .i64 v0),(.bool v1)]):=zB (by kernel_rfl)
theorem eN (v00:ByteArray) (v01:Option Addr) (v01l v01c:Nat) (v02:Int) (v03:Int) (v04:Int) (v05:Option Addr) (v05l v05c:Nat) (h:za):zO Tryz.prog 23 1 [(0,(.agg #[(.string v00),(.slice v01 v01l v01c),(.int .i64 v02),(.int .i64 v03),(.int .i64 v04),(.slice v05 v05l v05c)]))] h=some (.slice (some ⟨h.next,0,none⟩) 1 3,h.push (.cells [(.string v00),(.slice v01 v01l v01c),(.int .i64 v02),(.int .i64 v03),(.int .i64 v04),(.slice v05 v05l v05c)] 45)):=zB (by kernel_rfl)
theorem xM (b off:Nat):zb Tryz.prog 25 (.pointer (some ⟨b,off,none⟩)) 0=some (.pointer (some ⟨b,off,none⟩)):=zB (by kernel_rfl)
theorem y8 (b off:Nat):zb Tryz.prog 25 (.pointer (some ⟨b,off,none⟩)) 1=some (.pointer (some ⟨b,off + 1,none⟩)):=zB (by kernel_rfl)
theorem Xx (b off:Nat):zb Tryz.prog 33 (.pointer (some ⟨b,off,none⟩)) 0=some (.pointer (some ⟨b,off,none⟩)):=zB (by kernel_rfl)
theorem tn (b off:Nat):zb Tryz.prog 33 (.pointer (some ⟨b,off,none⟩)) 1=some (.pointer (some ⟨b,off + 1,none⟩)):=zB (by kernel_rfl)
theorem tq (b off:Nat):zb Tryz.prog 33 (.pointer (some ⟨b,off,none⟩)) 2=some (.pointer (some ⟨b,off + 2,none⟩)):=zB (by kernel_rfl)
theorem cP (b off:Nat):zb Tryz.prog 33 (.pointer (some ⟨b,off,none⟩)) 3=some (.pointer (some ⟨b,off + 3,none⟩)):=zB (by kernel_rfl)
theorem Jb (b off:Nat):zb Tryz.prog 33 (.pointer (some ⟨b,off,none⟩)) 4=some (.pointer (some ⟨b,off + 4,none⟩)):=zB (by kernel_rfl)
theorem uK (b off:Nat):zb Tryz.prog 45 (.pointer (some ⟨b,off,none⟩)) 1=some (.pointer (some ⟨b,off + 1,none⟩)):=zB (by kernel_rfl)
theorem wF (b off:Nat):zb Tryz.prog 45 (.pointer (some ⟨b,off,none⟩)) 2=some (.pointer (some ⟨b,off + 2,none⟩)):=zB (by kernel_rfl)
theorem kH (b off:Nat):zb Tryz.prog 45 (.pointer (some ⟨b,off,none⟩)) 3=some (.pointer (some ⟨b,off + 3,none⟩)):=zB (by kernel_rfl)
theorem ZK (b off:Nat):zb Tryz.prog 45 (.pointer (some ⟨b,off,none⟩)) 4=some (.pointer (some ⟨b,off + 4,none⟩)):=zB (by kernel_rfl)
theorem y9 (b off:Nat):zb Tryz.prog 45 (.pointer (some ⟨b,off,none⟩)) 5=some (.pointer (some ⟨b,off + 5,none⟩)):=zB (by kernel_rfl)
theorem xe (b off:Nat):zb Tryz.prog 53 (.pointer (some ⟨b,off,none⟩)) 2=some (.pointer (some ⟨b,off + 2,none⟩)):=zB (by kernel_rfl)
theorem vC (b off:Nat):zb Tryz.prog 53 (.pointer (some ⟨b,off,none⟩)) 3=some (.pointer (some ⟨b,off + 3,none⟩)):=zB (by kernel_rfl)
theorem xj (b off:Nat):zb Tryz.prog 53 (.pointer (some ⟨b,off,none⟩)) 4=some (.pointer (some ⟨b,off + 4,none⟩)):=zB (by kernel_rfl)
theorem uL (b off:Nat):zb Tryz.prog 53 (.pointer (some ⟨b,off,none⟩)) 6=some (.pointer (some ⟨b,off + 6,none⟩)):=zB (by kernel_rfl)
theorem kI (b off:Nat):zb Tryz.prog 53 (.pointer (some ⟨b,off,none⟩)) 7=some (.pointer (some ⟨b,off + 7,none⟩)):=zB (by kernel_rfl)
theorem YM (b off:Nat):zb Tryz.prog 53 (.pointer (some ⟨b,off,none⟩)) 8=some (.pointer (some ⟨b,off + 8,none⟩)):=zB (by kernel_rfl)
theorem Fj (b off:Nat):zb Tryz.prog 92 (.pointer (some ⟨b,off,none⟩)) 0=some (.pointer (some ⟨b,off,none⟩)):=zB (by kernel_rfl)
theorem iB (b off:Nat):zb Tryz.prog 92 (.pointer (some ⟨b,off,none⟩)) 1=some (.pointer (some ⟨b,off + 1,none⟩)):=zB (by kernel_rfl)
theorem Nx (v0:Option Addr) (v0l v0c:Nat) (v1:Option Addr) (v1l v1c:Nat) (v2:Int):ON Tryz.prog 25 (.agg #[(.slice v0 v0l v0c),(.slice v1 v1l v1c),(.int .i64 v2)]) 1=some (.slice v1 v1l v1c):=zB (by kernel_rfl)
theorem mP (b off len c:Nat) (k:IntKind) (i:Int):zw Tryz.prog 22 (.slice (some ⟨b,off,none⟩) len c) (.int k i)=if 0<=i/\i < len then some (.pointer (some ⟨b,off + i.toNat * 1,none⟩)) else none:=y4 (e:=3) (by kernel_rfl) (by kernel_rfl)
theorem Fs (b off len c:Nat) (k:IntKind) (i:Int):zw Tryz.prog 23 (.slice (some ⟨b,off,none⟩) len c) (.int k i)=if 0<=i/\i < len then some (.pointer (some ⟨b,off + i.toNat * 6,none⟩)) else none:=y4 (e:=45) (by kernel_rfl) (by kernel_rfl)
theorem Sb (b off len c:Nat) (k:IntKind) (i:Int):zw Tryz.prog 30 (.slice (some ⟨b,off,none⟩) len c) (.int k i)=if 0<=i/\i < len then some (.pointer (some ⟨b,off + i.toNat * 2,none⟩)) else none:=y4 (e:=97) (by kernel_rfl) (by kernel_rfl)
theorem Sc (b off len c:Nat) (k:IntKind) (i:Int):zw Tryz.prog 31 (.slice (some ⟨b,off,none⟩) len c) (.int k i)=if 0<=i/\i < len then some (.pointer (some ⟨b,off + i.toNat * 3,none⟩)) else none:=y4 (e:=74) (by kernel_rfl) (by kernel_rfl)
theorem rM (b off len c:Nat) (k:IntKind) (i:Int):zw Tryz.prog 43 (.slice (some ⟨b,off,none⟩) len c) (.int k i)=if 0<=i/\i < len then some (.pointer (some ⟨b,off + i.toNat * 9,none⟩)) else none:=y4 (e:=53) (by kernel_rfl) (by kernel_rfl)
theorem Kr (r:TypeId) (a:Option Addr) (n c:Nat) (h:za):zg Tryz.prog .len [22] r [.slice a n c] h=some (.int .i64 n,h):=zB (by kernel_rfl)
theorem DS (r:TypeId) (a:Option Addr) (n c:Nat) (h:za):zg Tryz.prog .len [23] r [.slice a n c] h=some (.int .i64 n,h):=zB (by kernel_rfl)
theorem DT (r:TypeId) (a:Option Addr) (n c:Nat) (h:za):zg Tryz.prog .len [30] r [.slice a n c] h=some (.int .i64 n,h):=zB (by kernel_rfl)
theorem DU (r:TypeId) (a:Option Addr) (n c:Nat) (h:za):zg Tryz.prog .len [31] r [.slice a n c] h=some (.int .i64 n,h):=zB (by kernel_rfl)
theorem tJ (r:TypeId) (a:Option Addr) (n c:Nat) (h:za):zg Tryz.prog .len [43] r [.slice a n c] h=some (.int .i64 n,h):=zB (by kernel_rfl)
theorem Sk (k k2:IntKind) (l c:Int) (h:za) (h0:0<=l) (h1:l<=c) (h2:c < 2 ^ 31):ZY Tryz.prog 43 (.int k l) (.int k2 c) h=some (.slice (some ⟨h.next,0,none⟩) l.toNat (c.toNat + 2),h.push (.cells (uJ [(.int .i64 0),(.int .i64 0),(.int .i64 0),(.int .i64 0),(.int .i64 0),(.int .i64 0),(.slice none 0 0),(.int .i64 0),(.int .i64 0)] (c.toNat * 9)) 53)):=lX (e:=53) (z:=(.agg #[(.int .i64 0),(.int .i64 0),(.int .i64 0),(.int .i64 0),(.int .i64 0),(.int .i64 0),(.slice none 0 0),(.int .i64 0),(.int .i64 0)])) (n:=9) (bytes:=88) (by kernel_rfl) (by kernel_rfl) (by kernel_rfl) rfl (by decide) (by decide) rfl h0 h1 h2
theorem Py (x y:Operand) (a0:Int) (a1:Int) (a2:Int) (b0:Int) (b1:Int) (b2:Int):ze Tryz.prog .neq 74 x y (.agg #[(.int .i64 a0),(.int .i64 a1),(.int .i64 a2)]) (.agg #[(.int .i64 b0),(.int .i64 b1),(.int .i64 b2)])=some (.bool (!((a0 == b0) && ((a1 == b1) && ((a2 == b2)))))):=(Xt (fs:=LG) (r:=(a0 == b0) && ((a1 == b1) && ((a2 == b2)))) (by kernel_rfl) (by kernel_rfl) (by kernel_rfl) rfl rfl (Eq.trans (b:=(cond (a0 == b0) (cond (a1 == b1) (cond (a2 == b2) (some true) (some false)) (some false)) (some false))) (by kernel_rfl) (by cases (a0 == b0) <;> cases (a1 == b1) <;> cases (a2 == b2) <;> rfl))).2
theorem Pz (x y:Operand) (a0:Int) (a1:Int) (b0:Int) (b1:Int):ze Tryz.prog .neq 97 x y (.agg #[(.int .i64 a0),(.int .i64 a1)]) (.agg #[(.int .i64 b0),(.int .i64 b1)])=some (.bool (!((a0 == b0) && ((a1 == b1))))):=(Xt (fs:=LH) (r:=(a0 == b0) && ((a1 == b1))) (by kernel_rfl) (by kernel_rfl) (by kernel_rfl) rfl rfl (Eq.trans (b:=(cond (a0 == b0) (cond (a1 == b1) (some true) (some false)) (some false))) (by kernel_rfl) (by cases (a0 == b0) <;> cases (a1 == b1) <;> rfl))).2
end Go.Rl
