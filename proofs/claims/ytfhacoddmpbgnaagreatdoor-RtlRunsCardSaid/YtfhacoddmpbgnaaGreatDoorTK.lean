/- A part of the proof. -/
import Derived.Test.YtfhacoddmpbgnaaGreatDoorChecked
import Derived.KernelRfl
import Derived.Test.YtfhacoddmpbgnaaGreatDoorTH
import Derived.Test.YtfhacoddmpbgnaaGreatDoorTI
import Derived.Test.YtfhacoddmpbgnaaGreatDoorTJ
import Derived.Test.YtfhacoddmpbgnaaGreatDoorTF
import Derived.Test.YtfhacoddmpbgnaaGreatDoorTD
set_option linter.unusedVariables false
set_option linter.unusedSimpArgs false
set_option maxRecDepth 100000
namespace Go.Rtl
open Go.Ai Go.Proofs Go.Proofs.Tryz
noncomputable abbrev zz:=prog
abbrev VK:=aaa->za->Prop
abbrev LK:=List aaa->za->Prop
abbrev ci(n:Int):Operand := .const (pm n)
abbrev fn(n:Nat):aaa := .func (.func n) #[] #[]
variable {h:za}{t0 t1 t2 t3 t4 t5 t6:aaa}{R:VK}
def qs:FuncId->Nat:=λg=>[0,0,0,0,0,0,0,0,0,0,0,0,0,0,2,0,2,0,0,0,0,0,0,0,0,0,0,0,0,0,0,0,0,0,0,0,0,0,0,0,0,0,0,0,0,0,0,0,0,0,0,0,0,3,2].getD g 0
theorem mixed:prog.follows .mixedOrders=true:=acW Tryz.checked
def GL:=λa b (c:LK) d (e:za)=>
 opt (ym zz 43 a (nth b 0)) λf=>jV 53 f 6 22 d e λg=>c [] g
def GM:=λc (b:za) d (e:LK)=>
 zn 45 c 5 43 b λf=>zT (nb [] (zI zz 22 0 [] b)) λg a=>opt (zg zz 45 c 5) λh=>opt (zd zz 43 h (cut a b.next a.next)) λi=>opt (ym zz 43 i (nth d 0)) λj=>opt (zg zz 53 j 6) λk=>opt (zd zz 22 k (cut a b.next a.next)) λl=>Fw zz [22,22] 22 [g,l] (some (b.next,a.next)) a a (GL f d e)
def GN:=λb a (c:LK) (g:List aaa) (d:za)=>
 BK (GM b d a)
 (λh e=>opt (zi .add 3 41 (nth a 0) 1) λf=>c [f] e)
def mA:=λa (f:LK) b (c:za) (g:LK)=>
 zn 45 a 5 43 c λh=>zT (xE 43 h c) λi d=>opt (yo .lss 3 36 39 (nth b 0) i) λj=>CD j (λe=>e [] d)
 (λe=>f [] d)
 (GN a b g)
def GO:=λb f (g:LK) (l:List aaa) (a:za)=>
 zn 25 b 1 23 a λc=>opt (zd zz 45 f a) λd=>zT (nb [d] (zI zz 23 1 [(0,d)] a)) λe h=>zT (nb [c,e] (zv zz .append [23,23] 23 [c,e] h)) λi j=>jV 25 b 1 23 i j λk=>g [] k
def tQ:=λi (b:za) j k (l:LK)=>
 zn 25 i 1 23 b λm=>vr 23 m (nth j 0) 45 b λn=>qe 45 b λa o=>opt (yh 45 a n o) λp=>zT (nb [] (zI zz 22 0 [] p)) λc d=>zn 45 a 1 22 d λe=>zT (nb [c,e] (zv zz .append [22,22] 22 [c,e] d)) λq r=>jV 45 a 1 22 q r λs=>zT (nb [] (zI zz 43 0 [] s)) λf g=>zn 45 a 5 43 g λh=>zT (nb [f,h] (zv zz .append [43,43] 43 [f,h] g)) λt u=>jV 45 a 5 43 t u λv=>BK (λw=>LP (mA a w)
 [pm 0] v)
 (GO k a l)
def GP:=λb a c (d:LK) (h:List aaa) (e:za)=>
 BK (tQ b e a c)
 (λi f=>opt (zi .add 3 19 (nth a 0) 1) λg=>d [g] f)
def mB:=λa (f:LK) g b (c:za) (h:LK)=>
 zn 25 a 1 23 c λi=>zT (xE 23 i c) λj d=>opt (yo .lss 3 14 17 (nth b 0) j) λk=>CD k (λe=>e [] d)
 (λe=>f [] d)
 (GP a b g h)
def GQ:=λc (j d:za) e (R:VK) f (a:za)=>
 opt (zg zz 25 c 2) λk=>opt (zd zz 3 k (cut (cut a j.next d.next) d.next a.next)) λg=>opt (nb [f,g] (z9 zz 25 [(0,f),(2,g)])) λl=>qe 25 a λb m=>opt (yh 25 b l m) λn=>BK (λo=>LP (mB c o b)
 [pm 0] n)
 (λr h=>opt (zd zz 25 b h) λp=>opt (yh 25 e p h) λi=>opt (zd zz 25 e i) λq=>rv [q] i R)
def S6:=λ(h:za) c (R:VK)=>
 opt (nb [c] (some (Value.cells c).toList)) λe=>nw h e 25 λd f=>qe 25 f λg b=>zT (nb [] (zI zz 22 0 [] b)) λi a=>opt (zg zz 25 d 0) λj=>opt (zd zz 22 j (cut a b.next a.next)) λk=>Fw zz [22,22] 22 [i,k] (some (b.next,a.next)) a a (GQ d b a g R)
theorem PN(hw:S6 h t0 R):DC zz 8 [t0] h R:=PE mixed (q:=qs) (n:=200) (Eq.mpr (by kernel_rfl) hw)
def gX:=λc (R:VK) d (e:LK) f (a:za)=>
 opt (pk c (.bool true) f) λg=>CD g (λb=>rv [.bool false] a R)
 (λb=>b [nth d 0] a)
 (λh i=>e [nth h 0] i)
def gY:=λa (R:VK) c (d:LK) e (b:za)=>
 ze a false (zi .gtr 3 38 e 65536) b (gX a R c d) b
def gZ:=λe b (a:za) (R:VK) (f:LK)=>
 vr 22 e (nth b 1) 3 a λc=>opt (zi .lss 3 35 c 0) λd=>GD d false (λg=>g c a) (gY d R b f) a
def D1:=λa (b:LK) c (d:za)=>
 opt (zi .add 3 31 (nth a 1) 1) λe=>b [nth c 0,e] d
def Jo:=λd (e:LK) f (R:VK) a (b:za) (g:LK)=>
 opt (yo .lss 3 31 30 (nth a 1) d) λh=>CD h (λc=>c [] b)
 (λc=>e [nth a 0] b)
 (λj i=>BK (gZ f a i R)
 (D1 a g))
def WY:=λc (R:VK) d (e:LK) f (a:za)=>
 opt (pk c f (.bool false)) λg=>CD g (λb=>rv [.bool false] a R)
 (λb=>b [nth d 0] a)
 (λh i=>e [nth h 0] i)
def WZ:=λa e b (R:VK) f (g:LK) h (c:za)=>
 ze a false (yo .gtr 2 105 111 e h) c (λi d=>ze b true (pk a (.bool true) i) d (WY b R f g) d) c
def W0:=λa d e f (R:VK) g (h:LK) i (c:za)=>
 ze a false (ym zz 22 d i) c (λj b=>ze a false (zd zz 3 j b) b (WZ a e f R g h) b) c
def W4:=λa d e f (R:VK) g (h:LK) i (c:za)=>
 ze a false (zg zz 53 d 1) c (λj b=>ze a false (zd zz 3 j b) b (W0 a i e f R g h) b) c
def Xk:=λa d e f (R:VK) g (h:LK) i (c:za)=>
 ze a false (zg zz 25 d 0) c (λj b=>ze a false (zd zz 22 j b) b (W4 a e i f R g h) b) c
def Xl:=λc e f (R:VK) g (h:LK) a (d:za)=>
 ze a false (zg zz 53 c 5) d (λi b=>ze a false (zd zz 2 i b) b (Xk a e c f R g h) b) d
def Xm:=λa d e f (R:VK) g (h:LK) i (b:za)=>
 ze a true (pk d (.bool true) i) b (λj c=>GD a true (λk=>k j c) (Xl e f a R g h) c) b
def Xn:=λa c d e (R:VK) f (g:LK) h (b:za)=>
 ze a false (zi .lss 2 100 h 0) b (Xm c a d e R f g) b
def Xo:=λc e f (R:VK) g (h:LK) a (d:za)=>
 ze a false (zg zz 53 c 5) d (λi b=>ze a false (zd zz 2 i b) b (Xn a e c f R g h) b) d
def Xp:=λa d e (R:VK) f (g:LK) h (b:za)=>
 ze a true (YY zz .not h) b (λi c=>GD a true (λj=>j i c) (Xo d a e R f g) c) b
def aX:=λa e f g (R:VK) h (i:LK) j (b:za)=>
 GD a true (λk=>zT (xE 22 j b) λc _=>k c b) (λc d=>GD a true (λl=>Yv zz 31 [e,c] d (λm n=>l m n)) (Xp a f g R h i) d) b
def aY:=λa c e (R:VK) f (g:LK) h (d:za)=>
 ze a true (zg zz 25 c 0) d (λi b=>ze a true (zd zz 22 i b) b (aX a h e c R f g) b) d
def aZ:=λa (b:za) e (R:VK) f (g:LK)=>
 zn 53 a 0 3 b λh=>opt (zi .eql 3 88 h 8) λc=>ze c true (zg zz 53 a 1) b (λi d=>ze c true (zd zz 3 i d) d (aY c e a R f g) d) b
def WO:=λb (R:VK) c d e (f:LK) g (a:za)=>
 opt (pk b g (.bool false)) λh=>CD h (λk=>rv [.bool false] a R)
 (aZ c a d R e)
 (λi j=>f [nth i 0] j)
def WQ:=λa e b (R:VK) f g h (i:LK) j (c:za)=>
 ze a false (yo .neq 3 79 82 e j) c (λk d=>ze b true (pk a (.bool true) k) d (WO b R f g h i) d) c
def WR:=λa d e (R:VK) f g h (i:LK) j (b:za)=>
 ze a false (zd zz 22 j b) b (λk c=>GD a false (λl=>zT (xE 22 k c) λm _=>l m c) (WQ a d e R f g h i) c) b
def WS:=λa d f (R:VK) g h (i:LK) j (b:za)=>
 GD a false (λk=>zT (xE 22 j b) λc _=>k c b) (λc e=>ze a false (zg zz 53 d 6) e (WR a c f R d g h i) e) b
def WT:=λa d e (R:VK) f g (h:LK) i (c:za)=>
 ze a false (zg zz 45 i 1) c (λj b=>ze a false (zd zz 22 j b) b (WS a d e R f g h) b) c
def WU:=λa d e f (R:VK) g h (i:LK) j (b:za)=>
 ze a false (zd zz 3 j b) b (λk c=>ze a false (ym zz 23 d k) c (WT a e f R g h i) c) b
def WW:=λa c e (R:VK) f g (h:LK) i (b:za)=>
 ze a false (zd zz 23 i b) b (λj d=>ze a false (zg zz 53 c 1) d (WU a j c e R f g h) d) b
def WX:=λa b f (R:VK) g (h:LK) i (c:za)=>
 GD a true (λj=>j i c) (λd e=>ze d false (zg zz 25 b 1) e (WW d f a R b g h) e) c
def bB:=λa e f g (R:VK) h (i:LK) j (c:za)=>
 GD a true (λk=>Yv zz 31 [e,j] c (λb l=>k b l)) (λb d=>ze a true (YY zz .not b) d (WX a f g R h i) d) c
def bC:=λa d e f (R:VK) g (h:LK) i (b:za)=>
 ze a true (zd zz 23 i b) b (λj c=>GD a true (λk=>zT (xE 23 j c) λl _=>k l c) (bB a d e f R g h) c) b
def bD:=λa c e (R:VK) f (g:LK) h (b:za)=>
 ze a true (zd zz 3 h b) b (λi d=>ze a true (zg zz 25 c 1) d (bC a i c e R f g) d) b
def bE:=λa (b:za) d (R:VK) e (f:LK)=>
 zn 53 a 0 3 b λg=>opt (zi .eql 3 61 g 10) λc=>ze c true (zg zz 53 a 1) b (bD c d a R e f) b
def lE:=λd a (b:za) e (R:VK) (f:LK)=>
 vr 43 d (nth a 1) 53 b λg=>qe 53 b λc h=>opt (yh 53 c g h) λi=>BK (bE c i e R a)
 (λj k=>f [nth j 0] k)
def AO:=λa (b:LK) c (d:za)=>
 opt (zi .add 3 55 (nth a 1) 1) λe=>b [nth c 0,e] d
def lF:=λd (e:LK) f g (R:VK) a (b:za) (h:LK)=>
 opt (yo .lss 3 55 54 (nth a 1) d) λi=>CD i (λc=>c [] b)
 (λc=>e [nth a 0] b)
 (λk j=>BK (lE f a j g R)
 (AO a h))
def AP:=λc d (R:VK) (e:LK) f (a:za)=>
 zn 45 c 5 43 a λb=>zT (xE 43 b a) λg h=>BK (λi=>LP (lF g i b d R)
 [nth f 0,pm 0] h)
 (λj k=>e [nth j 0] k)
def AQ:=λg b (c:za) (R:VK) h (i:LK)=>
 vr 23 g (nth b 1) 45 c λj=>qe 45 c λa k=>opt (yh 45 a j k) λd=>opt (zd zz 45 a d) λl=>zu zz (fn 32) [l] d (λm e=>opt (YY zz .not m) λn=>CD n (λf=>rv [.bool false] e R)
 (λf=>f [nth b 0] e)
 (AP a h R i))
def AS:=λa (b:LK) c (d:za)=>
 opt (zi .add 3 45 (nth a 1) 1) λe=>b [nth c 0,e] d
def lG:=λd (e:LK) f (R:VK) g a (b:za) (h:LK)=>
 opt (yo .lss 3 45 44 (nth a 1) d) λi=>CD i (λc=>c [] b)
 (λc=>e [nth a 0] b)
 (λk j=>BK (AQ f a j R g)
 (AS a h))
def lH:=λa (R:VK) d (b:za)=>
 zn 25 a 1 23 b λc=>zT (xE 23 c b) λe f=>BK (λg=>LP (lG e g c R a)
 [nth d 0,pm 0] f)
 (λi h=>rv [.bool true] h R)
def lI:=λa (R:VK) d (b:za)=>
 zn 25 a 0 22 b λc=>zT (xE 22 c b) λe f=>BK (λg=>LP (Jo e g c R)
 [nth d 0,pm 0] f)
 (lH a R)
def U1:=λa (R:VK) e f (b:za)=>
 ze a false (zi .gtr 3 25 f 200) b (λg c=>opt (pk a (.bool true) g) λh=>CD h (λd=>rv [.bool false] c R)
 (λd=>d [.bool false] c)
 (lI e R)) b
def U2:=λa (R:VK) d e (b:za)=>
 ze a false (zd zz 22 e b) b (λf c=>GD a false (λg=>zT (xE 22 f c) λh i=>g h i) (U1 a R d) c) b
def U3:=λa b (R:VK) f (c:za)=>
 ze a false (zi .gtr 3 19 f 100) c (λg d=>opt (pk a (.bool true) g) λe=>ze e false (zg zz 25 b 0) d (U2 e R b) d) c
def U4:=λa d (R:VK) e (b:za)=>
 ze a false (zd zz 23 e b) b (λf c=>GD a false (λg=>zT (xE 23 f c) λh i=>g h i) (U3 a d R) c) b
def Om:=λ(h:za) c (R:VK)=>
 opt (nb [c] (some (Value.cells c).toList)) λf=>nw h f 25 λa b=>zn 25 a 2 3 b λg=>zn 25 a 1 23 b λi=>zT (xE 23 i b) λj k=>zu zz (fn 31) [g,j] k (λl d=>opt (YY zz .not l) λe=>ze e false (zg zz 25 a 1) d (U4 e a R) d)
theorem Mg(hw:Om h t0 R):DC zz 14 [t0] h R:=zC mixed (q:=qs) (n:=200) (Eq.mpr (by kernel_rfl) hw)
def gK:=λc (R:VK) d (e:LK) f (a:za)=>
 opt (pk c (.bool true) f) λg=>CD g (λb=>rv [.bool false] a R)
 (λb=>b [nth d 0] a)
 (λh i=>e [nth h 0] i)
def gL:=λa (R:VK) c (d:LK) e (b:za)=>
 ze a false (zi .gtr 3 49 e 65536) b (gK a R c d) b
def gN:=λa d (R:VK) e (f:LK) g (c:za)=>
 ze a false (ym zz 22 d g) c (λh b=>ze a false (zd zz 3 h b) b (gL a R e f) b) c
def gO:=λa c (R:VK) (e:LK) f (b:za)=>
 ze a false (zd zz 22 f b) b (λg d=>GD a false (λh=>h (nth c 1) d) (gN a g R c e) d) b
def gP:=λb (a:za) c (R:VK) (e:LK)=>
 zn 25 b 0 22 a λf=>vr 22 f (nth c 1) 3 a λg=>opt (zi .lss 3 42 g 0) λd=>ze d false (zg zz 25 b 0) a (gO d c R e) a
def DN:=λa (b:LK) c (d:za)=>
 opt (zi .add 3 36 (nth a 1) 1) λe=>b [nth c 0,e] d
def Jf:=λb (f:LK) (R:VK) a (c:za) (g:LK)=>
 zn 25 b 0 22 c λh=>zT (xE 22 h c) λi d=>opt (yo .lss 3 31 34 (nth a 1) i) λj=>CD j (λe=>e [] d)
 (λe=>f [nth a 0] d)
 (λl k=>BK (gP b k a R)
 (DN a g))
def XN:=λc (R:VK) d (e:LK) f (a:za)=>
 opt (pk c f (.bool false)) λg=>CD g (λb=>rv [.bool false] a R)
 (λb=>b [nth d 0] a)
 (λh i=>e [nth h 0] i)
def XO:=λa e b (R:VK) f (g:LK) h (c:za)=>
 ze a false (yo .gtr 2 131 137 e h) c (λi d=>ze b true (pk a (.bool true) i) d (XN b R f g) d) c
def Z5:=λa d e f (R:VK) g (h:LK) i (c:za)=>
 ze a false (ym zz 22 d i) c (λj b=>ze a false (zd zz 3 j b) b (XO a e f R g h) b) c
def Z6:=λa d e f (R:VK) g (h:LK) i (c:za)=>
 ze a false (zg zz 53 d 1) c (λj b=>ze a false (zd zz 3 j b) b (Z5 a i e f R g h) b) c
def Z7:=λa d e f (R:VK) g (h:LK) i (c:za)=>
 ze a false (zg zz 25 d 0) c (λj b=>ze a false (zd zz 22 j b) b (Z6 a e i f R g h) b) c
def Z8:=λc e f (R:VK) g (h:LK) a (d:za)=>
 ze a false (zg zz 53 c 5) d (λi b=>ze a false (zd zz 2 i b) b (Z7 a e c f R g h) b) d
def Z9:=λa d e f (R:VK) g (h:LK) i (b:za)=>
 ze a true (pk d (.bool true) i) b (λj c=>GD a true (λk=>k j c) (Z8 e f a R g h) c) b
def Ya:=λa c d e (R:VK) f (g:LK) h (b:za)=>
 ze a false (zi .lss 2 126 h 0) b (Z9 c a d e R f g) b
def Yb:=λc e f (R:VK) g (h:LK) a (d:za)=>
 ze a false (zg zz 53 c 5) d (λi b=>ze a false (zd zz 2 i b) b (Ya a e c f R g h) b) d
def Yd:=λa d e f (R:VK) g (h:LK) i (b:za)=>
 ze a true (pk d (.bool true) i) b (λj c=>GD a true (λk=>k j c) (Yb e a f R g h) c) b
def Ye:=λa c d e f (R:VK) g (h:LK) i (b:za)=>
 ze a false (yo .geq 3 118 121 c i) b (Yd d a e f R g h) b
def Yf:=λb c d e f (R:VK) g (h:LK) i (a:za)=>
 GD b false (λj=>zT (xE 22 i a) λk _=>j k a) (Ye b c d e f R g h) a
def Yg:=λa c e f (R:VK) g (h:LK) i (d:za)=>
 ze a false (zg zz 25 c 0) d (λj b=>ze a false (zd zz 22 j b) b (Yf a i e f c R g h) b) d
def Yh:=λc e f (R:VK) g (h:LK) a (d:za)=>
 ze a false (zg zz 53 c 1) d (λi b=>ze a false (zd zz 3 i b) b (Yg a e f c R g h) b) d
def Yi:=λa d e (R:VK) f (g:LK) h (b:za)=>
 ze a true (zi .lss 3 114 h 0) b (λi c=>GD a true (λj=>j i c) (Yh d e a R f g) c) b
def Yj:=λa e (R:VK) (f:LK) g (b:za)=>
 zn 53 a 0 3 b λh=>opt (zi .eql 3 110 h 8) λc=>ze c true (zg zz 53 a 1) b (λi d=>ze c true (zd zz 3 i d) d (Yi c a e R g f) d) b
def kh:=λa e (R:VK) f g h (i:LK) j (b:za)=>
 ze a true (pk e (.bool true) j) b (λk c=>opt (pk a k (.bool false)) λl=>CD l (λd=>rv [.bool false] c R)
 (λd=>d [nth f 0] c)
 (Yj g h R i)) b
def ki:=λa c d (R:VK) e f g (h:LK) i (b:za)=>
 ze a false (yo .neq 3 102 105 c i) b (kh d a R e f g h) b
def kj:=λb c d (R:VK) e f g (h:LK) i (a:za)=>
 GD b false (λj=>zT (xE 22 i a) λk _=>j k a) (ki b c d R e f g h) a
def km:=λa c e (R:VK) f g (h:LK) i (d:za)=>
 ze a false (zg zz 53 c 6) d (λj b=>ze a false (zd zz 22 j b) b (kj a i e R f c g h) b) d
def ko:=λa d e (R:VK) f g (h:LK) i (b:za)=>
 ze a false (zd zz 22 i b) b (λj c=>GD a false (λk=>zT (xE 22 j c) λl _=>k l c) (km a d e R f g h) c) b
def kp:=λa d e f (R:VK) g h (i:LK) j (b:za)=>
 ze a false (ym zz 23 d j) b (λk c=>ze a false (zg zz 45 k 1) c (ko a e f R g h i) c) b
def kr:=λa c e (R:VK) f g (h:LK) i (d:za)=>
 ze a false (zg zz 53 c 1) d (λj b=>ze a false (zd zz 3 j b) b (kp a i c e R f g h) b) d
def ks:=λc e f (R:VK) g (h:LK) a (d:za)=>
 ze a false (zg zz 25 c 1) d (λi b=>ze a false (zd zz 23 i b) b (kr a e f R g c h) b) d
def kt:=λa d e f (R:VK) g (h:LK) i (b:za)=>
 ze a true (pk d (.bool true) i) b (λj c=>GD a true (λk=>k j c) (ks e f a R g h) c) b
def ku:=λa c d e f (R:VK) g (h:LK) i (b:za)=>
 ze a false (yo .geq 3 88 91 c i) b (kt d a e f R g h) b
def kx:=λa d e f g (R:VK) h (i:LK) j (b:za)=>
 ze a false (zd zz 23 j b) b (λk c=>GD a false (λl=>zT (xE 23 k c) λm _=>l m c) (ku a d e f g R h i) c) b
def kA:=λa c e f (R:VK) g (h:LK) i (b:za)=>
 ze a false (zd zz 3 i b) b (λj d=>ze a false (zg zz 25 c 1) d (kx a j e c f R g h) d) b
def kB:=λa b f (R:VK) g (h:LK) i (c:za)=>
 GD a true (λj=>j i c) (λd e=>ze d false (zg zz 53 b 1) e (kA d f a b R g h) e) c
def kC:=λa c d (R:VK) e (f:LK) g (b:za)=>
 ze a true (zi .lss 3 84 g 0) b (kB a c d R e f) b
def lp:=λg (b:za) f h (R:VK) (i:LK)=>
 zn 45 g 5 43 b λj=>vr 43 j (nth f 1) 53 b λk=>qe 53 b λa l=>opt (yh 53 a k l) λc=>zn 53 a 0 3 c λm=>opt (zi .eql 3 80 m 10) λd=>ze d true (zg zz 53 a 1) c (λn e=>ze d true (zd zz 3 n e) e (kC d a h R f i) e) c
def Ay:=λa (b:LK) c (d:za)=>
 opt (zi .add 3 72 (nth a 1) 1) λe=>b [nth c 0,e] d
def lr:=λb (f:LK) g (R:VK) a (c:za) (h:LK)=>
 zn 45 b 5 43 c λi=>zT (xE 43 i c) λj d=>opt (yo .lss 3 67 70 (nth a 1) j) λk=>CD k (λe=>e [] d)
 (λe=>f [nth a 0] d)
 (λm l=>BK (lp b l a g R)
 (Ay a h))
def lu:=λ(R:VK) c d e (f:LK) g (a:za)=>
 opt (YY zz .not g) λh=>CD h (λb=>rv [.bool false] a R)
 (λb=>b [nth c 0] a)
 (λi j=>BK (λk=>LP (lr d k e R)
 [nth i 0,pm 0] j)
 (λl m=>f [nth l 0] m))
def Az:=λc (a:za) d (R:VK) (f:LK)=>
 zn 25 c 1 23 a λg=>vr 23 g (nth d 1) 45 a λh=>qe 45 a λb i=>opt (yh 45 b h i) λe=>opt (zd zz 45 b e) λj=>zu zz (fn 39) [j] e (lu R d b c f)
def AA:=λa (b:LK) c (d:za)=>
 opt (zi .add 3 57 (nth a 1) 1) λe=>b [nth c 0,e] d
def aG:=λb (f:LK) (R:VK) a (c:za) (g:LK)=>
 zn 25 b 1 23 c λh=>zT (xE 23 h c) λi d=>opt (yo .lss 3 52 55 (nth a 1) i) λj=>CD j (λe=>e [] d)
 (λe=>f [nth a 0] d)
 (λl k=>BK (Az b k a R)
 (AA a g))
def aH:=λa (R:VK) b (c:za)=>
 BK (λd=>LP (Jf a d R)
 [nth b 0,pm 0] c)
 (λe f=>BK (λg=>LP (aG a g R)
 [nth e 0,pm 0] f)
 (λi h=>rv [.bool true] h R))
def WD:=λa e (R:VK) f g (b:za)=>
 ze a false (yo .geq 3 25 28 e g) b (λh c=>opt (pk a (.bool true) h) λi=>CD i (λd=>rv [.bool false] c R)
 (λd=>d [.bool false] c)
 (aH f R)) b
def WE:=λa d (R:VK) e f (b:za)=>
 ze a false (zd zz 23 f b) b (λg c=>GD a false (λh=>zT (xE 23 g c) λi j=>h i j) (WD a d R e) c) b
def WG:=λa c (R:VK) e (b:za)=>
 ze a false (zd zz 3 e b) b (λf d=>ze a false (zg zz 25 c 1) d (WE a f R c) d) b
def WH:=λa b (R:VK) f (c:za)=>
 ze a false (zi .lss 3 20 f 0) c (λg d=>opt (pk a (.bool true) g) λe=>ze e false (zg zz 25 b 2) d (WG e b R) d) c
def WI:=λe c (R:VK) f (d:za)=>
 opt (pk e (.bool true) f) λa=>ze a false (zg zz 25 c 2) d (λg b=>ze a false (zd zz 3 g b) b (WH a c R) b) d
def WJ:=λa c (R:VK) d (b:za)=>
 ze a false (zi .gtr 3 15 d 100) b (WI a c R) b
def WK:=λa d (R:VK) e (b:za)=>
 ze a false (zd zz 23 e b) b (λf c=>GD a false (λg=>zT (xE 23 f c) λh i=>g h i) (WJ a d R) c) b
def Of:=λ(h:za) b (R:VK)=>
 opt (nb [b] (some (Value.cells b).toList)) λf=>nw h f 25 λa c=>zn 25 a 0 22 c λg=>zT (xE 22 g c) λi d=>opt (zi .gtr 3 10 i 200) λe=>ze e false (zg zz 25 a 1) d (WK e a R) d
theorem Ma(hw:Of h t0 R):DC zz 16 [t0] h R:=zC mixed (q:=qs) (n:=200) (Eq.mpr (by kernel_rfl) hw)
def J1:=λd (a:za) b e (R:VK) (f:LK)=>
 zn 25 d 0 22 a λg=>vr 22 g (nth b 1) 3 a λh=>zn 25 e 0 22 a λi=>vr 22 i (nth b 1) 3 a λj=>opt (yo .neq 3 41 46 h j) λk=>CD k (λc=>rv [.bool false] a R)
 (λc=>c [nth b 0] a)
 (λl m=>f [nth l 0] m)
def mJ:=λa (b:LK) c (d:za)=>
 opt (zi .add 3 35 (nth a 1) 1) λe=>b [nth c 0,e] d
def Ug:=λb (f:LK) g (R:VK) a (c:za) (h:LK)=>
 zn 25 b 0 22 c λi=>zT (xE 22 i c) λj d=>opt (yo .lss 3 30 33 (nth a 1) j) λk=>CD k (λe=>e [] d)
 (λe=>f [nth a 0] d)
 (λm l=>BK (J1 b l a g R)
 (mJ a h))
def J4:=λ(R:VK) c (d:LK) e (a:za)=>
 opt (YY zz .not e) λf=>CD f (λb=>rv [.bool false] a R)
 (λb=>b [nth c 0] a)
 (λg h=>d [nth g 0] h)
def mK:=λc (a:za) b d (R:VK) (e:LK)=>
 zn 25 c 1 23 a λf=>vr 23 f (nth b 1) 45 a λg=>zn 25 d 1 23 a λh=>vr 23 h (nth b 1) 45 a λi=>Yv zz 30 [g,i] a (J4 R b e)
def mL:=λa (b:LK) c (d:za)=>
 opt (zi .add 3 53 (nth a 1) 1) λe=>b [nth c 0,e] d
def Uh:=λb (f:LK) g (R:VK) a (c:za) (h:LK)=>
 zn 25 b 1 23 c λi=>zT (xE 23 i c) λj d=>opt (yo .lss 3 48 51 (nth a 1) j) λk=>CD k (λe=>e [] d)
 (λe=>f [nth a 0] d)
 (λm l=>BK (mK b l a g R)
 (mL a h))
def J5:=λa b (R:VK) c (d:za)=>
 BK (λe=>LP (Ug a e b R)
 [nth c 0,pm 0] d)
 (λf g=>BK (λh=>LP (Uh a h b R)
 [nth f 0,pm 0] g)
 (λj i=>rv [.bool true] i R))
def We:=λa e (R:VK) f g h (b:za)=>
 ze a false (yo .neq 3 24 27 e h) b (λi c=>opt (pk a (.bool true) i) λj=>CD j (λd=>rv [.bool false] c R)
 (λd=>d [.bool false] c)
 (J5 f g R)) b
def Y3:=λa d (R:VK) e f g (b:za)=>
 ze a false (zd zz 22 g b) b (λh c=>GD a false (λi=>zT (xE 22 h c) λj k=>i j k) (We a d R e f) c) b
def Y4:=λa c (R:VK) f g (d:za)=>
 GD a false (λh=>zT (xE 22 g d) λb i=>h b i) (λb e=>ze a false (zg zz 25 c 0) e (Y3 a b R f c) e) d
def Y5:=λe c f (R:VK) g (d:za)=>
 opt (pk e (.bool true) g) λa=>ze a false (zg zz 25 c 0) d (λh b=>ze a false (zd zz 22 h b) b (Y4 a f R c) b) d
def Y6:=λa e f g (R:VK) h (c:za)=>
 GD a false (λi=>zT (xE 23 h c) λb j=>i b j) (λb d=>ze a false (yo .neq 3 15 18 e b) d (Y5 a f g R) d) c
def Y7:=λa c e (R:VK) f (d:za)=>
 ze a false (zg zz 25 c 1) d (λg b=>ze a false (zd zz 23 g b) b (Y6 a f e c R) b) d
def Y8:=λa d e (R:VK) f (b:za)=>
 ze a false (zd zz 23 f b) b (λg c=>GD a false (λh=>zT (xE 23 g c) λi j=>h i j) (Y7 a d e R) c) b
def Aj:=λ(h:za) c d (R:VK)=>
 opt (nb [c] (some (Value.cells c).toList)) λg=>nw h g 25 λb i=>opt (nb [d] (some (Value.cells d).toList)) λj=>nw i j 25 λe a=>zn 25 b 2 3 a λk=>zn 25 e 2 3 a λl=>opt (yo .neq 3 8 10 k l) λf=>ze f false (zg zz 25 b 1) a (Y8 f e b R) a
theorem CN(hw:Aj h t0 t1 R):DC zz 13 [t0,t1] h R:=zC mixed (q:=qs) (n:=200) (Eq.mpr (by kernel_rfl) hw)
def N8:=λ(h:za) a (R:VK)=>
 opt (nb [a] (some (Value.cells a).toList)) λc=>nw h c 53 λb d=>opt (nb ([]++[b]) (some (Value.func (.func 42) [].toArray [b].toArray))) λe=>rv [e] d R
theorem L5(hw:N8 h t0 R):DC zz 19 [t0] h R:=zC mixed (q:=qs) (n:=200) (Eq.mpr (by kernel_rfl) hw)
def Ti:=λ(h:za) a (R:VK)=>
 opt (nb [a] (some (Value.cells a).toList)) λc=>nw h c 53 λb d=>opt (nb ([]++[b]) (some (Value.func (.func 43) [].toArray [b].toArray))) λe=>rv [e] d R
theorem PV(hw:Ti h t0 R):DC zz 20 [t0] h R:=zC mixed (q:=qs) (n:=200) (Eq.mpr (by kernel_rfl) hw)
def lL:=λa c (R:VK) d (b:za)=>
 ze a true (yo .lss 3 8 9 c d) b (λe f=>opt (pk a e (.bool false)) λg=>rv [g] f R) b
def HR:=λ(h:za) b d (R:VK)=>
 opt (zi .geq 3 5 b 0) λa=>GD a true (λe=>e b h) (λf c=>GD a true (λg=>g d c) (lL a f R) c) h
theorem HS(hw:HR h t0 t1 R):DC zz 31 [t0,t1] h R:=zC mixed (q:=qs) (n:=200) (Eq.mpr (by kernel_rfl) hw)
def kV:=λc (R:VK) d e f (g:LK) h (a:za)=>
 opt (pk c (.bool true) h) λi=>CD i (λb=>rv [.bool false] a R)
 (λb=>b [nth d 0] a)
 (λj k=>opt (ym zz 128 e f) λl=>opt (yh 4 l (.bool true) k) λm=>g [nth j 0] m)
def kW:=λa d (R:VK) e f g (h:LK) i (c:za)=>
 ze a false (ym zz 128 d i) c (λj b=>ze a false (zd zz 4 j b) b (kV a R e f g h) b) c
def kX:=λb c (R:VK) f (g:LK) h (d:za)=>
 opt (YY zz .not h) λa=>GD a false (λi=>i b d) (λj e=>GD a false (λk=>k c e) (kW a j R f b c g) e) d
def ZI:=λd b (a:za) e f (R:VK) (g:LK)=>
 vr 22 d (nth b 1) 3 a λc=>zn 45 e 2 3 a λh=>zu zz (fn 31) [c,h] a (kX f c R b g)
def ZJ:=λa (b:LK) c (d:za)=>
 opt (zi .add 3 45 (nth a 1) 1) λe=>b [nth c 0,e] d
def j4:=λd (e:LK) f g h (R:VK) a (b:za) (i:LK)=>
 opt (yo .lss 3 45 44 (nth a 1) d) λj=>CD j (λc=>c [] b)
 (λc=>e [nth a 0] b)
 (λl k=>BK (ZI f a k g h R)
 (ZJ a i))
def j5:=λa (R:VK) (h:List aaa) (b:za)=>
 zn 45 a 5 43 b λc=>opt (nb ([]++[a]) (some (Value.func (.func 66) [].toArray [a].toArray))) λd=>zu zz (fn 65) [c,d] b (λe f=>opt (YY zz .not e) λg=>rv [g] f R)
def j6:=λa (R:VK) f (b:za)=>
 zn 45 a 2 3 b λc=>zT (XZ zz 128 c c b) λg d=>zn 45 a 1 22 d λe=>zT (xE 22 e d) λh i=>BK (λj=>LP (j4 h j e a g R)
 [nth f 0,pm 0] i)
 (j5 a R)
def uG:=λa (R:VK) e f (b:za)=>
 ze a false (zi .gtr 3 36 f 65536) b (λg c=>opt (pk a (.bool true) g) λh=>CD h (λd=>rv [.bool false] c R)
 (λd=>d [.bool false] c)
 (j6 e R)) b
def vx:=λe c (R:VK) f (d:za)=>
 opt (pk e (.bool true) f) λa=>ze a false (zg zz 45 c 3) d (λg b=>ze a false (zd zz 3 g b) b (uG a R c) b) d
def vy:=λa c (R:VK) d (b:za)=>
 ze a false (zi .lss 3 31 d 0) b (vx a c R) b
def wh:=λe c (R:VK) f (d:za)=>
 opt (pk e (.bool true) f) λa=>ze a false (zg zz 45 c 3) d (λg b=>ze a false (zd zz 3 g b) b (vy a c R) b) d
def uU:=λa e f (R:VK) g (c:za)=>
 GD a false (λh=>zu zz (fn 31) [e,g] c (λb i=>h b i)) (λb d=>ze a false (YY zz .not b) d (wh a f R) d) c
def uV:=λa d e (R:VK) f (b:za)=>
 ze a false (zd zz 43 f b) b (λg c=>GD a false (λh=>zT (xE 43 g c) λi j=>h i j) (uU a d e R) c) b
def uW:=λa c (R:VK) e (b:za)=>
 ze a false (zd zz 3 e b) b (λf d=>ze a false (zg zz 45 c 5) d (uV a f c R) d) b
def uX:=λa b (R:VK) f (c:za)=>
 ze a false (zi .gtr 3 17 f 5000) c (λg d=>opt (pk a (.bool true) g) λe=>ze e false (zg zz 45 b 4) d (uW e b R) d) c
def qJ:=λe c (R:VK) f (d:za)=>
 opt (pk e (.bool true) f) λa=>ze a false (zg zz 45 c 2) d (λg b=>ze a false (zd zz 3 g b) b (uX a c R) b) d
def uY:=λa c (R:VK) d (b:za)=>
 ze a false (zi .lss 3 12 d 0) b (qJ a c R) b
def mF:=λ(h:za) d (R:VK)=>
 opt (nb [d] (some (Value.cells d).toList)) λg=>nw h g 45 λa e=>zn 45 a 5 43 e λi=>zT (xE 43 i e) λj f=>opt (zi .gtr 3 8 j 5000) λb=>ze b false (zg zz 45 a 2) f (λk c=>ze b false (zd zz 3 k c) c (uY b a R) c) f
theorem i9(hw:mF h t0 R):DC zz 32 [t0] h R:=zC mixed (q:=qs) (n:=200) (Eq.mpr (by kernel_rfl) hw)
def lx:=λb (a:za) c e (R:VK) (f:LK)=>
 zn 45 b 1 22 a λg=>vr 22 g (nth c 1) 3 a λh=>zn 45 b 1 22 a λi=>vr 22 i (nth e 1) 3 a λj=>opt (yo .eql 3 75 80 h j) λk=>CD k (λd=>rv [.bool false] a R)
 (λd=>d [nth c 0] a)
 (λl m=>f [nth l 0] m)
def AD:=λa (b:LK) c (d:za)=>
 opt (zi .add 3 69 (nth a 1) 1) λe=>b [nth c 0,e] d
def aP:=λb (e:LK) f (R:VK) a (c:za) (g:LK)=>
 opt (yo .lss 3 66 67 (nth a 1) (nth b 1)) λh=>CD h (λd=>d [] c)
 (λd=>e [nth a 0] c)
 (λj i=>BK (lx f i a b R)
 (AD a g))
def aQ:=λd (R:VK) a e (f:LK) g (b:za)=>
 opt (pk d (.bool true) g) λh=>CD h (λc=>rv [.bool false] b R)
 (λc=>c [nth a 0] b)
 (λi j=>BK (λk=>LP (aP a k e R)
 [nth i 0,pm 0] j)
 (λl m=>f [nth l 0] m))
def aR:=λa d (R:VK) e f (g:LK) h (b:za)=>
 ze a false (zd zz 3 h b) b (λi c=>ze a false (yo .geq 3 61 63 d i) c (aQ a R e f g) c) b
def aS:=λa c (R:VK) e (f:LK) g (b:za)=>
 ze a false (zd zz 3 g b) b (λh d=>ze a false (zg zz 45 c 2) d (aR a h R e c f) d) b
def aT:=λa b e (R:VK) (f:LK) g (c:za)=>
 GD a false (λh=>h (nth b 1) c) (λi d=>ze a false (ym zz 22 g i) d (aS a e R b f) d) c
def aU:=λb (a:za) e (R:VK) (f:LK)=>
 zn 45 b 1 22 a λg=>vr 22 g (nth e 1) 3 a λh=>opt (zi .lss 3 54 h 0) λc=>ze c false (zg zz 45 b 1) a (λi d=>ze c false (zd zz 22 i d) d (aT c e b R f) d) a
def AE:=λa (b:LK) c (d:za)=>
 opt (zi .add 3 48 (nth a 1) 1) λe=>b [nth c 0,e] d
def VQ:=λb (f:LK) (R:VK) a (c:za) (g:LK)=>
 zn 45 b 1 22 c λh=>zT (xE 22 h c) λi d=>opt (yo .lss 3 43 46 (nth a 1) i) λj=>CD j (λe=>e [] d)
 (λe=>f [nth a 0] d)
 (λl k=>BK (aU b k a R)
 (AE a g))
def eu:=λ(R:VK) c (d:LK) e (a:za)=>
 opt (YY zz .not e) λf=>CD f (λb=>rv [.bool false] a R)
 (λb=>b [nth c 0] a)
 (λg h=>d [nth g 0] h)
def rV:=λb (a:za) c (R:VK) (d:LK)=>
 opt (zd zz 45 b a) λe=>zn 45 b 5 43 a λf=>vr 43 f (nth c 1) 53 a λg=>Yv zz 73 [e,g] a (eu R c d)
def rW:=λa (b:LK) c (d:za)=>
 opt (zi .add 3 87 (nth a 1) 1) λe=>b [nth c 0,e] d
def QS:=λb (f:LK) (R:VK) a (c:za) (g:LK)=>
 zn 45 b 5 43 c λh=>zT (xE 43 h c) λi d=>opt (yo .lss 3 82 85 (nth a 1) i) λj=>CD j (λe=>e [] d)
 (λe=>f [nth a 0] d)
 (λl k=>BK (rV b k a R)
 (rW a g))
def QT:=λa (R:VK) b (c:za)=>
 BK (λd=>LP (VQ a d R)
 [nth b 0,pm 0] c)
 (λe f=>BK (λg=>LP (QS a g R)
 [nth e 0,pm 0] f)
 (λi h=>rv [.bool true] h R))
def jb:=λa (R:VK) e f (b:za)=>
 ze a false (zi .gtr 3 40 f 65536) b (λg c=>opt (pk a (.bool true) g) λh=>CD h (λd=>rv [.bool false] c R)
 (λd=>d [.bool false] c)
 (QT e R)) b
def jc:=λe c (R:VK) f (d:za)=>
 opt (pk e (.bool true) f) λa=>ze a false (zg zz 45 c 3) d (λg b=>ze a false (zd zz 3 g b) b (jb a R c) b) d
def jd:=λa c (R:VK) d (b:za)=>
 ze a false (zi .lss 3 35 d 0) b (jc a c R) b
def jf:=λe c (R:VK) f (d:za)=>
 opt (pk e (.bool true) f) λa=>ze a false (zg zz 45 c 3) d (λg b=>ze a false (zd zz 3 g b) b (jd a c R) b) d
def jg:=λa e f (R:VK) g (c:za)=>
 GD a false (λh=>zT (xE 43 g c) λb i=>h b i) (λb d=>ze a false (yo .geq 3 27 30 e b) d (jf a f R) d) c
def jh:=λa c (R:VK) e (d:za)=>
 ze a false (zg zz 45 c 5) d (λf b=>ze a false (zd zz 43 f b) b (jg a e c R) b) d
def ji:=λe c (R:VK) f (d:za)=>
 opt (pk e (.bool true) f) λa=>ze a false (zg zz 45 c 4) d (λg b=>ze a false (zd zz 3 g b) b (jh a c R) b) d
def jj:=λa c (R:VK) d (b:za)=>
 ze a false (zi .lss 3 22 d 0) b (ji a c R) b
def jk:=λe c (R:VK) f (d:za)=>
 opt (pk e (.bool true) f) λa=>ze a false (zg zz 45 c 4) d (λg b=>ze a false (zd zz 3 g b) b (jj a c R) b) d
def jl:=λa c (R:VK) d (b:za)=>
 ze a false (zi .gtr 3 17 d 5000) b (jk a c R) b
def jm:=λa d (R:VK) e (b:za)=>
 ze a false (zd zz 43 e b) b (λf c=>GD a false (λg=>zT (xE 43 f c) λh i=>g h i) (jl a d R) c) b
def jn:=λa b (R:VK) f (c:za)=>
 ze a false (zi .gtr 3 11 f 5000) c (λg d=>opt (pk a (.bool true) g) λe=>ze e false (zg zz 45 b 5) d (jm e b R) d) c
def HD:=λ(h:za) e (R:VK)=>
 opt (nb [e] (some (Value.cells e).toList)) λf=>nw h f 45 λa b=>zn 45 a 2 3 b λg=>opt (zi .lss 3 7 g 0) λc=>ze c false (zg zz 45 a 2) b (λi d=>ze c false (zd zz 3 i d) d (jn c a R) d) b
theorem HE(hw:HD h t0 R):DC zz 39 [t0] h R:=zC mixed (q:=qs) (n:=200) (Eq.mpr (by kernel_rfl) hw)
def Jc:=λd (a:za) b e (R:VK) (f:LK)=>
 zn 45 d 1 22 a λg=>vr 22 g (nth b 1) 3 a λh=>zn 45 e 1 22 a λi=>vr 22 i (nth b 1) 3 a λj=>opt (yo .neq 3 62 67 h j) λk=>CD k (λc=>rv [.bool false] a R)
 (λc=>c [nth b 0] a)
 (λl m=>f [nth l 0] m)
def dI:=λa (b:LK) c (d:za)=>
 opt (zi .add 3 56 (nth a 1) 1) λe=>b [nth c 0,e] d
def US:=λb (f:LK) g (R:VK) a (c:za) (h:LK)=>
 zn 45 b 1 22 c λi=>zT (xE 22 i c) λj d=>opt (yo .lss 3 51 54 (nth a 1) j) λk=>CD k (λe=>e [] d)
 (λe=>f [nth a 0] d)
 (λm l=>BK (Jc b l a g R)
 (dI a h))
def Jd:=λ(R:VK) c (d:LK) e (a:za)=>
 opt (YY zz .not e) λf=>CD f (λb=>rv [.bool false] a R)
 (λb=>b [nth c 0] a)
 (λg h=>d [nth g 0] h)
def dJ:=λc (a:za) b d (R:VK) (e:LK)=>
 zn 45 c 5 43 a λf=>vr 43 f (nth b 1) 53 a λg=>zn 45 d 5 43 a λh=>vr 43 h (nth b 1) 53 a λi=>Yv zz 64 [g,i] a (Jd R b e)
def Hj:=λa (b:LK) c (d:za)=>
 opt (zi .add 3 74 (nth a 1) 1) λe=>b [nth c 0,e] d
def mM:=λb (f:LK) g (R:VK) a (c:za) (h:LK)=>
 zn 45 b 5 43 c λi=>zT (xE 43 i c) λj d=>opt (yo .lss 3 69 72 (nth a 1) j) λk=>CD k (λe=>e [] d)
 (λe=>f [nth a 0] d)
 (λm l=>BK (dJ b l a g R)
 (Hj a h))
def Ak:=λa b (R:VK) c (d:za)=>
 BK (λe=>LP (US a e b R)
 [nth c 0,pm 0] d)
 (λf g=>BK (λh=>LP (mM a h b R)
 [nth f 0,pm 0] g)
 (λj i=>rv [.bool true] i R))
def VL:=λa e (R:VK) f g h (b:za)=>
 ze a false (yo .neq 3 45 48 e h) b (λi c=>opt (pk a (.bool true) i) λj=>CD j (λd=>rv [.bool false] c R)
 (λd=>d [.bool false] c)
 (Ak f g R)) b
def Xz:=λa d (R:VK) e f g (b:za)=>
 ze a false (zd zz 43 g b) b (λh c=>GD a false (λi=>zT (xE 43 h c) λj k=>i j k) (VL a d R e f) c) b
def XA:=λa c (R:VK) f g (d:za)=>
 GD a false (λh=>zT (xE 43 g d) λb i=>h b i) (λb e=>ze a false (zg zz 45 c 5) e (Xz a b R f c) e) d
def XB:=λe c f (R:VK) g (d:za)=>
 opt (pk e (.bool true) g) λa=>ze a false (zg zz 45 c 5) d (λh b=>ze a false (zd zz 43 h b) b (XA a f R c) b) d
def XC:=λa e f g (R:VK) h (c:za)=>
 GD a false (λi=>zT (xE 22 h c) λb j=>i b j) (λb d=>ze a false (yo .neq 3 36 39 e b) d (XB a f g R) d) c
def XD:=λa c e (R:VK) f (d:za)=>
 ze a false (zg zz 45 c 1) d (λg b=>ze a false (zd zz 22 g b) b (XC a f e c R) b) d
def XE:=λa d e (R:VK) f (b:za)=>
 ze a false (zd zz 22 f b) b (λg c=>GD a false (λh=>zT (xE 22 g c) λi j=>h i j) (XD a d e R) c) b
def XF:=λa f b g (R:VK) h (c:za)=>
 ze a false (yo .neq 3 28 30 f h) c (λi d=>opt (pk a (.bool true) i) λe=>ze e false (zg zz 45 b 1) d (XE e g b R) d) c
def XG:=λa c e (R:VK) f (d:za)=>
 ze a false (zg zz 45 c 4) d (λg b=>ze a false (zd zz 3 g b) b (XF a f e c R) b) d
def XH:=λe c f (R:VK) g (d:za)=>
 opt (pk e (.bool true) g) λa=>ze a false (zg zz 45 c 4) d (λh b=>ze a false (zd zz 3 h b) b (XG a f c R) b) d
def XI:=λa d e f (R:VK) g (b:za)=>
 ze a false (zd zz 3 g b) b (λh c=>ze a false (yo .neq 3 21 23 d h) c (XH a e f R) c) b
def XJ:=λa c e (R:VK) f (b:za)=>
 ze a false (zd zz 3 f b) b (λg d=>ze a false (zg zz 45 c 3) d (XI a g e c R) d) b
def XK:=λa f b g (R:VK) h (c:za)=>
 ze a false (yo .neq 3 14 16 f h) c (λi d=>opt (pk a (.bool true) i) λe=>ze e false (zg zz 45 b 3) d (XJ e g b R) d) c
def XL:=λa c e (R:VK) f (d:za)=>
 ze a false (zg zz 45 c 2) d (λg b=>ze a false (zd zz 3 g b) b (XK a f e c R) b) d
def Ag:=λ(h:za) e f (R:VK)=>
 opt (nb [e] (some (Value.cells e).toList)) λi=>nw h i 45 λb j=>opt (nb [f] (some (Value.cells f).toList)) λk=>nw j k 45 λg a=>zn 45 b 0 9 a λl=>zn 45 g 0 9 a λm=>opt (yo .neq 9 8 10 l m) λc=>ze c false (zg zz 45 b 2) a (λn d=>ze c false (zd zz 3 n d) d (XL c g b R) d) a
theorem oV(hw:Ag h t0 t1 R):DC zz 30 [t0,t1] h R:=zC mixed (q:=qs) (n:=200) (Eq.mpr (by kernel_rfl) hw)
def J9:=λc d (R:VK) (j:List aaa) (a:za)=>
 zn 53 c 0 3 a λe=>opt (zi .eql 3 14 e 11) λf=>CD f (λb=>zn 53 c 8 3 a λg=>zu zz d [g] a (λk h=>b [] h))
 (λb=>b [] a)
 (λl i=>rv [] i R)
def UW:=λa (R:VK) e f g (b:za)=>
 ze a true (YY zz .not g) b (λh c=>opt (pk a h (.bool false)) λi=>CD i (λd=>rv [] c R)
 (λd=>d [] c)
 (J9 e f R)) b
def la:=λa d (R:VK) e f g (b:za)=>
 ze a true (zd zz 3 g b) b (λh c=>GD a true (λi=>zu zz d [h] c (λj k=>i j k)) (UW a R e f) c) b
def Hk:=λ(h:za) c a (R:VK)=>
 zn 53 a 0 3 h λe=>opt (zi .neq 3 4 e 12) λb=>GD b true (λf=>f c h) (λg d=>ze b true (zg zz 53 a 7) d (la b g R a c) d) h
theorem Hl(hw:Hk h t0 t1 R):DC zz 42 [t0,t1] h R:=zC mixed (q:=qs) (n:=200) (Eq.mpr (by kernel_rfl) hw)
def gD:=λb (h:za) (d:LK)=>
 opt (zi .eql 3 6 b 11) λc=>CD c (λa=>a [c] h)
 (λa=>opt (zi .eql 3 6 b 7) λe=>a [e] h)
 (λf g=>d [nth f 0] g)
def Je:=λa (h:za) (c:LK)=>
 opt (zi .eql 3 6 a 5) λb=>CD b (λd=>d [b] h)
 (gD a h)
 (λe f=>c [nth e 0] f)
def Us:=λa (h:za) (c:LK)=>
 opt (zi .eql 3 6 a 14) λb=>CD b (λd=>d [b] h)
 (Je a h)
 (λe f=>c [nth e 0] f)
def WB:=λa (h:za) (c:LK)=>
 opt (zi .eql 3 6 a 12) λb=>CD b (λd=>d [b] h)
 (Us a h)
 (λe f=>c [nth e 0] f)
def XM:=λa (h:za) (c:LK)=>
 opt (zi .eql 3 6 a 6) λb=>CD b (λd=>d [b] h)
 (WB a h)
 (λe f=>c [nth e 0] f)
def YG:=λa (h:za) (c:LK)=>
 opt (zi .eql 3 6 a 4) λb=>CD b (λd=>d [b] h)
 (XM a h)
 (λe f=>c [nth e 0] f)
def gE:=λa (R:VK) (e:LK) f (b:za)=>
 ze a true (YY zz .not f) b (λg c=>opt (pk a g (.bool false)) λh=>CD h (λd=>rv [] c R)
 (λd=>d [] c)
 (λj i=>e [] i)) b
def oZ:=λa d (R:VK) (e:LK) f (b:za)=>
 ze a true (zd zz 3 f b) b (λg c=>GD a true (λh=>zu zz d [g] c (λi j=>h i j)) (gE a R e) c) b
def gF:=λc (a:za) e (R:VK) (f:LK)=>
 zn 53 c 2 3 a λg=>opt (zi .neq 3 17 g (-1)) λb=>GD b true (λh=>h e a) (λi d=>ze b true (zg zz 53 c 2) d (oZ b i R f) d) a
def jA:=λa (h:za) d e (R:VK) (f:LK)=>
 opt (zi .eql 3 6 a 3) λb=>CD b (λg=>g [b] h)
 (YG a h)
 (λi c=>CD (nth i 0) (gF d c e R)
 (λj=>j [] c)
 (λl k=>f [] k))
def aB:=λb (c:za) (e:LK)=>
 opt (zi .eql 3 27 b 11) λd=>CD d (λa=>a [d] c)
 (λa=>opt (zi .eql 3 27 b 7) λf=>a [f] c)
 (λg h=>e [nth g 0] h)
def aC:=λa (R:VK) (e:LK) f (b:za)=>
 ze a true (YY zz .not f) b (λg c=>opt (pk a g (.bool false)) λh=>CD h (λd=>rv [] c R)
 (λd=>d [] c)
 (λj i=>e [] i)) b
def ld:=λa d (R:VK) (e:LK) f (b:za)=>
 ze a true (zd zz 3 f b) b (λg c=>GD a true (λh=>zu zz d [g] c (λi j=>h i j)) (aC a R e) c) b
def aD:=λc (a:za) e (R:VK) (f:LK)=>
 zn 53 c 3 3 a λg=>opt (zi .neq 3 33 g (-1)) λb=>GD b true (λh=>h e a) (λi d=>ze b true (zg zz 53 c 3) d (ld b i R f) d) a
def Xh:=λa (b:za) e f (R:VK) (g:LK)=>
 opt (zi .eql 3 27 a 5) λc=>CD c (λh=>h [c] b)
 (aB a b)
 (λi d=>CD (nth i 0) (aD e d f R)
 (λj=>j [] d)
 (λl k=>g [] k))
def Ap:=λd e (a:za) f (R:VK) (g:LK)=>
 vr 22 d (nth e 0) 3 a λh=>zu zz f [h] a (λi b=>opt (YY zz .not i) λj=>CD j (λc=>rv [] b R)
 (λc=>c [] b)
 (λl k=>g [] k))
def Aq:=λb a c (R:VK) (d:LK) (h:List aaa) (e:za)=>
 BK (Ap b a e c R)
 (λi f=>opt (zi .add 3 48 (nth a 0) 1) λg=>d [g] f)
def lf:=λd (e:LK) f g (R:VK) a (b:za) (h:LK)=>
 opt (yo .lss 3 48 47 (nth a 0) d) λi=>CD i (λc=>c [] b)
 (λc=>e [] b)
 (Aq f a g R h)
def Ar:=λc d (R:VK) (i:List aaa) (a:za)=>
 zn 53 c 6 22 a λb=>zT (xE 22 b a) λe f=>BK (λg=>LP (lf e g b d R)
 [pm 0] f)
 (λj h=>rv [] h R)
def Xi:=λb (R:VK) d (g:List aaa) (a:za)=>
 zn 53 b 0 3 a λe=>opt (zi .neq 3 43 e 10) λf=>CD f (λc=>rv [] a R)
 (λc=>c [] a)
 (Ar b d R)
def Oa:=λ(h:za) b a (R:VK)=>
 zn 53 a 0 3 h λd=>BK (jA d h a b R)
 (λf c=>zn 53 a 0 3 c λe=>BK (Xh e c a b R)
 (Xi a R b))
theorem L6(hw:Oa h t0 t1 R):DC zz 43 [t0,t1] h R:=zC mixed (q:=qs) (n:=200) (Eq.mpr (by kernel_rfl) hw)
def cU:=λ(h:za) a b (R:VK)=>
 zu zz (fn 101) [a,b] h (λc d=>opt (zi .geq 3 7 c 0) λe=>rv [e] d R)
theorem mz(hw:cU h t0 t1 R):DC zz 65 [t0,t1] h R:=zC mixed (q:=qs) (n:=200) (Eq.mpr (by kernel_rfl) hw)
def G9:=λ(h:za) b c (R:VK)=>
 opt (nb [b] (some (Value.cells b).toList)) λd=>nw h d 53 λe a=>opt (zd zz 45 c a) λf=>opt (zd zz 53 e a) λg=>zu zz (fn 67) [f,g] a (λi j=>opt (YY zz .not i) λk=>rv [k] j R)
theorem Ha(hw:G9 h t0 t1 R):DC zz 66 [t0,t1] h R:=zC mixed (q:=qs) (n:=200) (Eq.mpr (by kernel_rfl) hw)
def lJ:=λc (L:Nat) (K:VK) (d:LK) e (a:za)=>
 opt (YY zz .not e) λf=>CD f (λb=>opt (yh 4 c (.bool false) a) λg=>Fin L K .ret g)
 (λb=>b [] a)
 (λi h=>d [] h)
def AT:=λb (a:za) c d (L:Nat) (K:VK) (e:LK)=>
 zn 45 b 5 43 a λf=>zT (xE 43 f a) λg h=>zu zz (fn 31) [c,g] h (lJ d L K e)
def r8:=λa b c (f g i j k l m n o p q r s:aaa) (L:Nat) (h:za) (K:VK)=>
 RA L h (λd=>BK (AT a d b c L K)
 (λt e=>Fin L K .normal e))
def AU:=λa f g h i b j k c l m n o p (q:za) (R:VK) (d:LK)=>
 RF zz a (uR zz 67 0).1 (uR zz 67 0).2.1 (uR zz 67 0).2.2 (bT 125 [(0,f),(1,g),(2,h),(3,i),(4,b),(9,j),(10,k),(11,c),(12,c),(13,l),(14,m),(15,n),(16,o),(17,p),(18,a)]) q (λr=>d [] r) (λe=>opt (zd zz 4 b e) λs=>rv [s] e R) (λt u=>cond (Nat.beq t 0) (d [] u) (False))
def lK:=λc (L:Nat) (K:VK) (d:LK) e (a:za)=>
 opt (YY zz .not e) λf=>CD f (λb=>opt (yh 4 c (.bool false) a) λg=>Fin L K .ret g)
 (λb=>b [] a)
 (λi h=>d [] h)
def AV:=λb (a:za) c d (L:Nat) (K:VK) (e:LK)=>
 zn 45 b 2 3 a λf=>zu zz (fn 31) [c,f] a (lK d L K e)
def r9:=λa b c (f g i j k l m n o p q r s t u:aaa) (L:Nat) (h:za) (K:VK)=>
 RA L h (λd=>BK (AV a d b c L K)
 (λv e=>Fin L K .normal e))
def AW:=λa f g h i b j k c l m n o p q r (s:za) (R:VK) (d:LK)=>
 RF zz a (uR zz 67 1).1 (uR zz 67 1).2.1 (uR zz 67 1).2.2 (bT 125 [(0,f),(1,g),(2,h),(3,i),(4,b),(9,j),(10,k),(11,c),(12,c),(13,l),(14,m),(15,n),(16,o),(17,p),(18,q),(26,r),(27,a)]) s (λt=>d [] t) (λe=>opt (zd zz 4 b e) λu=>rv [u] e R) (λv w=>cond (Nat.beq v 2) (d [] w) (False))
def Zv:=λb (c:za) (e:LK)=>
 opt (zi .eql 3 35 b 5) λd=>CD d (λa=>a [d] c)
 (λa=>opt (zi .eql 3 35 b 11) λf=>a [f] c)
 (λg h=>e [nth g 0] h)
def qX:=λa (b:za) (d:LK)=>
 opt (zi .eql 3 35 a 14) λc=>CD c (λe=>e [c] b)
 (Zv a b)
 (λf g=>d [nth f 0] g)
def qk:=λa (b:za) (d:LK)=>
 opt (zi .eql 3 35 a 6) λc=>CD c (λe=>e [c] b)
 (qX a b)
 (λf g=>d [nth f 0] g)
def uM:=λa (b:za) (d:LK)=>
 opt (zi .eql 3 35 a 4) λc=>CD c (λe=>e [c] b)
 (qk a b)
 (λf g=>d [nth f 0] g)
def QU:=λe a (R:VK) (f:LK) g (b:za)=>
 opt (pk e (.bool true) g) λh=>CD h (λc=>opt (yh 4 a (.bool false) b) λd=>opt (zd zz 4 a d) λi=>rv [i] d R)
 (λc=>c [] b)
 (λk j=>f [] j)
def QV:=λa c (R:VK) (d:LK) e (b:za)=>
 ze a false (zi .eql 3 53 e (-1)) b (QU a c R d) b
def ey:=λe (a:za) b (R:VK) (f:LK)=>
 zn 53 e 4 3 a λg=>opt (zi .eql 3 59 g (-1)) λh=>CD h (λc=>opt (yh 4 b (.bool true) a) λd=>opt (zd zz 4 b d) λi=>rv [i] d R)
 (λc=>c [] a)
 (λk j=>f [] j)
def QW:=λd (a:za) e (R:VK) (f:LK)=>
 zn 53 d 2 3 a λg=>opt (zi .eql 3 49 g (-1)) λb=>ze b false (zg zz 53 d 3) a (λh c=>ze b false (zd zz 3 h c) c (QV b e R f) c) a
def QX:=λb c (a:za) d (R:VK) (e:LK)=>
 opt (zi .eql 3 35 b 10) λf=>CD f (ey c a d R)
 (λg=>g [] a)
 (λi h=>e [] h)
def VR:=λe (a:za) b (R:VK) (f:LK)=>
 zn 53 e 2 3 a λg=>opt (zi .eql 3 44 g (-1)) λh=>CD h (λc=>opt (yh 4 b (.bool false) a) λd=>opt (zd zz 4 b d) λi=>rv [i] d R)
 (λc=>c [] a)
 (λk j=>f [] j)
def Yp:=λa b (c:za) d (R:VK) (e:LK)=>
 opt (zi .eql 3 35 a 7) λf=>CD f (QW b c d R)
 (QX a b c d R)
 (λh g=>e [] g)
def uj:=λa (b:za) c d (R:VK) (g:LK)=>
 opt (zi .eql 3 35 a 3) λe=>CD e (λh=>h [e] b)
 (uM a b)
 (λi f=>CD (nth i 0) (VR c f d R)
 (Yp a c f d R)
 (λk j=>g [] j))
def QY:=λe a (R:VK) (f:LK) g (b:za)=>
 opt (pk e (.bool true) g) λh=>CD h (λc=>opt (yh 4 a (.bool false) b) λd=>opt (zd zz 4 a d) λi=>rv [i] d R)
 (λc=>c [] b)
 (λk j=>f [] j)
def QZ:=λa c (R:VK) (d:LK) e (b:za)=>
 ze a false (zi .gtr 3 70 e 4) b (QY a c R d) b
def eC:=λa (R:VK) (e:LK) f (b:za)=>
 opt (YY zz .not f) λg=>CD g (λc=>opt (yh 4 a (.bool false) b) λd=>opt (zd zz 4 a d) λh=>rv [h] d R)
 (λc=>c [] b)
 (λj i=>e [] i)
def eD:=λa (R:VK) (f:LK) b (c:za)=>
 opt (Yt b 0) λk=>opt (Yt b 1) λg=>opt (YY zz .not g) λh=>CD h (λd=>opt (yh 4 a (.bool false) c) λe=>opt (zd zz 4 a e) λi=>rv [i] e R)
 (λd=>d [] c)
 (λl j=>f [] j)
def eE:=λa (R:VK) (e:LK) f (b:za)=>
 opt (YY zz .not f) λg=>CD g (λc=>opt (yh 4 a (.bool false) b) λd=>opt (zd zz 4 a d) λh=>rv [h] d R)
 (λc=>c [] b)
 (λj i=>e [] i)
def Q0:=λe a (R:VK) (f:LK) g (b:za)=>
 opt (pk e (.bool true) g) λh=>CD h (λc=>opt (yh 4 a (.bool false) b) λd=>opt (zd zz 4 a d) λi=>rv [i] d R)
 (λc=>c [] b)
 (λk j=>f [] j)
def Q1:=λa c d (R:VK) (e:LK) f (b:za)=>
 ze a false (yo .gtr 2 103 105 c f) b (Q0 a d R e) b
def Q3:=λa d e (R:VK) (f:LK) g (c:za)=>
 ze a false (zg zz 45 d 3) c (λh b=>ze a false (zd zz 3 h b) b (Q1 a g e R f) b) c
def Q5:=λd (a:za) e f (R:VK) (g:LK)=>
 zn 53 d 5 2 a λh=>opt (zi .lss 2 99 h 0) λb=>ze b false (zg zz 53 d 5) a (λi c=>ze b false (zd zz 2 i c) c (Q3 b e f R g) c) a
def eH:=λb (a:za) c (R:VK) (d:LK)=>
 zn 53 b 1 3 a λe=>zu zz (fn 104) [e] a (eE c R d)
def VS:=λb c (a:za) d e (R:VK) (f:LK)=>
 opt (zi .eql 3 62 b 9) λg=>CD g (Q5 c a d e R)
 (λh=>h [] a)
 (λj i=>f [] i)
def Yq:=λa (c:za) d e (R:VK) h (i:LK)=>
 opt (zi .eql 3 62 a 6) λf=>CD f (λb=>b [f] c)
 (λb=>opt (zi .eql 3 62 a 7) λj=>b [j] c)
 (λk g=>CD (nth k 0) (eH d g e R)
 (VS a d g h e R)
 (λm l=>i [] l))
def Zp:=λb c (a:za) d (R:VK) e (f:LK)=>
 opt (zi .eql 3 62 b 11) λg=>CD g (λh=>zn 53 c 1 3 a λi=>zu zz (fn 103) [i] a (eD d R h))
 (Yq b a c d R e)
 (λk j=>f [] j)
def Q6:=λd (a:za) e (R:VK) (f:LK)=>
 zn 53 d 1 3 a λg=>opt (zi .lss 3 66 g 1) λb=>ze b false (zg zz 53 d 1) a (λh c=>ze b false (zd zz 3 h c) c (QZ b e R f) c) a
def jo:=λb c (a:za) d (R:VK) e (f:LK)=>
 opt (zi .eql 3 62 b 5) λg=>CD g (λh=>zn 53 c 1 3 a λi=>zu zz (fn 102) [i] a (eC d R h))
 (Zp b c a d R e)
 (λk j=>f [] j)
def vH:=λa b (c:za) d (R:VK) e (f:LK)=>
 opt (zi .eql 3 62 a 4) λg=>CD g (Q6 b c d R)
 (jo a b c d R e)
 (λi h=>f [] h)
def Q7:=λb (c:za) (e:LK)=>
 opt (zi .eql 3 109 b 13) λd=>CD d (λa=>a [d] c)
 (λa=>opt (zi .eql 3 109 b 10) λf=>a [f] c)
 (λg h=>e [nth g 0] h)
def VT:=λa (b:za) (d:LK)=>
 opt (zi .eql 3 109 a 9) λc=>CD c (λe=>e [c] b)
 (Q7 a b)
 (λf g=>d [nth f 0] g)
def XX:=λa (b:za) (d:LK)=>
 opt (zi .eql 3 109 a 8) λc=>CD c (λe=>e [c] b)
 (VT a b)
 (λf g=>d [nth f 0] g)
def Yr:=λa (b:za) (d:LK)=>
 opt (zi .eql 3 109 a 6) λc=>CD c (λe=>e [c] b)
 (XX a b)
 (λf g=>d [nth f 0] g)
def Zq:=λa (b:za) (d:LK)=>
 opt (zi .eql 3 109 a 5) λc=>CD c (λe=>e [c] b)
 (Yr a b)
 (λf g=>d [nth f 0] g)
def jq:=λa (b:za) (d:LK)=>
 opt (zi .eql 3 109 a 4) λc=>CD c (λe=>e [c] b)
 (Zq a b)
 (λf g=>d [nth f 0] g)
def qY:=λa (b:za) (d:LK)=>
 opt (zi .eql 3 109 a 3) λc=>CD c (λe=>e [c] b)
 (jq a b)
 (λf g=>d [nth f 0] g)
def eI:=λd (a:za) e b (R:VK) (k:LK)=>
 zn 53 d 4 3 a λf=>zn 45 e 2 3 a λg=>zu zz (fn 31) [f,g] a (λh i=>opt (yh 4 b h i) λc=>opt (zd zz 4 b c) λj=>rv [j] c R)
def ql:=λa (b:za) e f g (R:VK) (h:LK)=>
 opt (zi .eql 3 109 a 2) λc=>CD c (λi=>i [c] b)
 (qY a b)
 (λj d=>CD (nth j 0) (eI e d f g R)
 (λk=>k [] d)
 (λm l=>h [] l))
def wL:=λb e a (R:VK) (i:List aaa) (c:za)=>
 zn 53 b 0 3 c λf=>BK (ql f c b e a R)
 (λj g=>opt (yh 4 a (.bool true) g) λd=>opt (zd zz 4 a d) λh=>rv [h] d R)
def eJ:=λa b (R:VK) c (h:List aaa) (d:za)=>
 zn 53 a 0 3 d λf=>BK (uj f d a b R)
 (λi e=>zn 53 a 0 3 e λg=>BK (vH g a e b R c)
 (wL a c b R))
def eK:=λa f g b c h i j k l m n o p (R:VK) (s:List aaa) (d:za)=>
 opt (zd zz 53 a d) λe=>zu zz (fn 20) [e] d (λq r=>BK (AW q f g b a c h i j k l m n o p e r R)
 (eJ a c R b))
def eN:=λa c d e f g h i j k l m (R:VK) (q:List aaa) (n:za)=>
 opt (zd zz 53 a n) λb=>zu zz (fn 19) [b] n (λo p=>BK (AU o c d e a f g h i j k l m b p R)
 (eK a c d e f g h i j k l m b o R))
def Q8:=λb a (R:VK) h i j k l m n o c (d:za)=>
 opt (pk b (.bool true) c) λe=>CD e (λf=>opt (yh 4 a (.bool false) d) λg=>opt (zd zz 4 a g) λp=>rv [p] g R)
 (λf=>f [] d)
 (eN h i j k a l m b n o c e R)
def Q9:=λa d (R:VK) e f g h i j k b (c:za)=>
 ze a false (zi .gtr 3 14 b 14) c (Q8 a d R e f g h i j k b) c
theorem AX(t2 t19 t4 t0 t1 t3 t9 t10 t11 t12 t13 t14 t15 t16 t17 t18:aaa)(L:Nat)(h:za)(K:VK):SN zz (nE zz qs) 150 52 0 L (uR zz 67 0).2.1 (uR zz 67 0).2.2 (bT 125 [(0,t0),(1,t1),(2,t2),(3,t3),(4,t4),(9,t9),(10,t10),(11,t11),(12,t12),(13,t13),(14,t14),(15,t15),(16,t16),(17,t17),(18,t18),(19,t19)]) h K=r8 t2 t19 t4 t0 t1 t3 t9 t10 t11 t12 t13 t14 t15 t16 t17 t18 L h K:=by kernel_rfl
theorem AY(t2 t28 t4 t0 t1 t3 t9 t10 t11 t12 t13 t14 t15 t16 t17 t18 t26 t27:aaa)(L:Nat)(h:za)(K:VK):SN zz (nE zz qs) 150 84 0 L (uR zz 67 1).2.1 (uR zz 67 1).2.2 (bT 125 [(0,t0),(1,t1),(2,t2),(3,t3),(4,t4),(9,t9),(10,t10),(11,t11),(12,t12),(13,t13),(14,t14),(15,t15),(16,t16),(17,t17),(18,t18),(26,t26),(27,t27),(28,t28)]) h K=r9 t2 t28 t4 t0 t1 t3 t9 t10 t11 t12 t13 t14 t15 t16 t17 t18 t26 t27 L h K:=by kernel_rfl
def HM:=λ(h:za) a b (R:VK)=>
 opt (nb [a] (some (Value.cells a).toList)) λk=>nw h k 45 λl m=>opt (nb [b] (some (Value.cells b).toList)) λn=>nw m n 53 λc o=>qe 4 o λp d=>opt (zg zz 53 c 0) λg=>opt (zd zz 3 g d) λi=>opt (zi .lss 3 10 i 1) λe=>ze e false (zg zz 53 c 0) d (λj f=>ze e false (zd zz 3 j f) f (Q9 e p R c a b l g i j) f) d
theorem HN(hw:HM h t0 t1 R):DC zz 67 [t0,t1] h R:=zC mixed (q:=qs) (n:=200) (Eq.mpr (by kernel_rfl) hw)
def aI:=λc (R:VK) d (e:LK) f (a:za)=>
 opt (pk c (.bool true) f) λg=>CD g (λb=>rv [.bool false] a R)
 (λb=>b [nth d 0] a)
 (λh i=>e [nth h 0] i)
def aJ:=λa d (R:VK) e (f:LK) g (b:za)=>
 ze a false (zd zz 3 g b) b (λh c=>ze a false (yo .geq 3 67 69 d h) c (aI a R e f) c) b
def aK:=λa d (R:VK) e (f:LK) g (b:za)=>
 ze a false (zd zz 3 g b) b (λh c=>ze a false (zg zz 45 d 2) c (aJ a h R e f) c) b
def aL:=λa b e (R:VK) (f:LK) g (c:za)=>
 GD a false (λh=>h (nth b 1) c) (λi d=>ze a false (ym zz 22 g i) d (aK a e R b f) d) c
def aM:=λb c (a:za) e (R:VK) (f:LK)=>
 vr 22 b (nth c 1) 3 a λg=>opt (zi .lss 3 61 g 0) λd=>GD d false (λh=>h b a) (aL d c e R f) a
def AB:=λa (b:LK) c (d:za)=>
 opt (zi .add 3 56 (nth a 1) 1) λe=>b [nth c 0,e] d
def UY:=λb (e:LK) f (R:VK) a (g:za) (h:LK)=>
 zT (xE 22 b g) λi c=>opt (yo .lss 3 52 54 (nth a 1) i) λj=>CD j (λd=>d [] c)
 (λd=>e [nth a 0] c)
 (λl k=>BK (aM b a k f R)
 (AB a h))
def aN:=λc (R:VK) d (e:LK) f (a:za)=>
 opt (pk c (.bool true) f) λg=>CD g (λb=>rv [.bool false] a R)
 (λb=>b [nth d 0] a)
 (λh i=>e [nth h 0] i)
def aO:=λa c (R:VK) d (e:LK) f (b:za)=>
 ze a false (yo .geq 3 99 102 c f) b (aN a R d e) b
def QF:=λa d (R:VK) e (f:LK) g (b:za)=>
 ze a false (zd zz 43 g b) b (λh c=>GD a false (λi=>zT (xE 43 h c) λj _=>i j c) (aO a d R e f) c) b
def QG:=λa d (R:VK) e (f:LK) g (b:za)=>
 ze a false (zd zz 3 g b) b (λh c=>ze a false (zg zz 45 d 5) c (QF a h R e f) c) b
def QH:=λa b e (R:VK) (f:LK) g (c:za)=>
 GD a false (λh=>h (nth b 1) c) (λi d=>ze a false (ym zz 22 g i) d (QG a e R b f) d) c
def QI:=λb c (a:za) e (R:VK) (f:LK)=>
 vr 22 b (nth c 1) 3 a λg=>opt (zi .lss 3 93 g 0) λd=>GD d false (λh=>h b a) (QH d c e R f) a
def rU:=λa (b:LK) c (d:za)=>
 opt (zi .add 3 88 (nth a 1) 1) λe=>b [nth c 0,e] d
def VM:=λb (e:LK) f (R:VK) a (g:za) (h:LK)=>
 zT (xE 22 b g) λi c=>opt (yo .lss 3 84 86 (nth a 1) i) λj=>CD j (λd=>d [] c)
 (λd=>e [nth a 0] c)
 (λl k=>BK (QI b a k f R)
 (rU a h))
def vA:=λb (c:za) (e:LK)=>
 opt (zi .eql 3 106 b 8) λd=>CD d (λa=>a [d] c)
 (λa=>opt (zi .eql 3 106 b 10) λf=>a [f] c)
 (λg h=>e [nth g 0] h)
def vB:=λa (b:za) (d:LK)=>
 opt (zi .eql 3 106 a 14) λc=>CD c (λe=>e [c] b)
 (vA a b)
 (λf g=>d [nth f 0] g)
def vC:=λa (b:za) (d:LK)=>
 opt (zi .eql 3 106 a 13) λc=>CD c (λe=>e [c] b)
 (vB a b)
 (λf g=>d [nth f 0] g)
def vD:=λa (b:za) (d:LK)=>
 opt (zi .eql 3 106 a 12) λc=>CD c (λe=>e [c] b)
 (vC a b)
 (λf g=>d [nth f 0] g)
def vE:=λa (b:za) (d:LK)=>
 opt (zi .eql 3 106 a 3) λc=>CD c (λe=>e [c] b)
 (vD a b)
 (λf g=>d [nth f 0] g)
def vF:=λa (b:za) (d:LK)=>
 opt (zi .eql 3 106 a 2) λc=>CD c (λe=>e [c] b)
 (vE a b)
 (λf g=>d [nth f 0] g)
def dO:=λa (R:VK) c (b:za)=>
 ze a true (zi .leq 3 123 c 4) b (λd e=>opt (pk a d (.bool false)) λf=>rv [f] e R) b
def dP:=λa (R:VK) c (b:za)=>
 ze a true (zi .leq 3 133 c 26) b (λd e=>opt (pk a d (.bool false)) λf=>rv [f] e R) b
def dQ:=λa (R:VK) c (b:za)=>
 ze a true (zi .leq 3 143 c 26) b (λd e=>opt (pk a d (.bool false)) λf=>rv [f] e R) b
def QJ:=λa (R:VK) c (b:za)=>
 ze a false (zi .eql 3 159 c 8) b (λd e=>opt (pk a (.bool true) d) λf=>rv [f] e R) b
def QK:=λd e (R:VK) f (c:za)=>
 opt (pk d (.bool true) f) λa=>ze a false (zg zz 53 e 1) c (λg b=>ze a false (zd zz 3 g b) b (QJ a R) b) c
def QL:=λa c (R:VK) d (b:za)=>
 ze a false (zi .eql 3 154 d 4) b (QK a c R) b
def dR:=λa c (R:VK) d (b:za)=>
 ze a true (yo .leq 2 169 171 c d) b (λe f=>opt (pk a e (.bool false)) λg=>rv [g] f R) b
def dS:=λa d (R:VK) e (c:za)=>
 ze a true (zg zz 45 d 3) c (λf b=>ze a true (zd zz 3 f b) b (dR a e R) b) c
def dU:=λd (a:za) e (R:VK) (h:LK)=>
 zn 53 d 5 2 a λf=>opt (zi .geq 2 165 f 0) λb=>ze b true (zg zz 53 d 5) a (λg c=>ze b true (zd zz 2 g c) c (dS b e R) c) a
def QM:=λa (b:za) (R:VK) (g:LK)=>
 zn 53 a 1 3 b λe=>opt (zi .eql 3 150 e 1) λc=>ze c false (zg zz 53 a 1) b (λf d=>ze c false (zd zz 3 f d) d (QL c a R) d) b
def QN:=λb c (a:za) d (R:VK) e (f:LK)=>
 opt (zi .eql 3 106 b 9) λg=>CD g (dU c a d R)
 (λh=>h [nth e 0] a)
 (λi j=>f [nth i 0] j)
def dV:=λd (a:za) (R:VK) (g:LK)=>
 zn 53 d 1 3 a λe=>opt (zi .geq 3 139 e 21) λb=>ze b true (zg zz 53 d 1) a (λf c=>ze b true (zd zz 3 f c) c (dQ b R) c) a
def Yk:=λa (c:za) d (R:VK) g h (i:LK)=>
 opt (zi .eql 3 106 a 6) λe=>CD e (λb=>b [e] c)
 (λb=>opt (zi .eql 3 106 a 7) λj=>b [j] c)
 (λk f=>CD (nth k 0) (QM d f R)
 (QN a d f g R h)
 (λl m=>i [nth l 0] m))
def dW:=λd (a:za) (R:VK) (g:LK)=>
 zn 53 d 1 3 a λe=>opt (zi .geq 3 129 e 11) λb=>ze b true (zg zz 53 d 1) a (λf c=>ze b true (zd zz 3 f c) c (dP b R) c) a
def ja:=λa b (c:za) (R:VK) d e (f:LK)=>
 opt (zi .eql 3 106 a 11) λg=>CD g (dV b c R)
 (Yk a c b R d e)
 (λh i=>f [nth h 0] i)
def dX:=λd (a:za) (R:VK) (g:LK)=>
 zn 53 d 1 3 a λe=>opt (zi .geq 3 119 e 1) λb=>ze b true (zg zz 53 d 1) a (λf c=>ze b true (zd zz 3 f c) c (dO b R) c) a
def qj:=λa b (c:za) (R:VK) d e (f:LK)=>
 opt (zi .eql 3 106 a 5) λg=>CD g (dW b c R)
 (ja a b c R d e)
 (λh i=>f [nth h 0] i)
def ug:=λa b (c:za) (R:VK) d e (f:LK)=>
 opt (zi .eql 3 106 a 4) λg=>CD g (dX b c R)
 (qj a b c R d e)
 (λh i=>f [nth h 0] i)
def vG:=λa (b:za) (R:VK) e f g (h:LK)=>
 opt (zi .eql 3 106 a 1) λc=>CD c (λi=>i [c] b)
 (vF a b)
 (λj d=>CD (nth j 0) (λm=>rv [.bool true] d R)
 (ug a e d R f g)
 (λk l=>h [nth k 0] l))
def vk:=λa (R:VK) c d (b:za)=>
 zn 53 a 0 3 b λe=>BK (vG e b R a c d)
 (λg f=>rv [.bool false] f R)
def dY:=λa b (R:VK) d (c:za)=>
 opt (zd zz 53 a c) λe=>zu zz (fn 113) [e] c (λf g=>BK (λh=>LP (VM f h b R)
 [nth d 0,pm 0] g)
 (vk a R b))
def QO:=λa (R:VK) e f g h (b:za)=>
 ze a false (zi .lss 3 79 h (-1)) b (λi c=>opt (pk a (.bool true) i) λj=>CD j (λd=>rv [.bool false] c R)
 (λd=>d [nth e 0] c)
 (dY f g R)) b
def QP:=λd (a:za) e (R:VK) f g=>
 zn 45 d 2 3 a λh=>opt (yo .geq 3 73 75 g h) λb=>ze b false (zd zz 53 e a) a (λi c=>GD b false (λj=>qd zz 54 [i] c (λk=>j k c)) (QO b R f e d) c) a
def dZ:=λb (R:VK) d c e (f:za)=>
 BK (λg=>LP (UY e g b R)
 [nth d 0,pm 0] f)
 (λh a=>opt (zd zz 53 c a) λi=>qd zz 54 [i] a (QP b a c R h))
def Yl:=λe (R:VK) a f g (b:za)=>
 opt (pk e (.bool true) g) λh=>CD h (λc=>rv [.bool false] b R)
 (λc=>c [.bool false] b)
 (λi d=>opt (zd zz 53 a d) λj=>zu zz (fn 53) [j] d (dZ f R i a))
def XP:=λa b (R:VK) e f g (c:za)=>
 ze a true (zi .lss 3 46 g (-1)) c (λh d=>ze b false (pk a h (.bool false)) d (Yl b R e f) d) c
def XQ:=λc e (R:VK) f a (d:za)=>
 ze a true (zg zz 53 c 4) d (λg b=>ze a true (zd zz 3 g b) b (XP a e R c f) b) d
def XR:=λa d (R:VK) e f (b:za)=>
 ze a false (zi .eql 3 42 f 10) b (λg c=>GD a false (λh=>h g c) (XQ d a R e) c) b
def Ym:=λe c (R:VK) f g (d:za)=>
 opt (pk e (.bool true) g) λa=>ze a false (zg zz 53 c 0) d (λh b=>ze a false (zd zz 3 h b) b (XR a c R f) b) d
def VN:=λa b e (R:VK) f g (c:za)=>
 ze a true (zi .eql 3 36 g (-1)) c (λh d=>ze b false (pk a h (.bool false)) d (Ym b e R f) d) c
def VO:=λc e (R:VK) f a (b:za)=>
 ze a true (zd zz 53 c b) b (λg d=>GD a true (λh=>zu zz (fn 54) [g] d (λi j=>h i j)) (VN a e c R f) d) b
def XS:=λd e f (R:VK) g h (b:za)=>
 opt (pk d (.bool true) h) λa=>GD a false (λi=>i e b) (λj c=>GD a false (λk=>k j c) (VO f a R g) c) b
def QQ:=λa b e f (R:VK) g h (c:za)=>
 ze a true (zi .eql 3 28 h (-1)) c (λi d=>ze b false (pk a i (.bool false)) d (XS b e f R g) d) c
def QR:=λc e f (R:VK) g a (d:za)=>
 ze a true (zg zz 53 c 3) d (λh b=>ze a true (zd zz 3 h b) b (QQ a e f c R g) b) d
def VP:=λd e f g (R:VK) h i (b:za)=>
 opt (pk d i (.bool false)) λa=>GD a false (λj=>j e b) (λk c=>GD a false (λl=>l k c) (QR f a g R h) c) b
def eg:=λa c d e (R:VK) f g (b:za)=>
 ze a true (zi .eql 3 21 g (-1)) b (VP a c d e R f) b
def eh:=λd (R:VK) f a (e:za)=>
 opt (Yt a 0) λb=>opt (Yt a 1) λg=>opt (Yt a 2) λh=>ze b true (zg zz 53 d 2) e (λi c=>ze b true (zd zz 3 i c) c (eg b g d h R f) c) e
def HB:=λ(h:za) a b (R:VK)=>
 opt (nb [a] (some (Value.cells a).toList)) λe=>nw h e 45 λf g=>opt (nb [b] (some (Value.cells b).toList)) λi=>nw g i 53 λc d=>opt (zd zz 53 c d) λj=>zu zz (fn 112) [j] d (eh c R f)
theorem HC(hw:HB h t0 t1 R):DC zz 73 [t0,t1] h R:=zC mixed (q:=qs) (n:=200) (Eq.mpr (by kernel_rfl) hw)
def Kx:=λd (a:za) b e (R:VK) (f:LK)=>
 zn 53 d 6 22 a λg=>vr 22 g (nth b 1) 3 a λh=>zn 53 e 6 22 a λi=>vr 22 i (nth b 1) 3 a λj=>opt (yo .neq 3 80 85 h j) λk=>CD k (λc=>rv [.bool false] a R)
 (λc=>c [nth b 0] a)
 (λl m=>f [nth l 0] m)
def iQ:=λa (b:LK) c (d:za)=>
 opt (zi .add 3 74 (nth a 1) 1) λe=>b [nth c 0,e] d
def Y0:=λb (f:LK) g (R:VK) a (c:za) (h:LK)=>
 zn 53 b 6 22 c λi=>zT (xE 22 i c) λj d=>opt (yo .lss 3 69 72 (nth a 1) j) λk=>CD k (λe=>e [] d)
 (λe=>f [nth a 0] d)
 (λm l=>BK (Kx b l a g R)
 (iQ a h))
def vS:=λc (R:VK) d e f (a:za)=>
 opt (pk c (.bool true) f) λg=>CD g (λb=>rv [.bool false] a R)
 (λb=>b [.bool false] a)
 (λh i=>BK (λj=>LP (Y0 d j e R)
 [nth h 0,pm 0] i)
 (λl k=>rv [.bool true] k R))
def vT:=λa e (R:VK) f g h (c:za)=>
 GD a false (λi=>zT (xE 22 h c) λb j=>i b j) (λb d=>ze a false (yo .neq 3 63 66 e b) d (vS a R f g) d) c
def vU:=λa c (R:VK) e f (d:za)=>
 ze a false (zg zz 53 c 6) d (λg b=>ze a false (zd zz 22 g b) b (vT a f R e c) b) d
def vV:=λa d (R:VK) e f (b:za)=>
 ze a false (zd zz 22 f b) b (λg c=>GD a false (λh=>zT (xE 22 g c) λi j=>h i j) (vU a d R e) c) b
def vW:=λa f b g (R:VK) h (c:za)=>
 ze a false (yo .neq 3 55 57 f h) c (λi d=>opt (pk a (.bool true) i) λe=>ze e false (zg zz 53 b 6) d (vV e g R b) d) c
def vX:=λa c e (R:VK) f (d:za)=>
 ze a false (zg zz 53 c 8) d (λg b=>ze a false (zd zz 3 g b) b (vW a f e c R) b) d
def wW:=λe c f (R:VK) g (d:za)=>
 opt (pk e (.bool true) g) λa=>ze a false (zg zz 53 c 8) d (λh b=>ze a false (zd zz 3 h b) b (vX a f c R) b) d
def wX:=λa d e f (R:VK) g (b:za)=>
 ze a false (zd zz 3 g b) b (λh c=>ze a false (yo .neq 3 48 50 d h) c (wW a e f R) c) b
def wY:=λa c e (R:VK) f (b:za)=>
 ze a false (zd zz 3 f b) b (λg d=>ze a false (zg zz 53 c 7) d (wX a g e c R) d) b
def wZ:=λa f b g (R:VK) h (c:za)=>
 ze a false (yo .neq 2 41 43 f h) c (λi d=>opt (pk a (.bool true) i) λe=>ze e false (zg zz 53 b 7) d (wY e g b R) d) c
def w6:=λa c e (R:VK) f (d:za)=>
 ze a false (zg zz 53 c 5) d (λg b=>ze a false (zd zz 2 g b) b (wZ a f e c R) b) d
def w7:=λe c f (R:VK) g (d:za)=>
 opt (pk e (.bool true) g) λa=>ze a false (zg zz 53 c 5) d (λh b=>ze a false (zd zz 2 h b) b (w6 a f c R) b) d
def w8:=λa d e f (R:VK) g (b:za)=>
 ze a false (zd zz 3 g b) b (λh c=>ze a false (yo .neq 3 34 36 d h) c (w7 a e f R) c) b
def w9:=λa c e (R:VK) f (b:za)=>
 ze a false (zd zz 3 f b) b (λg d=>ze a false (zg zz 53 c 4) d (w8 a g e c R) d) b
def vd:=λa f b g (R:VK) h (c:za)=>
 ze a false (yo .neq 3 27 29 f h) c (λi d=>opt (pk a (.bool true) i) λe=>ze e false (zg zz 53 b 4) d (w9 e g b R) d) c
def ve:=λa c e (R:VK) f (d:za)=>
 ze a false (zg zz 53 c 3) d (λg b=>ze a false (zd zz 3 g b) b (vd a f e c R) b) d
def vf:=λe c f (R:VK) g (d:za)=>
 opt (pk e (.bool true) g) λa=>ze a false (zg zz 53 c 3) d (λh b=>ze a false (zd zz 3 h b) b (ve a f c R) b) d
def vg:=λa d e f (R:VK) g (b:za)=>
 ze a false (zd zz 3 g b) b (λh c=>ze a false (yo .neq 3 20 22 d h) c (vf a e f R) c) b
def vh:=λa c e (R:VK) f (b:za)=>
 ze a false (zd zz 3 f b) b (λg d=>ze a false (zg zz 53 c 2) d (vg a g e c R) d) b
def vi:=λa f b g (R:VK) h (c:za)=>
 ze a false (yo .neq 3 13 15 f h) c (λi d=>opt (pk a (.bool true) i) λe=>ze e false (zg zz 53 b 2) d (vh e g b R) d) c
def vj:=λa c e (R:VK) f (d:za)=>
 ze a false (zg zz 53 c 1) d (λg b=>ze a false (zd zz 3 g b) b (vi a f e c R) b) d
def rQ:=λ(h:za) e f (R:VK)=>
 opt (nb [e] (some (Value.cells e).toList)) λi=>nw h i 53 λb j=>opt (nb [f] (some (Value.cells f).toList)) λk=>nw j k 53 λg a=>zn 53 b 0 3 a λl=>zn 53 g 0 3 a λm=>opt (yo .neq 3 7 9 l m) λc=>ze c false (zg zz 53 b 1) a (λn d=>ze c false (zd zz 3 n d) d (vj c g b R) d) a
theorem Ah(hw:rQ h t0 t1 R):DC zz 64 [t0,t1] h R:=zC mixed (q:=qs) (n:=200) (Eq.mpr (by kernel_rfl) hw)
def iO:=λe a (b:za) f (R:VK) (g:LK)=>
 vr 43 e (nth a 1) 53 b λh=>zu zz f [h] b (λi c=>CD i (λd=>rv [nth a 1] c R)
 (λd=>d [nth a 0] c)
 (λj k=>g [nth j 0] k))
def iP:=λb a c (R:VK) (d:LK) (i:List aaa) (e:za)=>
 BK (iO b a e c R)
 (λf g=>opt (zi .add 3 8 (nth a 1) 1) λh=>d [nth f 0,h] g)
def Kw:=λd (e:LK) f g (R:VK) a (b:za) (h:LK)=>
 opt (yo .lss 3 8 7 (nth a 1) d) λi=>CD i (λc=>c [] b)
 (λc=>e [nth a 0] b)
 (iP f a g R h)
def rP:=λ(h:za) a b (R:VK)=>
 zT (xE 43 a h) λc d=>BK (λe=>LP (Kw c e a b R)
 [pm 0,pm 0] d)
 (λg f=>rv [pm (-1)] f R)
theorem tW(hw:rP h t0 t1 R):DC zz 101 [t0,t1] h R:=zC mixed (q:=qs) (n:=200) (Eq.mpr (by kernel_rfl) hw)
def Kz:=λa (R:VK) c (b:za)=>
 ze a true (zi .leq 3 6 c 26) b (λd e=>opt (pk a d (.bool false)) λf=>rv [f] e R) b
def rZ:=λ(h:za) a (R:VK)=>
 opt (zi .geq 3 3 a 11) λb=>GD b true (λc=>c a h) (Kz b R) h
theorem AN(hw:rZ h t0 R):DC zz 102 [t0] h R:=zC mixed (q:=qs) (n:=200) (Eq.mpr (by kernel_rfl) hw)
def tV:=λc (h:za) (R:VK) (d:LK)=>
 opt (zi .eql 3 4 c 25) λe=>CD e (λa=>rv [pm 24,.bool true] h R)
 (λa=>a [pm 0,.bool false] h)
 (λb f=>d [nth b 0,nth b 1] f)
def mC:=λa (h:za) (R:VK) (c:LK)=>
 opt (zi .eql 3 4 a 24) λd=>CD d (λf=>rv [pm 25,.bool true] h R)
 (tV a h R)
 (λb e=>c [nth b 0,nth b 1] e)
def cV:=λa (h:za) (R:VK) (c:LK)=>
 opt (zi .eql 3 4 a 26) λd=>CD d (λf=>rv [pm 23,.bool true] h R)
 (mC a h R)
 (λb e=>c [nth b 0,nth b 1] e)
def KQ:=λa (h:za) (R:VK) (c:LK)=>
 opt (zi .eql 3 4 a 23) λd=>CD d (λf=>rv [pm 26,.bool true] h R)
 (cV a h R)
 (λb e=>c [nth b 0,nth b 1] e)
def UR:=λa (h:za) (R:VK) (c:LK)=>
 opt (zi .eql 3 4 a 22) λd=>CD d (λf=>rv [pm 21,.bool true] h R)
 (KQ a h R)
 (λb e=>c [nth b 0,nth b 1] e)
def VJ:=λa (h:za) (R:VK) (c:LK)=>
 opt (zi .eql 3 4 a 21) λd=>CD d (λf=>rv [pm 22,.bool true] h R)
 (UR a h R)
 (λb e=>c [nth b 0,nth b 1] e)
def S8:=λ(h:za) a (R:VK)=>
 BK (VJ a h R)
 (λc b=>rv [pm 0,.bool false] b R)
theorem PO(hw:S8 h t0 R):DC zz 103 [t0] h R:=zC mixed (q:=qs) (n:=200) (Eq.mpr (by kernel_rfl) hw)
def gI:=λa (R:VK) c (b:za)=>
 ze a false (zi .eql 3 10 c 8) b (λd e=>opt (pk a (.bool true) d) λf=>rv [f] e R) b
def gJ:=λa e (R:VK) f (b:za)=>
 ze a false (zi .eql 3 6 f 4) b (λg c=>opt (pk a (.bool true) g) λd=>GD d false (λh=>h e c) (gI d R) c) b
def Oe:=λ(h:za) a (R:VK)=>
 opt (zi .eql 3 3 a 1) λb=>GD b false (λc=>c a h) (gJ b a R) h
theorem L9(hw:Oe h t0 R):DC zz 104 [t0] h R:=zC mixed (q:=qs) (n:=200) (Eq.mpr (by kernel_rfl) hw)
def Zb:=λb (c:za) (e:LK)=>
 opt (zi .eql 3 6 b 5) λd=>CD d (λa=>a [d] c)
 (λa=>opt (zi .eql 3 6 b 6) λf=>a [f] c)
 (λg h=>e [nth g 0] h)
def kY:=λa (b:za) (d:LK)=>
 opt (zi .eql 3 6 a 4) λc=>CD c (λe=>e [c] b)
 (Zb a b)
 (λf g=>d [nth f 0] g)
def gW:=λb (c:za) (e:LK)=>
 opt (zi .eql 3 6 b 9) λd=>CD d (λa=>a [d] c)
 (λa=>opt (zi .eql 3 6 b 13) λf=>a [f] c)
 (λg h=>e [nth g 0] h)
def Jn:=λa (b:za) (d:LK)=>
 opt (zi .eql 3 6 a 8) λc=>CD c (λe=>e [c] b)
 (gW a b)
 (λf g=>d [nth f 0] g)
def Uy:=λ(R:VK) (d:LK) e (b:za)=>
 CD (nth e 0) (λc=>rv [.bool false,.bool false,.bool true] b R)
 (λc=>c [.bool false,.bool false,.bool false] b)
 (λa f=>d [nth a 0,nth a 1,nth a 2] f)
def Uz:=λa (b:za) (R:VK) (d:LK)=>
 opt (zi .eql 3 6 a 2) λc=>CD c (λe=>e [c] b)
 (Jn a b)
 (Uy R d)
def XV:=λ(R:VK) c (d:LK) e (b:za)=>
 CD (nth e 0) (λg=>rv [.bool true,.bool false,.bool false] b R)
 (Uz c b R)
 (λa f=>d [nth a 0,nth a 1,nth a 2] f)
def XW:=λa (c:za) (R:VK) (e:LK)=>
 opt (zi .eql 3 6 a 11) λd=>CD d (λb=>b [d] c)
 (λb=>opt (zi .eql 3 6 a 14) λf=>b [f] c)
 (XV R a e)
def YJ:=λb (c:za) (R:VK) (d:LK)=>
 opt (zi .eql 3 6 b 7) λe=>CD e (λg=>rv [.bool true,.bool true,.bool false] c R)
 (XW b c R)
 (λa f=>d [nth a 0,nth a 1,nth a 2] f)
def u3:=λ(R:VK) c (d:LK) e (b:za)=>
 CD (nth e 0) (λg=>rv [.bool true,.bool false,.bool true] b R)
 (YJ c b R)
 (λa f=>d [nth a 0,nth a 1,nth a 2] f)
def u4:=λa (b:za) (R:VK) (d:LK)=>
 opt (zi .eql 3 6 a 3) λc=>CD c (λe=>e [c] b)
 (kY a b)
 (u3 R a d)
def Ol:=λ(h:za) a (R:VK)=>
 opt (nb [a] (some (Value.cells a).toList)) λc=>nw h c 53 λd b=>zn 53 d 0 3 b λe=>BK (u4 e b R)
 (λg f=>rv [.bool false,.bool false,.bool false] f R)
theorem Mf(hw:Ol h t0 R):DC zz 112 [t0] h R:=zC mixed (q:=qs) (n:=200) (Eq.mpr (by kernel_rfl) hw)
def aE:=λb (c:za) (e:LK)=>
 opt (zi .eql 3 4 b 10) λd=>CD d (λa=>a [d] c)
 (λa=>opt (zi .eql 3 4 b 13) λf=>a [f] c)
 (λg h=>e [nth g 0] h)
def UX:=λa (b:za) (d:LK)=>
 opt (zi .eql 3 4 a 9) λc=>CD c (λe=>e [c] b)
 (aE a b)
 (λf g=>d [nth f 0] g)
def WC:=λa (b:za) (d:LK)=>
 opt (zi .eql 3 4 a 8) λc=>CD c (λe=>e [c] b)
 (UX a b)
 (λf g=>d [nth f 0] g)
def Xj:=λa (b:za) (d:LK)=>
 opt (zi .eql 3 4 a 6) λc=>CD c (λe=>e [c] b)
 (WC a b)
 (λf g=>d [nth f 0] g)
def Z4:=λa (b:za) (d:LK)=>
 opt (zi .eql 3 4 a 5) λc=>CD c (λe=>e [c] b)
 (Xj a b)
 (λf g=>d [nth f 0] g)
def Zu:=λa (b:za) (d:LK)=>
 opt (zi .eql 3 4 a 4) λc=>CD c (λe=>e [c] b)
 (Z4 a b)
 (λf g=>d [nth f 0] g)
def jB:=λa (b:za) (d:LK)=>
 opt (zi .eql 3 4 a 3) λc=>CD c (λe=>e [c] b)
 (Zu a b)
 (λf g=>d [nth f 0] g)
def kf:=λc (R:VK) (d:LK) e (a:za)=>
 CD (nth e 0) (λb=>zn 53 c 4 3 a λf=>rv [f] a R)
 (λb=>b [pm 0] a)
 (λg h=>d [nth g 0] h)
def kg:=λa (b:za) d (R:VK) (e:LK)=>
 opt (zi .eql 3 4 a 2) λc=>CD c (λf=>f [c] b)
 (jB a b)
 (kf d R e)
def Hm:=λ(h:za) a (R:VK)=>
 opt (nb [a] (some (Value.cells a).toList)) λd=>nw h d 53 λb c=>zn 53 b 0 3 c λe=>BK (kg e c b R)
 (λg f=>rv [pm (-1)] f R)
theorem Hn(hw:Hm h t0 R):DC zz 54 [t0] h R:=zC mixed (q:=qs) (n:=200) (Eq.mpr (by kernel_rfl) hw)
def DO:=λd (a:za) (e:LK)=>
 zn 53 d 2 3 a λb=>zT (nb [b] (zI zz 22 1 [(0,b)] a)) λc f=>zT (nb [pp,c] (zv zz .append [22,22] 22 [pp,c] f)) λg h=>e [g] h
def DP:=λe (a:za) b (f:LK)=>
 zn 53 e 3 3 a λc=>zT (nb [c] (zI zz 22 1 [(0,c)] a)) λd g=>zT (nb [nth b 0,d] (zv zz .append [22,22] 22 [nth b 0,d] g)) λh i=>f [h] i
def DQ:=λd (a:za) b (e:LK)=>
 zn 53 d 6 22 a λc=>zT (nb [nth b 0,c] (zv zz .append [22,22] 22 [nth b 0,c] a)) λf g=>e [f] g
def gQ:=λb (R:VK) c (a:za)=>
 zn 53 b 0 3 a λd=>opt (zi .eql 3 80 d 10) λe=>CD e (DQ b a c)
 (λf=>f [nth c 0] a)
 (λg h=>rv [nth g 0] h R)
def gS:=λa b c (R:VK) f (d:za)=>
 ze a true (zi .neq 3 71 f (-1)) d (λg e=>opt (pk a g (.bool false)) λh=>CD h (DP b e c)
 (λi=>i [nth c 0] e)
 (gQ b R)) d
def Jg:=λa c (R:VK) e (d:za)=>
 ze a true (zg zz 53 c 3) d (λf b=>ze a true (zd zz 3 f b) b (gS a c e R) b) d
def Jh:=λa b e (R:VK) f (c:za)=>
 ze a true (zi .neq 3 60 f (-1)) c (λg d=>opt (pk a g (.bool false)) λh=>CD h (DO b d)
 (λi=>i [pp] d)
 (Jg e b R)) c
def ZK:=λe a c (R:VK) f (d:za)=>
 opt (pk e (.bool true) f) λg=>ze a true (zg zz 53 c 2) d (λh b=>ze a true (zd zz 3 h b) b (Jh a c g R) b) d
def ZL:=λa c d (R:VK) e (b:za)=>
 ze a false (zi .eql 3 54 e 11) b (ZK a c d R) b
def jC:=λe c f (R:VK) g (d:za)=>
 opt (pk e (.bool true) g) λa=>ze a false (zg zz 53 c 0) d (λh b=>ze a false (zd zz 3 h b) b (ZL a f c R) b) d
def jD:=λa c d (R:VK) e (b:za)=>
 ze a false (zi .eql 3 49 e 7) b (jC a c d R) b
def jE:=λe a (R:VK) f (b:za)=>
 opt (pk e (.bool true) f) λg=>zn 53 a 0 3 b λh=>opt (zi .eql 3 45 h 5) λc=>ze c false (zg zz 53 a 0) b (λi d=>ze c false (zd zz 3 i d) d (jD c a g R) d) b
def jF:=λa c (R:VK) d (b:za)=>
 ze a false (zi .eql 3 41 d 14) b (jE a c R) b
def jG:=λe c (R:VK) f (d:za)=>
 opt (pk e (.bool true) f) λa=>ze a false (zg zz 53 c 0) d (λg b=>ze a false (zd zz 3 g b) b (jF a c R) b) d
def jH:=λa c (R:VK) d (b:za)=>
 ze a false (zi .eql 3 36 d 12) b (jG a c R) b
def jI:=λe c (R:VK) f (d:za)=>
 opt (pk e (.bool true) f) λa=>ze a false (zg zz 53 c 0) d (λg b=>ze a false (zd zz 3 g b) b (jH a c R) b) d
def jJ:=λa c (R:VK) d (b:za)=>
 ze a false (zi .eql 3 31 d 11) b (jI a c R) b
def jK:=λe c (R:VK) f (d:za)=>
 opt (pk e (.bool true) f) λa=>ze a false (zg zz 53 c 0) d (λg b=>ze a false (zd zz 3 g b) b (jJ a c R) b) d
def jL:=λa c (R:VK) d (b:za)=>
 ze a false (zi .eql 3 26 d 7) b (jK a c R) b
def jM:=λe c (R:VK) f (d:za)=>
 opt (pk e (.bool true) f) λa=>ze a false (zg zz 53 c 0) d (λg b=>ze a false (zd zz 3 g b) b (jL a c R) b) d
def jN:=λa c (R:VK) d (b:za)=>
 ze a false (zi .eql 3 21 d 6) b (jM a c R) b
def jO:=λe c (R:VK) f (d:za)=>
 opt (pk e (.bool true) f) λa=>ze a false (zg zz 53 c 0) d (λg b=>ze a false (zd zz 3 g b) b (jN a c R) b) d
def jP:=λa c (R:VK) d (b:za)=>
 ze a false (zi .eql 3 16 d 5) b (jO a c R) b
def jQ:=λe c (R:VK) f (d:za)=>
 opt (pk e (.bool true) f) λa=>ze a false (zg zz 53 c 0) d (λg b=>ze a false (zd zz 3 g b) b (jP a c R) b) d
def jR:=λa c (R:VK) d (b:za)=>
 ze a false (zi .eql 3 11 d 4) b (jQ a c R) b
def Og:=λ(h:za) e (R:VK)=>
 opt (nb [e] (some (Value.cells e).toList)) λf=>nw h f 53 λa b=>zn 53 a 0 3 b λg=>opt (zi .eql 3 7 g 3) λc=>ze c false (zg zz 53 a 0) b (λi d=>ze c false (zd zz 3 i d) d (jR c a R) d) b
theorem Mb(hw:Og h t0 R):DC zz 53 [t0] h R:=zC mixed (q:=qs) (n:=200) (Eq.mpr (by kernel_rfl) hw)
def AG:=λb (a:za) (R:VK) (g:LK)=>
 zn 53 b 7 3 a λc=>zn 53 b 8 3 a λd=>zT (nb [c,d] (zI zz 22 2 [(0,c),(1,d)] a)) λe f=>rv [e] f R
def ly:=λb c (a:za) (R:VK) (d:LK)=>
 opt (zi .eql 3 4 b 11) λe=>CD e (AG c a R)
 (λf=>f [pp] a)
 (λg h=>d [nth g 0] h)
def aV:=λa (b:za) (R:VK) c (d:LK)=>
 opt (zi .eql 3 4 a 12) λe=>CD e (λh=>rv [pp] b R)
 (ly a c b R)
 (λf g=>d [nth f 0] g)
def AH:=λc (R:VK) (f:List aaa) (a:za)=>
 zn 53 c 7 3 a λb=>zT (nb [b] (zI zz 22 1 [(0,b)] a)) λd e=>rv [d] e R
def HF:=λ(h:za) b (R:VK)=>
 opt (nb [b] (some (Value.cells b).toList)) λd=>nw h d 53 λa c=>zn 53 a 0 3 c λe=>BK (aV e c R a)
 (AH a R)
theorem HG(hw:HF h t0 R):DC zz 113 [t0] h R:=zC mixed (q:=qs) (n:=200) (Eq.mpr (by kernel_rfl) hw)
def QA:=λb (c:za) (e:LK)=>
 opt (zi .eql 3 4 b 13) λd=>CD d (λa=>a [d] c)
 (λa=>opt (zi .eql 3 4 b 10) λf=>a [f] c)
 (λg h=>e [nth g 0] h)
def VB:=λa (b:za) (d:LK)=>
 opt (zi .eql 3 4 a 9) λc=>CD c (λe=>e [c] b)
 (QA a b)
 (λf g=>d [nth f 0] g)
def Xx:=λa (b:za) (d:LK)=>
 opt (zi .eql 3 4 a 8) λc=>CD c (λe=>e [c] b)
 (VB a b)
 (λf g=>d [nth f 0] g)
def Z3:=λa (b:za) (d:LK)=>
 opt (zi .eql 3 4 a 6) λc=>CD c (λe=>e [c] b)
 (Xx a b)
 (λf g=>d [nth f 0] g)
def Zo:=λa (b:za) (d:LK)=>
 opt (zi .eql 3 4 a 5) λc=>CD c (λe=>e [c] b)
 (Z3 a b)
 (λf g=>d [nth f 0] g)
def k9:=λa (b:za) (d:LK)=>
 opt (zi .eql 3 4 a 4) λc=>CD c (λe=>e [c] b)
 (Zo a b)
 (λf g=>d [nth f 0] g)
def qW:=λa (b:za) (d:LK)=>
 opt (zi .eql 3 4 a 3) λc=>CD c (λe=>e [c] b)
 (k9 a b)
 (λf g=>d [nth f 0] g)
def qh:=λc (R:VK) (d:LK) e (a:za)=>
 CD (nth e 0) (λb=>zn 53 c 4 3 a λf=>rv [f] a R)
 (λb=>b [pm 0] a)
 (λg h=>d [nth g 0] h)
def qi:=λa (b:za) d (R:VK) (e:LK)=>
 opt (zi .eql 3 4 a 2) λc=>CD c (λf=>f [c] b)
 (qW a b)
 (qh d R e)
def De:=λ(h:za) a (R:VK)=>
 opt (nb [a] (some (Value.cells a).toList)) λd=>nw h d 53 λb c=>zn 53 b 0 3 c λe=>BK (qi e c b R)
 (λg f=>rv [pm (-1)] f R)
theorem E2(hw:De h t0 R):DC zz 91 [t0] h R:=zC mixed (q:=qs) (n:=200) (Eq.mpr (by kernel_rfl) hw)
end Go.Rtl
namespace Go.Ai
open Go.Ai Go.Proofs
theorem yV:sL 22:=xV (by kernel_rfl)
theorem ur:sL 23:=xV (by kernel_rfl)
theorem Wv:FcN 25 3:=YL (by kernel_rfl) (by kernel_rfl)
theorem qz:sL 43:=xV (by kernel_rfl)
theorem sd:FcN 45 6:=YL (by kernel_rfl) (by kernel_rfl)
theorem jr:FcN 53 9:=YL (by kernel_rfl) (by kernel_rfl)
theorem zfF:sL 9:=xV (by kernel_rfl)
theorem TW:SF 22 3 1 8:=λr v x n w h h1 h2 h3 h4=>Zj (e:=3) (e2:=3) (by kernel_rfl) (by kernel_rfl) (by kernel_rfl) (by kernel_rfl) (by decide) h1 h2 h3 h4
theorem zfI:SF 23 45 6 88:=λr v x n w h h1 h2 h3 h4=>Zj (e:=45) (e2:=45) (by kernel_rfl) (by kernel_rfl) (by kernel_rfl) (by kernel_rfl) (by decide) h1 h2 h3 h4
theorem zfJ:SF 43 53 9 88:=λr v x n w h h1 h2 h3 h4=>Zj (e:=53) (e2:=53) (by kernel_rfl) (by kernel_rfl) (by kernel_rfl) (by kernel_rfl) (by decide) h1 h2 h3 h4
theorem OE:SH 22:=λb o _ _ _ h=>vz (by kernel_rfl) b o _ h rfl
theorem zfO:SH 23:=λb o _ _ _ h=>vz (by kernel_rfl) b o _ h rfl
theorem zaa:FcM 25 3:=Xr (by kernel_rfl)
theorem Wt(b off:Nat)(v:Bool)(h:za):xO pu 4 (.pointer (some ⟨b,off,none⟩)) (.bool v) h=yM h b off [(.bool v)]:=vz (by kernel_rfl) b off _ h rfl
theorem zfP:SH 43:=λb o _ _ _ h=>vz (by kernel_rfl) b o _ h rfl
theorem OF:FcM 45 6:=Xr (by kernel_rfl)
theorem Ib:FcM 53 9:=Xr (by kernel_rfl)
theorem zaf:Yu pu 25=some (.agg #[(pp),(pp),(pm 0)]):=zO (by kernel_rfl)
theorem Rg:Yu pu 4=some (.bool false):=zO (by kernel_rfl)
theorem Eb:Yu pu 45=some (.agg #[(.string ⟨#[]⟩),(pp),(pm 0),(pm 0),(pm 0),(pp)]):=zO (by kernel_rfl)
theorem Bj:Yu pu 53=some (.agg #[(pm 0),(pm 0),(pm 0),(pm 0),(pm 0),(pm 0),(pp),(pm 0),(pm 0)]):=zO (by kernel_rfl)
theorem Rn(v0:Option Addr)(v0l v0c:Nat)(v2:Int):z9 pu 25 [(0,(.slice v0 v0l v0c)),(2,(pm v2))]=some (.agg #[(.slice v0 v0l v0c),(pp),(pm v2)]):=zO (by kernel_rfl)
theorem Bn(h:za):zI pu 22 0 [] h=some (.slice (some ⟨h.next,0,none⟩) 0 2,h.push (.cells [] 3)):=zO (by kernel_rfl)
theorem JG(v0:Int)(h:za):zI pu 22 1 [(0,(pm v0))] h=some (.slice (some ⟨h.next,0,none⟩) 1 3,h.push (.cells [(pm v0)] 3)):=zO (by kernel_rfl)
theorem Ip(v0:Int)(v1:Int)(h:za):zI pu 22 2 [(0,(pm v0)),(1,(pm v1))] h=some (.slice (some ⟨h.next,0,none⟩) 2 4,h.push (.cells [(pm v0),(pm v1)] 3)):=zO (by kernel_rfl)
theorem Rp(v00:ByteArray)(v01:Option Addr)(v01l v01c:Nat)(v02:Int)(v03:Int)(v04:Int)(v05:Option Addr)(v05l v05c:Nat)(h:za):zI pu 23 1 [(0,(.agg #[(.string v00),(.slice v01 v01l v01c),(pm v02),(pm v03),(pm v04),(.slice v05 v05l v05c)]))] h=some (.slice (some ⟨h.next,0,none⟩) 1 3,h.push (.cells [(.string v00),(.slice v01 v01l v01c),(pm v02),(pm v03),(pm v04),(.slice v05 v05l v05c)] 45)):=zO (by kernel_rfl)
theorem zal(h:za):zI pu 43 0 [] h=some (.slice (some ⟨h.next,0,none⟩) 0 2,h.push (.cells [] 53)):=zO (by kernel_rfl)
theorem x9:LQ 25 0:=λb o=>zO (by kernel_rfl)
theorem xB:Ud 25 1 1:=λb o=>zO (by kernel_rfl)
theorem Xe:Ud 25 2 2:=λb o=>zO (by kernel_rfl)
theorem OZ:LQ 45 0:=λb o=>zO (by kernel_rfl)
theorem uP:Ud 45 1 1:=λb o=>zO (by kernel_rfl)
theorem wi:Ud 45 2 2:=λb o=>zO (by kernel_rfl)
theorem kJ:Ud 45 3 3:=λb o=>zO (by kernel_rfl)
theorem Xf:Ud 45 4 4:=λb o=>zO (by kernel_rfl)
theorem x0:Ud 45 5 5:=λb o=>zO (by kernel_rfl)
theorem zA:LQ 53 0:=λb o=>zO (by kernel_rfl)
theorem yi:Ud 53 1 1:=λb o=>zO (by kernel_rfl)
theorem xC:Ud 53 2 2:=λb o=>zO (by kernel_rfl)
theorem qD:Ud 53 3 3:=λb o=>zO (by kernel_rfl)
theorem wj:Ud 53 4 4:=λb o=>zO (by kernel_rfl)
theorem vI:Ud 53 5 5:=λb o=>zO (by kernel_rfl)
theorem jZ:Ud 53 6 6:=λb o=>zO (by kernel_rfl)
theorem YM:Ud 53 7 7:=λb o=>zO (by kernel_rfl)
theorem bW:Ud 53 8 8:=λb o=>zO (by kernel_rfl)
theorem za9:NL 128 1:=λb o l c k i=>wN (e:=4) (by kernel_rfl) (by kernel_rfl)
theorem cP:NL 22 1:=λb o l c k i=>wN (e:=3) (by kernel_rfl) (by kernel_rfl)
theorem zfZ:NL 23 6:=λb o l c k i=>wN (e:=45) (by kernel_rfl) (by kernel_rfl)
theorem zba:NL 43 9:=λb o l c k i=>wN (e:=53) (by kernel_rfl) (by kernel_rfl)
theorem fG:SD 22:=λr a n c h=>zO (by kernel_rfl)
theorem zbe:SD 23:=λr a n c h=>zO (by kernel_rfl)
theorem M8:SD 43:=λr a n c h=>zO (by kernel_rfl)
theorem zeI(k k2:IntKind)(l c:Int)(h:za)(h0:0<=l)(h1:l<=c)(h2:c<2^31):XZ pu 128 (.int k l) (.int k2 c) h=some (.slice (some ⟨h.next,0,none⟩) l.toNat (c.toNat+2),h.push (.cells (qO [(.bool false)] (c.toNat*1)) 4)):=m9 (e:=4) (z:=(.bool false)) (n:=1) (bytes:=1) (by kernel_rfl) (by kernel_rfl) (by kernel_rfl) rfl (by decide) (by decide) rfl h0 h1 h2
theorem zdP(x y:Operand)(a b:ByteArray):zX pu .neq 9 x y (.string a) (.string b)=some (.bool (!(a.toList == b.toList))):=zO (by kernel_rfl)
end Go.Ai
namespace Go.Rtl
open Go.Ai Go.Proofs
def qZ(b:Bool)(v:aaa)(_:za):Prop:=v=.bool b
def isI(n:Int)(v:aaa)(_:za):Prop:=v=.int .i64 n
theorem jx{f:FuncId}{args:List aaa}{h:za}{b:Bool}(d:DC pu f args h.lock (qZ b)):yX pu f args h (.bool b):=yX.of rfl d
theorem Pp{f:FuncId}{args:List aaa}{h:za}{n:Int}(d:DC pu f args h.lock (isI n)):yX pu f args h (pm n):=yX.of rfl d
def xA(n m:Int):Bool:=decide (0<=n)&&decide (n<m)
theorem V2(n m:Int)(h:za):yX pu 31 [pm n,pm m] h (.bool (xA n m)):=by
 apply jx;apply HS;unfold HR xA;by_cases h0:0<=n
 ·simp only[EE,lL,h0];simp[qZ]
 ·simp only[EE,lL,h0];simp[qZ]
def EG(n:Int):Bool:=decide (11<=n)&&decide (n<=26)
theorem zeQ(n:Int)(h:za):yX pu 102 [pm n] h (.bool (EG n)):=by
 apply jx;apply AN;unfold rZ EG;by_cases h0:11<=n
 ·simp only[EE,Kz,h0];simp[qZ]
 ·simp only[EE,Kz,h0];simp[qZ]
def fj(n:Int):Bool:=decide (n=1)||(decide (n=4)||decide (n=8))
theorem zcu(n:Int)(h:za):yX pu 104 [pm n] h (.bool (fj n)):=by
 apply jx;apply L9;unfold Oe fj;by_cases h1:n=1
 ·subst h1;simp only[EE,Int.reduceEq,gI,gJ];rfl
 by_cases h4:n=4
 ·subst h4;simp only[EE,Int.reduceEq,gI,gJ];rfl
 simp only[EE,gI,gJ,h1,h4];simp[qZ]
def sy(n:Int):Bool:=decide (21<=n)&&decide (n<=26)
theorem zcE(n:Int)(h:za):DC pu 103 [pm n] h (λv h1=>(∃a,v=.tuple #[pm a,.bool (sy n)])/\h1=h):=by
 apply PO;unfold S8;by_cases h1:n=21
 ·subst h1;simp only[EE,↓BK,VJ];exact⟨_,rfl⟩
 by_cases h2:n=22
 ·subst h2;simp only[EE,↓BK,Int.reduceEq,UR,VJ];exact⟨_,rfl⟩
 by_cases h3:n=23
 ·subst h3;simp only[EE,↓BK,Int.reduceEq,KQ,UR,VJ];exact⟨_,rfl⟩
 by_cases h4:n=24
 ·subst h4;simp only[EE,↓BK,Int.reduceEq,mC,cV,KQ,UR,VJ];exact⟨_,rfl⟩
 by_cases h5:n=25
 ·subst h5;simp only[EE,↓BK,Int.reduceEq,tV,mC,cV,KQ,UR,VJ];exact⟨_,rfl⟩
 by_cases h6:n=26
 ·subst h6;simp only[EE,↓BK,Int.reduceEq,cV,KQ,UR,VJ];exact⟨_,rfl⟩
 have e:sy n=false:=by
  unfold sy;by_cases a:21<=n
  ·have:¬n<=26:=by omega
   simp[this]
  ·simp[a]
 simp only[EE,↓BK,tV,mC,cV,KQ,UR,VJ,h1,h2,h3,h4,h5,h6];rw[e];exact⟨_,rfl⟩
structure Old (h h':za):Prop where
 next:h.next<=h'.next
 ro:h'.ro=h.ro
 get:∀b,b<h.next->h'.get b=h.get b
theorem Old.refl(h:za):Old h h:=⟨aam _,rfl,λ_ _=>rfl⟩
theorem Old.trans{a b c:za}(x:Old a b)(y:Old b c):Old a c:=⟨aaS x.next y.next,y.ro.trans x.ro,λi hi=>(y.get i (aao hi x.next)).trans (x.get i hi)⟩
theorem Old.push(h:za)(o:wm):Old h (h.push o):=⟨abr _,rfl,λb hb=>zt hb⟩
theorem Old.set{h h':za}(x:Old h h'){b:Nat}(hb:h.next<=b)(o:Option wm):Old h (h'.set b o):=⟨x.next,x.ro,λc hc=>(zJ (by omega)).trans (x.get c hc)⟩
def wg(n:Int):Prop := -9223372036854775808<=n/\n<9223372036854775808
structure xG where
 op:Int
 sub:Int
 a:Int
 b:Int
 d:Int
 k:Int
 av:aaa
 args:List Int
 s:Int
 t:Int
def zL(h:za)(sv:aaa)(zs:List Int):Prop:=(sv=.slice none 0 0/\zs=[]) \/ ∃b off cp,sv=.slice (some ⟨b,off,none⟩) zs.length cp/\(zs≠[]->∃c t,b<h.next/\h.get b=some (.cells c t) /\ ∀(i:Nat) z,zs[i]? = some z->c[off+i]? = some (pm z))
section
variable {h h':za}{sv:aaa}{zs:List Int}
theorem zL.wO(S:zL h sv zs):zU sv=false:=by
 rcases S with⟨rfl,_⟩|⟨b,off,cp,rfl,_⟩ <;> rfl
theorem zL.iH(S:zL h sv zs):cellOk sv=true:=by
 rcases S with⟨rfl,_⟩|⟨b,off,cp,rfl,_⟩ <;> rfl
theorem zL.old(S:zL h sv zs)(e:Old h h'):zL h' sv zs:=by
 rcases S with a|⟨b,off,cp,rfl,hc⟩
 ·exact .inl a
 ·refine .inr ⟨b,off,cp,rfl,λhz=>?_⟩;obtain⟨c,t,hb,hg,hat⟩:=hc hz;exact⟨c,t,aao hb e.next,by rw[e.get b hb];exact hg,hat⟩
theorem zL.lock(S:zL h sv zs):zL h.lock sv zs:=by
 rcases S with a|⟨b,off,cp,rfl,hc⟩
 ·exact .inl a
 ·refine .inr ⟨b,off,cp,rfl,λhz=>?_⟩;obtain⟨c,t,hb,hg,hat⟩:=hc hz;exact⟨c,t,hb,by rw[fC];exact hg,hat⟩
theorem zL.len(S:zL h sv zs)(h':za):zv pu .len [22] 3 [sv] h'=some (pm zs.length,h'):=by
 rcases S with⟨rfl,rfl⟩|⟨b,off,cp,rfl,_⟩
 ·simp only[fG,aaz]
 ·simp only[fG]
theorem zL.at(S:zL h sv zs){i:Nat}{z:Int}(hz:zs[i]? = some z):∃b o c t,ym pu 22 sv (pm i)=some (.pointer (some ⟨b,o,none⟩))/\b<h.next/\h.get b=some (.cells c t)/\c[o]? = some (pm z):=by
 rcases S with⟨rfl,rfl⟩|⟨b,off,cp,rfl,hc⟩
 ·cases hz
 ·have hlt:i<zs.length:=by
   rcases aas i zs.length with a|a
   ·exact a
   ·rw[aal a]at hz;cases hz
  obtain⟨c,t,hb,hg,hat⟩:=hc (by intro e;subst e;cases hz);have h1:0<=(i:Int)/\(i:Int)<(zs.length:Int):=by omega
  exact⟨b,off+i,c,t,by simp only[EE,aad,cP,h1,aax,abh],hb,hg,hat i z hz⟩
end
abbrev xG.val(x:xG):aaa := .agg #[pm x.op,pm x.sub,pm x.a,pm x.b,pm x.d,pm x.k,x.av,pm x.s,pm x.t]
def wr(op:Int):Bool:=decide (op=2)||(decide (op=3)||(decide (op=4)||(decide (op=5)||(decide (op=6)||(decide (op=8)||(decide (op=9)||(decide (op=10)||decide (op=13))))))))
def zB(x:xG):Int:=if wr x.op=true then x.d else -1
theorem zdY{op:Int}(h2:¬op=2)(h3:¬op=3)(h4:¬op=4)(h5:¬op=5)(h6:¬op=6)(h8:¬op=8)(h9:¬op=9)(h10:¬op=10)(h13:¬op=13):wr op=false:=by
 simp[wr,h2,h3,h4,h5,h6,h8,h9,h10,h13]
theorem Qv(x:xG)(hn:zU x.av=false)(h:za):yX pu 54 [x.val] h (pm (zB x)):=by
 apply Pp;apply Hn;unfold Hm zB;obtain⟨op,sub,a,b,d,k,av,args,s,t⟩:=x;simp only at hn;by_cases h2:op=2
 ·subst h2;simp only[EE,nth,↓nw,Value.cells,↓BK,Int.reduceNeg,zw,zj,zA,wj,kf,kg];rfl
 by_cases h3:op=3
 ·subst h3;simp only[EE,nth,↓nw,Value.cells,↓BK,Int.reduceEq,Int.reduceNeg,zw,zj,zA,wj,jB,kf,kg];rfl
 by_cases h4:op=4
 ·subst h4;simp only[EE,nth,↓nw,Value.cells,↓BK,Int.reduceEq,Int.reduceNeg,zw,zj,zA,wj,Zu,jB,kf,kg];rfl
 by_cases h5:op=5
 ·subst h5;simp only[EE,nth,↓nw,Value.cells,↓BK,Int.reduceEq,Int.reduceNeg,zw,zj,zA,wj,Z4,Zu,jB,kf,kg];rfl
 by_cases h6:op=6
 ·subst h6;simp only[EE,nth,↓nw,Value.cells,↓BK,Int.reduceEq,Int.reduceNeg,zw,zj,zA,wj,Xj,Z4,Zu,jB,kf,kg];rfl
 by_cases h8:op=8
 ·subst h8;simp only[EE,nth,↓nw,Value.cells,↓BK,Int.reduceEq,Int.reduceNeg,zw,zj,zA,wj,WC,Xj,Z4,Zu,jB,kf,kg];rfl
 by_cases h9:op=9
 ·subst h9;simp only[EE,nth,↓nw,Value.cells,↓BK,Int.reduceEq,Int.reduceNeg,zw,zj,zA,wj,UX,WC,Xj,Z4,Zu,jB,kf,kg];rfl
 by_cases h10:op=10
 ·subst h10;simp only[EE,nth,↓nw,Value.cells,↓BK,Int.reduceEq,Int.reduceNeg,zw,zj,zA,wj,aE,UX,WC,Xj,Z4,Zu,jB,kf,kg];rfl
 by_cases h13:op=13
 ·subst h13;simp only[EE,nth,↓nw,Value.cells,↓BK,Int.reduceEq,Int.reduceNeg,zw,zj,zA,wj,aE,UX,WC,Xj,Z4,Zu,jB,kf,kg];rfl
 have e:=zdY h2 h3 h4 h5 h6 h8 h9 h10 h13;simp only[EE,nth,↓nw,Value.cells,↓BK,Int.reduceNeg,zw,zj,zA,wj,aE,UX,WC,Xj,Z4,Zu,jB,kf,kg,h2,h3,h4,h5,h6,h8,h9,h10,h13];simp[isI,e]
theorem Rt(x:xG)(hn:zU x.av=false)(h:za):yX pu 91 [x.val] h (pm (zB x)):=by
 apply Pp;apply E2;unfold De zB;obtain⟨op,sub,a,b,d,k,av,args,s,t⟩:=x;simp only at hn;by_cases h2:op=2
 ·subst h2;simp only[EE,nth,↓nw,Value.cells,↓BK,Int.reduceNeg,zw,zj,zA,wj,qh,qi];rfl
 by_cases h3:op=3
 ·subst h3;simp only[EE,nth,↓nw,Value.cells,↓BK,Int.reduceEq,Int.reduceNeg,zw,zj,zA,wj,qW,qh,qi];rfl
 by_cases h4:op=4
 ·subst h4;simp only[EE,nth,↓nw,Value.cells,↓BK,Int.reduceEq,Int.reduceNeg,zw,zj,zA,wj,k9,qW,qh,qi];rfl
 by_cases h5:op=5
 ·subst h5;simp only[EE,nth,↓nw,Value.cells,↓BK,Int.reduceEq,Int.reduceNeg,zw,zj,zA,wj,Zo,k9,qW,qh,qi];rfl
 by_cases h6:op=6
 ·subst h6;simp only[EE,nth,↓nw,Value.cells,↓BK,Int.reduceEq,Int.reduceNeg,zw,zj,zA,wj,Z3,Zo,k9,qW,qh,qi];rfl
 by_cases h8:op=8
 ·subst h8;simp only[EE,nth,↓nw,Value.cells,↓BK,Int.reduceEq,Int.reduceNeg,zw,zj,zA,wj,Xx,Z3,Zo,k9,qW,qh,qi];rfl
 by_cases h9:op=9
 ·subst h9;simp only[EE,nth,↓nw,Value.cells,↓BK,Int.reduceEq,Int.reduceNeg,zw,zj,zA,wj,VB,Xx,Z3,Zo,k9,qW,qh,qi];rfl
 by_cases h10:op=10
 ·subst h10;simp only[EE,nth,↓nw,Value.cells,↓BK,Int.reduceEq,Int.reduceNeg,zw,zj,zA,wj,QA,VB,Xx,Z3,Zo,k9,qW,qh,qi];rfl
 by_cases h13:op=13
 ·subst h13;simp only[EE,nth,↓nw,Value.cells,↓BK,Int.reduceEq,Int.reduceNeg,zw,zj,zA,wj,QA,VB,Xx,Z3,Zo,k9,qW,qh,qi];rfl
 have e:=zdY h2 h3 h4 h5 h6 h8 h9 h10 h13;simp only[EE,nth,↓nw,Value.cells,↓BK,Int.reduceNeg,zw,zj,zA,wj,QA,VB,Xx,Z3,Zo,k9,qW,qh,qi,h2,h3,h4,h5,h6,h8,h9,h10,h13];simp[isI,e]
def V0(op:Int):Bool:=decide (op=3)||(decide (op=4)||(decide (op=5)||(decide (op=6)||(decide (op=7)||(decide (op=11)||decide (op=14))))))
def fK(op:Int):Bool:=decide (op=7)
def fL(op:Int):Bool:=decide (op=2)||(decide (op=3)||(decide (op=4)||(decide (op=5)||(decide (op=6)||(decide (op=8)||(decide (op=9)||decide (op=13)))))))
theorem uC{u v w:aaa}{h:za}{R:aaa->za->Prop}(ha:zU u=false)(hb:zU v=false)(hc:zU w=false):rv [u,v,w] h R=R (.tuple #[u,v,w]) h:=by
 apply propext;simp only[rv,yD,ha,hb,hc,aaJ,Zx,abP]
theorem zbr(x:xG)(hn:zU x.av=false)(h:za):DC pu 112 [x.val] h (λv h1=>v=.tuple #[.bool (V0 x.op),.bool (fK x.op),.bool (fL x.op)]/\Old h h1):=by
 apply Mf;unfold Ol;obtain⟨op,sub,a,b,d,k,av,args,s,t⟩:=x;simp only at hn ⊢;have old:∀o,Old h (h.push o):=λo=>Old.push h o;by_cases h2:op=2
 ·subst h2;simp only[EE,nth,↓nw,Value.cells,↓BK,Int.reduceEq,zw,zj,zA,Zb,kY,Uy,Uz,XV,XW,YJ,u3,u4,uC];exact⟨rfl,old _⟩
 by_cases h3:op=3
 ·subst h3;simp only[EE,nth,↓nw,Value.cells,↓BK,zw,zj,zA,u3,u4,uC];exact⟨rfl,old _⟩
 by_cases h4:op=4
 ·subst h4;simp only[EE,nth,↓nw,Value.cells,↓BK,Int.reduceEq,zw,zj,zA,kY,u3,u4,uC];exact⟨rfl,old _⟩
 by_cases h5:op=5
 ·subst h5;simp only[EE,nth,↓nw,Value.cells,↓BK,Int.reduceEq,zw,zj,zA,Zb,kY,u3,u4,uC];exact⟨rfl,old _⟩
 by_cases h6:op=6
 ·subst h6;simp only[EE,nth,↓nw,Value.cells,↓BK,Int.reduceEq,zw,zj,zA,Zb,kY,u3,u4,uC];exact⟨rfl,old _⟩
 by_cases h7:op=7
 ·subst h7;simp only[EE,nth,↓nw,Value.cells,↓BK,Int.reduceEq,zw,zj,zA,Zb,kY,YJ,u3,u4,uC];exact⟨rfl,old _⟩
 by_cases h8:op=8
 ·subst h8;simp only[EE,nth,↓nw,Value.cells,↓BK,Int.reduceEq,zw,zj,zA,Zb,kY,Jn,Uy,Uz,XV,XW,YJ,u3,u4,uC];exact⟨rfl,old _⟩
 by_cases h9:op=9
 ·subst h9;simp only[EE,nth,↓nw,Value.cells,↓BK,Int.reduceEq,zw,zj,zA,Zb,kY,gW,Jn,Uy,Uz,XV,XW,YJ,u3,u4,uC];exact⟨rfl,old _⟩
 by_cases h11:op=11
 ·subst h11;simp only[EE,nth,↓nw,Value.cells,↓BK,Int.reduceEq,zw,zj,zA,Zb,kY,XV,XW,YJ,u3,u4,uC];exact⟨rfl,old _⟩
 by_cases h13:op=13
 ·subst h13;simp only[EE,nth,↓nw,Value.cells,↓BK,Int.reduceEq,zw,zj,zA,Zb,kY,gW,Jn,Uy,Uz,XV,XW,YJ,u3,u4,uC];exact⟨rfl,old _⟩
 by_cases h14:op=14
 ·subst h14;simp only[EE,nth,↓nw,Value.cells,↓BK,Int.reduceEq,zw,zj,zA,Zb,kY,XV,XW,YJ,u3,u4,uC];exact⟨rfl,old _⟩
 have e1:V0 op=false:=by simp[V0,h3,h4,h5,h6,h7,h11,h14]
 have e2:fK op=false:=by simp[fK,h7]
 have e3:fL op=false:=by simp[fL,h2,h3,h4,h5,h6,h8,h9,h13]
 simp only[EE,nth,↓nw,Value.cells,↓BK,zw,zj,zA,Zb,kY,gW,Jn,Uy,Uz,XV,XW,YJ,u3,u4,uC,h2,h3,h4,h5,h6,h7,h8,h9,h11,h13,h14];rw[e1,e2,e3];exact⟨rfl,old _⟩
theorem ov{h:za}(w:KN h)(o:wm):KN (h.push o):=⟨λb x hb=>by
 rw[za.vo]at hb;show b<h.next+1;split at hb
 ·rename_i e;omega
 ·have:=w.1 b x hb;omega,aby w.2⟩
theorem wf_set{h:za}(w:KN h){b:Nat}(hb:b<h.next)(o:Option wm):KN (h.set b o):=⟨λc x hc=>by
 rw[za.yI]at hc;split at hc
 ·rename_i e;subst e;exact hb
 ·exact w.1 c x hc,w.2⟩
def ints(zs:List Int):List aaa:=zs.map λz => pm z
theorem za7(zs:List Int):(ints zs).all cellOk=true:=by
 rw[aaF];intro v hv;simp only[ints,abm]at hv;obtain⟨z,_,rfl⟩:=hv;rfl
theorem pP(c n:Nat):ux c n≠0:=by
 unfold ux;split
 ·cases Nat.ble n _ <;> simp
 ·simp
def kQ(lo h:za)(l:aaa)(zs:List Int):Prop:=(l=.slice none 0 0/\zs=[]) \/ ∃b c,l=.slice (some ⟨b,0,none⟩) zs.length c/\c≠0/\lo.next<=b/\b<h.next/\h.ro<=b/\h.get b=some (.cells (ints zs) 3)
section
variable {lo h:za}{l:aaa}{zs:List Int}
theorem kQ.wO(S:kQ lo h l zs):zU l=false:=by
 rcases S with⟨rfl,_⟩|⟨_,_,rfl,_⟩ <;> rfl
theorem nd(S:kQ lo h l zs)(e:Old lo h)(hro:h.ro<=h.next){x:aaa}{n:Nat}{ys:List Int}(hn:eT x=some n)(hy:ys.length=n)(hf:wJ h n 1 x=some (ints ys))(hb:zs.length+n<=17592186044416) :
  ∃l' h',zv pu .append [22,22] 22 [l,x] h=some (l',h')/\kQ lo h' l' (zs++ys)/\Old lo h'/\h'.ro<=h'.next/\h.next<=h'.next/\(KN h->KN h') /\ ∀b,b<lo.next->h'.get b=h.get b:=by
 have hap:=TW 22 l x n (ints ys) h hn hf (za7 ys) (by simp[ints,hy]);rw[hap];have n0:=e.next;rcases S with⟨rfl,rfl⟩|⟨b,c,rfl,hc,hb1,hb2,hb3,hg⟩
 ·by_cases h0:n=0
  ·have:ys=[]:=abK.1 (by omega);subst this;exact⟨_,_,by simp only[Ui,h0,aad],.inl ⟨rfl,rfl⟩,e,hro,aam _,id,λ_ _=>rfl⟩
  ·refine⟨.slice (some ⟨h.next,0,none⟩) n 1,h.push (.cells (ints ys) 3),?_,.inr ⟨h.next,1,by simp[hy],by decide,by omega,aaH _,hro,by rw[zk];rfl⟩,e.trans (Old.push _ _),aby hro,abr _,λw=>ov w _,λb hb=>zt (by omega)⟩;simp only[Ui,h0,abj];rw[aai (by omega)]
 ·by_cases h0:n=0
  ·have:ys=[]:=abK.1 (by omega);subst this;exact⟨.slice (some ⟨b,0,none⟩) zs.length c,h,by simp only[Ui,h0,aad],.inr ⟨b,c,by simp,hc,hb1,hb2,hb3,by simpa using hg⟩,e,hro,aam _,id,λ_ _=>rfl⟩
  ·have hroom:roomFor c (zs.length+n) 8=true:=by
    unfold roomFor;cases Nat.beq c 2 <;> simp only[aaB,aaJ,acm] <;> omega
   have hl:(ints zs).length=zs.length:=by simp[ints]
   refine⟨.slice (some ⟨h.next,0,none⟩) (zs.length+n) (ux c (zs.length+n)),(h.set b none).push (.cells (ints (zs++ys)) 3),?_,.inr ⟨h.next,ux c (zs.length+n),by simp[hy],pP _ _,by omega,aaH _,hro,zk⟩,?_,aby hro,abr _,λw=>ov (wf_set w hb2 _) _,λb' hb'=>?_⟩
   ·simp only[Ui,h0,abj,hg];rw[aai ⟨hc,trivial,hb3,by rw[hl];omega,hroom,by decide⟩]
    congr 3
    rw[abA,acd (by rw[hl];omega)];simp[ints]
   ·refine⟨by show lo.next<=h.next+1;omega,e.ro,λb' hb'=>?_⟩;rw[zt (by show b'<h.next;omega),zJ (by omega)];exact e.get b' hb'
   ·rw[zt (by show b'<h.next;omega),zJ (by omega)]
theorem OC(S:kQ lo h l zs)(e:Old lo h)(hro:h.ro<=h.next)(z:Int)(hb:zs.length<=17592186044415) :
  ∃l' h',zv pu .append [22,22] 22 [l,.slice (some ⟨h.next,0,none⟩) 1 3] (h.push (.cells [pm z] 3))=some (l',h')/\kQ lo h' l' (zs++[z])/\Old lo h'/\h'.ro<=h'.next/\(KN h->KN h') /\ ∀b,b<lo.next->h'.get b=h.get b:=by
 have S':kQ lo (h.push (.cells [pm z] 3)) l zs:=by
  rcases S with a|⟨b,c,a1,a2,a3,a4,a5,a6⟩
  ·exact .inl a
  ·exact .inr ⟨b,c,a1,a2,a3,acB a4,a5,by rw[zt a4];exact a6⟩
 have hf:wJ (h.push (.cells [pm z] 3)) 1 1 (.slice (some ⟨h.next,0,none⟩) 1 3)=some (ints [z]):=by
  simp only[wJ,zk];rfl
 obtain⟨l',h',a1,a2,a3,a4,a5,a7,a6⟩:=nd S' (e.trans (Old.push _ _)) (aby hro) (x := .slice (some ⟨h.next,0,none⟩) 1 3) rfl rfl hf (by omega);exact⟨l',h',a1,a2,a3,a4,λw=>a7 (ov w _),λb hb=>by rw[a6 b hb,zt (by have:=e.next;omega)]⟩
theorem zL.first(S:zL h l zs):eT l=some zs.length/\wJ h zs.length 1 l=some (ints zs):=by
 rcases S with⟨rfl,rfl⟩|⟨b,off,cp,rfl,hc⟩
 ·exact⟨rfl,rfl⟩
 ·refine⟨rfl,?_⟩;by_cases h0:zs=[]
  ·subst h0;rfl
  ·obtain⟨c,t,hb,hg,hat⟩:=hc h0;have hne:0<zs.length:=List.length_pos_iff.2 h0
   have hlen:off+zs.length<=c.length:=by
    have:=hat (zs.length-1) _ (aae (by omega));rcases aas (off+(zs.length-1)) c.length with q|q
    ·omega
    ·rw[aal q]at this;cases this
   simp only[wJ,hg];rw[show Nat.beq (zs.length*1) 0=false by cases hz:Nat.beq (zs.length*1) 0 with|false=>rfl|true=>have:=aav hz;omega];rw[show Nat.ble (off+zs.length*1) c.length=true by simpa using hlen];simp only[aaJ,aaB,aab,abh];apply aa9;intro i;by_cases hi:i<zs.length
   ·rw[aaX hi,aa0,hat i _ (aae hi)];simp[ints,hi]
   ·rw[aal (by simp;omega),aal (by simp[ints];omega)]
theorem kQ.read(S:kQ lo h l zs):zL h l zs:=by
 rcases S with a|⟨b,c,rfl,hc,h1,h2,h3,h4⟩
 ·exact .inl a
 ·refine .inr ⟨b,0,c,rfl,λ_=>⟨_,3,h2,h4,λi z hz=>?_⟩⟩;simp[ints,hz]
def rM(l0 h:za)(v:aaa)(zs:List Int):Prop := ∃lo,Old l0 lo/\Old lo h/\kQ lo h v zs/\h.ro<=h.next
end
theorem rM.read{l0 h:za}{v:aaa}{zs:List Int}(F:rM l0 h v zs):zL h v zs/\Old l0 h:=by
 obtain⟨lo,e0,e,W,_⟩:=F;exact⟨W.read,e0.trans e⟩
theorem rM.v5{h h1:za}{v:aaa}{zs:List Int}(F:rM h.lock h1 v zs)(wf:KN h):kQ h (v5 h h1) v zs:=by
 obtain⟨lo,e0,e,W,_⟩:=F;rcases W with a|⟨b,c,rfl,hc,h2,h3,h4,h5⟩
 ·exact .inl a
 ·have n0:h.next<=lo.next:=e0.next;refine .inr ⟨b,c,rfl,hc,by omega,h3,?_,?_⟩
  ·have:=wf.2;show h.ro<=b;omega
  ·rw[uJ,aai ⟨by omega,h3⟩];exact h5
def Qw(op:Int):Bool:=decide (op=3)||(decide (op=4)||(decide (op=5)||(decide (op=6)||(decide (op=7)||(decide (op=11)||(decide (op=12)||decide (op=14)))))))
def KL(op:Int):Bool:=decide (op=5)||(decide (op=7)||decide (op=11))
def lA(x:xG):List Int:=if Qw x.op=true /\ ¬x.a = -1 then [x.a] else []
def lB(x:xG):List Int:=if KL x.op=true /\ ¬x.b = -1 then [x.b] else []
def lC(x:xG):List Int:=if x.op=10 then x.args else []
def uF(x:xG):List Int:=lA x++lB x++lC x
def u9(x:xG):List Int:=if x.op=12 then [] else if x.op=11 then [x.s,x.t] else [x.s]
theorem Lb(h:za)(zs:List Int)(c:Nat):zL (h.push (.cells (ints zs) 3)) (.slice (some ⟨h.next,0,none⟩) zs.length c) zs :=
 .inr ⟨h.next,0,c,rfl,λ_=>⟨_,3,aaH _,zk,λi z hz=>by simp[ints,hz]⟩⟩
theorem Rs(x:xG)(hn:zU x.av=false)(h:za):DC pu 113 [x.val] h (λv h1=>zL h1 v (u9 x)/\Old h h1):=by
 apply HG;unfold HF u9;obtain⟨op,sub,a,b,d,k,av,args,s,t⟩:=x;simp only at hn ⊢;by_cases h12:op=12
 ·subst h12;simp only[EE,↓nw,Value.cells,↓BK,aad,abj,Int.reduceEq,zw,zj,zA,aV];exact⟨.inl ⟨rfl,rfl⟩,Old.push _ _⟩
 by_cases h11:op=11
 ·subst h11;simp only[EE,↓nw,Value.cells,↓BK,aad,abj,Int.reduceEq,zw,zj,Ip,zA,YM,bW,AG,ly,aV];exact⟨Lb _ [s,t] 4,(Old.push _ _).trans (Old.push _ _)⟩
 simp only[EE,↓nw,Value.cells,↓BK,abj,zw,zj,JG,zA,YM,ly,aV,AH,h11,h12];exact⟨Lb _ [s] 3,(Old.push _ _).trans (Old.push _ _)⟩
section
variable {l0 lo h:za}{b1:Nat}{x:xG}{l:aaa}{zs:List Int}
theorem zgu(e0:Old l0 lo)(S:zL lo x.av x.args)(hl:x.args.length<=17592186043904)(W:kQ lo h l zs)(hz:zs.length<=10)(e:Old lo h)(hro:h.ro<=h.next)(h1:b1<lo.next)(hb:lo.get b1=some (.cells x.val.cells.toList 53)) :
  gQ (pi b1) (λv h1=>rM l0 h1 v (zs++lC x)) [l] h:=by
 have hn:=S.wO;have hnl:=W.wO;have Sh:=S.old e;obtain⟨a1,a2⟩:=Sh.first;rw[<- e.get b1 h1]at hb;obtain⟨op,sub,a,b,d,k,av,args,s,t⟩:=x;simp only[Value.cells,aaE]at hn hb a1 a2 hl;unfold lC;by_cases h10:op=10
 ·subst h10;obtain⟨l',h',q1,q2,q3,q4,q5,q7,q6⟩:=nd W e hro a1 rfl a2 (by omega);have nl:=q2.wO;simp only[EE,nth,aad,zw,yV,zj,zA,jZ,DQ,gQ,hb,hn,hnl,q1,nl];exact⟨lo,e0,q3,q2,q4⟩
 ·simp only[EE,nth,abj,zw,zj,zA,gQ,hb,hnl,h10,ab5];exact⟨lo,e0,e,W,hro⟩
theorem zgv(e0:Old l0 lo)(S:zL lo x.av x.args)(hl:x.args.length<=17592186043904)(W:kQ lo h l zs)(hz:zs.length<=9)(e:Old lo h)(hro:h.ro<=h.next)(h1:b1<lo.next)(hb:lo.get b1=some (.cells x.val.cells.toList 53)) :
  Jg (.bool (KL x.op)) (pi b1) (λv h1=>rM l0 h1 v (zs++lB x++lC x)) [l] h:=by
 have go:=zgu e0 (zs:=zs) S hl W (by omega) e hro h1 hb;have hbh:=hb;rw[<- e.get b1 h1]at hbh;have hnl:=W.wO;obtain⟨op,sub,a,b,d,k,av,args,s,t⟩:=x;simp only[Value.cells,aaE]at hbh;unfold lB;simp only;cases hB:KL op with
 |false=>
  simp only[EE,nth,abj,Int.reduceNeg,gS,Jg,abo,false_and,ab5];exact go
 |true=>
  by_cases hb1:b = -1
  ·simp only[EE,nth,abj,Int.reduceNeg,zw,zj,qD,gS,Jg,hbh,hb1,ab5];exact go
  ·obtain⟨l',h',q1,q2,q3,q4,q7,q5⟩:=OC W e hro b (by omega);have nl:=q2.wO;simp only[EE,nth,aad,Int.reduceNeg,zw,zj,JG,qD,DP,gS,Jg,hnl,hbh,hb1,q1];exact zgu e0 (x:=⟨op,sub,a,b,d,k,av,args,s,t⟩) S hl q2 (by simp;omega) q3 q4 h1 hb
theorem zg0(e0:Old l0 lo)(S:zL lo x.av x.args)(hl:x.args.length<=17592186043904)(hro:lo.ro<=lo.next)(h1:b1<lo.next)(hb:lo.get b1=some (.cells x.val.cells.toList 53)){t60:aaa}(ht:Qw x.op=true->t60=.int .i64 x.a) :
  Jh (.bool (Qw x.op)) (pi b1) (.bool (KL x.op)) (λv h1=>rM l0 h1 v (uF x)) t60 lo:=by
 have go:=zgv e0 (zs:=[]) S hl (.inl ⟨rfl,rfl⟩) (by simp) (.refl lo) hro h1 hb;have hbh:=hb;unfold uF lA;obtain⟨op,sub,a,b,d,k,av,args,s,t⟩:=x;simp only[Value.cells,aaE]at hbh ht;simp only;cases hA:Qw op with
 |false=>
  simp only[EE,abj,Int.reduceNeg,Jh,abo,false_and];exact go
 |true=>
  obtain rfl:=ht hA;by_cases ha:a = -1
  ·simp only[EE,abj,Int.reduceNeg,Jh,ha];exact go
  ·obtain⟨l',h',q1,q2,q3,q4,q7,q5⟩:=OC (l := pp) (zs:=[]) (lo:=lo) (.inl ⟨rfl,rfl⟩) (.refl lo) hro a (by simp);have nl:=q2.wO;simp only[EE,aad,Int.reduceNeg,zw,zj,JG,xC,DO,Jh,hbh,ha,q1];exact zgv e0 (x:=⟨op,sub,a,b,d,k,av,args,s,t⟩) S hl q2 (by simp) q3 q4 h1 hb
end
theorem zay(x:xG)(h:za)(S:zL h x.av x.args)(hl:x.args.length<=17592186043904):DC pu 53 [x.val] h (λv h1=>rM h h1 v (uF x)):=by
 apply Wc;intro hwf;have hro:=hwf.2;apply Mb;unfold Og;have hn:=S.wO;have o:=Old.push h (.cells x.val.cells.toList 53);have go:=λ(t60:aaa) (ht:Qw x.op=true->t60=.int .i64 x.a)=>zg0 o (x:=x) (b1:=h.next) (S.old o) hl (by show h.ro<=h.next+1;omega) (aaH _) zk ht;obtain⟨op,sub,a,b,d,k,av,args,s,t⟩:=x;simp only[Value.cells,aaE]at hn hl S o go;by_cases h3:op=3
 ·subst h3;simp only[EE,↓nw,Value.cells,Int.reduceEq,zw,zj,zA,xC,ZK,ZL,jC,jD,jE,jF,jG,jH,jI,jJ,jK,jL,jM,jN,jO,jP,jQ,jR];exact go _ (λ_=>rfl)
 by_cases h4:op=4
 ·subst h4;simp only[EE,↓nw,Value.cells,Int.reduceEq,zw,zj,zA,xC,ZK,ZL,jC,jD,jE,jF,jG,jH,jI,jJ,jK,jL,jM,jN,jO,jP,jQ,jR];exact go _ (λ_=>rfl)
 by_cases h5:op=5
 ·subst h5;simp only[EE,↓nw,Value.cells,Int.reduceEq,zw,zj,zA,xC,ZK,ZL,jC,jD,jE,jF,jG,jH,jI,jJ,jK,jL,jM,jN,jO,jP,jQ,jR];exact go _ (λ_=>rfl)
 by_cases h6:op=6
 ·subst h6;simp only[EE,↓nw,Value.cells,Int.reduceEq,zw,zj,zA,xC,ZK,ZL,jC,jD,jE,jF,jG,jH,jI,jJ,jK,jL,jM,jN,jO,jP,jQ,jR];exact go _ (λ_=>rfl)
 by_cases h7:op=7
 ·subst h7;simp only[EE,↓nw,Value.cells,Int.reduceEq,zw,zj,zA,xC,ZK,ZL,jC,jD,jE,jF,jG,jH,jI,jJ,jK,jL,jM,jN,jO,jP,jQ,jR];exact go _ (λ_=>rfl)
 by_cases h11:op=11
 ·subst h11;simp only[EE,↓nw,Value.cells,Int.reduceEq,zw,zj,zA,xC,ZK,ZL,jC,jD,jE,jF,jG,jH,jI,jJ,jK,jL,jM,jN,jO,jP,jQ,jR];exact go _ (λ_=>rfl)
 by_cases h12:op=12
 ·subst h12;simp only[EE,↓nw,Value.cells,Int.reduceEq,zw,zj,zA,xC,ZK,ZL,jC,jD,jE,jF,jG,jH,jI,jJ,jK,jL,jM,jN,jO,jP,jQ,jR];exact go _ (λ_=>rfl)
 by_cases h14:op=14
 ·subst h14;simp only[EE,↓nw,Value.cells,Int.reduceEq,zw,zj,zA,xC,ZK,ZL,jC,jD,jE,jF,jG,jH,jI,jJ,jK,jL,jM,jN,jO,jP,jQ,jR];exact go _ (λ_=>rfl)
 have eA:Qw op=false:=by simp[Qw,h3,h4,h5,h6,h7,h11,h12,h14]
 have eB:KL op=false:=by simp[KL,h5,h7,h11]
 rw[eA,eB]at go;simp only[EE,↓nw,Value.cells,zw,zj,zA,ZK,ZL,jC,jD,jE,jF,jG,jH,jI,jJ,jK,jL,jM,jN,jO,jP,jQ,jR,h3,h4,h5,h6,h7,h11,h12,h14];exact go _ (λq=>by cases q)
theorem inc{i:Nat}(h:i<4611686018427387904):IntKind.wrap .i64 ((i:Int)+1)=((i+1:Nat):Int):=by
 simp only[IntKind.wrap,IntKind.bits,IntKind.signed];simp;omega
structure Fn where
 nm:ByteArray
 pv:aaa
 params:List Int
 zf:Int
 frame:Int
 entry:Int
 cv:aaa
 code:List xG
structure Pg where
 gv:aaa
 globals:List Int
 fv:aaa
 funcs:List Fn
 main:Int
abbrev xG.row(x:xG):List aaa:=[pm x.op,pm x.sub,pm x.a,pm x.b,pm x.d,pm x.k,x.av,pm x.s,pm x.t]
abbrev Fn.row(f:Fn):List aaa:=[.string f.nm,f.pv,pm f.zf,pm f.frame,pm f.entry,f.cv]
abbrev Fn.val(f:Fn):aaa := .agg #[.string f.nm,f.pv,pm f.zf,pm f.frame,pm f.entry,f.cv]
abbrev Pg.row(p:Pg):List aaa:=[p.gv,p.fv,pm p.main]
abbrev Pg.val(p:Pg):aaa := .agg #[p.gv,p.fv,pm p.main]
def zE(h:za)(sv:aaa)(n:Nat)(rows:List (List aaa)):Prop:=(sv=.slice none 0 0/\rows=[]) \/ ∃b off cp,sv=.slice (some ⟨b,off,none⟩) rows.length cp /\
 (rows≠[]->∃c t,b<h.next/\h.get b=some (.cells c t) /\ ∀(i:Nat) r,rows[i]? = some r->off+i*n+n<=c.length/\(c.drop (off+i*n)).take n=r)
section
variable {h h':za}{sv:aaa}{n:Nat}{rows:List (List aaa)}
theorem zE.wO(S:zE h sv n rows):zU sv=false:=by
 rcases S with⟨rfl,_⟩|⟨b,off,cp,rfl,_⟩ <;> rfl
theorem zE.iH(S:zE h sv n rows):cellOk sv=true:=by
 rcases S with⟨rfl,_⟩|⟨b,off,cp,rfl,_⟩ <;> rfl
theorem zE.old(S:zE h sv n rows)(e:Old h h'):zE h' sv n rows:=by
 rcases S with a|⟨b,off,cp,rfl,hc⟩
 ·exact .inl a
 ·refine .inr ⟨b,off,cp,rfl,λhz=>?_⟩;obtain⟨c,t,hb,hg,hat⟩:=hc hz;exact⟨c,t,aao hb e.next,by rw[e.get b hb];exact hg,hat⟩
theorem zE.lock(S:zE h sv n rows):zE h.lock sv n rows:=by
 rcases S with a|⟨b,off,cp,rfl,hc⟩
 ·exact .inl a
 ·refine .inr ⟨b,off,cp,rfl,λhz=>?_⟩;obtain⟨c,t,hb,hg,hat⟩:=hc hz;exact⟨c,t,hb,by rw[fC];exact hg,hat⟩
theorem zE.JQ(S:zE h sv n rows)(r:TypeId)(h':za):zv pu .len [43] r [sv] h'=some (pm rows.length,h'):=by
 rcases S with⟨rfl,rfl⟩|⟨b,off,cp,rfl,_⟩
 ·simp only[M8,aaz]
 ·simp only[M8]
theorem zE.cQ(S:zE h sv n rows)(r:TypeId)(h':za):zv pu .len [23] r [sv] h'=some (pm rows.length,h'):=by
 rcases S with⟨rfl,rfl⟩|⟨b,off,cp,rfl,_⟩
 ·simp only[zbe,aaz]
 ·simp only[zbe]
theorem zL.Zr{zs:List Int}(S:zL h sv zs)(r:TypeId)(h':za):zv pu .len [22] r [sv] h'=some (pm zs.length,h'):=by
 rcases S with⟨rfl,rfl⟩|⟨b,off,cp,rfl,_⟩
 ·simp only[fG,aaz]
 ·simp only[fG]
theorem zE.spot(S:zE h sv n rows){i:Nat}{r:List aaa}(hr:rows[i]? = some r)(hn:r.length=n):∃b o c t,(∃off cp,sv=.slice (some ⟨b,off,none⟩) rows.length cp/\o=off+i*n)/\i<rows.length/\b<h.next/\h.get b=some (.cells c t)/\o+n<=c.length/\(c.drop o).take n=r /\ ∀k,k<n->c[o+k]? = r[k]?:=by
 rcases S with⟨rfl,rfl⟩|⟨b,off,cp,rfl,hc⟩
 ·cases hr
 ·have hlt:i<rows.length:=by
   rcases aas i rows.length with a|a
   ·exact a
   ·rw[aal a]at hr;cases hr
  obtain⟨c,t,hb,hg,hat⟩:=hc (by intro e;subst e;cases hr);obtain⟨h1,h2⟩:=hat i r hr;refine⟨b,off+i*n,c,t,⟨off,cp,rfl,rfl⟩,hlt,hb,hg,h1,h2,λk hk=>?_⟩
  ·rw[<- h2,aaX hk,aa0]
theorem zE.FB(S:zE h sv 9 rows){i:Nat}{r:List aaa}(hr:rows[i]? = some r)(hn:r.length=9):∃b o c t,ym pu 43 sv (pm i)=some (.pointer (some ⟨b,o,none⟩))/\b<h.next/\h.get b=some (.cells c t)/\o+9<=c.length/\(c.drop o).take 9=r /\ ∀k,k<9->c[o+k]? = r[k]?:=by
 obtain⟨b,o,c,t,⟨off,cp,rfl,rfl⟩,hi,hb,hg,hl,ht,hk⟩:=S.spot hr hn;have h1:0<=(i:Int)/\(i:Int)<(rows.length:Int):=by omega
 exact⟨b,off+i*9,c,t,by simp only[zba,h1,aax,and_self,aad],hb,hg,hl,ht,hk⟩
theorem zE.eY(S:zE h sv 6 rows){i:Nat}{r:List aaa}(hr:rows[i]? = some r)(hn:r.length=6):∃b o c t,ym pu 23 sv (pm i)=some (.pointer (some ⟨b,o,none⟩))/\b<h.next/\h.get b=some (.cells c t)/\o+6<=c.length/\(c.drop o).take 6=r /\ ∀k,k<6->c[o+k]? = r[k]?:=by
 obtain⟨b,o,c,t,⟨off,cp,rfl,rfl⟩,hi,hb,hg,hl,ht,hk⟩:=S.spot hr hn;have h1:0<=(i:Int)/\(i:Int)<(rows.length:Int):=by omega
 exact⟨b,off+i*6,c,t,by simp only[zfZ,h1,aax,and_self,aad],hb,hg,hl,ht,hk⟩
end
structure wF (h:za) (x:xG):Prop where
 args:zL h x.av x.args
 tn:x.args.length<=17592186043904
structure qP (h:za) (f:Fn):Prop where
 params:zL h f.pv f.params
 Gb:f.params.length<=17592186043904
 code:zE h f.cv 9 (f.code.map xG.row)
 Br:f.code.length*88<=140737488351232
 ins:∀x,x∈f.code->wF h x
structure wG (h:za) (p:Pg):Prop where
 globals:zL h p.gv p.globals
 IQ:p.globals.length<=17592186043904
 funcs:zE h p.fv 6 (p.funcs.map Fn.row)
 FN:p.funcs.length*88<=140737488351232
 fns:∀f,f∈p.funcs->qP h f
section
variable {h h':za}{x:xG}{f:Fn}{p:Pg}
theorem wF.old(S:wF h x)(e:Old h h'):wF h' x:=⟨S.args.old e,S.tn⟩
theorem wF.lock(S:wF h x):wF h.lock x:=⟨S.args.lock,S.tn⟩
theorem qP.old(S:qP h f)(e:Old h h'):qP h' f:=⟨S.params.old e,S.Gb,S.code.old e,S.Br,λx hx=>(S.ins x hx).old e⟩
theorem qP.lock(S:qP h f):qP h.lock f:=⟨S.params.lock,S.Gb,S.code.lock,S.Br,λx hx=>(S.ins x hx).lock⟩
theorem wG.old(S:wG h p)(e:Old h h'):wG h' p:=⟨S.globals.old e,S.IQ,S.funcs.old e,S.FN,λf hf=>(S.fns f hf).old e⟩
theorem wG.lock(S:wG h p):wG h.lock p:=⟨S.globals.lock,S.IQ,S.funcs.lock,S.FN,λf hf=>(S.fns f hf).lock⟩
end
theorem oC{step:List aaa->za->(List aaa->za->Prop)->Prop}(Q:za->Prop){v:aaa}(n:Nat)(G:Nat->Bool){h:za}(h0:Q h)
  (hs:∀i h J,i<=n->Q h->(∀k,k<i->G k=true)->(∀h',i<n->G i=true->Q h'->J [v,pm ((i+1:Nat):Int)] h')->step [v,pm (i:Nat)] h J):LP step [v,pm 0] h:=by
 refine qQ (λm vs h=>∃i,i<=n/\m=n-i/\vs=[v,pm (i:Nat)]/\Q h /\ ∀k,k<i->G k=true) n ⟨0,aa8 _,rfl,rfl,h0,λk hk=>absurd hk (Nat.not_lt_zero _)⟩ ?_;rintro m vs h ⟨i,hi,rfl,rfl,e,g⟩;refine hs i h _ hi e g λh' hlt hg e'=>⟨n-(i+1),by omega,i+1,hlt,rfl,rfl,e',λk hk=>?_⟩;rcases aas k i with q|q
 ·exact g k q
 ·have:k=i:=by omega
  subst this;exact hg
theorem zcc{step:List aaa->za->(List aaa->za->Prop)->Prop}(Q:za->Prop)(n:Nat)(G:Nat->Bool){h:za}(h0:Q h)
  (hs:∀i h J,i<=n->Q h->(∀k,k<i->G k=true)->(∀h',i<n->G i=true->Q h'->J [pm ((i+1:Nat):Int)] h')->step [pm (i:Nat)] h J):LP step [pm 0] h:=by
 refine qQ (λm vs h=>∃i,i<=n/\m=n-i/\vs=[pm (i:Nat)]/\Q h /\ ∀k,k<i->G k=true) n ⟨0,aa8 _,rfl,rfl,h0,λk hk=>absurd hk (Nat.not_lt_zero _)⟩ ?_;rintro m vs h ⟨i,hi,rfl,rfl,e,g⟩;refine hs i h _ hi e g λh' hlt hg e'=>⟨n-(i+1),by omega,i+1,hlt,rfl,rfl,e',λk hk=>?_⟩;rcases aas k i with q|q
 ·exact g k q
 ·have:k=i:=by omega
  subst this;exact hg
theorem UQ{step:List aaa->za->(List aaa->za->Prop)->Prop}{lo:za}{v:aaa}(n:Nat)(G:Nat->Bool){h:za}(h0:Old lo h)
  (hs:∀i h J,i<=n->Old lo h->(∀k,k<i->G k=true)->(∀h',i<n->G i=true->Old lo h'->J [v,pm ((i+1:Nat):Int)] h')->step [v,pm (i:Nat)] h J):LP step [v,pm 0] h:=by
 refine qQ (λm vs h=>∃i,i<=n/\m=n-i/\vs=[v,pm (i:Nat)]/\Old lo h /\ ∀k,k<i->G k=true) n ⟨0,aa8 _,rfl,rfl,h0,λk hk=>absurd hk (Nat.not_lt_zero _)⟩ ?_;rintro m vs h ⟨i,hi,rfl,rfl,e,g⟩;refine hs i h _ hi e g λh' hlt hg e'=>⟨n-(i+1),by omega,i+1,hlt,rfl,rfl,e',λk hk=>?_⟩;rcases aas k i with q|q
 ·exact g k q
 ·have:k=i:=by omega
  subst this;exact hg
def Mu{α:Type}(l:List α)(B:α->Bool)(k:Nat):Bool:=match l[k]? with
 |some x=>B x
 |none=>true
theorem Zi{α:Type}{l:List α}{B:α->Bool}(h:∀k,k<l.length->Mu l B k=true):l.all B=true:=by
 rw[aaF];intro x hx;obtain⟨k,hk,rfl⟩:=List.getElem_of_mem hx;have:=h k hk;simpa only[Mu,aae hk] using this
theorem j0{α:Type}{l:List α}{B:α->Bool}{k:Nat}{x:α}(hx:l[k]? = some x)(hb:B x=false):l.all B=false:=by
 rw[List.all_eq_false];exact⟨x,aau hx,by simp[hb]⟩
theorem Qa{α:Type}{l:List α}{B:α->Bool}{k:Nat}{x:α}(hx:l[k]? = some x):Mu l B k=B x:=by simp only[Mu,hx]
theorem get_some{α:Type}{l:List α}{k:Nat}(h:k<l.length):∃x,l[k]? = some x/\x∈l:=⟨l[k],aae h,List.getElem_mem h⟩
theorem absH_lt(w:World)(b:Nat)(o:wm)(h:(absH pu w).get b=some o):b<(absH pu w).next:=(Li pu w).cN b o h
theorem c2:Tryz.prog.cellsOf 2=1:=by kernel_rfl
theorem c3:Tryz.prog.cellsOf 3=1:=by kernel_rfl
theorem c9:Tryz.prog.cellsOf 9=1:=by kernel_rfl
theorem c22:Tryz.prog.cellsOf 22=1:=by kernel_rfl
theorem c23:Tryz.prog.cellsOf 23=1:=by kernel_rfl
theorem c25:Tryz.prog.cellsOf 25=3:=by kernel_rfl
theorem c43:Tryz.prog.cellsOf 43=1:=by kernel_rfl
theorem c45:Tryz.prog.cellsOf 45=6:=by kernel_rfl
theorem c50:Tryz.prog.cellsOf 53=9:=by kernel_rfl
theorem y3:Tryz.prog.bytesOf 3=8:=by kernel_rfl
theorem y45:Tryz.prog.bytesOf 45=88:=by kernel_rfl
theorem y50:Tryz.prog.bytesOf 53=88:=by kernel_rfl
theorem Cn:reachBytes=140737488351232:=rfl
theorem F7{α:Type}{n:Nat}{Q:Nat->α->Prop}(h:∀i,i<n->∃z,Q i z):∃l:List α,l.length=n /\ ∀i z,l[i]? = some z->Q i z:=by
 obtain⟨f,hf⟩:=Classical.axiomOfChoice (r:=λ(i:Fin n) z=>Q i.1 z) λi=>h i.1 i.2;refine⟨List.ofFn f,by simp,λi z hz=>?_⟩;rw[List.getElem?_ofFn]at hz;split at hz
 ·rename_i hi;simp only[aab]at hz;subst hz;exact hf ⟨i,hi⟩
 ·cases hz
theorem Lc{c:List aaa}{n:Nat}{v:aaa}(h:(c.drop n).take 1=[v]):c[n]? = some v:=by
 have:=congrArg (λl=>l[0]?) h;simpa [acM,aa0] using this
section
variable {h:za}(hw:∀b o,h.get b=some o->b<h.next)
include hw
theorem Gf{a:aaa}(r:fZ pu h 22 [a]):∃zs,zL h a zs/\zs.length<=17592186043904:=by
 rcases Cv Tryz.underlying22 c3 y3 (by decide) r with e|⟨b,off,len,e,hl,hc⟩
 ·simp only[abE,abc]at e;exact⟨[],.inl ⟨e,rfl⟩,aa8 _⟩
 ·simp only[abE,abc]at e;subst e;rw[Cn]at hl;by_cases h0:0<len
  ·obtain⟨c,t,hg,hat⟩:=hc h0
   obtain⟨l,e1,e2⟩:=F7 (n:=len) (Q:=λi (z:Int)=>c[off+i]? = some (pm z)) λi hi=>by
    obtain⟨h1,h2⟩:=hat i hi;obtain⟨z,hz,_⟩:=rw_int Tryz.underlying3 h2;rw[abh]at hz;exact⟨z,Lc hz⟩
   refine⟨l,.inr ⟨b,off,0,by rw[e1],λ_=>⟨c,t,hw b _ hg,hg,e2⟩⟩,by omega⟩
  ·have:len=0:=by omega
   subst this;exact⟨[],.inr ⟨b,off,0,rfl,λq=>absurd rfl q⟩,aa8 _⟩
theorem Pq{α:Type}{row:α->List aaa}{ok:α->Prop}{ts te:TypeId}{n bz:Nat}(hu:Tryz.prog.underlying ts=some (.slice te))(hs:Tryz.prog.cellsOf te=n)(hb:Tryz.prog.bytesOf te=bz)(h0n:0<n)(h8:8<=bz)
  (hrow:∀cs,fZ pu h te cs->∃x,cs=row x/\ok x) {a:aaa} (r:fZ pu h ts [a]):∃l:List α,zE h a n (l.map row)/\l.length*bz<=140737488351232 /\ ∀x,x∈l->ok x:=by
 rcases Cv hu hs hb h0n r with e|⟨b,off,len,e,hl,hc⟩
 ·simp only[abE,abc]at e;exact⟨[],.inl ⟨e,rfl⟩,by simp,λx hx=>by cases hx⟩
 ·simp only[abE,abc]at e;subst e;rw[Cn]at hl;by_cases h0:0<len
  ·obtain⟨c,t,hg,hat⟩:=hc h0
   obtain⟨l,e1,e2⟩:=F7 (n:=len) (Q:=λi x=>off+i*n+n<=c.length/\(c.drop (off+i*n)).take n=row x/\ok x) λi hi=>by
    obtain⟨h1,h2⟩:=hat i hi;obtain⟨x,hx,hok⟩:=hrow _ h2;exact⟨x,h1,hx,hok⟩
   refine⟨l,.inr ⟨b,off,0,by rw[aaf,e1],λ_=>⟨c,t,hw b _ hg,hg,λi r hr=>?_⟩⟩,?_,λx hx=>?_⟩
   ·rw[aaq]at hr;cases hx:l[i]? with
    |none=>rw[hx]at hr;cases hr
    |some x=>
     rw[hx]at hr;simp only[abV,aab]at hr;subst hr;exact⟨(e2 i x hx).1,(e2 i x hx).2.1⟩
   ·rw[e1];exact hl
   ·obtain⟨k,hk,rfl⟩:=List.getElem_of_mem hx;exact(e2 k _ (aae hk)).2.2
  ·have:len=0:=by omega
   subst this;exact⟨[],.inr ⟨b,off,0,rfl,λq=>absurd rfl q⟩,by simp,λx hx=>by cases hx⟩
end
theorem y2:Tryz.prog.bytesOf 2=8:=by kernel_rfl
section
variable {h:za}(hw:∀b o,h.get b=some o->b<h.next)
include hw
end
end Go.Rtl
