/- A part of the proof. -/
import Derived.Test.YthamlhbbhnicaaaGreatChecked
import Derived.KernelRfl
import Derived.Test.YthamlhbbhnicaaaGreatTH
import Derived.Test.YthamlhbbhnicaaaGreatTI
import Derived.Test.YthamlhbbhnicaaaGreatTJ
import Derived.Test.YthamlhbbhnicaaaGreatTF
import Derived.Test.YthamlhbbhnicaaaGreatTD
set_option linter.unusedVariables false
set_option linter.unusedSimpArgs false
set_option maxRecDepth 100000
namespace Go.Rtl
open Go.Ai Go.Proofs Go.Proofs.Tryz
noncomputable abbrev zz:=prog
abbrev VK:=aaa->za->Prop
abbrev LK:=List aaa->za->Prop
abbrev ci(n:Int):Operand := .const (pm n)
abbrev fn(n:Nat):aaa := .func (.func n) #[] #[]
variable {h:za}{t0 t1 t2 t3 t4 t5 t6:aaa}{R:VK}
def qs:FuncId->Nat:=λg=>[0,0,0,0,0,0,0,0,0,0,0,0,0,0,0,0,0,0,0,0,0,0,0,0,0,0,0,0,0,0,0,0,0,0,0,0,0,0,0,0,0,0,3,2,0,0,0,0,0,0,0,0,0,0,0,0,0,0,0,0,0,0,0,0,0,0,0,0,0,0,0,0,0,0,0,0,0,0,2].getD g 0
theorem mixed:prog.follows .mixedOrders=true:=acY Tryz.checked
theorem zU{f:FuncId}{args:List aaa}{X:Prop}(e:wpF zz (UL zz qs) 200 f args h R=X)(hw:X):DC zz f args h R:=fe mixed (q:=qs) (n:=200) (Eq.mpr e hw)
def ID:=λa b (c:LK) d (e:za)=>
 opt (yh zz 47 a (nth b 0)) λf=>j5 51 f 6 22 d e λg=>c [] g
def IE:=λc (b:za) d (e:LK)=>
 zn 49 c 5 47 b λf=>zQ (nb [] (zH zz 22 0 [] b)) λg a=>opt (zg zz 49 c 5) λh=>opt (zd zz 47 h (cut a b.next a.next)) λi=>opt (yh zz 47 i (nth d 0)) λj=>opt (zg zz 51 j 6) λk=>opt (zd zz 22 k (cut a b.next a.next)) λl=>TX zz [22,22] 22 [g,l] (some (b.next,a.next)) a a (ID f d e)
def IF:=λb a (c:LK) (g:List aaa) (d:za)=>
 BK (IE b d a)
 (λh e=>opt (zh .add 3 41 (nth a 0) 1) λf=>c [f] e)
def oB:=λa (f:LK) b (c:za) (g:LK)=>
 zn 49 a 5 47 c λh=>zQ (xw 47 h c) λi d=>opt (yi .lss 3 36 39 (nth b 0) i) λj=>CD j (λe=>e [] d)
 (λe=>f [] d)
 (IF a b g)
def IG:=λb f (g:LK) (l:List aaa) (a:za)=>
 zn 25 b 1 23 a λc=>opt (zd zz 49 f a) λd=>zQ (nb [d] (zH zz 23 1 [(0,d)] a)) λe h=>zQ (nb [c,e] (zB zz .append [23,23] 23 [c,e] h)) λi j=>j5 25 b 1 23 i j λk=>g [] k
def BC:=λi (b:za) j k (l:LK)=>
 zn 25 i 1 23 b λm=>wP 23 m (nth j 0) 49 b λn=>uH 49 b λa o=>opt (ye 49 a n o) λp=>zQ (nb [] (zH zz 22 0 [] p)) λc d=>zn 49 a 1 22 d λe=>zQ (nb [c,e] (zB zz .append [22,22] 22 [c,e] d)) λq r=>j5 49 a 1 22 q r λs=>zQ (nb [] (zH zz 47 0 [] s)) λf g=>zn 49 a 5 47 g λh=>zQ (nb [f,h] (zB zz .append [47,47] 47 [f,h] g)) λt u=>j5 49 a 5 47 t u λv=>BK (λw=>LP (oB a w)
 [pm 0] v)
 (IG k a l)
def II:=λb a c (d:LK) (h:List aaa) (e:za)=>
 BK (BC b e a c)
 (λi f=>opt (zh .add 3 19 (nth a 0) 1) λg=>d [g] f)
def oC:=λa (f:LK) g b (c:za) (h:LK)=>
 zn 25 a 1 23 c λi=>zQ (xw 23 i c) λj d=>opt (yi .lss 3 14 17 (nth b 0) j) λk=>CD k (λe=>e [] d)
 (λe=>f [] d)
 (II a b g h)
def IJ:=λc (j d:za) e (R:VK) f (a:za)=>
 opt (zg zz 25 c 2) λk=>opt (zd zz 3 k (cut (cut a j.next d.next) d.next a.next)) λg=>opt (nb [f,g] (zY zz 25 [(0,f),(2,g)])) λl=>uH 25 a λb m=>opt (ye 25 b l m) λn=>BK (λo=>LP (oC c o b)
 [pm 0] n)
 (λr h=>opt (zd zz 25 b h) λp=>opt (ye 25 e p h) λi=>opt (zd zz 25 e i) λq=>rv [q] i R)
def zbi:=λ(h:za) c (R:VK)=>
 opt (nb [c] (some (Value.cells c).toList)) λe=>nw h e 25 λd f=>uH 25 f λg b=>zQ (nb [] (zH zz 22 0 [] b)) λi a=>opt (zg zz 25 d 0) λj=>opt (zd zz 22 j (cut a b.next a.next)) λk=>TX zz [22,22] 22 [i,k] (some (b.next,a.next)) a a (IJ d b a g R)
theorem TB(hw:zbi h t0 R):DC zz 6 [t0] h R:=Tp mixed (q:=qs) (n:=200) (Eq.mpr (by kernel_rfl) hw)
def lJ:=λc (R:VK) d (e:LK) f (a:za)=>
 opt (pk c (.bool true) f) λg=>CD g (λb=>rv [.bool false] a R)
 (λb=>b [nth d 0] a)
 (λh i=>e [nth h 0] i)
def lK:=λa (R:VK) c (d:LK) e (b:za)=>
 ze a false (zh .gtr 3 38 e 65536) b (lJ a R c d) b
def lL:=λe b (a:za) (R:VK) (f:LK)=>
 wP 22 e (nth b 1) 3 a λc=>opt (zh .lss 3 35 c 0) λd=>GD d false (λg=>g c a) (lK d R b f) a
def FQ:=λa (b:LK) c (d:za)=>
 opt (zh .add 3 31 (nth a 1) 1) λe=>b [nth c 0,e] d
def aD:=λd (e:LK) f (R:VK) a (b:za) (g:LK)=>
 opt (yi .lss 3 31 30 (nth a 1) d) λh=>CD h (λc=>c [] b)
 (λc=>e [nth a 0] b)
 (λj i=>BK (lL f a i R)
 (FQ a g))
def Vr:=λc (R:VK) d (e:LK) f (a:za)=>
 opt (pk c f (.bool false)) λg=>CD g (λb=>rv [.bool false] a R)
 (λb=>b [nth d 0] a)
 (λh i=>e [nth h 0] i)
def Vs:=λa e b (R:VK) f (g:LK) h (c:za)=>
 ze a false (yi .gtr 2 105 111 e h) c (λi d=>ze b true (pk a (.bool true) i) d (Vr b R f g) d) c
def Vt:=λa d e f (R:VK) g (h:LK) i (c:za)=>
 ze a false (yh zz 22 d i) c (λj b=>ze a false (zd zz 3 j b) b (Vs a e f R g h) b) c
def Vu:=λa d e f (R:VK) g (h:LK) i (c:za)=>
 ze a false (zg zz 51 d 1) c (λj b=>ze a false (zd zz 3 j b) b (Vt a i e f R g h) b) c
def XH:=λa d e f (R:VK) g (h:LK) i (c:za)=>
 ze a false (zg zz 25 d 0) c (λj b=>ze a false (zd zz 22 j b) b (Vu a e i f R g h) b) c
def XI:=λc e f (R:VK) g (h:LK) a (d:za)=>
 ze a false (zg zz 51 c 5) d (λi b=>ze a false (zd zz 2 i b) b (XH a e c f R g h) b) d
def XJ:=λa d e f (R:VK) g (h:LK) i (b:za)=>
 ze a true (pk d (.bool true) i) b (λj c=>GD a true (λk=>k j c) (XI e f a R g h) c) b
def XK:=λa c d e (R:VK) f (g:LK) h (b:za)=>
 ze a false (zh .lss 2 100 h 0) b (XJ c a d e R f g) b
def XL:=λc e f (R:VK) g (h:LK) a (d:za)=>
 ze a false (zg zz 51 c 5) d (λi b=>ze a false (zd zz 2 i b) b (XK a e c f R g h) b) d
def XM:=λa d e (R:VK) f (g:LK) h (b:za)=>
 ze a true (Z7 zz .not h) b (λi c=>GD a true (λj=>j i c) (XL d a e R f g) c) b
def dw:=λa e f g (R:VK) h (i:LK) j (b:za)=>
 GD a true (λk=>zQ (xw 22 j b) λc _=>k c b) (λc d=>GD a true (λl=>YO zz 54 [e,c] d (λm n=>l m n)) (XM a f g R h i) d) b
def dx:=λa c e (R:VK) f (g:LK) h (d:za)=>
 ze a true (zg zz 25 c 0) d (λi b=>ze a true (zd zz 22 i b) b (dw a h e c R f g) b) d
def dy:=λa (b:za) e (R:VK) f (g:LK)=>
 zn 51 a 0 3 b λh=>opt (zh .eql 3 88 h 8) λc=>ze c true (zg zz 51 a 1) b (λi d=>ze c true (zd zz 3 i d) d (dx c e a R f g) d) b
def Vj:=λb (R:VK) c d e (f:LK) g (a:za)=>
 opt (pk b g (.bool false)) λh=>CD h (λk=>rv [.bool false] a R)
 (dy c a d R e)
 (λi j=>f [nth i 0] j)
def Vk:=λa e b (R:VK) f g h (i:LK) j (c:za)=>
 ze a false (yi .neq 3 79 82 e j) c (λk d=>ze b true (pk a (.bool true) k) d (Vj b R f g h i) d) c
def Vl:=λa d e (R:VK) f g h (i:LK) j (b:za)=>
 ze a false (zd zz 22 j b) b (λk c=>GD a false (λl=>zQ (xw 22 k c) λm _=>l m c) (Vk a d e R f g h i) c) b
def Vm:=λa d f (R:VK) g h (i:LK) j (b:za)=>
 GD a false (λk=>zQ (xw 22 j b) λc _=>k c b) (λc e=>ze a false (zg zz 51 d 6) e (Vl a c f R d g h i) e) b
def Vn:=λa d e (R:VK) f g (h:LK) i (c:za)=>
 ze a false (zg zz 49 i 1) c (λj b=>ze a false (zd zz 22 j b) b (Vm a d e R f g h) b) c
def Vo:=λa d e f (R:VK) g h (i:LK) j (b:za)=>
 ze a false (zd zz 3 j b) b (λk c=>ze a false (yh zz 23 d k) c (Vn a e f R g h i) c) b
def Vp:=λa c e (R:VK) f g (h:LK) i (b:za)=>
 ze a false (zd zz 23 i b) b (λj d=>ze a false (zg zz 51 c 1) d (Vo a j c e R f g h) d) b
def Vq:=λa b f (R:VK) g (h:LK) i (c:za)=>
 GD a true (λj=>j i c) (λd e=>ze d false (zg zz 25 b 1) e (Vp d f a R b g h) e) c
def dz:=λa e f g (R:VK) h (i:LK) j (c:za)=>
 GD a true (λk=>YO zz 54 [e,j] c (λb l=>k b l)) (λb d=>ze a true (Z7 zz .not b) d (Vq a f g R h i) d) c
def dC:=λa d e f (R:VK) g (h:LK) i (b:za)=>
 ze a true (zd zz 23 i b) b (λj c=>GD a true (λk=>zQ (xw 23 j c) λl _=>k l c) (dz a d e f R g h) c) b
def dD:=λa c e (R:VK) f (g:LK) h (b:za)=>
 ze a true (zd zz 3 h b) b (λi d=>ze a true (zg zz 25 c 1) d (dC a i c e R f g) d) b
def dE:=λa (b:za) d (R:VK) e (f:LK)=>
 zn 51 a 0 3 b λg=>opt (zh .eql 3 61 g 10) λc=>ze c true (zg zz 51 a 1) b (dD c d a R e f) b
def nh:=λd a (b:za) e (R:VK) (f:LK)=>
 wP 47 d (nth a 1) 51 b λg=>uH 51 b λc h=>opt (ye 51 c g h) λi=>BK (dE c i e R a)
 (λj k=>f [nth j 0] k)
def CC:=λa (b:LK) c (d:za)=>
 opt (zh .add 3 55 (nth a 1) 1) λe=>b [nth c 0,e] d
def ni:=λd (e:LK) f g (R:VK) a (b:za) (h:LK)=>
 opt (yi .lss 3 55 54 (nth a 1) d) λi=>CD i (λc=>c [] b)
 (λc=>e [nth a 0] b)
 (λk j=>BK (nh f a j g R)
 (CC a h))
def CE:=λc d (R:VK) (e:LK) f (a:za)=>
 zn 49 c 5 47 a λb=>zQ (xw 47 b a) λg h=>BK (λi=>LP (ni g i b d R)
 [nth f 0,pm 0] h)
 (λj k=>e [nth j 0] k)
def CF:=λg b (c:za) (R:VK) h (i:LK)=>
 wP 23 g (nth b 1) 49 c λj=>uH 49 c λa k=>opt (ye 49 a j k) λd=>opt (zd zz 49 a d) λl=>zq zz (fn 55) [l] d (λm e=>opt (Z7 zz .not m) λn=>CD n (λf=>rv [.bool false] e R)
 (λf=>f [nth b 0] e)
 (CE a h R i))
def CG:=λa (b:LK) c (d:za)=>
 opt (zh .add 3 45 (nth a 1) 1) λe=>b [nth c 0,e] d
def nj:=λd (e:LK) f (R:VK) g a (b:za) (h:LK)=>
 opt (yi .lss 3 45 44 (nth a 1) d) λi=>CD i (λc=>c [] b)
 (λc=>e [nth a 0] b)
 (λk j=>BK (CF f a j R g)
 (CG a h))
def nk:=λa (R:VK) d (b:za)=>
 zn 25 a 1 23 b λc=>zQ (xw 23 c b) λe f=>BK (λg=>LP (nj e g c R a)
 [nth d 0,pm 0] f)
 (λi h=>rv [.bool true] h R)
def nq:=λa (R:VK) d (b:za)=>
 zn 25 a 0 22 b λc=>zQ (xw 22 c b) λe f=>BK (λg=>LP (aD e g c R)
 [nth d 0,pm 0] f)
 (nk a R)
def QE:=λa (R:VK) e f (b:za)=>
 ze a false (zh .gtr 3 25 f 200) b (λg c=>opt (pk a (.bool true) g) λh=>CD h (λd=>rv [.bool false] c R)
 (λd=>d [.bool false] c)
 (nq e R)) b
def QF:=λa (R:VK) d e (b:za)=>
 ze a false (zd zz 22 e b) b (λf c=>GD a false (λg=>zQ (xw 22 f c) λh i=>g h i) (QE a R d) c) b
def QG:=λa b (R:VK) f (c:za)=>
 ze a false (zh .gtr 3 19 f 100) c (λg d=>opt (pk a (.bool true) g) λe=>ze e false (zg zz 25 b 0) d (QF e R b) d) c
def QH:=λa d (R:VK) e (b:za)=>
 ze a false (zd zz 23 e b) b (λf c=>GD a false (λg=>zQ (xw 23 f c) λh i=>g h i) (QG a d R) c) b
def RI:=λ(h:za) c (R:VK)=>
 opt (nb [c] (some (Value.cells c).toList)) λf=>nw h f 25 λa b=>zn 25 a 2 3 b λg=>zn 25 a 1 23 b λi=>zQ (xw 23 i b) λj k=>zq zz (fn 54) [g,j] k (λl d=>opt (Z7 zz .not l) λe=>ze e false (zg zz 25 a 1) d (QH e a R) d)
theorem Od(hw:RI h t0 R):DC zz 27 [t0] h R:=zU (by kernel_rfl) hw
def lu:=λc (R:VK) d (e:LK) f (a:za)=>
 opt (pk c (.bool true) f) λg=>CD g (λb=>rv [.bool false] a R)
 (λb=>b [nth d 0] a)
 (λh i=>e [nth h 0] i)
def lx:=λa (R:VK) c (d:LK) e (b:za)=>
 ze a false (zh .gtr 3 49 e 65536) b (lu a R c d) b
def ly:=λa d (R:VK) e (f:LK) g (c:za)=>
 ze a false (yh zz 22 d g) c (λh b=>ze a false (zd zz 3 h b) b (lx a R e f) b) c
def lz:=λa c (R:VK) (e:LK) f (b:za)=>
 ze a false (zd zz 22 f b) b (λg d=>GD a false (λh=>h (nth c 1) d) (ly a g R c e) d) b
def lD:=λb (a:za) c (R:VK) (e:LK)=>
 zn 25 b 0 22 a λf=>wP 22 f (nth c 1) 3 a λg=>opt (zh .lss 3 42 g 0) λd=>ze d false (zg zz 25 b 0) a (lz d c R e) a
def FB:=λa (b:LK) c (d:za)=>
 opt (zh .add 3 36 (nth a 1) 1) λe=>b [nth c 0,e] d
def J4:=λb (f:LK) (R:VK) a (c:za) (g:LK)=>
 zn 25 b 0 22 c λh=>zQ (xw 22 h c) λi d=>opt (yi .lss 3 31 34 (nth a 1) i) λj=>CD j (λe=>e [] d)
 (λe=>f [nth a 0] d)
 (λl k=>BK (lD b k a R)
 (FB a g))
def Wb:=λc (R:VK) d (e:LK) f (a:za)=>
 opt (pk c f (.bool false)) λg=>CD g (λb=>rv [.bool false] a R)
 (λb=>b [nth d 0] a)
 (λh i=>e [nth h 0] i)
def Wc:=λa e b (R:VK) f (g:LK) h (c:za)=>
 ze a false (yi .gtr 2 131 137 e h) c (λi d=>ze b true (pk a (.bool true) i) d (Wb b R f g) d) c
def Yq:=λa d e f (R:VK) g (h:LK) i (c:za)=>
 ze a false (yh zz 22 d i) c (λj b=>ze a false (zd zz 3 j b) b (Wc a e f R g h) b) c
def Yr:=λa d e f (R:VK) g (h:LK) i (c:za)=>
 ze a false (zg zz 51 d 1) c (λj b=>ze a false (zd zz 3 j b) b (Yq a i e f R g h) b) c
def Ys:=λa d e f (R:VK) g (h:LK) i (c:za)=>
 ze a false (zg zz 25 d 0) c (λj b=>ze a false (zd zz 22 j b) b (Yr a e i f R g h) b) c
def Yt:=λc e f (R:VK) g (h:LK) a (d:za)=>
 ze a false (zg zz 51 c 5) d (λi b=>ze a false (zd zz 2 i b) b (Ys a e c f R g h) b) d
def Yu:=λa d e f (R:VK) g (h:LK) i (b:za)=>
 ze a true (pk d (.bool true) i) b (λj c=>GD a true (λk=>k j c) (Yt e f a R g h) c) b
def Yv:=λa c d e (R:VK) f (g:LK) h (b:za)=>
 ze a false (zh .lss 2 126 h 0) b (Yu c a d e R f g) b
def Yw:=λc e f (R:VK) g (h:LK) a (d:za)=>
 ze a false (zg zz 51 c 5) d (λi b=>ze a false (zd zz 2 i b) b (Yv a e c f R g h) b) d
def Yx:=λa d e f (R:VK) g (h:LK) i (b:za)=>
 ze a true (pk d (.bool true) i) b (λj c=>GD a true (λk=>k j c) (Yw e a f R g h) c) b
def Yy:=λa c d e f (R:VK) g (h:LK) i (b:za)=>
 ze a false (yi .geq 3 118 121 c i) b (Yx d a e f R g h) b
def Yz:=λb c d e f (R:VK) g (h:LK) i (a:za)=>
 GD b false (λj=>zQ (xw 22 i a) λk _=>j k a) (Yy b c d e f R g h) a
def YA:=λa c e f (R:VK) g (h:LK) i (d:za)=>
 ze a false (zg zz 25 c 0) d (λj b=>ze a false (zd zz 22 j b) b (Yz a i e f c R g h) b) d
def YB:=λc e f (R:VK) g (h:LK) a (d:za)=>
 ze a false (zg zz 51 c 1) d (λi b=>ze a false (zd zz 3 i b) b (YA a e f c R g h) b) d
def YC:=λa d e (R:VK) f (g:LK) h (b:za)=>
 ze a true (zh .lss 3 114 h 0) b (λi c=>GD a true (λj=>j i c) (YB d e a R f g) c) b
def YD:=λa e (R:VK) (f:LK) g (b:za)=>
 zn 51 a 0 3 b λh=>opt (zh .eql 3 110 h 8) λc=>ze c true (zg zz 51 a 1) b (λi d=>ze c true (zd zz 3 i d) d (YC c a e R g f) d) b
def kt:=λa e (R:VK) f g h (i:LK) j (b:za)=>
 ze a true (pk e (.bool true) j) b (λk c=>opt (pk a k (.bool false)) λl=>CD l (λd=>rv [.bool false] c R)
 (λd=>d [nth f 0] c)
 (YD g h R i)) b
def ku:=λa c d (R:VK) e f g (h:LK) i (b:za)=>
 ze a false (yi .neq 3 102 105 c i) b (kt d a R e f g h) b
def kx:=λb c d (R:VK) e f g (h:LK) i (a:za)=>
 GD b false (λj=>zQ (xw 22 i a) λk _=>j k a) (ku b c d R e f g h) a
def kA:=λa c e (R:VK) f g (h:LK) i (d:za)=>
 ze a false (zg zz 51 c 6) d (λj b=>ze a false (zd zz 22 j b) b (kx a i e R f c g h) b) d
def kB:=λa d e (R:VK) f g (h:LK) i (b:za)=>
 ze a false (zd zz 22 i b) b (λj c=>GD a false (λk=>zQ (xw 22 j c) λl _=>k l c) (kA a d e R f g h) c) b
def kC:=λa d e f (R:VK) g h (i:LK) j (b:za)=>
 ze a false (yh zz 23 d j) b (λk c=>ze a false (zg zz 49 k 1) c (kB a e f R g h i) c) b
def kD:=λa c e (R:VK) f g (h:LK) i (d:za)=>
 ze a false (zg zz 51 c 1) d (λj b=>ze a false (zd zz 3 j b) b (kC a i c e R f g h) b) d
def kE:=λc e f (R:VK) g (h:LK) a (d:za)=>
 ze a false (zg zz 25 c 1) d (λi b=>ze a false (zd zz 23 i b) b (kD a e f R g c h) b) d
def kF:=λa d e f (R:VK) g (h:LK) i (b:za)=>
 ze a true (pk d (.bool true) i) b (λj c=>GD a true (λk=>k j c) (kE e f a R g h) c) b
def kG:=λa c d e f (R:VK) g (h:LK) i (b:za)=>
 ze a false (yi .geq 3 88 91 c i) b (kF d a e f R g h) b
def kH:=λa d e f g (R:VK) h (i:LK) j (b:za)=>
 ze a false (zd zz 23 j b) b (λk c=>GD a false (λl=>zQ (xw 23 k c) λm _=>l m c) (kG a d e f g R h i) c) b
def kI:=λa c e f (R:VK) g (h:LK) i (b:za)=>
 ze a false (zd zz 3 i b) b (λj d=>ze a false (zg zz 25 c 1) d (kH a j e c f R g h) d) b
def kJ:=λa b f (R:VK) g (h:LK) i (c:za)=>
 GD a true (λj=>j i c) (λd e=>ze d false (zg zz 51 b 1) e (kI d f a b R g h) e) c
def kK:=λa c d (R:VK) e (f:LK) g (b:za)=>
 ze a true (zh .lss 3 84 g 0) b (kJ a c d R e f) b
def m5:=λg (b:za) f h (R:VK) (i:LK)=>
 zn 49 g 5 47 b λj=>wP 47 j (nth f 1) 51 b λk=>uH 51 b λa l=>opt (ye 51 a k l) λc=>zn 51 a 0 3 c λm=>opt (zh .eql 3 80 m 10) λd=>ze d true (zg zz 51 a 1) c (λn e=>ze d true (zd zz 3 n e) e (kK d a h R f i) e) c
def Ci:=λa (b:LK) c (d:za)=>
 opt (zh .add 3 72 (nth a 1) 1) λe=>b [nth c 0,e] d
def m6:=λb (f:LK) g (R:VK) a (c:za) (h:LK)=>
 zn 49 b 5 47 c λi=>zQ (xw 47 i c) λj d=>opt (yi .lss 3 67 70 (nth a 1) j) λk=>CD k (λe=>e [] d)
 (λe=>f [nth a 0] d)
 (λm l=>BK (m5 b l a g R)
 (Ci a h))
def m7:=λ(R:VK) c d e (f:LK) g (a:za)=>
 opt (Z7 zz .not g) λh=>CD h (λb=>rv [.bool false] a R)
 (λb=>b [nth c 0] a)
 (λi j=>BK (λk=>LP (m6 d k e R)
 [nth i 0,pm 0] j)
 (λl m=>f [nth l 0] m))
def Cj:=λc (a:za) d (R:VK) (f:LK)=>
 zn 25 c 1 23 a λg=>wP 23 g (nth d 1) 49 a λh=>uH 49 a λb i=>opt (ye 49 b h i) λe=>opt (zd zz 49 b e) λj=>zq zz (fn 40) [j] e (m7 R d b c f)
def Ck:=λa (b:LK) c (d:za)=>
 opt (zh .add 3 57 (nth a 1) 1) λe=>b [nth c 0,e] d
def cM:=λb (f:LK) (R:VK) a (c:za) (g:LK)=>
 zn 25 b 1 23 c λh=>zQ (xw 23 h c) λi d=>opt (yi .lss 3 52 55 (nth a 1) i) λj=>CD j (λe=>e [] d)
 (λe=>f [nth a 0] d)
 (λl k=>BK (Cj b k a R)
 (Ck a g))
def cN:=λa (R:VK) b (c:za)=>
 BK (λd=>LP (J4 a d R)
 [nth b 0,pm 0] c)
 (λe f=>BK (λg=>LP (cM a g R)
 [nth e 0,pm 0] f)
 (λi h=>rv [.bool true] h R))
def W9:=λa e (R:VK) f g (b:za)=>
 ze a false (yi .geq 3 25 28 e g) b (λh c=>opt (pk a (.bool true) h) λi=>CD i (λd=>rv [.bool false] c R)
 (λd=>d [.bool false] c)
 (cN f R)) b
def Va:=λa d (R:VK) e f (b:za)=>
 ze a false (zd zz 23 f b) b (λg c=>GD a false (λh=>zQ (xw 23 g c) λi j=>h i j) (W9 a d R e) c) b
def Vb:=λa c (R:VK) e (b:za)=>
 ze a false (zd zz 3 e b) b (λf d=>ze a false (zg zz 25 c 1) d (Va a f R c) d) b
def Vc:=λa b (R:VK) f (c:za)=>
 ze a false (zh .lss 3 20 f 0) c (λg d=>opt (pk a (.bool true) g) λe=>ze e false (zg zz 25 b 2) d (Vb e b R) d) c
def Vd:=λe c (R:VK) f (d:za)=>
 opt (pk e (.bool true) f) λa=>ze a false (zg zz 25 c 2) d (λg b=>ze a false (zd zz 3 g b) b (Vc a c R) b) d
def Ve:=λa c (R:VK) d (b:za)=>
 ze a false (zh .gtr 3 15 d 100) b (Vd a c R) b
def Vf:=λa d (R:VK) e (b:za)=>
 ze a false (zd zz 23 e b) b (λf c=>GD a false (λg=>zQ (xw 23 f c) λh i=>g h i) (Ve a d R) c) b
def Rt:=λ(h:za) b (R:VK)=>
 opt (nb [b] (some (Value.cells b).toList)) λf=>nw h f 25 λa c=>zn 25 a 0 22 c λg=>zQ (xw 22 g c) λi d=>opt (zh .gtr 3 10 i 200) λe=>ze e false (zg zz 25 a 1) d (Vf e a R) d
theorem N6(hw:Rt h t0 R):DC zz 18 [t0] h R:=zU (by kernel_rfl) hw
def bZ:=λd (a:za) b e (R:VK) (f:LK)=>
 zn 25 d 0 22 a λg=>wP 22 g (nth b 1) 3 a λh=>zn 25 e 0 22 a λi=>wP 22 i (nth b 1) 3 a λj=>opt (yi .neq 3 41 46 h j) λk=>CD k (λc=>rv [.bool false] a R)
 (λc=>c [nth b 0] a)
 (λl m=>f [nth l 0] m)
def oO:=λa (b:LK) c (d:za)=>
 opt (zh .add 3 35 (nth a 1) 1) λe=>b [nth c 0,e] d
def US:=λb (f:LK) g (R:VK) a (c:za) (h:LK)=>
 zn 25 b 0 22 c λi=>zQ (xw 22 i c) λj d=>opt (yi .lss 3 30 33 (nth a 1) j) λk=>CD k (λe=>e [] d)
 (λe=>f [nth a 0] d)
 (λm l=>BK (bZ b l a g R)
 (oO a h))
def cA:=λ(R:VK) c (d:LK) e (a:za)=>
 opt (Z7 zz .not e) λf=>CD f (λb=>rv [.bool false] a R)
 (λb=>b [nth c 0] a)
 (λg h=>d [nth g 0] h)
def oP:=λc (a:za) b d (R:VK) (e:LK)=>
 zn 25 c 1 23 a λf=>wP 23 f (nth b 1) 49 a λg=>zn 25 d 1 23 a λh=>wP 23 h (nth b 1) 49 a λi=>YO zz 26 [g,i] a (cA R b e)
def oQ:=λa (b:LK) c (d:za)=>
 opt (zh .add 3 53 (nth a 1) 1) λe=>b [nth c 0,e] d
def UT:=λb (f:LK) g (R:VK) a (c:za) (h:LK)=>
 zn 25 b 1 23 c λi=>zQ (xw 23 i c) λj d=>opt (yi .lss 3 48 51 (nth a 1) j) λk=>CD k (λe=>e [] d)
 (λe=>f [nth a 0] d)
 (λm l=>BK (oP b l a g R)
 (oQ a h))
def cB:=λa b (R:VK) c (d:za)=>
 BK (λe=>LP (US a e b R)
 [nth c 0,pm 0] d)
 (λf g=>BK (λh=>LP (UT a h b R)
 [nth f 0,pm 0] g)
 (λj i=>rv [.bool true] i R))
def WD:=λa e (R:VK) f g h (b:za)=>
 ze a false (yi .neq 3 24 27 e h) b (λi c=>opt (pk a (.bool true) i) λj=>CD j (λd=>rv [.bool false] c R)
 (λd=>d [.bool false] c)
 (cB f g R)) b
def Xr:=λa d (R:VK) e f g (b:za)=>
 ze a false (zd zz 22 g b) b (λh c=>GD a false (λi=>zQ (xw 22 h c) λj k=>i j k) (WD a d R e f) c) b
def Xs:=λa c (R:VK) f g (d:za)=>
 GD a false (λh=>zQ (xw 22 g d) λb i=>h b i) (λb e=>ze a false (zg zz 25 c 0) e (Xr a b R f c) e) d
def Xt:=λe c f (R:VK) g (d:za)=>
 opt (pk e (.bool true) g) λa=>ze a false (zg zz 25 c 0) d (λh b=>ze a false (zd zz 22 h b) b (Xs a f R c) b) d
def Xu:=λa e f g (R:VK) h (c:za)=>
 GD a false (λi=>zQ (xw 23 h c) λb j=>i b j) (λb d=>ze a false (yi .neq 3 15 18 e b) d (Xt a f g R) d) c
def Xv:=λa c e (R:VK) f (d:za)=>
 ze a false (zg zz 25 c 1) d (λg b=>ze a false (zd zz 23 g b) b (Xu a f e c R) b) d
def Xw:=λa d e (R:VK) f (b:za)=>
 ze a false (zd zz 23 f b) b (λg c=>GD a false (λh=>zQ (xw 23 g c) λi j=>h i j) (Xv a d e R) c) b
def B3:=λ(h:za) c d (R:VK)=>
 opt (nb [c] (some (Value.cells c).toList)) λg=>nw h g 25 λb i=>opt (nb [d] (some (Value.cells d).toList)) λj=>nw i j 25 λe a=>zn 25 b 2 3 a λk=>zn 25 e 2 3 a λl=>opt (yi .neq 3 8 10 k l) λf=>ze f false (zg zz 25 b 1) a (Xw f e b R) a
theorem Es(hw:B3 h t0 t1 R):DC zz 11 [t0,t1] h R:=zU (by kernel_rfl) hw
def Rk:=λ(h:za) a (R:VK)=>
 opt (nb [a] (some (Value.cells a).toList)) λc=>nw h c 51 λb d=>opt (nb ([]++[b]) (some (Value.func (.func 106) [].toArray [b].toArray))) λe=>rv [e] d R
theorem N1(hw:Rk h t0 R):DC zz 101 [t0] h R:=zU (by kernel_rfl) hw
def zbs:=λ(h:za) a (R:VK)=>
 opt (nb [a] (some (Value.cells a).toList)) λc=>nw h c 51 λb d=>opt (nb ([]++[b]) (some (Value.func (.func 89) [].toArray [b].toArray))) λe=>rv [e] d R
theorem TJ(hw:zbs h t0 R):DC zz 57 [t0] h R:=zU (by kernel_rfl) hw
def nB:=λa c (R:VK) d (b:za)=>
 ze a true (yi .lss 3 8 9 c d) b (λe f=>opt (pk a e (.bool false)) λg=>rv [g] f R) b
def LS:=λ(h:za) b d (R:VK)=>
 opt (zh .geq 3 5 b 0) λa=>GD a true (λe=>e b h) (λf c=>GD a true (λg=>g d c) (nB a f R) c) h
theorem LU(hw:LS h t0 t1 R):DC zz 54 [t0,t1] h R:=zU (by kernel_rfl) hw
def jb:=λc (R:VK) d e f (g:LK) h (a:za)=>
 opt (pk c (.bool true) h) λi=>CD i (λb=>rv [.bool false] a R)
 (λb=>b [nth d 0] a)
 (λj k=>opt (yh zz 149 e f) λl=>opt (ye 4 l (.bool true) k) λm=>g [nth j 0] m)
def jc:=λa d (R:VK) e f g (h:LK) i (c:za)=>
 ze a false (yh zz 149 d i) c (λj b=>ze a false (zd zz 4 j b) b (jb a R e f g h) b) c
def jd:=λb c (R:VK) f (g:LK) h (d:za)=>
 opt (Z7 zz .not h) λa=>GD a false (λi=>i b d) (λj e=>GD a false (λk=>k c e) (jc a j R f b c g) e) d
def ZT:=λd b (a:za) e f (R:VK) (g:LK)=>
 wP 22 d (nth b 1) 3 a λc=>zn 49 e 2 3 a λh=>zq zz (fn 54) [c,h] a (jd f c R b g)
def ZU:=λa (b:LK) c (d:za)=>
 opt (zh .add 3 45 (nth a 1) 1) λe=>b [nth c 0,e] d
def Za:=λd (e:LK) f g h (R:VK) a (b:za) (i:LK)=>
 opt (yi .lss 3 45 44 (nth a 1) d) λj=>CD j (λc=>c [] b)
 (λc=>e [nth a 0] b)
 (λl k=>BK (ZT f a k g h R)
 (ZU a i))
def Zb:=λa (R:VK) (h:List aaa) (b:za)=>
 zn 49 a 5 47 b λc=>opt (nb ([]++[a]) (some (Value.func (.func 87) [].toArray [a].toArray))) λd=>zq zz (fn 29) [c,d] b (λe f=>opt (Z7 zz .not e) λg=>rv [g] f R)
def Zc:=λa (R:VK) f (b:za)=>
 zn 49 a 2 3 b λc=>zQ (Wo zz 149 c c b) λg d=>zn 49 a 1 22 d λe=>zQ (xw 22 e d) λh i=>BK (λj=>LP (Za h j e a g R)
 [nth f 0,pm 0] i)
 (Zb a R)
def uN:=λa (R:VK) e f (b:za)=>
 ze a false (zh .gtr 3 36 f 65536) b (λg c=>opt (pk a (.bool true) g) λh=>CD h (λd=>rv [.bool false] c R)
 (λd=>d [.bool false] c)
 (Zc e R)) b
def vF:=λe c (R:VK) f (d:za)=>
 opt (pk e (.bool true) f) λa=>ze a false (zg zz 49 c 3) d (λg b=>ze a false (zd zz 3 g b) b (uN a R c) b) d
def vG:=λa c (R:VK) d (b:za)=>
 ze a false (zh .lss 3 31 d 0) b (vF a c R) b
def wx:=λe c (R:VK) f (d:za)=>
 opt (pk e (.bool true) f) λa=>ze a false (zg zz 49 c 3) d (λg b=>ze a false (zd zz 3 g b) b (vG a c R) b) d
def u4:=λa e f (R:VK) g (c:za)=>
 GD a false (λh=>zq zz (fn 54) [e,g] c (λb i=>h b i)) (λb d=>ze a false (Z7 zz .not b) d (wx a f R) d) c
def u5:=λa d e (R:VK) f (b:za)=>
 ze a false (zd zz 47 f b) b (λg c=>GD a false (λh=>zQ (xw 47 g c) λi j=>h i j) (u4 a d e R) c) b
def u6:=λa c (R:VK) e (b:za)=>
 ze a false (zd zz 3 e b) b (λf d=>ze a false (zg zz 49 c 5) d (u5 a f c R) d) b
def u7:=λa b (R:VK) f (c:za)=>
 ze a false (zh .gtr 3 17 f 5000) c (λg d=>opt (pk a (.bool true) g) λe=>ze e false (zg zz 49 b 4) d (u6 e b R) d) c
def qR:=λe c (R:VK) f (d:za)=>
 opt (pk e (.bool true) f) λa=>ze a false (zg zz 49 c 2) d (λg b=>ze a false (zd zz 3 g b) b (u7 a c R) b) d
def u9:=λa c (R:VK) d (b:za)=>
 ze a false (zh .lss 3 12 d 0) b (qR a c R) b
def oN:=λ(h:za) d (R:VK)=>
 opt (nb [d] (some (Value.cells d).toList)) λg=>nw h g 49 λa e=>zn 49 a 5 47 e λi=>zQ (xw 47 i e) λj f=>opt (zh .gtr 3 8 j 5000) λb=>ze b false (zg zz 49 a 2) f (λk c=>ze b false (zd zz 3 k c) c (u9 b a R) c) f
theorem mV(hw:oN h t0 R):DC zz 55 [t0] h R:=zU (by kernel_rfl) hw
def m8:=λb (a:za) c e (R:VK) (f:LK)=>
 zn 49 b 1 22 a λg=>wP 22 g (nth c 1) 3 a λh=>zn 49 b 1 22 a λi=>wP 22 i (nth e 1) 3 a λj=>opt (yi .eql 3 75 80 h j) λk=>CD k (λd=>rv [.bool false] a R)
 (λd=>d [nth c 0] a)
 (λl m=>f [nth l 0] m)
def Cn:=λa (b:LK) c (d:za)=>
 opt (zh .add 3 69 (nth a 1) 1) λe=>b [nth c 0,e] d
def cV:=λb (e:LK) f (R:VK) a (c:za) (g:LK)=>
 opt (yi .lss 3 66 67 (nth a 1) (nth b 1)) λh=>CD h (λd=>d [] c)
 (λd=>e [nth a 0] c)
 (λj i=>BK (m8 f i a b R)
 (Cn a g))
def cW:=λd (R:VK) a e (f:LK) g (b:za)=>
 opt (pk d (.bool true) g) λh=>CD h (λc=>rv [.bool false] b R)
 (λc=>c [nth a 0] b)
 (λi j=>BK (λk=>LP (cV a k e R)
 [nth i 0,pm 0] j)
 (λl m=>f [nth l 0] m))
def cX:=λa d (R:VK) e f (g:LK) h (b:za)=>
 ze a false (zd zz 3 h b) b (λi c=>ze a false (yi .geq 3 61 63 d i) c (cW a R e f g) c) b
def cY:=λa c (R:VK) e (f:LK) g (b:za)=>
 ze a false (zd zz 3 g b) b (λh d=>ze a false (zg zz 49 c 2) d (cX a h R e c f) d) b
def cZ:=λa b e (R:VK) (f:LK) g (c:za)=>
 GD a false (λh=>h (nth b 1) c) (λi d=>ze a false (yh zz 22 g i) d (cY a e R b f) d) c
def dm:=λb (a:za) e (R:VK) (f:LK)=>
 zn 49 b 1 22 a λg=>wP 22 g (nth e 1) 3 a λh=>opt (zh .lss 3 54 h 0) λc=>ze c false (zg zz 49 b 1) a (λi d=>ze c false (zd zz 22 i d) d (cZ c e b R f) d) a
def Co:=λa (b:LK) c (d:za)=>
 opt (zh .add 3 48 (nth a 1) 1) λe=>b [nth c 0,e] d
def Up:=λb (f:LK) (R:VK) a (c:za) (g:LK)=>
 zn 49 b 1 22 c λh=>zQ (xw 22 h c) λi d=>opt (yi .lss 3 43 46 (nth a 1) i) λj=>CD j (λe=>e [] d)
 (λe=>f [nth a 0] d)
 (λl k=>BK (dm b k a R)
 (Co a g))
def gF:=λ(R:VK) c (d:LK) e (a:za)=>
 opt (Z7 zz .not e) λf=>CD f (λb=>rv [.bool false] a R)
 (λb=>b [nth c 0] a)
 (λg h=>d [nth g 0] h)
def Ao:=λb (a:za) c (R:VK) (d:LK)=>
 opt (zd zz 49 b a) λe=>zn 49 b 5 47 a λf=>wP 47 f (nth c 1) 51 a λg=>YO zz 77 [e,g] a (gF R c d)
def Ap:=λa (b:LK) c (d:za)=>
 opt (zh .add 3 87 (nth a 1) 1) λe=>b [nth c 0,e] d
def Kx:=λb (f:LK) (R:VK) a (c:za) (g:LK)=>
 zn 49 b 5 47 c λh=>zQ (xw 47 h c) λi d=>opt (yi .lss 3 82 85 (nth a 1) i) λj=>CD j (λe=>e [] d)
 (λe=>f [nth a 0] d)
 (λl k=>BK (Ao b k a R)
 (Ap a g))
def Ky:=λa (R:VK) b (c:za)=>
 BK (λd=>LP (Up a d R)
 [nth b 0,pm 0] c)
 (λe f=>BK (λg=>LP (Kx a g R)
 [nth e 0,pm 0] f)
 (λi h=>rv [.bool true] h R))
def jl:=λa (R:VK) e f (b:za)=>
 ze a false (zh .gtr 3 40 f 65536) b (λg c=>opt (pk a (.bool true) g) λh=>CD h (λd=>rv [.bool false] c R)
 (λd=>d [.bool false] c)
 (Ky e R)) b
def jm:=λe c (R:VK) f (d:za)=>
 opt (pk e (.bool true) f) λa=>ze a false (zg zz 49 c 3) d (λg b=>ze a false (zd zz 3 g b) b (jl a R c) b) d
def jn:=λa c (R:VK) d (b:za)=>
 ze a false (zh .lss 3 35 d 0) b (jm a c R) b
def jo:=λe c (R:VK) f (d:za)=>
 opt (pk e (.bool true) f) λa=>ze a false (zg zz 49 c 3) d (λg b=>ze a false (zd zz 3 g b) b (jn a c R) b) d
def jq:=λa e f (R:VK) g (c:za)=>
 GD a false (λh=>zQ (xw 47 g c) λb i=>h b i) (λb d=>ze a false (yi .geq 3 27 30 e b) d (jo a f R) d) c
def jr:=λa c (R:VK) e (d:za)=>
 ze a false (zg zz 49 c 5) d (λf b=>ze a false (zd zz 47 f b) b (jq a e c R) b) d
def jt:=λe c (R:VK) f (d:za)=>
 opt (pk e (.bool true) f) λa=>ze a false (zg zz 49 c 4) d (λg b=>ze a false (zd zz 3 g b) b (jr a c R) b) d
def ju:=λa c (R:VK) d (b:za)=>
 ze a false (zh .lss 3 22 d 0) b (jt a c R) b
def jv:=λe c (R:VK) f (d:za)=>
 opt (pk e (.bool true) f) λa=>ze a false (zg zz 49 c 4) d (λg b=>ze a false (zd zz 3 g b) b (ju a c R) b) d
def jw:=λa c (R:VK) d (b:za)=>
 ze a false (zh .gtr 3 17 d 5000) b (jv a c R) b
def jx:=λa d (R:VK) e (b:za)=>
 ze a false (zd zz 47 e b) b (λf c=>GD a false (λg=>zQ (xw 47 f c) λh i=>g h i) (jw a d R) c) b
def jy:=λa b (R:VK) f (c:za)=>
 ze a false (zh .gtr 3 11 f 5000) c (λg d=>opt (pk a (.bool true) g) λe=>ze e false (zg zz 49 b 5) d (jx e b R) d) c
def Lz:=λ(h:za) e (R:VK)=>
 opt (nb [e] (some (Value.cells e).toList)) λf=>nw h f 49 λa b=>zn 49 a 2 3 b λg=>opt (zh .lss 3 7 g 0) λc=>ze c false (zg zz 49 a 2) b (λi d=>ze c false (zd zz 3 i d) d (jy c a R) d) b
theorem LA(hw:Lz h t0 R):DC zz 40 [t0] h R:=zU (by kernel_rfl) hw
def JZ:=λd (a:za) b e (R:VK) (f:LK)=>
 zn 49 d 1 22 a λg=>wP 22 g (nth b 1) 3 a λh=>zn 49 e 1 22 a λi=>wP 22 i (nth b 1) 3 a λj=>opt (yi .neq 3 62 67 h j) λk=>CD k (λc=>rv [.bool false] a R)
 (λc=>c [nth b 0] a)
 (λl m=>f [nth l 0] m)
def fS:=λa (b:LK) c (d:za)=>
 opt (zh .add 3 56 (nth a 1) 1) λe=>b [nth c 0,e] d
def Qv:=λb (f:LK) g (R:VK) a (c:za) (h:LK)=>
 zn 49 b 1 22 c λi=>zQ (xw 22 i c) λj d=>opt (yi .lss 3 51 54 (nth a 1) j) λk=>CD k (λe=>e [] d)
 (λe=>f [nth a 0] d)
 (λm l=>BK (JZ b l a g R)
 (fS a h))
def J0:=λ(R:VK) c (d:LK) e (a:za)=>
 opt (Z7 zz .not e) λf=>CD f (λb=>rv [.bool false] a R)
 (λb=>b [nth c 0] a)
 (λg h=>d [nth g 0] h)
def fT:=λc (a:za) b d (R:VK) (e:LK)=>
 zn 49 c 5 47 a λf=>wP 47 f (nth b 1) 51 a λg=>zn 49 d 5 47 a λh=>wP 47 h (nth b 1) 51 a λi=>YO zz 53 [g,i] a (J0 R b e)
def Ld:=λa (b:LK) c (d:za)=>
 opt (zh .add 3 74 (nth a 1) 1) λe=>b [nth c 0,e] d
def oR:=λb (f:LK) g (R:VK) a (c:za) (h:LK)=>
 zn 49 b 5 47 c λi=>zQ (xw 47 i c) λj d=>opt (yi .lss 3 69 72 (nth a 1) j) λk=>CD k (λe=>e [] d)
 (λe=>f [nth a 0] d)
 (λm l=>BK (fT b l a g R)
 (Ld a h))
def B4:=λa b (R:VK) c (d:za)=>
 BK (λe=>LP (Qv a e b R)
 [nth c 0,pm 0] d)
 (λf g=>BK (λh=>LP (oR a h b R)
 [nth f 0,pm 0] g)
 (λj i=>rv [.bool true] i R))
def Uk:=λa e (R:VK) f g h (b:za)=>
 ze a false (yi .neq 3 45 48 e h) b (λi c=>opt (pk a (.bool true) i) λj=>CD j (λd=>rv [.bool false] c R)
 (λd=>d [.bool false] c)
 (B4 f g R)) b
def XW:=λa d (R:VK) e f g (b:za)=>
 ze a false (zd zz 47 g b) b (λh c=>GD a false (λi=>zQ (xw 47 h c) λj k=>i j k) (Uk a d R e f) c) b
def XX:=λa c (R:VK) f g (d:za)=>
 GD a false (λh=>zQ (xw 47 g d) λb i=>h b i) (λb e=>ze a false (zg zz 49 c 5) e (XW a b R f c) e) d
def XY:=λe c f (R:VK) g (d:za)=>
 opt (pk e (.bool true) g) λa=>ze a false (zg zz 49 c 5) d (λh b=>ze a false (zd zz 47 h b) b (XX a f R c) b) d
def XZ:=λa e f g (R:VK) h (c:za)=>
 GD a false (λi=>zQ (xw 22 h c) λb j=>i b j) (λb d=>ze a false (yi .neq 3 36 39 e b) d (XY a f g R) d) c
def X0:=λa c e (R:VK) f (d:za)=>
 ze a false (zg zz 49 c 1) d (λg b=>ze a false (zd zz 22 g b) b (XZ a f e c R) b) d
def X1:=λa d e (R:VK) f (b:za)=>
 ze a false (zd zz 22 f b) b (λg c=>GD a false (λh=>zQ (xw 22 g c) λi j=>h i j) (X0 a d e R) c) b
def X3:=λa f b g (R:VK) h (c:za)=>
 ze a false (yi .neq 3 28 30 f h) c (λi d=>opt (pk a (.bool true) i) λe=>ze e false (zg zz 49 b 1) d (X1 e g b R) d) c
def X4:=λa c e (R:VK) f (d:za)=>
 ze a false (zg zz 49 c 4) d (λg b=>ze a false (zd zz 3 g b) b (X3 a f e c R) b) d
def X5:=λe c f (R:VK) g (d:za)=>
 opt (pk e (.bool true) g) λa=>ze a false (zg zz 49 c 4) d (λh b=>ze a false (zd zz 3 h b) b (X4 a f c R) b) d
def X6:=λa d e f (R:VK) g (b:za)=>
 ze a false (zd zz 3 g b) b (λh c=>ze a false (yi .neq 3 21 23 d h) c (X5 a e f R) c) b
def X7:=λa c e (R:VK) f (b:za)=>
 ze a false (zd zz 3 f b) b (λg d=>ze a false (zg zz 49 c 3) d (X6 a g e c R) d) b
def X8:=λa f b g (R:VK) h (c:za)=>
 ze a false (yi .neq 3 14 16 f h) c (λi d=>opt (pk a (.bool true) i) λe=>ze e false (zg zz 49 b 3) d (X7 e g b R) d) c
def X9:=λa c e (R:VK) f (d:za)=>
 ze a false (zg zz 49 c 2) d (λg b=>ze a false (zd zz 3 g b) b (X8 a f e c R) b) d
def BY:=λ(h:za) e f (R:VK)=>
 opt (nb [e] (some (Value.cells e).toList)) λi=>nw h i 49 λb j=>opt (nb [f] (some (Value.cells f).toList)) λk=>nw j k 49 λg a=>zn 49 b 0 9 a λl=>zn 49 g 0 9 a λm=>opt (yi .neq 9 8 10 l m) λc=>ze c false (zg zz 49 b 2) a (λn d=>ze c false (zd zz 3 n d) d (X9 c g b R) d) a
theorem sr(hw:BY h t0 t1 R):DC zz 26 [t0,t1] h R:=zU (by kernel_rfl) hw
def cF:=λc d (R:VK) (j:List aaa) (a:za)=>
 zn 51 c 0 3 a λe=>opt (zh .eql 3 14 e 11) λf=>CD f (λb=>zn 51 c 8 3 a λg=>zq zz d [g] a (λk h=>b [] h))
 (λb=>b [] a)
 (λl i=>rv [] i R)
def Qy:=λa (R:VK) e f g (b:za)=>
 ze a true (Z7 zz .not g) b (λh c=>opt (pk a h (.bool false)) λi=>CD i (λd=>rv [] c R)
 (λd=>d [] c)
 (cF e f R)) b
def mW:=λa d (R:VK) e f g (b:za)=>
 ze a true (zd zz 3 g b) b (λh c=>GD a true (λi=>zq zz d [h] c (λj k=>i j k)) (Qy a R e f) c) b
def Lf:=λ(h:za) c a (R:VK)=>
 zn 51 a 0 3 h λe=>opt (zh .neq 3 4 e 12) λb=>GD b true (λf=>f c h) (λg d=>ze b true (zg zz 51 a 7) d (mW b g R a c) d) h
theorem Lg(hw:Lf h t0 t1 R):DC zz 106 [t0,t1] h R:=zU (by kernel_rfl) hw
def ld:=λb (h:za) (d:LK)=>
 opt (zh .eql 3 6 b 11) λc=>CD c (λa=>a [c] h)
 (λa=>opt (zh .eql 3 6 b 7) λe=>a [e] h)
 (λf g=>d [nth f 0] g)
def J1:=λa (h:za) (c:LK)=>
 opt (zh .eql 3 6 a 5) λb=>CD b (λd=>d [b] h)
 (ld a h)
 (λe f=>c [nth e 0] f)
def U5:=λa (h:za) (c:LK)=>
 opt (zh .eql 3 6 a 14) λb=>CD b (λd=>d [b] h)
 (J1 a h)
 (λe f=>c [nth e 0] f)
def W7:=λa (h:za) (c:LK)=>
 opt (zh .eql 3 6 a 12) λb=>CD b (λd=>d [b] h)
 (U5 a h)
 (λe f=>c [nth e 0] f)
def Wa:=λa (h:za) (c:LK)=>
 opt (zh .eql 3 6 a 6) λb=>CD b (λd=>d [b] h)
 (W7 a h)
 (λe f=>c [nth e 0] f)
def Y4:=λa (h:za) (c:LK)=>
 opt (zh .eql 3 6 a 4) λb=>CD b (λd=>d [b] h)
 (Wa a h)
 (λe f=>c [nth e 0] f)
def lf:=λa (R:VK) (e:LK) f (b:za)=>
 ze a true (Z7 zz .not f) b (λg c=>opt (pk a g (.bool false)) λh=>CD h (λd=>rv [] c R)
 (λd=>d [] c)
 (λj i=>e [] i)) b
def sy:=λa d (R:VK) (e:LK) f (b:za)=>
 ze a true (zd zz 3 f b) b (λg c=>GD a true (λh=>zq zz d [g] c (λi j=>h i j)) (lf a R e) c) b
def lg:=λc (a:za) e (R:VK) (f:LK)=>
 zn 51 c 2 3 a λg=>opt (zh .neq 3 17 g (-1)) λb=>GD b true (λh=>h e a) (λi d=>ze b true (zg zz 51 c 2) d (sy b i R f) d) a
def jJ:=λa (h:za) d e (R:VK) (f:LK)=>
 opt (zh .eql 3 6 a 3) λb=>CD b (λg=>g [b] h)
 (Y4 a h)
 (λi c=>CD (nth i 0) (lg d c e R)
 (λj=>j [] c)
 (λl k=>f [] k))
def cH:=λb (c:za) (e:LK)=>
 opt (zh .eql 3 27 b 11) λd=>CD d (λa=>a [d] c)
 (λa=>opt (zh .eql 3 27 b 7) λf=>a [f] c)
 (λg h=>e [nth g 0] h)
def cI:=λa (R:VK) (e:LK) f (b:za)=>
 ze a true (Z7 zz .not f) b (λg c=>opt (pk a g (.bool false)) λh=>CD h (λd=>rv [] c R)
 (λd=>d [] c)
 (λj i=>e [] i)) b
def mX:=λa d (R:VK) (e:LK) f (b:za)=>
 ze a true (zd zz 3 f b) b (λg c=>GD a true (λh=>zq zz d [g] c (λi j=>h i j)) (cI a R e) c) b
def cJ:=λc (a:za) e (R:VK) (f:LK)=>
 zn 51 c 3 3 a λg=>opt (zh .neq 3 33 g (-1)) λb=>GD b true (λh=>h e a) (λi d=>ze b true (zg zz 51 c 3) d (mX b i R f) d) a
def XE:=λa (b:za) e f (R:VK) (g:LK)=>
 opt (zh .eql 3 27 a 5) λc=>CD c (λh=>h [c] b)
 (cH a b)
 (λi d=>CD (nth i 0) (cJ e d f R)
 (λj=>j [] d)
 (λl k=>g [] k))
def B9:=λd e (a:za) f (R:VK) (g:LK)=>
 wP 22 d (nth e 0) 3 a λh=>zq zz f [h] a (λi b=>opt (Z7 zz .not i) λj=>CD j (λc=>rv [] b R)
 (λc=>c [] b)
 (λl k=>g [] k))
def Ca:=λb a c (R:VK) (d:LK) (h:List aaa) (e:za)=>
 BK (B9 b a e c R)
 (λi f=>opt (zh .add 3 48 (nth a 0) 1) λg=>d [g] f)
def mY:=λd (e:LK) f g (R:VK) a (b:za) (h:LK)=>
 opt (yi .lss 3 48 47 (nth a 0) d) λi=>CD i (λc=>c [] b)
 (λc=>e [] b)
 (Ca f a g R h)
def Cb:=λc d (R:VK) (i:List aaa) (a:za)=>
 zn 51 c 6 22 a λb=>zQ (xw 22 b a) λe f=>BK (λg=>LP (mY e g b d R)
 [pm 0] f)
 (λj h=>rv [] h R)
def XF:=λb (R:VK) d (g:List aaa) (a:za)=>
 zn 51 b 0 3 a λe=>opt (zh .neq 3 43 e 10) λf=>CD f (λc=>rv [] a R)
 (λc=>c [] a)
 (Cb b d R)
def Ro:=λ(h:za) b a (R:VK)=>
 zn 51 a 0 3 h λd=>BK (jJ d h a b R)
 (λf c=>zn 51 a 0 3 c λe=>BK (XE e c a b R)
 (XF a R b))
theorem N2(hw:Ro h t0 t1 R):DC zz 89 [t0,t1] h R:=zU (by kernel_rfl) hw
def fj:=λ(h:za) a b (R:VK)=>
 zq zz (fn 56) [a,b] h (λc d=>opt (zh .geq 3 7 c 0) λe=>rv [e] d R)
theorem oA(hw:fj h t0 t1 R):DC zz 29 [t0,t1] h R:=zU (by kernel_rfl) hw
def I4:=λ(h:za) b c (R:VK)=>
 opt (nb [b] (some (Value.cells b).toList)) λd=>nw h d 51 λe a=>opt (zd zz 49 c a) λf=>opt (zd zz 51 e a) λg=>zq zz (fn 88) [f,g] a (λi j=>opt (Z7 zz .not i) λk=>rv [k] j R)
theorem I5(hw:I4 h t0 t1 R):DC zz 87 [t0,t1] h R:=zU (by kernel_rfl) hw
def nt:=λc (L:Nat) (K:VK) (d:LK) e (a:za)=>
 opt (Z7 zz .not e) λf=>CD f (λb=>opt (ye 4 c (.bool false) a) λg=>Fin L K .ret g)
 (λb=>b [] a)
 (λi h=>d [] h)
def CH:=λb (a:za) c d (L:Nat) (K:VK) (e:LK)=>
 zn 49 b 5 47 a λf=>zQ (xw 47 f a) λg h=>zq zz (fn 54) [c,g] h (nt d L K e)
def Au:=λa b c (f g i j k l m n o p q r s:aaa) (L:Nat) (h:za) (K:VK)=>
 RA L h (λd=>BK (CH a d b c L K)
 (λt e=>Fin L K .normal e))
def CI:=λa f g h i b j k c l m n o p (q:za) (R:VK) (d:LK)=>
 RF zz a (wm zz 88 0).1 (wm zz 88 0).2.1 (wm zz 88 0).2.2 (QR 125 [(0,f),(1,g),(2,h),(3,i),(4,b),(9,j),(10,k),(11,c),(12,c),(13,l),(14,m),(15,n),(16,o),(17,p),(18,a)]) q (λr=>d [] r) (λe=>opt (zd zz 4 b e) λs=>rv [s] e R) (λt u=>cond (Nat.beq t 0) (d [] u) (False))
def nu:=λc (L:Nat) (K:VK) (d:LK) e (a:za)=>
 opt (Z7 zz .not e) λf=>CD f (λb=>opt (ye 4 c (.bool false) a) λg=>Fin L K .ret g)
 (λb=>b [] a)
 (λi h=>d [] h)
def CJ:=λb (a:za) c d (L:Nat) (K:VK) (e:LK)=>
 zn 49 b 2 3 a λf=>zq zz (fn 54) [c,f] a (nu d L K e)
def Av:=λa b c (f g i j k l m n o p q r s t u:aaa) (L:Nat) (h:za) (K:VK)=>
 RA L h (λd=>BK (CJ a d b c L K)
 (λv e=>Fin L K .normal e))
def CK:=λa f g h i b j k c l m n o p q r (s:za) (R:VK) (d:LK)=>
 RF zz a (wm zz 88 1).1 (wm zz 88 1).2.1 (wm zz 88 1).2.2 (QR 125 [(0,f),(1,g),(2,h),(3,i),(4,b),(9,j),(10,k),(11,c),(12,c),(13,l),(14,m),(15,n),(16,o),(17,p),(18,q),(26,r),(27,a)]) s (λt=>d [] t) (λe=>opt (zd zz 4 b e) λu=>rv [u] e R) (λv w=>cond (Nat.beq v 2) (d [] w) (False))
def ZG:=λb (c:za) (e:LK)=>
 opt (zh .eql 3 35 b 5) λd=>CD d (λa=>a [d] c)
 (λa=>opt (zh .eql 3 35 b 11) λf=>a [f] c)
 (λg h=>e [nth g 0] h)
def ki:=λa (b:za) (d:LK)=>
 opt (zh .eql 3 35 a 14) λc=>CD c (λe=>e [c] b)
 (ZG a b)
 (λf g=>d [nth f 0] g)
def qx:=λa (b:za) (d:LK)=>
 opt (zh .eql 3 35 a 6) λc=>CD c (λe=>e [c] b)
 (ki a b)
 (λf g=>d [nth f 0] g)
def uR:=λa (b:za) (d:LK)=>
 opt (zh .eql 3 35 a 4) λc=>CD c (λe=>e [c] b)
 (qx a b)
 (λf g=>d [nth f 0] g)
def Kz:=λe a (R:VK) (f:LK) g (b:za)=>
 opt (pk e (.bool true) g) λh=>CD h (λc=>opt (ye 4 a (.bool false) b) λd=>opt (zd zz 4 a d) λi=>rv [i] d R)
 (λc=>c [] b)
 (λk j=>f [] j)
def KA:=λa c (R:VK) (d:LK) e (b:za)=>
 ze a false (zh .eql 3 53 e (-1)) b (Kz a c R d) b
def gI:=λe (a:za) b (R:VK) (f:LK)=>
 zn 51 e 4 3 a λg=>opt (zh .eql 3 59 g (-1)) λh=>CD h (λc=>opt (ye 4 b (.bool true) a) λd=>opt (zd zz 4 b d) λi=>rv [i] d R)
 (λc=>c [] a)
 (λk j=>f [] j)
def KB:=λd (a:za) e (R:VK) (f:LK)=>
 zn 51 d 2 3 a λg=>opt (zh .eql 3 49 g (-1)) λb=>ze b false (zg zz 51 d 3) a (λh c=>ze b false (zd zz 3 h c) c (KA b e R f) c) a
def KC:=λb c (a:za) d (R:VK) (e:LK)=>
 opt (zh .eql 3 35 b 10) λf=>CD f (gI c a d R)
 (λg=>g [] a)
 (λi h=>e [] h)
def Uq:=λe (a:za) b (R:VK) (f:LK)=>
 zn 51 e 2 3 a λg=>opt (zh .eql 3 44 g (-1)) λh=>CD h (λc=>opt (ye 4 b (.bool false) a) λd=>opt (zd zz 4 b d) λi=>rv [i] d R)
 (λc=>c [] a)
 (λk j=>f [] j)
def YJ:=λa b (c:za) d (R:VK) (e:LK)=>
 opt (zh .eql 3 35 a 7) λf=>CD f (KB b c d R)
 (KC a b c d R)
 (λh g=>e [] g)
def uw:=λa (b:za) c d (R:VK) (g:LK)=>
 opt (zh .eql 3 35 a 3) λe=>CD e (λh=>h [e] b)
 (uR a b)
 (λi f=>CD (nth i 0) (Uq c f d R)
 (YJ a c f d R)
 (λk j=>g [] j))
def KD:=λe a (R:VK) (f:LK) g (b:za)=>
 opt (pk e (.bool true) g) λh=>CD h (λc=>opt (ye 4 a (.bool false) b) λd=>opt (zd zz 4 a d) λi=>rv [i] d R)
 (λc=>c [] b)
 (λk j=>f [] j)
def KE:=λa c (R:VK) (d:LK) e (b:za)=>
 ze a false (zh .gtr 3 70 e 4) b (KD a c R d) b
def gJ:=λa (R:VK) (e:LK) f (b:za)=>
 opt (Z7 zz .not f) λg=>CD g (λc=>opt (ye 4 a (.bool false) b) λd=>opt (zd zz 4 a d) λh=>rv [h] d R)
 (λc=>c [] b)
 (λj i=>e [] i)
def gK:=λa (R:VK) (f:LK) b (c:za)=>
 opt (Yk b 0) λk=>opt (Yk b 1) λg=>opt (Z7 zz .not g) λh=>CD h (λd=>opt (ye 4 a (.bool false) c) λe=>opt (zd zz 4 a e) λi=>rv [i] e R)
 (λd=>d [] c)
 (λl j=>f [] j)
def gL:=λa (R:VK) (e:LK) f (b:za)=>
 opt (Z7 zz .not f) λg=>CD g (λc=>opt (ye 4 a (.bool false) b) λd=>opt (zd zz 4 a d) λh=>rv [h] d R)
 (λc=>c [] b)
 (λj i=>e [] i)
def KF:=λe a (R:VK) (f:LK) g (b:za)=>
 opt (pk e (.bool true) g) λh=>CD h (λc=>opt (ye 4 a (.bool false) b) λd=>opt (zd zz 4 a d) λi=>rv [i] d R)
 (λc=>c [] b)
 (λk j=>f [] j)
def KG:=λa c d (R:VK) (e:LK) f (b:za)=>
 ze a false (yi .gtr 2 103 105 c f) b (KF a d R e) b
def KH:=λa d e (R:VK) (f:LK) g (c:za)=>
 ze a false (zg zz 49 d 3) c (λh b=>ze a false (zd zz 3 h b) b (KG a g e R f) b) c
def KI:=λd (a:za) e f (R:VK) (g:LK)=>
 zn 51 d 5 2 a λh=>opt (zh .lss 2 99 h 0) λb=>ze b false (zg zz 51 d 5) a (λi c=>ze b false (zd zz 2 i c) c (KH b e f R g) c) a
def gN:=λb (a:za) c (R:VK) (d:LK)=>
 zn 51 b 1 3 a λe=>zq zz (fn 104) [e] a (gL c R d)
def Ur:=λb c (a:za) d e (R:VK) (f:LK)=>
 opt (zh .eql 3 62 b 9) λg=>CD g (KI c a d e R)
 (λh=>h [] a)
 (λj i=>f [] i)
def YK:=λa (c:za) d e (R:VK) h (i:LK)=>
 opt (zh .eql 3 62 a 6) λf=>CD f (λb=>b [f] c)
 (λb=>opt (zh .eql 3 62 a 7) λj=>b [j] c)
 (λk g=>CD (nth k 0) (gN d g e R)
 (Ur a d g h e R)
 (λm l=>i [] l))
def Zu:=λb c (a:za) d (R:VK) e (f:LK)=>
 opt (zh .eql 3 62 b 11) λg=>CD g (λh=>zn 51 c 1 3 a λi=>zq zz (fn 103) [i] a (gK d R h))
 (YK b a c d R e)
 (λk j=>f [] j)
def KJ:=λd (a:za) e (R:VK) (f:LK)=>
 zn 51 d 1 3 a λg=>opt (zh .lss 3 66 g 1) λb=>ze b false (zg zz 51 d 1) a (λh c=>ze b false (zd zz 3 h c) c (KE b e R f) c) a
def jz:=λb c (a:za) d (R:VK) e (f:LK)=>
 opt (zh .eql 3 62 b 5) λg=>CD g (λh=>zn 51 c 1 3 a λi=>zq zz (fn 102) [i] a (gJ d R h))
 (Zu b c a d R e)
 (λk j=>f [] j)
def vQ:=λa b (c:za) d (R:VK) e (f:LK)=>
 opt (zh .eql 3 62 a 4) λg=>CD g (KJ b c d R)
 (jz a b c d R e)
 (λi h=>f [] h)
def KK:=λb (c:za) (e:LK)=>
 opt (zh .eql 3 109 b 13) λd=>CD d (λa=>a [d] c)
 (λa=>opt (zh .eql 3 109 b 10) λf=>a [f] c)
 (λg h=>e [nth g 0] h)
def Us:=λa (b:za) (d:LK)=>
 opt (zh .eql 3 109 a 9) λc=>CD c (λe=>e [c] b)
 (KK a b)
 (λf g=>d [nth f 0] g)
def Wl:=λa (b:za) (d:LK)=>
 opt (zh .eql 3 109 a 8) λc=>CD c (λe=>e [c] b)
 (Us a b)
 (λf g=>d [nth f 0] g)
def YL:=λa (b:za) (d:LK)=>
 opt (zh .eql 3 109 a 6) λc=>CD c (λe=>e [c] b)
 (Wl a b)
 (λf g=>d [nth f 0] g)
def Zv:=λa (b:za) (d:LK)=>
 opt (zh .eql 3 109 a 5) λc=>CD c (λe=>e [c] b)
 (YL a b)
 (λf g=>d [nth f 0] g)
def jA:=λa (b:za) (d:LK)=>
 opt (zh .eql 3 109 a 4) λc=>CD c (λe=>e [c] b)
 (Zv a b)
 (λf g=>d [nth f 0] g)
def kj:=λa (b:za) (d:LK)=>
 opt (zh .eql 3 109 a 3) λc=>CD c (λe=>e [c] b)
 (jA a b)
 (λf g=>d [nth f 0] g)
def gO:=λd (a:za) e b (R:VK) (k:LK)=>
 zn 51 d 4 3 a λf=>zn 49 e 2 3 a λg=>zq zz (fn 54) [f,g] a (λh i=>opt (ye 4 b h i) λc=>opt (zd zz 4 b c) λj=>rv [j] c R)
def qy:=λa (b:za) e f g (R:VK) (h:LK)=>
 opt (zh .eql 3 109 a 2) λc=>CD c (λi=>i [c] b)
 (kj a b)
 (λj d=>CD (nth j 0) (gO e d f g R)
 (λk=>k [] d)
 (λm l=>h [] l))
def wT:=λb e a (R:VK) (i:List aaa) (c:za)=>
 zn 51 b 0 3 c λf=>BK (qy f c b e a R)
 (λj g=>opt (ye 4 a (.bool true) g) λd=>opt (zd zz 4 a d) λh=>rv [h] d R)
def gP:=λa b (R:VK) c (h:List aaa) (d:za)=>
 zn 51 a 0 3 d λf=>BK (uw f d a b R)
 (λi e=>zn 51 a 0 3 e λg=>BK (vQ g a e b R c)
 (wT a c b R))
def gQ:=λa f g b c h i j k l m n o p (R:VK) (s:List aaa) (d:za)=>
 opt (zd zz 51 a d) λe=>zq zz (fn 57) [e] d (λq r=>BK (CK q f g b a c h i j k l m n o p e r R)
 (gP a c R b))
def gS:=λa c d e f g h i j k l m (R:VK) (q:List aaa) (n:za)=>
 opt (zd zz 51 a n) λb=>zq zz (fn 101) [b] n (λo p=>BK (CI o c d e a f g h i j k l m b p R)
 (gQ a c d e f g h i j k l m b o R))
def KL:=λb a (R:VK) h i j k l m n o c (d:za)=>
 opt (pk b (.bool true) c) λe=>CD e (λf=>opt (ye 4 a (.bool false) d) λg=>opt (zd zz 4 a g) λp=>rv [p] g R)
 (λf=>f [] d)
 (gS h i j k a l m b n o c e R)
def KM:=λa d (R:VK) e f g h i j k b (c:za)=>
 ze a false (zh .gtr 3 14 b 14) c (KL a d R e f g h i j k b) c
theorem CL(t2 t19 t4 t0 t1 t3 t9 t10 t11 t12 t13 t14 t15 t16 t17 t18:aaa)(L:Nat)(h:za)(K:VK):NQ zz (UL zz qs) 150 52 0 L (wm zz 88 0).2.1 (wm zz 88 0).2.2 (QR 125 [(0,t0),(1,t1),(2,t2),(3,t3),(4,t4),(9,t9),(10,t10),(11,t11),(12,t12),(13,t13),(14,t14),(15,t15),(16,t16),(17,t17),(18,t18),(19,t19)]) h K=Au t2 t19 t4 t0 t1 t3 t9 t10 t11 t12 t13 t14 t15 t16 t17 t18 L h K:=by kernel_rfl
theorem CM(t2 t28 t4 t0 t1 t3 t9 t10 t11 t12 t13 t14 t15 t16 t17 t18 t26 t27:aaa)(L:Nat)(h:za)(K:VK):NQ zz (UL zz qs) 150 84 0 L (wm zz 88 1).2.1 (wm zz 88 1).2.2 (QR 125 [(0,t0),(1,t1),(2,t2),(3,t3),(4,t4),(9,t9),(10,t10),(11,t11),(12,t12),(13,t13),(14,t14),(15,t15),(16,t16),(17,t17),(18,t18),(26,t26),(27,t27),(28,t28)]) h K=Av t2 t28 t4 t0 t1 t3 t9 t10 t11 t12 t13 t14 t15 t16 t17 t18 t26 t27 L h K:=by kernel_rfl
def LN:=λ(h:za) a b (R:VK)=>
 opt (nb [a] (some (Value.cells a).toList)) λk=>nw h k 49 λl m=>opt (nb [b] (some (Value.cells b).toList)) λn=>nw m n 51 λc o=>uH 4 o λp d=>opt (zg zz 51 c 0) λg=>opt (zd zz 3 g d) λi=>opt (zh .lss 3 10 i 1) λe=>ze e false (zg zz 51 c 0) d (λj f=>ze e false (zd zz 3 j f) f (KM e p R c a b l g i j) f) d
theorem LO(hw:LN h t0 t1 R):DC zz 88 [t0,t1] h R:=zU (by kernel_rfl) hw
def cO:=λc (R:VK) d (e:LK) f (a:za)=>
 opt (pk c (.bool true) f) λg=>CD g (λb=>rv [.bool false] a R)
 (λb=>b [nth d 0] a)
 (λh i=>e [nth h 0] i)
def cP:=λa d (R:VK) e (f:LK) g (b:za)=>
 ze a false (zd zz 3 g b) b (λh c=>ze a false (yi .geq 3 67 69 d h) c (cO a R e f) c) b
def cQ:=λa d (R:VK) e (f:LK) g (b:za)=>
 ze a false (zd zz 3 g b) b (λh c=>ze a false (zg zz 49 d 2) c (cP a h R e f) c) b
def cR:=λa b e (R:VK) (f:LK) g (c:za)=>
 GD a false (λh=>h (nth b 1) c) (λi d=>ze a false (yh zz 22 g i) d (cQ a e R b f) d) c
def cS:=λb c (a:za) e (R:VK) (f:LK)=>
 wP 22 b (nth c 1) 3 a λg=>opt (zh .lss 3 61 g 0) λd=>GD d false (λh=>h b a) (cR d c e R f) a
def Cm:=λa (b:LK) c (d:za)=>
 opt (zh .add 3 56 (nth a 1) 1) λe=>b [nth c 0,e] d
def QA:=λb (e:LK) f (R:VK) a (g:za) (h:LK)=>
 zQ (xw 22 b g) λi c=>opt (yi .lss 3 52 54 (nth a 1) i) λj=>CD j (λd=>d [] c)
 (λd=>e [nth a 0] c)
 (λl k=>BK (cS b a k f R)
 (Cm a h))
def cT:=λc (R:VK) d (e:LK) f (a:za)=>
 opt (pk c (.bool true) f) λg=>CD g (λb=>rv [.bool false] a R)
 (λb=>b [nth d 0] a)
 (λh i=>e [nth h 0] i)
def cU:=λa c (R:VK) d (e:LK) f (b:za)=>
 ze a false (yi .geq 3 99 102 c f) b (cT a R d e) b
def Kj:=λa d (R:VK) e (f:LK) g (b:za)=>
 ze a false (zd zz 47 g b) b (λh c=>GD a false (λi=>zQ (xw 47 h c) λj _=>i j c) (cU a d R e f) c) b
def Kk:=λa d (R:VK) e (f:LK) g (b:za)=>
 ze a false (zd zz 3 g b) b (λh c=>ze a false (zg zz 49 d 5) c (Kj a h R e f) c) b
def Kl:=λa b e (R:VK) (f:LK) g (c:za)=>
 GD a false (λh=>h (nth b 1) c) (λi d=>ze a false (yh zz 22 g i) d (Kk a e R b f) d) c
def Km:=λb c (a:za) e (R:VK) (f:LK)=>
 wP 22 b (nth c 1) 3 a λg=>opt (zh .lss 3 93 g 0) λd=>GD d false (λh=>h b a) (Kl d c e R f) a
def An:=λa (b:LK) c (d:za)=>
 opt (zh .add 3 88 (nth a 1) 1) λe=>b [nth c 0,e] d
def Ul:=λb (e:LK) f (R:VK) a (g:za) (h:LK)=>
 zQ (xw 22 b g) λi c=>opt (yi .lss 3 84 86 (nth a 1) i) λj=>CD j (λd=>d [] c)
 (λd=>e [nth a 0] c)
 (λl k=>BK (Km b a k f R)
 (An a h))
def vJ:=λb (c:za) (e:LK)=>
 opt (zh .eql 3 106 b 8) λd=>CD d (λa=>a [d] c)
 (λa=>opt (zh .eql 3 106 b 10) λf=>a [f] c)
 (λg h=>e [nth g 0] h)
def vK:=λa (b:za) (d:LK)=>
 opt (zh .eql 3 106 a 14) λc=>CD c (λe=>e [c] b)
 (vJ a b)
 (λf g=>d [nth f 0] g)
def vL:=λa (b:za) (d:LK)=>
 opt (zh .eql 3 106 a 13) λc=>CD c (λe=>e [c] b)
 (vK a b)
 (λf g=>d [nth f 0] g)
def vM:=λa (b:za) (d:LK)=>
 opt (zh .eql 3 106 a 12) λc=>CD c (λe=>e [c] b)
 (vL a b)
 (λf g=>d [nth f 0] g)
def vN:=λa (b:za) (d:LK)=>
 opt (zh .eql 3 106 a 3) λc=>CD c (λe=>e [c] b)
 (vM a b)
 (λf g=>d [nth f 0] g)
def vO:=λa (b:za) (d:LK)=>
 opt (zh .eql 3 106 a 2) λc=>CD c (λe=>e [c] b)
 (vN a b)
 (λf g=>d [nth f 0] g)
def fY:=λa (R:VK) c (b:za)=>
 ze a true (zh .leq 3 123 c 4) b (λd e=>opt (pk a d (.bool false)) λf=>rv [f] e R) b
def fZ:=λa (R:VK) c (b:za)=>
 ze a true (zh .leq 3 133 c 26) b (λd e=>opt (pk a d (.bool false)) λf=>rv [f] e R) b
def f9:=λa (R:VK) c (b:za)=>
 ze a true (zh .leq 3 143 c 26) b (λd e=>opt (pk a d (.bool false)) λf=>rv [f] e R) b
def Kn:=λa (R:VK) c (b:za)=>
 ze a false (zh .eql 3 159 c 8) b (λd e=>opt (pk a (.bool true) d) λf=>rv [f] e R) b
def Ko:=λd e (R:VK) f (c:za)=>
 opt (pk d (.bool true) f) λa=>ze a false (zg zz 51 e 1) c (λg b=>ze a false (zd zz 3 g b) b (Kn a R) b) c
def Kp:=λa c (R:VK) d (b:za)=>
 ze a false (zh .eql 3 154 d 4) b (Ko a c R) b
def gd:=λa c (R:VK) d (b:za)=>
 ze a true (yi .leq 2 169 171 c d) b (λe f=>opt (pk a e (.bool false)) λg=>rv [g] f R) b
def gj:=λa d (R:VK) e (c:za)=>
 ze a true (zg zz 49 d 3) c (λf b=>ze a true (zd zz 3 f b) b (gd a e R) b) c
def gk:=λd (a:za) e (R:VK) (h:LK)=>
 zn 51 d 5 2 a λf=>opt (zh .geq 2 165 f 0) λb=>ze b true (zg zz 51 d 5) a (λg c=>ze b true (zd zz 2 g c) c (gj b e R) c) a
def Kq:=λa (b:za) (R:VK) (g:LK)=>
 zn 51 a 1 3 b λe=>opt (zh .eql 3 150 e 1) λc=>ze c false (zg zz 51 a 1) b (λf d=>ze c false (zd zz 3 f d) d (Kp c a R) d) b
def Kr:=λb c (a:za) d (R:VK) e (f:LK)=>
 opt (zh .eql 3 106 b 9) λg=>CD g (gk c a d R)
 (λh=>h [nth e 0] a)
 (λi j=>f [nth i 0] j)
def gu:=λd (a:za) (R:VK) (g:LK)=>
 zn 51 d 1 3 a λe=>opt (zh .geq 3 139 e 21) λb=>ze b true (zg zz 51 d 1) a (λf c=>ze b true (zd zz 3 f c) c (f9 b R) c) a
def YE:=λa (c:za) d (R:VK) g h (i:LK)=>
 opt (zh .eql 3 106 a 6) λe=>CD e (λb=>b [e] c)
 (λb=>opt (zh .eql 3 106 a 7) λj=>b [j] c)
 (λk f=>CD (nth k 0) (Kq d f R)
 (Kr a d f g R h)
 (λl m=>i [nth l 0] m))
def gx:=λd (a:za) (R:VK) (g:LK)=>
 zn 51 d 1 3 a λe=>opt (zh .geq 3 129 e 11) λb=>ze b true (zg zz 51 d 1) a (λf c=>ze b true (zd zz 3 f c) c (fZ b R) c) a
def jk:=λa b (c:za) (R:VK) d e (f:LK)=>
 opt (zh .eql 3 106 a 11) λg=>CD g (gu b c R)
 (YE a c b R d e)
 (λh i=>f [nth h 0] i)
def gy:=λd (a:za) (R:VK) (g:LK)=>
 zn 51 d 1 3 a λe=>opt (zh .geq 3 119 e 1) λb=>ze b true (zg zz 51 d 1) a (λf c=>ze b true (zd zz 3 f c) c (fY b R) c) a
def qv:=λa b (c:za) (R:VK) d e (f:LK)=>
 opt (zh .eql 3 106 a 5) λg=>CD g (gx b c R)
 (jk a b c R d e)
 (λh i=>f [nth h 0] i)
def ur:=λa b (c:za) (R:VK) d e (f:LK)=>
 opt (zh .eql 3 106 a 4) λg=>CD g (gy b c R)
 (qv a b c R d e)
 (λh i=>f [nth h 0] i)
def vP:=λa (b:za) (R:VK) e f g (h:LK)=>
 opt (zh .eql 3 106 a 1) λc=>CD c (λi=>i [c] b)
 (vO a b)
 (λj d=>CD (nth j 0) (λm=>rv [.bool true] d R)
 (ur a e d R f g)
 (λk l=>h [nth k 0] l))
def vu:=λa (R:VK) c d (b:za)=>
 zn 51 a 0 3 b λe=>BK (vP e b R a c d)
 (λg f=>rv [.bool false] f R)
def gB:=λa b (R:VK) d (c:za)=>
 opt (zd zz 51 a c) λe=>zq zz (fn 98) [e] c (λf g=>BK (λh=>LP (Ul f h b R)
 [nth d 0,pm 0] g)
 (vu a R b))
def Kt:=λa (R:VK) e f g h (b:za)=>
 ze a false (zh .lss 3 79 h (-1)) b (λi c=>opt (pk a (.bool true) i) λj=>CD j (λd=>rv [.bool false] c R)
 (λd=>d [nth e 0] c)
 (gB f g R)) b
def Ku:=λd (a:za) e (R:VK) f g=>
 zn 49 d 2 3 a λh=>opt (yi .geq 3 73 75 g h) λb=>ze b false (zd zz 51 e a) a (λi c=>GD b false (λj=>uT zz 43 [i] c (λk=>j k c)) (Kt b R f e d) c) a
def gC:=λb (R:VK) d c e (f:za)=>
 BK (λg=>LP (QA e g b R)
 [nth d 0,pm 0] f)
 (λh a=>opt (zd zz 51 c a) λi=>uT zz 43 [i] a (Ku b a c R h))
def YF:=λe (R:VK) a f g (b:za)=>
 opt (pk e (.bool true) g) λh=>CD h (λc=>rv [.bool false] b R)
 (λc=>c [.bool false] b)
 (λi d=>opt (zd zz 51 a d) λj=>zq zz (fn 42) [j] d (gC f R i a))
def Wd:=λa b (R:VK) e f g (c:za)=>
 ze a true (zh .lss 3 46 g (-1)) c (λh d=>ze b false (pk a h (.bool false)) d (YF b R e f) d) c
def We:=λc e (R:VK) f a (d:za)=>
 ze a true (zg zz 51 c 4) d (λg b=>ze a true (zd zz 3 g b) b (Wd a e R c f) b) d
def Wf:=λa d (R:VK) e f (b:za)=>
 ze a false (zh .eql 3 42 f 10) b (λg c=>GD a false (λh=>h g c) (We d a R e) c) b
def YG:=λe c (R:VK) f g (d:za)=>
 opt (pk e (.bool true) g) λa=>ze a false (zg zz 51 c 0) d (λh b=>ze a false (zd zz 3 h b) b (Wf a c R f) b) d
def Um:=λa b e (R:VK) f g (c:za)=>
 ze a true (zh .eql 3 36 g (-1)) c (λh d=>ze b false (pk a h (.bool false)) d (YG b e R f) d) c
def Un:=λc e (R:VK) f a (b:za)=>
 ze a true (zd zz 51 c b) b (λg d=>GD a true (λh=>zq zz (fn 43) [g] d (λi j=>h i j)) (Um a e c R f) d) b
def Wg:=λd e f (R:VK) g h (b:za)=>
 opt (pk d (.bool true) h) λa=>GD a false (λi=>i e b) (λj c=>GD a false (λk=>k j c) (Un f a R g) c) b
def Kv:=λa b e f (R:VK) g h (c:za)=>
 ze a true (zh .eql 3 28 h (-1)) c (λi d=>ze b false (pk a i (.bool false)) d (Wg b e f R g) d) c
def Kw:=λc e f (R:VK) g a (d:za)=>
 ze a true (zg zz 51 c 3) d (λh b=>ze a true (zd zz 3 h b) b (Kv a e f c R g) b) d
def Uo:=λd e f g (R:VK) h i (b:za)=>
 opt (pk d i (.bool false)) λa=>GD a false (λj=>j e b) (λk c=>GD a false (λl=>l k c) (Kw f a g R h) c) b
def gD:=λa c d e (R:VK) f g (b:za)=>
 ze a true (zh .eql 3 21 g (-1)) b (Uo a c d e R f) b
def gE:=λd (R:VK) f a (e:za)=>
 opt (Yk a 0) λb=>opt (Yk a 1) λg=>opt (Yk a 2) λh=>ze b true (zg zz 51 d 2) e (λi c=>ze b true (zd zz 3 i c) c (gD b g d h R f) c) e
def Lx:=λ(h:za) a b (R:VK)=>
 opt (nb [a] (some (Value.cells a).toList)) λe=>nw h e 49 λf g=>opt (nb [b] (some (Value.cells b).toList)) λi=>nw g i 51 λc d=>opt (zd zz 51 c d) λj=>zq zz (fn 97) [j] d (gE c R f)
theorem Ly(hw:Lx h t0 t1 R):DC zz 77 [t0,t1] h R:=zU (by kernel_rfl) hw
def Je:=λd (a:za) b e (R:VK) (f:LK)=>
 zn 51 d 6 22 a λg=>wP 22 g (nth b 1) 3 a λh=>zn 51 e 6 22 a λi=>wP 22 i (nth b 1) 3 a λj=>opt (yi .neq 3 80 85 h j) λk=>CD k (λc=>rv [.bool false] a R)
 (λc=>c [nth b 0] a)
 (λl m=>f [nth l 0] m)
def mn:=λa (b:LK) c (d:za)=>
 opt (zh .add 3 74 (nth a 1) 1) λe=>b [nth c 0,e] d
def Xq:=λb (f:LK) g (R:VK) a (c:za) (h:LK)=>
 zn 51 b 6 22 c λi=>zQ (xw 22 i c) λj d=>opt (yi .lss 3 69 72 (nth a 1) j) λk=>CD k (λe=>e [] d)
 (λe=>f [nth a 0] d)
 (λm l=>BK (Je b l a g R)
 (mn a h))
def v7:=λc (R:VK) d e f (a:za)=>
 opt (pk c (.bool true) f) λg=>CD g (λb=>rv [.bool false] a R)
 (λb=>b [.bool false] a)
 (λh i=>BK (λj=>LP (Xq d j e R)
 [nth h 0,pm 0] i)
 (λl k=>rv [.bool true] k R))
def v8:=λa e (R:VK) f g h (c:za)=>
 GD a false (λi=>zQ (xw 22 h c) λb j=>i b j) (λb d=>ze a false (yi .neq 3 63 66 e b) d (v7 a R f g) d) c
def v9:=λa c (R:VK) e f (d:za)=>
 ze a false (zg zz 51 c 6) d (λg b=>ze a false (zd zz 22 g b) b (v8 a f R e c) b) d
def ua:=λa d (R:VK) e f (b:za)=>
 ze a false (zd zz 22 f b) b (λg c=>GD a false (λh=>zQ (xw 22 g c) λi j=>h i j) (v9 a d R e) c) b
def ub:=λa f b g (R:VK) h (c:za)=>
 ze a false (yi .neq 3 55 57 f h) c (λi d=>opt (pk a (.bool true) i) λe=>ze e false (zg zz 51 b 6) d (ua e g R b) d) c
def uc:=λa c e (R:VK) f (d:za)=>
 ze a false (zg zz 51 c 8) d (λg b=>ze a false (zd zz 3 g b) b (ub a f e c R) b) d
def w9:=λe c f (R:VK) g (d:za)=>
 opt (pk e (.bool true) g) λa=>ze a false (zg zz 51 c 8) d (λh b=>ze a false (zd zz 3 h b) b (uc a f c R) b) d
def vd:=λa d e f (R:VK) g (b:za)=>
 ze a false (zd zz 3 g b) b (λh c=>ze a false (yi .neq 3 48 50 d h) c (w9 a e f R) c) b
def ve:=λa c e (R:VK) f (b:za)=>
 ze a false (zd zz 3 f b) b (λg d=>ze a false (zg zz 51 c 7) d (vd a g e c R) d) b
def vf:=λa f b g (R:VK) h (c:za)=>
 ze a false (yi .neq 2 41 43 f h) c (λi d=>opt (pk a (.bool true) i) λe=>ze e false (zg zz 51 b 7) d (ve e g b R) d) c
def vg:=λa c e (R:VK) f (d:za)=>
 ze a false (zg zz 51 c 5) d (λg b=>ze a false (zd zz 2 g b) b (vf a f e c R) b) d
def vh:=λe c f (R:VK) g (d:za)=>
 opt (pk e (.bool true) g) λa=>ze a false (zg zz 51 c 5) d (λh b=>ze a false (zd zz 2 h b) b (vg a f c R) b) d
def vi:=λa d e f (R:VK) g (b:za)=>
 ze a false (zd zz 3 g b) b (λh c=>ze a false (yi .neq 3 34 36 d h) c (vh a e f R) c) b
def vj:=λa c e (R:VK) f (b:za)=>
 ze a false (zd zz 3 f b) b (λg d=>ze a false (zg zz 51 c 4) d (vi a g e c R) d) b
def vk:=λa f b g (R:VK) h (c:za)=>
 ze a false (yi .neq 3 27 29 f h) c (λi d=>opt (pk a (.bool true) i) λe=>ze e false (zg zz 51 b 4) d (vj e g b R) d) c
def vm:=λa c e (R:VK) f (d:za)=>
 ze a false (zg zz 51 c 3) d (λg b=>ze a false (zd zz 3 g b) b (vk a f e c R) b) d
def vo:=λe c f (R:VK) g (d:za)=>
 opt (pk e (.bool true) g) λa=>ze a false (zg zz 51 c 3) d (λh b=>ze a false (zd zz 3 h b) b (vm a f c R) b) d
def vp:=λa d e f (R:VK) g (b:za)=>
 ze a false (zd zz 3 g b) b (λh c=>ze a false (yi .neq 3 20 22 d h) c (vo a e f R) c) b
def vq:=λa c e (R:VK) f (b:za)=>
 ze a false (zd zz 3 f b) b (λg d=>ze a false (zg zz 51 c 2) d (vp a g e c R) d) b
def vr:=λa f b g (R:VK) h (c:za)=>
 ze a false (yi .neq 3 13 15 f h) c (λi d=>opt (pk a (.bool true) i) λe=>ze e false (zg zz 51 b 2) d (vq e g b R) d) c
def vt:=λa c e (R:VK) f (d:za)=>
 ze a false (zg zz 51 c 1) d (λg b=>ze a false (zd zz 3 g b) b (vr a f e c R) b) d
def Aj:=λ(h:za) e f (R:VK)=>
 opt (nb [e] (some (Value.cells e).toList)) λi=>nw h i 51 λb j=>opt (nb [f] (some (Value.cells f).toList)) λk=>nw j k 51 λg a=>zn 51 b 0 3 a λl=>zn 51 g 0 3 a λm=>opt (yi .neq 3 7 9 l m) λc=>ze c false (zg zz 51 b 1) a (λn d=>ze c false (zd zz 3 n d) d (vt c g b R) d) a
theorem BZ(hw:Aj h t0 t1 R):DC zz 53 [t0,t1] h R:=zU (by kernel_rfl) hw
def ml:=λe a (b:za) f (R:VK) (g:LK)=>
 wP 47 e (nth a 1) 51 b λh=>zq zz f [h] b (λi c=>CD i (λd=>rv [nth a 1] c R)
 (λd=>d [nth a 0] c)
 (λj k=>g [nth j 0] k))
def mm:=λb a c (R:VK) (d:LK) (i:List aaa) (e:za)=>
 BK (ml b a e c R)
 (λf g=>opt (zh .add 3 8 (nth a 1) 1) λh=>d [nth f 0,h] g)
def Jd:=λd (e:LK) f g (R:VK) a (b:za) (h:LK)=>
 opt (yi .lss 3 8 7 (nth a 1) d) λi=>CD i (λc=>c [] b)
 (λc=>e [nth a 0] b)
 (mm f a g R h)
def Ah:=λ(h:za) a b (R:VK)=>
 zQ (xw 47 a h) λc d=>BK (λe=>LP (Jd c e a b R)
 [pm 0,pm 0] d)
 (λg f=>rv [pm (-1)] f R)
theorem BL(hw:Ah h t0 t1 R):DC zz 56 [t0,t1] h R:=zU (by kernel_rfl) hw
def Jl:=λa (R:VK) c (b:za)=>
 ze a true (zh .leq 3 6 c 26) b (λd e=>opt (pk a d (.bool false)) λf=>rv [f] e R) b
def At:=λ(h:za) a (R:VK)=>
 opt (zh .geq 3 3 a 11) λb=>GD b true (λc=>c a h) (Jl b R) h
theorem CB(hw:At h t0 R):DC zz 102 [t0] h R:=zU (by kernel_rfl) hw
def BG:=λc (h:za) (R:VK) (d:LK)=>
 opt (zh .eql 3 4 c 25) λe=>CD e (λa=>rv [pm 24,.bool true] h R)
 (λa=>a [pm 0,.bool false] h)
 (λb f=>d [nth b 0,nth b 1] f)
def oD:=λa (h:za) (R:VK) (c:LK)=>
 opt (zh .eql 3 4 a 24) λd=>CD d (λf=>rv [pm 25,.bool true] h R)
 (BG a h R)
 (λb e=>c [nth b 0,nth b 1] e)
def fo:=λa (h:za) (R:VK) (c:LK)=>
 opt (zh .eql 3 4 a 26) λd=>CD d (λf=>rv [pm 23,.bool true] h R)
 (oD a h R)
 (λb e=>c [nth b 0,nth b 1] e)
def JB:=λa (h:za) (R:VK) (c:LK)=>
 opt (zh .eql 3 4 a 23) λd=>CD d (λf=>rv [pm 26,.bool true] h R)
 (fo a h R)
 (λb e=>c [nth b 0,nth b 1] e)
def Qt:=λa (h:za) (R:VK) (c:LK)=>
 opt (zh .eql 3 4 a 22) λd=>CD d (λf=>rv [pm 21,.bool true] h R)
 (JB a h R)
 (λb e=>c [nth b 0,nth b 1] e)
def Ub:=λa (h:za) (R:VK) (c:LK)=>
 opt (zh .eql 3 4 a 21) λd=>CD d (λf=>rv [pm 22,.bool true] h R)
 (Qt a h R)
 (λb e=>c [nth b 0,nth b 1] e)
def zbk:=λ(h:za) a (R:VK)=>
 BK (Ub a h R)
 (λc b=>rv [pm 0,.bool false] b R)
theorem TD(hw:zbk h t0 R):DC zz 103 [t0] h R:=zU (by kernel_rfl) hw
def lp:=λa (R:VK) c (b:za)=>
 ze a false (zh .eql 3 10 c 8) b (λd e=>opt (pk a (.bool true) d) λf=>rv [f] e R) b
def lr:=λa e (R:VK) f (b:za)=>
 ze a false (zh .eql 3 6 f 4) b (λg c=>opt (pk a (.bool true) g) λd=>GD d false (λh=>h e c) (lp d R) c) b
def Rs:=λ(h:za) a (R:VK)=>
 opt (zh .eql 3 3 a 1) λb=>GD b false (λc=>c a h) (lr b a R) h
theorem N5(hw:Rs h t0 R):DC zz 104 [t0] h R:=zU (by kernel_rfl) hw
def Zh:=λb (c:za) (e:LK)=>
 opt (zh .eql 3 6 b 5) λd=>CD d (λa=>a [d] c)
 (λa=>opt (zh .eql 3 6 b 6) λf=>a [f] c)
 (λg h=>e [nth g 0] h)
def jf:=λa (b:za) (d:LK)=>
 opt (zh .eql 3 6 a 4) λc=>CD c (λe=>e [c] b)
 (Zh a b)
 (λf g=>d [nth f 0] g)
def lI:=λb (c:za) (e:LK)=>
 opt (zh .eql 3 6 b 9) λd=>CD d (λa=>a [d] c)
 (λa=>opt (zh .eql 3 6 b 13) λf=>a [f] c)
 (λg h=>e [nth g 0] h)
def aC:=λa (b:za) (d:LK)=>
 opt (zh .eql 3 6 a 8) λc=>CD c (λe=>e [c] b)
 (lI a b)
 (λf g=>d [nth f 0] g)
def Qb:=λ(R:VK) (d:LK) e (b:za)=>
 CD (nth e 0) (λc=>rv [.bool false,.bool false,.bool true] b R)
 (λc=>c [.bool false,.bool false,.bool false] b)
 (λa f=>d [nth a 0,nth a 1,nth a 2] f)
def Qc:=λa (b:za) (R:VK) (d:LK)=>
 opt (zh .eql 3 6 a 2) λc=>CD c (λe=>e [c] b)
 (aC a b)
 (Qb R d)
def Wj:=λ(R:VK) c (d:LK) e (b:za)=>
 CD (nth e 0) (λg=>rv [.bool true,.bool false,.bool false] b R)
 (Qc c b R)
 (λa f=>d [nth a 0,nth a 1,nth a 2] f)
def Wk:=λa (c:za) (R:VK) (e:LK)=>
 opt (zh .eql 3 6 a 11) λd=>CD d (λb=>b [d] c)
 (λb=>opt (zh .eql 3 6 a 14) λf=>b [f] c)
 (Wj R a e)
def Y7:=λb (c:za) (R:VK) (d:LK)=>
 opt (zh .eql 3 6 b 7) λe=>CD e (λg=>rv [.bool true,.bool true,.bool false] c R)
 (Wk b c R)
 (λa f=>d [nth a 0,nth a 1,nth a 2] f)
def qd:=λ(R:VK) c (d:LK) e (b:za)=>
 CD (nth e 0) (λg=>rv [.bool true,.bool false,.bool true] b R)
 (Y7 c b R)
 (λa f=>d [nth a 0,nth a 1,nth a 2] f)
def qe:=λa (b:za) (R:VK) (d:LK)=>
 opt (zh .eql 3 6 a 3) λc=>CD c (λe=>e [c] b)
 (jf a b)
 (qd R a d)
def RH:=λ(h:za) a (R:VK)=>
 opt (nb [a] (some (Value.cells a).toList)) λc=>nw h c 51 λd b=>zn 51 d 0 3 b λe=>BK (qe e b R)
 (λg f=>rv [.bool false,.bool false,.bool false] f R)
theorem Oc(hw:RH h t0 R):DC zz 97 [t0] h R:=zU (by kernel_rfl) hw
def cK:=λb (c:za) (e:LK)=>
 opt (zh .eql 3 4 b 10) λd=>CD d (λa=>a [d] c)
 (λa=>opt (zh .eql 3 4 b 13) λf=>a [f] c)
 (λg h=>e [nth g 0] h)
def Qz:=λa (b:za) (d:LK)=>
 opt (zh .eql 3 4 a 9) λc=>CD c (λe=>e [c] b)
 (cK a b)
 (λf g=>d [nth f 0] g)
def W8:=λa (b:za) (d:LK)=>
 opt (zh .eql 3 4 a 8) λc=>CD c (λe=>e [c] b)
 (Qz a b)
 (λf g=>d [nth f 0] g)
def XG:=λa (b:za) (d:LK)=>
 opt (zh .eql 3 4 a 6) λc=>CD c (λe=>e [c] b)
 (W8 a b)
 (λf g=>d [nth f 0] g)
def Yp:=λa (b:za) (d:LK)=>
 opt (zh .eql 3 4 a 5) λc=>CD c (λe=>e [c] b)
 (XG a b)
 (λf g=>d [nth f 0] g)
def ZF:=λa (b:za) (d:LK)=>
 opt (zh .eql 3 4 a 4) λc=>CD c (λe=>e [c] b)
 (Yp a b)
 (λf g=>d [nth f 0] g)
def jK:=λa (b:za) (d:LK)=>
 opt (zh .eql 3 4 a 3) λc=>CD c (λe=>e [c] b)
 (ZF a b)
 (λf g=>d [nth f 0] g)
def kr:=λc (R:VK) (d:LK) e (a:za)=>
 CD (nth e 0) (λb=>zn 51 c 4 3 a λf=>rv [f] a R)
 (λb=>b [pm 0] a)
 (λg h=>d [nth g 0] h)
def ks:=λa (b:za) d (R:VK) (e:LK)=>
 opt (zh .eql 3 4 a 2) λc=>CD c (λf=>f [c] b)
 (jK a b)
 (kr d R e)
def Lh:=λ(h:za) a (R:VK)=>
 opt (nb [a] (some (Value.cells a).toList)) λd=>nw h d 51 λb c=>zn 51 b 0 3 c λe=>BK (ks e c b R)
 (λg f=>rv [pm (-1)] f R)
theorem Li(hw:Lh h t0 R):DC zz 43 [t0] h R:=zU (by kernel_rfl) hw
def FC:=λd (a:za) (e:LK)=>
 zn 51 d 2 3 a λb=>zQ (nb [b] (zH zz 22 1 [(0,b)] a)) λc f=>zQ (nb [pp,c] (zB zz .append [22,22] 22 [pp,c] f)) λg h=>e [g] h
def FD:=λe (a:za) b (f:LK)=>
 zn 51 e 3 3 a λc=>zQ (nb [c] (zH zz 22 1 [(0,c)] a)) λd g=>zQ (nb [nth b 0,d] (zB zz .append [22,22] 22 [nth b 0,d] g)) λh i=>f [h] i
def FE:=λd (a:za) b (e:LK)=>
 zn 51 d 6 22 a λc=>zQ (nb [nth b 0,c] (zB zz .append [22,22] 22 [nth b 0,c] a)) λf g=>e [f] g
def lE:=λb (R:VK) c (a:za)=>
 zn 51 b 0 3 a λd=>opt (zh .eql 3 80 d 10) λe=>CD e (FE b a c)
 (λf=>f [nth c 0] a)
 (λg h=>rv [nth g 0] h R)
def lF:=λa b c (R:VK) f (d:za)=>
 ze a true (zh .neq 3 71 f (-1)) d (λg e=>opt (pk a g (.bool false)) λh=>CD h (FD b e c)
 (λi=>i [nth c 0] e)
 (lE b R)) d
def J5:=λa c (R:VK) e (d:za)=>
 ze a true (zg zz 51 c 3) d (λf b=>ze a true (zd zz 3 f b) b (lF a c e R) b) d
def J6:=λa b e (R:VK) f (c:za)=>
 ze a true (zh .neq 3 60 f (-1)) c (λg d=>opt (pk a g (.bool false)) λh=>CD h (FC b d)
 (λi=>i [pp] d)
 (J5 e b R)) c
def ZV:=λe a c (R:VK) f (d:za)=>
 opt (pk e (.bool true) f) λg=>ze a true (zg zz 51 c 2) d (λh b=>ze a true (zd zz 3 h b) b (J6 a c g R) b) d
def ZW:=λa c d (R:VK) e (b:za)=>
 ze a false (zh .eql 3 54 e 11) b (ZV a c d R) b
def jL:=λe c f (R:VK) g (d:za)=>
 opt (pk e (.bool true) g) λa=>ze a false (zg zz 51 c 0) d (λh b=>ze a false (zd zz 3 h b) b (ZW a f c R) b) d
def jM:=λa c d (R:VK) e (b:za)=>
 ze a false (zh .eql 3 49 e 7) b (jL a c d R) b
def jN:=λe a (R:VK) f (b:za)=>
 opt (pk e (.bool true) f) λg=>zn 51 a 0 3 b λh=>opt (zh .eql 3 45 h 5) λc=>ze c false (zg zz 51 a 0) b (λi d=>ze c false (zd zz 3 i d) d (jM c a g R) d) b
def jO:=λa c (R:VK) d (b:za)=>
 ze a false (zh .eql 3 41 d 14) b (jN a c R) b
def jP:=λe c (R:VK) f (d:za)=>
 opt (pk e (.bool true) f) λa=>ze a false (zg zz 51 c 0) d (λg b=>ze a false (zd zz 3 g b) b (jO a c R) b) d
def jQ:=λa c (R:VK) d (b:za)=>
 ze a false (zh .eql 3 36 d 12) b (jP a c R) b
def jR:=λe c (R:VK) f (d:za)=>
 opt (pk e (.bool true) f) λa=>ze a false (zg zz 51 c 0) d (λg b=>ze a false (zd zz 3 g b) b (jQ a c R) b) d
def jS:=λa c (R:VK) d (b:za)=>
 ze a false (zh .eql 3 31 d 11) b (jR a c R) b
def jT:=λe c (R:VK) f (d:za)=>
 opt (pk e (.bool true) f) λa=>ze a false (zg zz 51 c 0) d (λg b=>ze a false (zd zz 3 g b) b (jS a c R) b) d
def jU:=λa c (R:VK) d (b:za)=>
 ze a false (zh .eql 3 26 d 7) b (jT a c R) b
def jV:=λe c (R:VK) f (d:za)=>
 opt (pk e (.bool true) f) λa=>ze a false (zg zz 51 c 0) d (λg b=>ze a false (zd zz 3 g b) b (jU a c R) b) d
def jW:=λa c (R:VK) d (b:za)=>
 ze a false (zh .eql 3 21 d 6) b (jV a c R) b
def jX:=λe c (R:VK) f (d:za)=>
 opt (pk e (.bool true) f) λa=>ze a false (zg zz 51 c 0) d (λg b=>ze a false (zd zz 3 g b) b (jW a c R) b) d
def jY:=λa c (R:VK) d (b:za)=>
 ze a false (zh .eql 3 16 d 5) b (jX a c R) b
def jZ:=λe c (R:VK) f (d:za)=>
 opt (pk e (.bool true) f) λa=>ze a false (zg zz 51 c 0) d (λg b=>ze a false (zd zz 3 g b) b (jY a c R) b) d
def j0:=λa c (R:VK) d (b:za)=>
 ze a false (zh .eql 3 11 d 4) b (jZ a c R) b
def Ru:=λ(h:za) e (R:VK)=>
 opt (nb [e] (some (Value.cells e).toList)) λf=>nw h f 51 λa b=>zn 51 a 0 3 b λg=>opt (zh .eql 3 7 g 3) λc=>ze c false (zg zz 51 a 0) b (λi d=>ze c false (zd zz 3 i d) d (j0 c a R) d) b
theorem N7(hw:Ru h t0 R):DC zz 42 [t0] h R:=zU (by kernel_rfl) hw
def Cp:=λb (a:za) (R:VK) (g:LK)=>
 zn 51 b 7 3 a λc=>zn 51 b 8 3 a λd=>zQ (nb [c,d] (zH zz 22 2 [(0,c),(1,d)] a)) λe f=>rv [e] f R
def m9:=λb c (a:za) (R:VK) (d:LK)=>
 opt (zh .eql 3 4 b 11) λe=>CD e (Cp c a R)
 (λf=>f [pp] a)
 (λg h=>d [nth g 0] h)
def dp:=λa (b:za) (R:VK) c (d:LK)=>
 opt (zh .eql 3 4 a 12) λe=>CD e (λh=>rv [pp] b R)
 (m9 a c b R)
 (λf g=>d [nth f 0] g)
def Cq:=λc (R:VK) (f:List aaa) (a:za)=>
 zn 51 c 7 3 a λb=>zQ (nb [b] (zH zz 22 1 [(0,b)] a)) λd e=>rv [d] e R
def LB:=λ(h:za) b (R:VK)=>
 opt (nb [b] (some (Value.cells b).toList)) λd=>nw h d 51 λa c=>zn 51 a 0 3 c λe=>BK (dp e c R a)
 (Cq a R)
theorem LC(hw:LB h t0 R):DC zz 98 [t0] h R:=zU (by kernel_rfl) hw
def Ke:=λb (c:za) (e:LK)=>
 opt (zh .eql 3 4 b 13) λd=>CD d (λa=>a [d] c)
 (λa=>opt (zh .eql 3 4 b 10) λf=>a [f] c)
 (λg h=>e [nth g 0] h)
def V3:=λa (b:za) (d:LK)=>
 opt (zh .eql 3 4 a 9) λc=>CD c (λe=>e [c] b)
 (Ke a b)
 (λf g=>d [nth f 0] g)
def XT:=λa (b:za) (d:LK)=>
 opt (zh .eql 3 4 a 8) λc=>CD c (λe=>e [c] b)
 (V3 a b)
 (λf g=>d [nth f 0] g)
def Yo:=λa (b:za) (d:LK)=>
 opt (zh .eql 3 4 a 6) λc=>CD c (λe=>e [c] b)
 (XT a b)
 (λf g=>d [nth f 0] g)
def Zt:=λa (b:za) (d:LK)=>
 opt (zh .eql 3 4 a 5) λc=>CD c (λe=>e [c] b)
 (Yo a b)
 (λf g=>d [nth f 0] g)
def jj:=λa (b:za) (d:LK)=>
 opt (zh .eql 3 4 a 4) λc=>CD c (λe=>e [c] b)
 (Zt a b)
 (λf g=>d [nth f 0] g)
def kh:=λa (b:za) (d:LK)=>
 opt (zh .eql 3 4 a 3) λc=>CD c (λe=>e [c] b)
 (jj a b)
 (λf g=>d [nth f 0] g)
def qt:=λc (R:VK) (d:LK) e (a:za)=>
 CD (nth e 0) (λb=>zn 51 c 4 3 a λf=>rv [f] a R)
 (λb=>b [pm 0] a)
 (λg h=>d [nth g 0] h)
def qu:=λa (b:za) d (R:VK) (e:LK)=>
 opt (zh .eql 3 4 a 2) λc=>CD c (λf=>f [c] b)
 (kh a b)
 (qt d R e)
def E2:=λ(h:za) a (R:VK)=>
 opt (nb [a] (some (Value.cells a).toList)) λd=>nw h d 51 λb c=>zn 51 b 0 3 c λe=>BK (qu e c b R)
 (λg f=>rv [pm (-1)] f R)
theorem GY(hw:E2 h t0 R):DC zz 59 [t0] h R:=zU (by kernel_rfl) hw
def i4:=λd (R:VK) e f g (a:za)=>
 opt (pk d (.bool true) g) λh=>CD h (λb=>rv [pm 0,.bool false] a R)
 (λb=>b [pm 0,.bool false] a)
 (λj c=>wP 73 e f 3 c λi=>rv [i,.bool true] c R)
def i5:=λa (R:VK) c d e (b:za)=>
 ze a false (zh .geq 3 9 e 6) b (i4 a R c d) b
def P9:=λ(h:za) a (R:VK)=>
 opt (nb [pm 7,pm 6,pm 2,pm 1,pm 8,pm 9] (zY zz 73 [(0,(pm 7)),(1,(pm 6)),(2,(pm 2)),(3,(pm 1)),(4,(pm 8)),(5,(pm 9))])) λe=>uH 73 h λb f=>opt (ye 73 b e f) λc=>opt (zh .lss 3 6 a 0) λd=>GD d false (λg=>g a c) (i5 d R b a) c
theorem NZ(hw:P9 h t0 R):DC zz 13 [t0] h R:=zU (by kernel_rfl) hw
def CN:=λ(h:za) b (R:VK)=>
 zQ (nb [pm 7,pm 6,pm 2,pm 1,pm 8,pm 9] (zH zz 22 6 [(0,(pm 7)),(1,(pm 6)),(2,(pm 2)),(3,(pm 1)),(4,(pm 8)),(5,(pm 9))] h)) λc a=>wP 22 c b 3 a λd=>rv [d] a R
theorem Et(hw:CN h t0 R):DC zz 78 [t0] h R:=zU (by kernel_rfl) hw
def ft:=λc (R:VK) d (e:LK) f (a:za)=>
 opt (pk c (.bool true) f) λg=>CD g (λb=>rv [.bool false] a R)
 (λb=>b [nth d 0] a)
 (λh i=>e [nth h 0] i)
def oJ:=λa (R:VK) c (d:LK) e (b:za)=>
 GD a false (λf=>zq zz (fn 29) [e,fn 30] b (λg h=>f g h)) (ft a R c d) b
def oK:=λd e (R:VK) f (g:LK) h (c:za)=>
 opt (pk d (.bool true) h) λa=>ze a false (zg zz 49 e 5) c (λi b=>ze a false (zd zz 47 i b) b (oJ a R f g) b) c
def BH:=λa e (R:VK) f (g:LK) h (c:za)=>
 GD a false (λi=>zq zz (fn 28) [h] c (λb j=>i b j)) (λb d=>ze a false (Z7 zz .not b) d (oK a e R f g) d) c
def IP:=λg e (f:za) (R:VK) (h:LK)=>
 wP 23 g (nth e 1) 49 f λi=>uH 49 f λa j=>opt (ye 49 a i j) λb=>zn 49 a 2 3 b λk=>opt (zh .lss 3 16 k 16) λc=>ze c false (zg zz 49 a 1) b (λl d=>ze c false (zd zz 22 l d) d (BH c a R e h) d) b
def IQ:=λa (b:LK) c (d:za)=>
 opt (zh .add 3 11 (nth a 1) 1) λe=>b [nth c 0,e] d
def BI:=λd (e:LK) f (R:VK) a (b:za) (g:LK)=>
 opt (yi .lss 3 11 10 (nth a 1) d) λh=>CD h (λc=>c [] b)
 (λc=>e [nth a 0] b)
 (λj i=>BK (IP f a i R)
 (IQ a g))
def BJ:=λc (R:VK) d (a:za)=>
 zn 25 c 1 23 a λb=>zQ (xw 23 b a) λe f=>BK (λg=>LP (BI e g b R)
 [nth d 0,pm 0] f)
 (λi h=>rv [.bool true] h R)
def zbm:=λ(h:za) a (R:VK)=>
 opt (nb [a] (some (Value.cells a).toList)) λf=>nw h f 25 λb c=>opt (zd zz 25 b c) λg=>zq zz (fn 27) [g] c (λi d=>opt (Z7 zz .not i) λj=>CD j (λe=>rv [.bool false] d R)
 (λe=>e [.bool false] d)
 (BJ b R))
theorem TF(hw:zbm h t0 R):DC zz 14 [t0] h R:=zU (by kernel_rfl) hw
def Uc:=λc (R:VK) d (e:LK) f (a:za)=>
 opt (pk c (.bool true) f) λg=>CD g (λb=>rv [.bool false] a R)
 (λb=>b [nth d 0] a)
 (λh i=>e [nth h 0] i)
def Ud:=λa (R:VK) c (d:LK) e (b:za)=>
 ze a false (zh .eql 3 73 e 11) b (Uc a R c d) b
def Ue:=λa d (R:VK) e (f:LK) g (c:za)=>
 ze a false (yh zz 22 d g) c (λh b=>ze a false (zd zz 3 h b) b (Ud a R e f) b) c
def Uf:=λe f b (R:VK) (g:LK) h (c:za)=>
 opt (pk e (.bool true) h) λa=>GD a false (λi=>i f c) (λj d=>GD a false (λk=>k (nth b 1) d) (Ue a j R b g) d) c
def Ug:=λa c d (R:VK) (e:LK) f (b:za)=>
 ze a false (zh .eql 3 66 f 10) b (Uf a c d R e) b
def Uh:=λa d e f (R:VK) (g:LK) h (c:za)=>
 ze a false (yh zz 22 d h) c (λi b=>ze a false (zd zz 3 i b) b (Ug a e f R g) b) c
def Ui:=λa b (c:za) (R:VK) (f:LK)=>
 wP 22 a (nth b 1) 3 c λg=>opt (zh .eql 3 60 g 4) λd=>GD d false (λh=>h a c) (λi e=>GD d false (λj=>j (nth b 1) e) (Uh d i a b R f) e) c
def Ag:=λa (b:LK) c (d:za)=>
 opt (zh .add 3 55 (nth a 1) 1) λe=>b [nth c 0,e] d
def XV:=λb (e:LK) (R:VK) a (f:za) (g:LK)=>
 zQ (xw 22 b f) λh c=>opt (yi .lss 3 51 53 (nth a 1) h) λi=>CD i (λd=>d [] c)
 (λd=>e [nth a 0] c)
 (λk j=>BK (Ui b a j R)
 (Ag a g))
def Zy:=λc (R:VK) d (e:LK) f (a:za)=>
 opt (pk c (.bool true) f) λg=>CD g (λb=>rv [.bool false] a R)
 (λb=>b [nth d 0] a)
 (λh i=>e [nth h 0] i)
def Zz:=λa b (R:VK) e (f:LK) g (c:za)=>
 ze a true (zh .neq 3 96 g 0) c (λh d=>ze b false (pk a h (.bool false)) d (Zy b R e f) d) c
def ZA:=λd e (R:VK) f (g:LK) a (c:za)=>
 ze a true (zg zz 51 d 2) c (λh b=>ze a true (zd zz 3 h b) b (Zz a e R f g) b) c
def ZB:=λa d (R:VK) e (f:LK) g (b:za)=>
 ze a false (zh .eql 3 92 g 12) b (λh c=>GD a false (λi=>i h c) (ZA d a R e f) c) b
def ZC:=λe c (R:VK) f (g:LK) h (d:za)=>
 opt (pk e h (.bool false)) λa=>ze a false (zg zz 51 c 0) d (λi b=>ze a false (zd zz 3 i b) b (ZB a c R f g) b) d
def ZD:=λa b e (R:VK) f (g:LK) h (c:za)=>
 ze a false (Z7 zz .not h) c (λi d=>ze b true (pk a (.bool true) i) d (ZC b e R f g) d) c
def YZ:=λa d e (R:VK) f (g:LK) h (b:za)=>
 ze a false (zd zz 22 h b) b (λi c=>GD a false (λj=>zq zz (fn 41) [i] c (λk l=>j k l)) (ZD a d e R f g) c) b
def Y0:=λa b (R:VK) f (g:LK) h (c:za)=>
 GD a true (λi=>i h c) (λd e=>ze d false (zg zz 51 b 6) e (YZ d a b R f g) e) c
def Y3:=λa c (R:VK) d (e:LK) f (b:za)=>
 ze a true (zh .neq 3 81 f 0) b (Y0 a c R d e) b
def ZE:=λa (R:VK) (e:LK) f (b:za)=>
 zn 51 a 0 3 b λg=>opt (zh .eql 3 77 g 10) λc=>ze c true (zg zz 51 a 4) b (λh d=>ze c true (zd zz 3 h d) d (Y3 c a R f e) d) b
def oF:=λ(d:za) a (R:VK) e f (g:LK) b=>
 zQ (nb [b] (zH zz 22 1 [(0,b)] d)) λc h=>zQ (nb [a,c] (zB zz .append [22,22] 22 [a,c] h)) λi j=>BK (λk=>LP (XV i k R)
 [nth e 0,pm 0] j)
 (ZE f R g)
def bV:=λf (b:za) e (R:VK) (g:LK)=>
 zn 49 f 5 47 b λh=>wP 47 h (nth e 1) 51 b λi=>uH 51 b λa j=>opt (ye 51 a i j) λc=>opt (zd zz 51 a c) λk=>mF zz 42 [k] c (λl d=>opt (zd zz 51 a (trim d c.next)) λm=>uT zz 43 [m] d (oF d l R e a g))
def oG:=λa (b:LK) c (d:za)=>
 opt (zh .add 3 38 (nth a 1) 1) λe=>b [nth c 0,e] d
def bW:=λb (f:LK) (R:VK) a (c:za) (g:LK)=>
 zn 49 b 5 47 c λh=>zQ (xw 47 h c) λi d=>opt (yi .lss 3 33 36 (nth a 1) i) λj=>CD j (λe=>e [] d)
 (λe=>f [nth a 0] d)
 (λl k=>BK (bV b k a R)
 (oG a g))
def UO:=λc (R:VK) d e (f:LK) g (a:za)=>
 opt (pk c (.bool true) g) λh=>CD h (λb=>rv [.bool false] a R)
 (λb=>b [nth d 0] a)
 (λi j=>BK (λk=>LP (bW e k R)
 [nth i 0,pm 0] j)
 (λl m=>f [nth l 0] m))
def bX:=λa (R:VK) e f (g:LK) h (c:za)=>
 GD a false (λi=>zq zz (fn 41) [h] c (λb j=>i b j)) (λb d=>ze a false (Z7 zz .not b) d (UO a R e f g) d) c
def oH:=λg (b:za) f (R:VK) (h:LK)=>
 zn 25 g 1 23 b λi=>wP 23 i (nth f 1) 49 b λj=>uH 49 b λa k=>opt (ye 49 a j k) λc=>zn 49 a 2 3 c λl=>opt (zh .lss 3 25 l 16) λd=>ze d false (zg zz 49 a 1) c (λm e=>ze d false (zd zz 22 m e) e (bX d R f a h) e) c
def oI:=λa (b:LK) c (d:za)=>
 opt (zh .add 3 17 (nth a 1) 1) λe=>b [nth c 0,e] d
def UP:=λb (f:LK) (R:VK) a (c:za) (g:LK)=>
 zn 25 b 1 23 c λh=>zQ (xw 23 h c) λi d=>opt (yi .lss 3 12 15 (nth a 1) i) λj=>CD j (λe=>e [] d)
 (λe=>f [nth a 0] d)
 (λl k=>BK (oH b k a R)
 (oI a g))
def bY:=λ(R:VK) c d (a:za)=>
 opt (Z7 zz .not d) λe=>CD e (λb=>rv [.bool false] a R)
 (λb=>b [.bool false] a)
 (λf g=>BK (λh=>LP (UP c h R)
 [nth f 0,pm 0] g)
 (λj i=>rv [.bool true] i R))
def E6:=λ(h:za) a (R:VK)=>
 opt (nb [a] (some (Value.cells a).toList)) λd=>nw h d 25 λb c=>opt (zd zz 25 b c) λe=>zq zz (fn 18) [e] c (bY R b)
theorem G4(hw:E6 h t0 R):DC zz 19 [t0] h R:=zU (by kernel_rfl) hw
def WC:=λb (h:za) (d:LK)=>
 opt (zh .eql 3 3 b 14) λc=>CD c (λa=>a [c] h)
 (λa=>opt (zh .eql 3 3 b 15) λe=>a [e] h)
 (λf g=>d [nth f 0] g)
def Xp:=λa (h:za) (c:LK)=>
 opt (zh .eql 3 3 a 13) λb=>CD b (λd=>d [b] h)
 (WC a h)
 (λe f=>c [nth e 0] f)
def JC:=λa (h:za) (c:LK)=>
 opt (zh .eql 3 3 a 12) λb=>CD b (λd=>d [b] h)
 (Xp a h)
 (λe f=>c [nth e 0] f)
def Qu:=λa (h:za) (c:LK)=>
 opt (zh .eql 3 3 a 5) λb=>CD b (λd=>d [b] h)
 (JC a h)
 (λe f=>c [nth e 0] f)
def Uj:=λa (h:za) (R:VK) (e:LK)=>
 opt (zh .eql 3 3 a 3) λb=>CD b (λf=>f [b] h)
 (Qu a h)
 (λg c=>CD (nth g 0) (λd=>rv [.bool true] c R)
 (λd=>d [.bool false] c)
 (λi j=>e [nth i 0] j))
def BM:=λ(h:za) a (R:VK)=>
 BK (Uj a h R)
 (λd b=>opt (zh .geq 3 11 a 16) λc=>rv [c] b R)
theorem si(hw:BM h t0 R):DC zz 16 [t0] h R:=zU (by kernel_rfl) hw
def dr:=λc (R:VK) d (e:LK) f (a:za)=>
 opt (pk c (.bool true) f) λg=>CD g (λb=>rv [.bool false] a R)
 (λb=>b [nth d 0] a)
 (λh i=>e [nth h 0] i)
def dt:=λa d (R:VK) e (f:LK) g (b:za)=>
 GD a false (λh=>h d b) (λi c=>ze a false (yi .neq 3 22 23 g i) c (dr a R e f) c) b
def du:=λd (R:VK) e (f:LK) a (b:za)=>
 opt (Yk a 0) λg=>opt (Yk a 1) λh=>opt (Z7 zz .not h) λc=>GD c false (λi=>i g b) (dt c d R e f) b
def Cs:=λc a (b:za) (R:VK) (d:LK)=>
 wP 22 c (nth a 1) 3 b λe=>zq zz (fn 13) [nth a 1] b (du e R a d)
def Ct:=λa (b:LK) c (d:za)=>
 opt (zh .add 3 9 (nth a 1) 1) λe=>b [nth c 0,e] d
def nd:=λd (e:LK) f (R:VK) a (b:za) (g:LK)=>
 opt (yi .lss 3 9 8 (nth a 1) d) λh=>CD h (λc=>c [] b)
 (λc=>e [nth a 0] b)
 (λj i=>BK (Cs f a i R)
 (Ct a g))
def LJ:=λ(h:za) a (R:VK)=>
 zQ (xw 22 a h) λb c=>BK (λd=>LP (nd b d a R)
 [.bool false,pm 0] c)
 (λf e=>rv [.bool true] e R)
theorem LL(hw:LJ h t0 R):DC zz 28 [t0] h R:=zU (by kernel_rfl) hw
def oE:=λ(h:za) a (R:VK)=>
 opt (nb [a] (some (Value.cells a).toList)) λc=>nw h c 51 λd b=>opt (zd zz 51 d b) λe=>zq zz (fn 31) [e] b (λf g=>opt (Z7 zz .not f) λi=>rv [i] g R)
theorem mU(hw:oE h t0 R):DC zz 30 [t0] h R:=zU (by kernel_rfl) hw
def Jg:=λc (L:Nat) (K:VK) (d:LK) e (a:za)=>
 opt (Z7 zz .not e) λf=>CD f (λb=>opt (ye 4 c (.bool false) a) λg=>Fin L K .ret g)
 (λb=>b [] a)
 (λi h=>d [] h)
def gH:=λa b (f g i j:aaa) (L:Nat) (h:za) (K:VK)=>
 RA L h (λc=>BK (λd=>zq zz (fn 58) [a] c (Jg b L K d))
 (λk e=>Fin L K .normal e))
def mq:=λa e f b g (h:za) (R:VK) (c:LK)=>
 RF zz a (wm zz 31 0).1 (wm zz 31 0).2.1 (wm zz 31 0).2.2 (QR 36 [(0,e),(1,f),(2,b),(5,g),(6,a)]) h (λi=>c [] i) (λd=>opt (zd zz 4 b d) λj=>rv [j] d R) (λk l=>cond (Nat.beq k 0) (c [] l) (False))
def Jh:=λa b (R:VK) e (c:za)=>
 ze a true (zh .eql 3 20 e 0) c (λf g=>opt (pk a f (.bool false)) λh=>opt (ye 4 b h g) λd=>opt (zd zz 4 b d) λi=>rv [i] d R) c
def Ji:=λd e (R:VK) a (c:za)=>
 ze a true (zg zz 51 d 4) c (λf b=>ze a true (zd zz 3 f b) b (Jh a e R) b) c
def mr:=λd (a:za) b (R:VK) (h:LK)=>
 zn 51 d 2 3 a λe=>opt (zh .eql 3 26 e 0) λf=>opt (ye 4 b f a) λc=>opt (zd zz 4 b c) λg=>rv [g] c R
def Jj:=λb c (a:za) d (R:VK) (e:LK)=>
 opt (zh .eql 3 12 b 12) λf=>CD f (mr c a d R)
 (λg=>g [] a)
 (λi h=>e [] h)
def VR:=λc a (b:za) d (R:VK) (e:LK)=>
 opt (zh .eql 3 12 c 10) λf=>CD f (λi=>zn 51 a 6 22 b λg=>zq zz (fn 28) [g] b (Ji a d R))
 (Jj c a b d R)
 (λj h=>e [] h)
def Jk:=λb c (R:VK) f (d:za)=>
 GD b false (λg=>zq zz (fn 58) [f] d (λa h=>g a h)) (λa i=>opt (pk b (.bool true) a) λj=>opt (ye 4 c j i) λe=>opt (zd zz 4 c e) λk=>rv [k] e R) d
def QB:=λd (R:VK) a (b:za)=>
 opt (zh .eql 3 30 a (-1)) λc=>GD c false (λe=>e a b) (Jk c d R) b
def WE:=λa b (R:VK) (g:List aaa) (c:za)=>
 zn 51 a 0 3 c λe=>BK (VR e a c b R)
 (λh d=>opt (zd zz 51 a d) λf=>zq zz (fn 59) [f] d (QB b R))
theorem px(t7 t2 t0 t1 t5 t6:aaa)(L:Nat)(h:za)(K:VK):NQ zz (UL zz qs) 150 12 0 L (wm zz 31 0).2.1 (wm zz 31 0).2.2 (QR 36 [(0,t0),(1,t1),(2,t2),(5,t5),(6,t6),(7,t7)]) h K=gH t7 t2 t0 t1 t5 t6 L h K:=by kernel_rfl
def Aq:=λ(h:za) a (R:VK)=>
 opt (nb [a] (some (Value.cells a).toList)) λf=>nw h f 51 λb g=>uH 4 g λc d=>opt (zd zz 51 b d) λe=>zq zz (fn 57) [e] d (λi j=>BK (mq i a b c e j R)
 (WE b c R))
theorem Cu(hw:Aq h t0 R):DC zz 31 [t0] h R:=zU (by kernel_rfl) hw
def sK:=λc (a:za) (R:VK) d (e:LK) f=>
 opt (yi .neq 3 16 18 c f) λg=>CD g (λb=>rv [.bool false] a R)
 (λb=>b [nth d 0] a)
 (λh i=>e [nth h 0] i)
def FF:=λa (b:LK) c (d:za)=>
 opt (zh .add 3 11 (nth a 1) 1) λe=>b [nth c 0,e] d
def FG:=λc a (R:VK) (d:LK) (g:List aaa) (b:za)=>
 BK (λe=>wP 22 c (nth a 1) 3 b λf=>uT zz 78 [nth a 1] b (sK f b R a e))
 (FF a d)
def sL:=λb (e:LK) (R:VK) a (f:za) (g:LK)=>
 zQ (xw 22 b f) λh c=>opt (yi .lss 3 7 9 (nth a 1) h) λi=>CD i (λd=>d [] c)
 (λd=>e [nth a 0] c)
 (FG b a R g)
def Rw:=λ(h:za) a (R:VK)=>
 zQ (xw 22 a h) λd b=>opt (zh .gtr 3 5 d 6) λe=>CD e (λc=>rv [.bool false] b R)
 (λc=>c [.bool false] b)
 (λf g=>BK (λi=>LP (sL a i R)
 [nth f 0,pm 0] g)
 (λk j=>rv [.bool true] j R))
theorem N9(hw:Rw h t0 R):DC zz 41 [t0] h R:=zU (by kernel_rfl) hw
def JO:=λa (R:VK) c (b:za)=>
 ze a true (zh .neq 3 14 c 11) b (λd e=>opt (pk a d (.bool false)) λf=>rv [f] e R) b
def JP:=λa e (R:VK) f (b:za)=>
 ze a true (zh .neq 3 10 f 10) b (λg c=>opt (pk a g (.bool false)) λd=>GD d true (λh=>h e c) (JO d R) c) b
def JQ:=λa b (R:VK) f (c:za)=>
 ze a true (zh .neq 3 6 f 4) c (λg d=>opt (pk a g (.bool false)) λe=>GD e true (λh=>h b d) (JP e b R) d) c
def P7:=λ(h:za) a (R:VK)=>
 opt (zh .geq 3 3 a 0) λb=>GD b true (λc=>c a h) (JQ b a R) h
theorem NY(hw:P7 h t0 R):DC zz 58 [t0] h R:=zU (by kernel_rfl) hw
end Go.Rtl
namespace Go.Ai
open Go.Ai Go.Proofs
theorem yS:AU 22:=xZ (by kernel_rfl)
theorem ue:AU 23:=xZ (by kernel_rfl)
theorem Wn:FcN 25 3:=Y9 (by kernel_rfl) (by kernel_rfl)
theorem uS:AU 47:=xZ (by kernel_rfl)
theorem mw:FcN 49 6:=Y9 (by kernel_rfl) (by kernel_rfl)
theorem qI:FcN 51 9:=Y9 (by kernel_rfl) (by kernel_rfl)
theorem zhO:AU 9:=xZ (by kernel_rfl)
theorem zbZ:FcA 22 3 1 8:=λr v x n w h h1 h2 h3 h4=>Zo (e:=3) (e2:=3) (by kernel_rfl) (by kernel_rfl) (by kernel_rfl) (by kernel_rfl) (by decide) h1 h2 h3 h4
theorem zhQ:FcA 23 49 6 88:=λr v x n w h h1 h2 h3 h4=>Zo (e:=49) (e2:=49) (by kernel_rfl) (by kernel_rfl) (by kernel_rfl) (by kernel_rfl) (by decide) h1 h2 h3 h4
theorem zhS:FcA 47 51 9 88:=λr v x n w h h1 h2 h3 h4=>Zo (e:=51) (e2:=51) (by kernel_rfl) (by kernel_rfl) (by kernel_rfl) (by kernel_rfl) (by decide) h1 h2 h3 h4
theorem R6:FcS 22:=λb o _ _ _ h=>vH (by kernel_rfl) b o _ h rfl
theorem zhY:FcS 23:=λb o _ _ _ h=>vH (by kernel_rfl) b o _ h rfl
theorem zb8:FcM 25 3:=YN (by kernel_rfl)
theorem Xa(b off:Nat)(v:Bool)(h:za):xS pu 4 (.pointer (some ⟨b,off,none⟩)) (.bool v) h=yJ h b off [(.bool v)]:=vH (by kernel_rfl) b off _ h rfl
theorem zhZ:FcS 47:=λb o _ _ _ h=>vH (by kernel_rfl) b o _ h rfl
theorem FZ:FcM 49 6:=YN (by kernel_rfl)
theorem F4:FcM 51 9:=YN (by kernel_rfl)
theorem zcb:FcM 73 6:=YN (by kernel_rfl)
theorem zce:Yd pu 25=some (.agg #[(pp),(pp),(pm 0)]):=zJ (by kernel_rfl)
theorem Mf:Yd pu 4=some (.bool false):=zJ (by kernel_rfl)
theorem mC:Yd pu 49=some (.agg #[(.string ⟨#[]⟩),(pp),(pm 0),(pm 0),(pm 0),(pp)]):=zJ (by kernel_rfl)
theorem pI:Yd pu 51=some (.agg #[(pm 0),(pm 0),(pm 0),(pm 0),(pm 0),(pm 0),(pp),(pm 0),(pm 0)]):=zJ (by kernel_rfl)
theorem zcf:Yd pu 73=some (.agg #[(pm 0),(pm 0),(pm 0),(pm 0),(pm 0),(pm 0)]):=zJ (by kernel_rfl)
theorem T7(v0:Option Addr)(v0l v0c:Nat)(v2:Int):zY pu 25 [(0,(.slice v0 v0l v0c)),(2,(pm v2))]=some (.agg #[(.slice v0 v0l v0c),(pp),(pm v2)]):=zJ (by kernel_rfl)
theorem C5(h:za):zH pu 22 0 [] h=some (.slice (some ⟨h.next,0,none⟩) 0 2,h.push (.cells [] 3)):=zJ (by kernel_rfl)
theorem VE(v0:Int)(h:za):zH pu 22 1 [(0,(pm v0))] h=some (.slice (some ⟨h.next,0,none⟩) 1 3,h.push (.cells [(pm v0)] 3)):=zJ (by kernel_rfl)
theorem Mo(v0:Int)(v1:Int)(h:za):zH pu 22 2 [(0,(pm v0)),(1,(pm v1))] h=some (.slice (some ⟨h.next,0,none⟩) 2 4,h.push (.cells [(pm v0),(pm v1)] 3)):=zJ (by kernel_rfl)
theorem me(v0:Int)(v1:Int)(v2:Int)(v3:Int)(v4:Int)(v5:Int)(h:za):zH pu 22 6 [(0,(pm v0)),(1,(pm v1)),(2,(pm v2)),(3,(pm v3)),(4,(pm v4)),(5,(pm v5))] h=some (.slice (some ⟨h.next,0,none⟩) 6 8,h.push (.cells [(pm v0),(pm v1),(pm v2),(pm v3),(pm v4),(pm v5)] 3)):=zJ (by kernel_rfl)
theorem T9(v00:ByteArray)(v01:Option Addr)(v01l v01c:Nat)(v02:Int)(v03:Int)(v04:Int)(v05:Option Addr)(v05l v05c:Nat)(h:za):zH pu 23 1 [(0,(.agg #[(.string v00),(.slice v01 v01l v01c),(pm v02),(pm v03),(pm v04),(.slice v05 v05l v05c)]))] h=some (.slice (some ⟨h.next,0,none⟩) 1 3,h.push (.cells [(.string v00),(.slice v01 v01l v01c),(pm v02),(pm v03),(pm v04),(.slice v05 v05l v05c)] 49)):=zJ (by kernel_rfl)
theorem zcl(h:za):zH pu 47 0 [] h=some (.slice (some ⟨h.next,0,none⟩) 0 2,h.push (.cells [] 51)):=zJ (by kernel_rfl)
theorem wj:NP 25 0:=λb o=>zJ (by kernel_rfl)
theorem xj:UN 25 1 1:=λb o=>zJ (by kernel_rfl)
theorem XB:UN 25 2 2:=λb o=>zJ (by kernel_rfl)
theorem Sr:NP 49 0:=λb o=>zJ (by kernel_rfl)
theorem uA:UN 49 1 1:=λb o=>zJ (by kernel_rfl)
theorem wh:UN 49 2 2:=λb o=>zJ (by kernel_rfl)
theorem kQ:UN 49 3 3:=λb o=>zJ (by kernel_rfl)
theorem XC:UN 49 4 4:=λb o=>zJ (by kernel_rfl)
theorem xL:UN 49 5 5:=λb o=>zJ (by kernel_rfl)
theorem zw:NP 51 0:=λb o=>zJ (by kernel_rfl)
theorem yj:UN 51 1 1:=λb o=>zJ (by kernel_rfl)
theorem xk:UN 51 2 2:=λb o=>zJ (by kernel_rfl)
theorem qM:UN 51 3 3:=λb o=>zJ (by kernel_rfl)
theorem x8:UN 51 4 4:=λb o=>zJ (by kernel_rfl)
theorem vR:UN 51 5 5:=λb o=>zJ (by kernel_rfl)
theorem kR:UN 51 6 6:=λb o=>zJ (by kernel_rfl)
theorem Xb:UN 51 7 7:=λb o=>zJ (by kernel_rfl)
theorem dW:UN 51 8 8:=λb o=>zJ (by kernel_rfl)
theorem zc4:PM 149 1:=λb o l c k i=>wU (e:=4) (by kernel_rfl) (by kernel_rfl)
theorem bF:PM 22 1:=λb o l c k i=>wU (e:=3) (by kernel_rfl) (by kernel_rfl)
theorem zh9:PM 23 6:=λb o l c k i=>wU (e:=49) (by kernel_rfl) (by kernel_rfl)
theorem zc5:PM 47 9:=λb o l c k i=>wU (e:=51) (by kernel_rfl) (by kernel_rfl)
theorem zic(b off:Nat)(k:IntKind)(i:Int):yh pu 73 (.pointer (some ⟨b,off,none⟩)) (.int k i)=if 0<=i/\i<6 then some (.pointer (some ⟨b,off+i.toNat*1,none⟩)) else none:=pC (e:=3) (len:=6) (by kernel_rfl) (by kernel_rfl)
theorem iF:FcE 22:=λr a n c h=>zJ (by kernel_rfl)
theorem zc9:FcE 23:=λr a n c h=>zJ (by kernel_rfl)
theorem O4:FcE 47:=λr a n c h=>zJ (by kernel_rfl)
theorem zgS(k k2:IntKind)(l c:Int)(h:za)(h0:0<=l)(h1:l<=c)(h2:c<2^31):Wo pu 149 (.int k l) (.int k2 c) h=some (.slice (some ⟨h.next,0,none⟩) l.toNat (c.toNat+2),h.push (.cells (qX [(.bool false)] (c.toNat*1)) 4)):=pD (e:=4) (z:=(.bool false)) (n:=1) (bytes:=1) (by kernel_rfl) (by kernel_rfl) (by kernel_rfl) rfl (by decide) (by decide) rfl h0 h1 h2
theorem zfW(x y:Operand)(a b:ByteArray):zX pu .neq 9 x y (.string a) (.string b)=some (.bool (!(a.toList == b.toList))):=zJ (by kernel_rfl)
end Go.Ai
namespace Go.Rtl
open Go.Ai Go.Proofs
def u3(b:Bool)(v:aaa)(_:za):Prop:=v=.bool b
def isI(n:Int)(v:aaa)(_:za):Prop:=v=.int .i64 n
theorem uh{f:FuncId}{args:List aaa}{h:za}{b:Bool}(d:DC pu f args h.lock (u3 b)):yO pu f args h (.bool b):=yO.of rfl d
theorem H9{f:FuncId}{args:List aaa}{h:za}{n:Int}(d:DC pu f args h.lock (isI n)):yO pu f args h (pm n):=yO.of rfl d
def xr(n m:Int):Bool:=decide (0<=n)&&decide (n<m)
theorem UA(n m:Int)(h:za):yO pu 54 [pm n,pm m] h (.bool (xr n m)):=by
 apply uh;apply LU;unfold LS xr;by_cases h0:0<=n
 ·simp only[EE,nB,h0];simp[u3]
 ·simp only[EE,nB,h0];simp[u3]
def GA(n:Int):Bool:=decide (11<=n)&&decide (n<=26)
theorem zgZ(n:Int)(h:za):yO pu 102 [pm n] h (.bool (GA n)):=by
 apply uh;apply CB;unfold At GA;by_cases h0:11<=n
 ·simp only[EE,Jl,h0];simp[u3]
 ·simp only[EE,Jl,h0];simp[u3]
def ik(n:Int):Bool:=decide (n=1)||(decide (n=4)||decide (n=8))
theorem zeu(n:Int)(h:za):yO pu 104 [pm n] h (.bool (ik n)):=by
 apply uh;apply N5;unfold Rs ik;by_cases h1:n=1
 ·subst h1;simp only[EE,Int.reduceEq,lp,lr];rfl
 by_cases h4:n=4
 ·subst h4;simp only[EE,Int.reduceEq,lp,lr];rfl
 simp only[EE,lp,lr,h1,h4];simp[u3]
def AJ(n:Int):Bool:=decide (21<=n)&&decide (n<=26)
theorem zeG(n:Int)(h:za):DC pu 103 [pm n] h (λv h1=>(∃a,v=.tuple #[pm a,.bool (AJ n)])/\h1=h):=by
 apply TD;unfold zbk;by_cases h1:n=21
 ·subst h1;simp only[EE,↓BK,Ub];exact⟨_,rfl⟩
 by_cases h2:n=22
 ·subst h2;simp only[EE,↓BK,Int.reduceEq,Qt,Ub];exact⟨_,rfl⟩
 by_cases h3:n=23
 ·subst h3;simp only[EE,↓BK,Int.reduceEq,JB,Qt,Ub];exact⟨_,rfl⟩
 by_cases h4:n=24
 ·subst h4;simp only[EE,↓BK,Int.reduceEq,oD,fo,JB,Qt,Ub];exact⟨_,rfl⟩
 by_cases h5:n=25
 ·subst h5;simp only[EE,↓BK,Int.reduceEq,BG,oD,fo,JB,Qt,Ub];exact⟨_,rfl⟩
 by_cases h6:n=26
 ·subst h6;simp only[EE,↓BK,Int.reduceEq,fo,JB,Qt,Ub];exact⟨_,rfl⟩
 have e:AJ n=false:=by
  unfold AJ;by_cases a:21<=n
  ·have:¬n<=26:=by omega
   simp[this]
  ·simp[a]
 simp only[EE,↓BK,BG,oD,fo,JB,Qt,Ub,h1,h2,h3,h4,h5,h6];rw[e];exact⟨_,rfl⟩
structure Old (h h':za):Prop where
 next:h.next<=h'.next
 ro:h'.ro=h.ro
 get:∀b,b<h.next->h'.get b=h.get b
theorem Old.refl(h:za):Old h h:=⟨aam _,rfl,λ_ _=>rfl⟩
theorem Old.trans{a b c:za}(x:Old a b)(y:Old b c):Old a c:=⟨aaS x.next y.next,y.ro.trans x.ro,λi hi=>(y.get i (aao hi x.next)).trans (x.get i hi)⟩
theorem Old.push(h:za)(o:wA):Old h (h.push o):=⟨abr _,rfl,λb hb=>zt hb⟩
theorem Old.set{h h':za}(x:Old h h'){b:Nat}(hb:h.next<=b)(o:Option wA):Old h (h'.set b o):=⟨x.next,x.ro,λc hc=>(zK (by omega)).trans (x.get c hc)⟩
def wD(n:Int):Prop := -9223372036854775808<=n/\n<9223372036854775808
structure xG where
 op:Int
 sub:Int
 a:Int
 b:Int
 d:Int
 k:Int
 av:aaa
 args:List Int
 s:Int
 t:Int
def zL(h:za)(sv:aaa)(zs:List Int):Prop:=(sv=.slice none 0 0/\zs=[]) \/ ∃b off cp,sv=.slice (some ⟨b,off,none⟩) zs.length cp/\(zs≠[]->∃c t,b<h.next/\h.get b=some (.cells c t) /\ ∀(i:Nat) z,zs[i]? = some z->c[off+i]? = some (pm z))
section
variable {h h':za}{sv:aaa}{zs:List Int}
theorem zL.wk(S:zL h sv zs):zV sv=false:=by
 rcases S with⟨rfl,_⟩|⟨b,off,cp,rfl,_⟩ <;> rfl
theorem zL.eT(S:zL h sv zs):yN sv=true:=by
 rcases S with⟨rfl,_⟩|⟨b,off,cp,rfl,_⟩ <;> rfl
theorem zL.old(S:zL h sv zs)(e:Old h h'):zL h' sv zs:=by
 rcases S with a|⟨b,off,cp,rfl,hc⟩
 ·exact .inl a
 ·refine .inr ⟨b,off,cp,rfl,λhz=>?_⟩;obtain⟨c,t,hb,hg,hat⟩:=hc hz;exact⟨c,t,aao hb e.next,by rw[e.get b hb];exact hg,hat⟩
theorem zL.lock(S:zL h sv zs):zL h.lock sv zs:=by
 rcases S with a|⟨b,off,cp,rfl,hc⟩
 ·exact .inl a
 ·refine .inr ⟨b,off,cp,rfl,λhz=>?_⟩;obtain⟨c,t,hb,hg,hat⟩:=hc hz;exact⟨c,t,hb,by rw[bE];exact hg,hat⟩
theorem zL.len(S:zL h sv zs)(h':za):zB pu .len [22] 3 [sv] h'=some (pm zs.length,h'):=by
 rcases S with⟨rfl,rfl⟩|⟨b,off,cp,rfl,_⟩
 ·simp only[iF,aaz]
 ·simp only[iF]
theorem zL.at(S:zL h sv zs){i:Nat}{z:Int}(hz:zs[i]? = some z):∃b o c t,yh pu 22 sv (pm i)=some (.pointer (some ⟨b,o,none⟩))/\b<h.next/\h.get b=some (.cells c t)/\c[o]? = some (pm z):=by
 rcases S with⟨rfl,rfl⟩|⟨b,off,cp,rfl,hc⟩
 ·cases hz
 ·have hlt:i<zs.length:=by
   rcases aar i zs.length with a|a
   ·exact a
   ·rw[aal a]at hz;cases hz
  obtain⟨c,t,hb,hg,hat⟩:=hc (by intro e;subst e;cases hz);have h1:0<=(i:Int)/\(i:Int)<(zs.length:Int):=by omega
  exact⟨b,off+i,c,t,by simp only[EE,aad,bF,h1,aax,abk],hb,hg,hat i z hz⟩
end
abbrev xG.val(x:xG):aaa := .agg #[pm x.op,pm x.sub,pm x.a,pm x.b,pm x.d,pm x.k,x.av,pm x.s,pm x.t]
def wr(op:Int):Bool:=decide (op=2)||(decide (op=3)||(decide (op=4)||(decide (op=5)||(decide (op=6)||(decide (op=8)||(decide (op=9)||(decide (op=10)||decide (op=13))))))))
def zu(x:xG):Int:=if wr x.op=true then x.d else -1
theorem zf4{op:Int}(h2:¬op=2)(h3:¬op=3)(h4:¬op=4)(h5:¬op=5)(h6:¬op=6)(h8:¬op=8)(h9:¬op=9)(h10:¬op=10)(h13:¬op=13):wr op=false:=by
 simp[wr,h2,h3,h4,h5,h6,h8,h9,h10,h13]
theorem UB(x:xG)(hn:zV x.av=false)(h:za):yO pu 43 [x.val] h (pm (zu x)):=by
 apply H9;apply Li;unfold Lh zu;obtain⟨op,sub,a,b,d,k,av,args,s,t⟩:=x;simp only at hn;by_cases h2:op=2
 ·subst h2;simp only[EE,nth,↓nw,Value.cells,↓BK,Int.reduceNeg,zA,zj,zw,x8,kr,ks];rfl
 by_cases h3:op=3
 ·subst h3;simp only[EE,nth,↓nw,Value.cells,↓BK,Int.reduceEq,Int.reduceNeg,zA,zj,zw,x8,jK,kr,ks];rfl
 by_cases h4:op=4
 ·subst h4;simp only[EE,nth,↓nw,Value.cells,↓BK,Int.reduceEq,Int.reduceNeg,zA,zj,zw,x8,ZF,jK,kr,ks];rfl
 by_cases h5:op=5
 ·subst h5;simp only[EE,nth,↓nw,Value.cells,↓BK,Int.reduceEq,Int.reduceNeg,zA,zj,zw,x8,Yp,ZF,jK,kr,ks];rfl
 by_cases h6:op=6
 ·subst h6;simp only[EE,nth,↓nw,Value.cells,↓BK,Int.reduceEq,Int.reduceNeg,zA,zj,zw,x8,XG,Yp,ZF,jK,kr,ks];rfl
 by_cases h8:op=8
 ·subst h8;simp only[EE,nth,↓nw,Value.cells,↓BK,Int.reduceEq,Int.reduceNeg,zA,zj,zw,x8,W8,XG,Yp,ZF,jK,kr,ks];rfl
 by_cases h9:op=9
 ·subst h9;simp only[EE,nth,↓nw,Value.cells,↓BK,Int.reduceEq,Int.reduceNeg,zA,zj,zw,x8,Qz,W8,XG,Yp,ZF,jK,kr,ks];rfl
 by_cases h10:op=10
 ·subst h10;simp only[EE,nth,↓nw,Value.cells,↓BK,Int.reduceEq,Int.reduceNeg,zA,zj,zw,x8,cK,Qz,W8,XG,Yp,ZF,jK,kr,ks];rfl
 by_cases h13:op=13
 ·subst h13;simp only[EE,nth,↓nw,Value.cells,↓BK,Int.reduceEq,Int.reduceNeg,zA,zj,zw,x8,cK,Qz,W8,XG,Yp,ZF,jK,kr,ks];rfl
 have e:=zf4 h2 h3 h4 h5 h6 h8 h9 h10 h13;simp only[EE,nth,↓nw,Value.cells,↓BK,Int.reduceNeg,zA,zj,zw,x8,cK,Qz,W8,XG,Yp,ZF,jK,kr,ks,h2,h3,h4,h5,h6,h8,h9,h10,h13];simp[isI,e]
theorem Gc(x:xG)(hn:zV x.av=false)(h:za):yO pu 59 [x.val] h (pm (zu x)):=by
 apply H9;apply GY;unfold E2 zu;obtain⟨op,sub,a,b,d,k,av,args,s,t⟩:=x;simp only at hn;by_cases h2:op=2
 ·subst h2;simp only[EE,nth,↓nw,Value.cells,↓BK,Int.reduceNeg,zA,zj,zw,x8,qt,qu];rfl
 by_cases h3:op=3
 ·subst h3;simp only[EE,nth,↓nw,Value.cells,↓BK,Int.reduceEq,Int.reduceNeg,zA,zj,zw,x8,kh,qt,qu];rfl
 by_cases h4:op=4
 ·subst h4;simp only[EE,nth,↓nw,Value.cells,↓BK,Int.reduceEq,Int.reduceNeg,zA,zj,zw,x8,jj,kh,qt,qu];rfl
 by_cases h5:op=5
 ·subst h5;simp only[EE,nth,↓nw,Value.cells,↓BK,Int.reduceEq,Int.reduceNeg,zA,zj,zw,x8,Zt,jj,kh,qt,qu];rfl
 by_cases h6:op=6
 ·subst h6;simp only[EE,nth,↓nw,Value.cells,↓BK,Int.reduceEq,Int.reduceNeg,zA,zj,zw,x8,Yo,Zt,jj,kh,qt,qu];rfl
 by_cases h8:op=8
 ·subst h8;simp only[EE,nth,↓nw,Value.cells,↓BK,Int.reduceEq,Int.reduceNeg,zA,zj,zw,x8,XT,Yo,Zt,jj,kh,qt,qu];rfl
 by_cases h9:op=9
 ·subst h9;simp only[EE,nth,↓nw,Value.cells,↓BK,Int.reduceEq,Int.reduceNeg,zA,zj,zw,x8,V3,XT,Yo,Zt,jj,kh,qt,qu];rfl
 by_cases h10:op=10
 ·subst h10;simp only[EE,nth,↓nw,Value.cells,↓BK,Int.reduceEq,Int.reduceNeg,zA,zj,zw,x8,Ke,V3,XT,Yo,Zt,jj,kh,qt,qu];rfl
 by_cases h13:op=13
 ·subst h13;simp only[EE,nth,↓nw,Value.cells,↓BK,Int.reduceEq,Int.reduceNeg,zA,zj,zw,x8,Ke,V3,XT,Yo,Zt,jj,kh,qt,qu];rfl
 have e:=zf4 h2 h3 h4 h5 h6 h8 h9 h10 h13;simp only[EE,nth,↓nw,Value.cells,↓BK,Int.reduceNeg,zA,zj,zw,x8,Ke,V3,XT,Yo,Zt,jj,kh,qt,qu,h2,h3,h4,h5,h6,h8,h9,h10,h13];simp[isI,e]
def Uy(op:Int):Bool:=decide (op=3)||(decide (op=4)||(decide (op=5)||(decide (op=6)||(decide (op=7)||(decide (op=11)||decide (op=14))))))
def iJ(op:Int):Bool:=decide (op=7)
def iK(op:Int):Bool:=decide (op=2)||(decide (op=3)||(decide (op=4)||(decide (op=5)||(decide (op=6)||(decide (op=8)||(decide (op=9)||decide (op=13)))))))
theorem uK{u v w:aaa}{h:za}{R:aaa->za->Prop}(ha:zV u=false)(hb:zV v=false)(hc:zV w=false):rv [u,v,w] h R=R (.tuple #[u,v,w]) h:=by
 apply propext;simp only[rv,yC,ha,hb,hc,aaK,ZI,abQ]
theorem zdm(x:xG)(hn:zV x.av=false)(h:za):DC pu 97 [x.val] h (λv h1=>v=.tuple #[.bool (Uy x.op),.bool (iJ x.op),.bool (iK x.op)]/\Old h h1):=by
 apply Oc;unfold RH;obtain⟨op,sub,a,b,d,k,av,args,s,t⟩:=x;simp only at hn ⊢;have old:∀o,Old h (h.push o):=λo=>Old.push h o;by_cases h2:op=2
 ·subst h2;simp only[EE,nth,↓nw,Value.cells,↓BK,Int.reduceEq,zA,zj,zw,Zh,jf,Qb,Qc,Wj,Wk,Y7,qd,qe,uK];exact⟨rfl,old _⟩
 by_cases h3:op=3
 ·subst h3;simp only[EE,nth,↓nw,Value.cells,↓BK,zA,zj,zw,qd,qe,uK];exact⟨rfl,old _⟩
 by_cases h4:op=4
 ·subst h4;simp only[EE,nth,↓nw,Value.cells,↓BK,Int.reduceEq,zA,zj,zw,jf,qd,qe,uK];exact⟨rfl,old _⟩
 by_cases h5:op=5
 ·subst h5;simp only[EE,nth,↓nw,Value.cells,↓BK,Int.reduceEq,zA,zj,zw,Zh,jf,qd,qe,uK];exact⟨rfl,old _⟩
 by_cases h6:op=6
 ·subst h6;simp only[EE,nth,↓nw,Value.cells,↓BK,Int.reduceEq,zA,zj,zw,Zh,jf,qd,qe,uK];exact⟨rfl,old _⟩
 by_cases h7:op=7
 ·subst h7;simp only[EE,nth,↓nw,Value.cells,↓BK,Int.reduceEq,zA,zj,zw,Zh,jf,Y7,qd,qe,uK];exact⟨rfl,old _⟩
 by_cases h8:op=8
 ·subst h8;simp only[EE,nth,↓nw,Value.cells,↓BK,Int.reduceEq,zA,zj,zw,Zh,jf,aC,Qb,Qc,Wj,Wk,Y7,qd,qe,uK];exact⟨rfl,old _⟩
 by_cases h9:op=9
 ·subst h9;simp only[EE,nth,↓nw,Value.cells,↓BK,Int.reduceEq,zA,zj,zw,Zh,jf,lI,aC,Qb,Qc,Wj,Wk,Y7,qd,qe,uK];exact⟨rfl,old _⟩
 by_cases h11:op=11
 ·subst h11;simp only[EE,nth,↓nw,Value.cells,↓BK,Int.reduceEq,zA,zj,zw,Zh,jf,Wj,Wk,Y7,qd,qe,uK];exact⟨rfl,old _⟩
 by_cases h13:op=13
 ·subst h13;simp only[EE,nth,↓nw,Value.cells,↓BK,Int.reduceEq,zA,zj,zw,Zh,jf,lI,aC,Qb,Qc,Wj,Wk,Y7,qd,qe,uK];exact⟨rfl,old _⟩
 by_cases h14:op=14
 ·subst h14;simp only[EE,nth,↓nw,Value.cells,↓BK,Int.reduceEq,zA,zj,zw,Zh,jf,Wj,Wk,Y7,qd,qe,uK];exact⟨rfl,old _⟩
 have e1:Uy op=false:=by simp[Uy,h3,h4,h5,h6,h7,h11,h14]
 have e2:iJ op=false:=by simp[iJ,h7]
 have e3:iK op=false:=by simp[iK,h2,h3,h4,h5,h6,h8,h9,h13]
 simp only[EE,nth,↓nw,Value.cells,↓BK,zA,zj,zw,Zh,jf,lI,aC,Qb,Qc,Wj,Wk,Y7,qd,qe,uK,h2,h3,h4,h5,h6,h7,h8,h9,h11,h13,h14];rw[e1,e2,e3];exact⟨rfl,old _⟩
theorem Ja{h:za}(w:UJ h)(o:wA):UJ (h.push o):=⟨λb x hb=>by
 rw[za.vA]at hb;show b<h.next+1;split at hb
 ·rename_i e;omega
 ·have:=w.1 b x hb;omega,abu w.2⟩
theorem wf_set{h:za}(w:UJ h){b:Nat}(hb:b<h.next)(o:Option wA):UJ (h.set b o):=⟨λc x hc=>by
 rw[za.yI]at hc;split at hc
 ·rename_i e;subst e;exact hb
 ·exact w.1 c x hc,w.2⟩
theorem Th{h:za}(w:UJ h):UJ h.lock:=⟨λb x hb=>by rw[bE]at hb;exact w.1 b x hb,aam _⟩
theorem zaF{h h2:za}(hn:h.next<=h2.next):Old h (vB h h2):=⟨hn,rfl,λb hb=>by rw[uy,aac (by omega)]⟩
theorem zd7{h h2:za}(w:UJ h)(w2:UJ h2)(hn:h.next<=h2.next):UJ (vB h h2):=⟨λb x hb=>by
 show b<h2.next;rw[uy]at hb;split at hb
 ·rename_i e;exact e.2
 ·have:=w.1 b x hb;omega,by show h.ro<=h2.next;have:=w.2;omega⟩
theorem zcp{g:FuncId}{args:List aaa}{h:za}{K R:aaa->za->Prop}(hc:xO pu g=true)(hn:yC args=true)(wf:UJ h)(d:DC pu g args h.lock R)(hk:∀v h1,R v h1->h.next<=h1.next->UJ h1->K v (vB h h1)):mF pu g args h K:=by
 obtain⟨v,h1,r,af,t⟩:=d (Th wf);exact⟨hc,hn,v,h1,t,af,hk v h1 r af.next ((Th wf).af af)⟩
def ints(zs:List Int):List aaa:=zs.map λz => pm z
theorem zc2(zs:List Int):(ints zs).all yN=true:=by
 rw[aaD];intro v hv;simp only[ints,abm]at hv;obtain⟨z,_,rfl⟩:=hv;rfl
theorem tp(c n:Nat):uG c n≠0:=by
 unfold uG;split
 ·cases Nat.ble n _ <;> simp
 ·simp
def k7(lo h:za)(l:aaa)(zs:List Int):Prop:=(l=.slice none 0 0/\zs=[]) \/ ∃b c,l=.slice (some ⟨b,0,none⟩) zs.length c/\c≠0/\lo.next<=b/\b<h.next/\h.ro<=b/\h.get b=some (.cells (ints zs) 3)
section
variable {lo h:za}{l:aaa}{zs:List Int}
theorem k7.wk(S:k7 lo h l zs):zV l=false:=by
 rcases S with⟨rfl,_⟩|⟨_,_,rfl,_⟩ <;> rfl
theorem pF(S:k7 lo h l zs)(e:Old lo h)(hro:h.ro<=h.next){x:aaa}{n:Nat}{ys:List Int}(hn:gY x=some n)(hy:ys.length=n)(hf:wR h n 1 x=some (ints ys))(hb:zs.length+n<=17592186044416) :
  ∃l' h',zB pu .append [22,22] 22 [l,x] h=some (l',h')/\k7 lo h' l' (zs++ys)/\Old lo h'/\h'.ro<=h'.next/\h.next<=h'.next/\(UJ h->UJ h') /\ ∀b,b<lo.next->h'.get b=h.get b:=by
 have hap:=zbZ 22 l x n (ints ys) h hn hf (zc2 ys) (by simp[ints,hy]);rw[hap];have n0:=e.next;rcases S with⟨rfl,rfl⟩|⟨b,c,rfl,hc,hb1,hb2,hb3,hg⟩
 ·by_cases h0:n=0
  ·have:ys=[]:=abL.1 (by omega);subst this;exact⟨_,_,by simp only[Q9,h0,aad],.inl ⟨rfl,rfl⟩,e,hro,aam _,id,λ_ _=>rfl⟩
  ·refine⟨.slice (some ⟨h.next,0,none⟩) n 1,h.push (.cells (ints ys) 3),?_,.inr ⟨h.next,1,by simp[hy],by decide,by omega,aaH _,hro,by rw[zk];rfl⟩,e.trans (Old.push _ _),abu hro,abr _,λw=>Ja w _,λb hb=>zt (by omega)⟩;simp only[Q9,h0,abe];rw[aai (by omega)]
 ·by_cases h0:n=0
  ·have:ys=[]:=abL.1 (by omega);subst this;exact⟨.slice (some ⟨b,0,none⟩) zs.length c,h,by simp only[Q9,h0,aad],.inr ⟨b,c,by simp,hc,hb1,hb2,hb3,by simpa using hg⟩,e,hro,aam _,id,λ_ _=>rfl⟩
  ·have hroom:roomFor c (zs.length+n) 8=true:=by
    unfold roomFor;cases Nat.beq c 2 <;> simp only[aaC,aaK,acp] <;> omega
   have hl:(ints zs).length=zs.length:=by simp[ints]
   refine⟨.slice (some ⟨h.next,0,none⟩) (zs.length+n) (uG c (zs.length+n)),(h.set b none).push (.cells (ints (zs++ys)) 3),?_,.inr ⟨h.next,uG c (zs.length+n),by simp[hy],tp _ _,by omega,aaH _,hro,zk⟩,?_,abu hro,abr _,λw=>Ja (wf_set w hb2 _) _,λb' hb'=>?_⟩
   ·simp only[Q9,h0,abe,hg];rw[aai ⟨hc,trivial,hb3,by rw[hl];omega,hroom,by decide⟩]
    congr 3
    rw[abA,ace (by rw[hl];omega)];simp[ints]
   ·refine⟨by show lo.next<=h.next+1;omega,e.ro,λb' hb'=>?_⟩;rw[zt (by show b'<h.next;omega),zK (by omega)];exact e.get b' hb'
   ·rw[zt (by show b'<h.next;omega),zK (by omega)]
theorem Ht(S:k7 lo h l zs)(e:Old lo h)(hro:h.ro<=h.next)(z:Int)(hb:zs.length<=17592186044415) :
  ∃l' h',zB pu .append [22,22] 22 [l,.slice (some ⟨h.next,0,none⟩) 1 3] (h.push (.cells [pm z] 3))=some (l',h')/\k7 lo h' l' (zs++[z])/\Old lo h'/\h'.ro<=h'.next/\(UJ h->UJ h') /\ ∀b,b<lo.next->h'.get b=h.get b:=by
 have S':k7 lo (h.push (.cells [pm z] 3)) l zs:=by
  rcases S with a|⟨b,c,a1,a2,a3,a4,a5,a6⟩
  ·exact .inl a
  ·exact .inr ⟨b,c,a1,a2,a3,acE a4,a5,by rw[zt a4];exact a6⟩
 have hf:wR (h.push (.cells [pm z] 3)) 1 1 (.slice (some ⟨h.next,0,none⟩) 1 3)=some (ints [z]):=by
  simp only[wR,zk];rfl
 obtain⟨l',h',a1,a2,a3,a4,a5,a7,a6⟩:=pF S' (e.trans (Old.push _ _)) (abu hro) (x := .slice (some ⟨h.next,0,none⟩) 1 3) rfl rfl hf (by omega);exact⟨l',h',a1,a2,a3,a4,λw=>a7 (Ja w _),λb hb=>by rw[a6 b hb,zt (by have:=e.next;omega)]⟩
theorem zL.first(S:zL h l zs):gY l=some zs.length/\wR h zs.length 1 l=some (ints zs):=by
 rcases S with⟨rfl,rfl⟩|⟨b,off,cp,rfl,hc⟩
 ·exact⟨rfl,rfl⟩
 ·refine⟨rfl,?_⟩;by_cases h0:zs=[]
  ·subst h0;rfl
  ·obtain⟨c,t,hb,hg,hat⟩:=hc h0;have hne:0<zs.length:=List.length_pos_iff.2 h0
   have hlen:off+zs.length<=c.length:=by
    have:=hat (zs.length-1) _ (aae (by omega));rcases aar (off+(zs.length-1)) c.length with q|q
    ·omega
    ·rw[aal q]at this;cases this
   simp only[wR,hg];rw[show Nat.beq (zs.length*1) 0=false by cases hz:Nat.beq (zs.length*1) 0 with|false=>rfl|true=>have:=aav hz;omega];rw[show Nat.ble (off+zs.length*1) c.length=true by simpa using hlen];simp only[aaK,aaC,aab,abk];apply abc;intro i;by_cases hi:i<zs.length
   ·rw[aaX hi,aa1,hat i _ (aae hi)];simp[ints,hi]
   ·rw[aal (by simp;omega),aal (by simp[ints];omega)]
theorem k7.read(S:k7 lo h l zs):zL h l zs:=by
 rcases S with a|⟨b,c,rfl,hc,h1,h2,h3,h4⟩
 ·exact .inl a
 ·refine .inr ⟨b,0,c,rfl,λ_=>⟨_,3,h2,h4,λi z hz=>?_⟩⟩;simp[ints,hz]
def Ad(l0 h:za)(v:aaa)(zs:List Int):Prop := ∃lo,Old l0 lo/\Old lo h/\k7 lo h v zs/\h.ro<=h.next
end
theorem Ad.read{l0 h:za}{v:aaa}{zs:List Int}(F:Ad l0 h v zs):zL h v zs/\Old l0 h:=by
 obtain⟨lo,e0,e,W,_⟩:=F;exact⟨W.read,e0.trans e⟩
theorem Ad.vB{h h1:za}{v:aaa}{zs:List Int}(F:Ad h.lock h1 v zs)(wf:UJ h):k7 h (vB h h1) v zs:=by
 obtain⟨lo,e0,e,W,_⟩:=F;rcases W with a|⟨b,c,rfl,hc,h2,h3,h4,h5⟩
 ·exact .inl a
 ·have n0:h.next<=lo.next:=e0.next;refine .inr ⟨b,c,rfl,hc,by omega,h3,?_,?_⟩
  ·have:=wf.2;show h.ro<=b;omega
  ·rw[uy,aai ⟨by omega,h3⟩];exact h5
def Ka(op:Int):Bool:=decide (op=3)||(decide (op=4)||(decide (op=5)||(decide (op=6)||(decide (op=7)||(decide (op=11)||(decide (op=12)||decide (op=14)))))))
def Jx(op:Int):Bool:=decide (op=5)||(decide (op=7)||decide (op=11))
def lA(x:xG):List Int:=if Ka x.op=true /\ ¬x.a = -1 then [x.a] else []
def lB(x:xG):List Int:=if Jx x.op=true /\ ¬x.b = -1 then [x.b] else []
def lC(x:xG):List Int:=if x.op=10 then x.args else []
def wz(x:xG):List Int:=lA x++lB x++lC x
def ql(x:xG):List Int:=if x.op=12 then [] else if x.op=11 then [x.s,x.t] else [x.s]
theorem Nf(h:za)(zs:List Int)(c:Nat):zL (h.push (.cells (ints zs) 3)) (.slice (some ⟨h.next,0,none⟩) zs.length c) zs :=
 .inr ⟨h.next,0,c,rfl,λ_=>⟨_,3,aaH _,zk,λi z hz=>by simp[ints,hz]⟩⟩
theorem zad(x:xG)(hn:zV x.av=false)(h:za):DC pu 98 [x.val] h (λv h1=>zL h1 v (ql x)/\Old h h1):=by
 apply LC;unfold LB ql;obtain⟨op,sub,a,b,d,k,av,args,s,t⟩:=x;simp only at hn ⊢;by_cases h12:op=12
 ·subst h12;simp only[EE,↓nw,Value.cells,↓BK,aad,abe,Int.reduceEq,zA,zj,zw,dp];exact⟨.inl ⟨rfl,rfl⟩,Old.push _ _⟩
 by_cases h11:op=11
 ·subst h11;simp only[EE,↓nw,Value.cells,↓BK,aad,abe,Int.reduceEq,zA,zj,Mo,zw,Xb,dW,Cp,m9,dp];exact⟨Nf _ [s,t] 4,(Old.push _ _).trans (Old.push _ _)⟩
 simp only[EE,↓nw,Value.cells,↓BK,abe,zA,zj,VE,zw,Xb,m9,dp,Cq,h11,h12];exact⟨Nf _ [s] 3,(Old.push _ _).trans (Old.push _ _)⟩
section
variable {l0 lo h:za}{b1:Nat}{x:xG}{l:aaa}{zs:List Int}
theorem ziF(e0:Old l0 lo)(S:zL lo x.av x.args)(hl:x.args.length<=17592186043904)(W:k7 lo h l zs)(hz:zs.length<=10)(e:Old lo h)(hro:h.ro<=h.next)(h1:b1<lo.next)(hb:lo.get b1=some (.cells x.val.cells.toList 51)) :
  lE (pi b1) (λv h1=>Ad l0 h1 v (zs++lC x)) [l] h:=by
 have hn:=S.wk;have hnl:=W.wk;have Sh:=S.old e;obtain⟨a1,a2⟩:=Sh.first;rw[<- e.get b1 h1]at hb;obtain⟨op,sub,a,b,d,k,av,args,s,t⟩:=x;simp only[Value.cells,aaF]at hn hb a1 a2 hl;unfold lC;by_cases h10:op=10
 ·subst h10;obtain⟨l',h',q1,q2,q3,q4,q5,q7,q6⟩:=pF W e hro a1 rfl a2 (by omega);have nl:=q2.wk;simp only[EE,nth,aad,zA,yS,zj,zw,kR,FE,lE,hb,hn,hnl,q1,nl];exact⟨lo,e0,q3,q2,q4⟩
 ·simp only[EE,nth,abe,zA,zj,zw,lE,hb,hnl,h10,ab6];exact⟨lo,e0,e,W,hro⟩
theorem ziG(e0:Old l0 lo)(S:zL lo x.av x.args)(hl:x.args.length<=17592186043904)(W:k7 lo h l zs)(hz:zs.length<=9)(e:Old lo h)(hro:h.ro<=h.next)(h1:b1<lo.next)(hb:lo.get b1=some (.cells x.val.cells.toList 51)) :
  J5 (.bool (Jx x.op)) (pi b1) (λv h1=>Ad l0 h1 v (zs++lB x++lC x)) [l] h:=by
 have go:=ziF e0 (zs:=zs) S hl W (by omega) e hro h1 hb;have hbh:=hb;rw[<- e.get b1 h1]at hbh;have hnl:=W.wk;obtain⟨op,sub,a,b,d,k,av,args,s,t⟩:=x;simp only[Value.cells,aaF]at hbh;unfold lB;simp only;cases hB:Jx op with
 |false=>
  simp only[EE,nth,abe,Int.reduceNeg,lF,J5,abo,false_and,ab6];exact go
 |true=>
  by_cases hb1:b = -1
  ·simp only[EE,nth,abe,Int.reduceNeg,zA,zj,qM,lF,J5,hbh,hb1,ab6];exact go
  ·obtain⟨l',h',q1,q2,q3,q4,q7,q5⟩:=Ht W e hro b (by omega);have nl:=q2.wk;simp only[EE,nth,aad,Int.reduceNeg,zA,zj,VE,qM,FD,lF,J5,hnl,hbh,hb1,q1];exact ziF e0 (x:=⟨op,sub,a,b,d,k,av,args,s,t⟩) S hl q2 (by simp;omega) q3 q4 h1 hb
theorem zjf(e0:Old l0 lo)(S:zL lo x.av x.args)(hl:x.args.length<=17592186043904)(hro:lo.ro<=lo.next)(h1:b1<lo.next)(hb:lo.get b1=some (.cells x.val.cells.toList 51)){t60:aaa}(ht:Ka x.op=true->t60=.int .i64 x.a) :
  J6 (.bool (Ka x.op)) (pi b1) (.bool (Jx x.op)) (λv h1=>Ad l0 h1 v (wz x)) t60 lo:=by
 have go:=ziG e0 (zs:=[]) S hl (.inl ⟨rfl,rfl⟩) (by simp) (.refl lo) hro h1 hb;have hbh:=hb;unfold wz lA;obtain⟨op,sub,a,b,d,k,av,args,s,t⟩:=x;simp only[Value.cells,aaF]at hbh ht;simp only;cases hA:Ka op with
 |false=>
  simp only[EE,abe,Int.reduceNeg,J6,abo,false_and];exact go
 |true=>
  obtain rfl:=ht hA;by_cases ha:a = -1
  ·simp only[EE,abe,Int.reduceNeg,J6,ha];exact go
  ·obtain⟨l',h',q1,q2,q3,q4,q7,q5⟩:=Ht (l := pp) (zs:=[]) (lo:=lo) (.inl ⟨rfl,rfl⟩) (.refl lo) hro a (by simp);have nl:=q2.wk;simp only[EE,aad,Int.reduceNeg,zA,zj,VE,xk,FC,J6,hbh,ha,q1];exact ziG e0 (x:=⟨op,sub,a,b,d,k,av,args,s,t⟩) S hl q2 (by simp) q3 q4 h1 hb
end
theorem Mz(x:xG)(h:za)(S:zL h x.av x.args)(hl:x.args.length<=17592186043904):DC pu 42 [x.val] h (λv h1=>Ad h h1 v (wz x)):=by
 apply Ym;intro hwf;have hro:=hwf.2;apply N7;unfold Ru;have hn:=S.wk;have o:=Old.push h (.cells x.val.cells.toList 51);have go:=λ(t60:aaa) (ht:Ka x.op=true->t60=.int .i64 x.a)=>zjf o (x:=x) (b1:=h.next) (S.old o) hl (by show h.ro<=h.next+1;omega) (aaH _) zk ht;obtain⟨op,sub,a,b,d,k,av,args,s,t⟩:=x;simp only[Value.cells,aaF]at hn hl S o go;by_cases h3:op=3
 ·subst h3;simp only[EE,↓nw,Value.cells,Int.reduceEq,zA,zj,zw,xk,ZV,ZW,jL,jM,jN,jO,jP,jQ,jR,jS,jT,jU,jV,jW,jX,jY,jZ,j0];exact go _ (λ_=>rfl)
 by_cases h4:op=4
 ·subst h4;simp only[EE,↓nw,Value.cells,Int.reduceEq,zA,zj,zw,xk,ZV,ZW,jL,jM,jN,jO,jP,jQ,jR,jS,jT,jU,jV,jW,jX,jY,jZ,j0];exact go _ (λ_=>rfl)
 by_cases h5:op=5
 ·subst h5;simp only[EE,↓nw,Value.cells,Int.reduceEq,zA,zj,zw,xk,ZV,ZW,jL,jM,jN,jO,jP,jQ,jR,jS,jT,jU,jV,jW,jX,jY,jZ,j0];exact go _ (λ_=>rfl)
 by_cases h6:op=6
 ·subst h6;simp only[EE,↓nw,Value.cells,Int.reduceEq,zA,zj,zw,xk,ZV,ZW,jL,jM,jN,jO,jP,jQ,jR,jS,jT,jU,jV,jW,jX,jY,jZ,j0];exact go _ (λ_=>rfl)
 by_cases h7:op=7
 ·subst h7;simp only[EE,↓nw,Value.cells,Int.reduceEq,zA,zj,zw,xk,ZV,ZW,jL,jM,jN,jO,jP,jQ,jR,jS,jT,jU,jV,jW,jX,jY,jZ,j0];exact go _ (λ_=>rfl)
 by_cases h11:op=11
 ·subst h11;simp only[EE,↓nw,Value.cells,Int.reduceEq,zA,zj,zw,xk,ZV,ZW,jL,jM,jN,jO,jP,jQ,jR,jS,jT,jU,jV,jW,jX,jY,jZ,j0];exact go _ (λ_=>rfl)
 by_cases h12:op=12
 ·subst h12;simp only[EE,↓nw,Value.cells,Int.reduceEq,zA,zj,zw,xk,ZV,ZW,jL,jM,jN,jO,jP,jQ,jR,jS,jT,jU,jV,jW,jX,jY,jZ,j0];exact go _ (λ_=>rfl)
 by_cases h14:op=14
 ·subst h14;simp only[EE,↓nw,Value.cells,Int.reduceEq,zA,zj,zw,xk,ZV,ZW,jL,jM,jN,jO,jP,jQ,jR,jS,jT,jU,jV,jW,jX,jY,jZ,j0];exact go _ (λ_=>rfl)
 have eA:Ka op=false:=by simp[Ka,h3,h4,h5,h6,h7,h11,h12,h14]
 have eB:Jx op=false:=by simp[Jx,h5,h7,h11]
 rw[eA,eB]at go;simp only[EE,↓nw,Value.cells,zA,zj,zw,ZV,ZW,jL,jM,jN,jO,jP,jQ,jR,jS,jT,jU,jV,jW,jX,jY,jZ,j0,h3,h4,h5,h6,h7,h11,h12,h14];exact go _ (λq=>by cases q)
end Go.Rtl
