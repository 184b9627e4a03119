/- A part of the proof. -/
import Derived.Test.YthamlhbbhnicaaaGreatChecked
import Derived.KernelRfl
import Derived.Test.YthamlhbbhnicaaaGreatTH
import Derived.Test.YthamlhbbhnicaaaGreatTI
import Derived.Test.YthamlhbbhnicaaaGreatTJ
import Derived.Test.YthamlhbbhnicaaaGreatTK
import Derived.Test.YthamlhbbhnicaaaGreatTL
set_option linter.unusedVariables false
set_option linter.unusedSimpArgs false
set_option maxRecDepth 100000
namespace Go.Rm
open Go.Ai Go.Proofs Go.Proofs.Tryz
noncomputable abbrev zz:=prog
abbrev VK:=aaa->za->Prop
abbrev LK:=List aaa->za->Prop
abbrev ci(n:Int):Operand := .const (pm n)
abbrev fn(n:Nat):aaa := .func (.func n) #[] #[]
variable {h:za}{t0 t1 t2 t3 t4 t5 t6:aaa}{R:VK}
def qs:FuncId->Nat:=λg=>[0,0,0,0,0,0,0,0,0,0,0,0,0,0,0,0,0,0,0,0,0,0,0,0,0,0,0,0,0,0,0,0,0,3,3,0,0,2,0,0,0,0,0,0,0,0,0,0,0,0,0,0,0,0,0,0,0,0,0,2,0,0,0,0,2,2,2,0,2,0,0,0,2].getD g 0
theorem mixed:prog.follows .mixedOrders=true:=acY Tryz.checked
theorem zU{f:FuncId}{args:List aaa}{X:Prop}(e:wpF zz (UL zz qs) 200 f args h R=X)(hw:X):DC zz f args h R:=fe mixed (q:=qs) (n:=200) (Eq.mpr e hw)
def BN:=λa (c:za) (R:VK) (f:LK)=>
 opt (nb [] (zY zz 33 [])) λd=>opt (ye 33 a d c) λb=>opt (zd zz 33 a b) λe=>rv [e,pm 1] b R
def IU:=λa b (f:LK) (m:aaa) (c:za)=>
 opt (x0 a) λg=>zn 87 g 4 22 c λd=>zQ (nb [b] (zH zz 22 1 [(0,b)] c)) λe h=>zQ (nb [d,e] (zB zz .append [22,22] 22 [d,e] h)) λi j=>opt (x0 a) λk=>j5 87 k 4 22 i j λl=>f [] l
def IV:=λa (e:LK) b (c:za)=>
 opt (Yk b 0) λd=>opt (Yk b 1) λh=>opt (x0 a) λf=>zn 87 f 1 81 c λg=>zq zz (fn 36) [g,d] c (IU a d e)
def IW:=λc d (a:za) b (e:LK)=>
 wP 22 c (nth d 0) 3 a λf=>opt (x0 b) λg=>zn 87 g 1 81 a λh=>zq zz (fn 35) [h,f] a (IV b e)
def IX:=λb a c (d:LK) (h:List aaa) (e:za)=>
 BK (IW b a e c)
 (λi f=>opt (zh .add 3 51 (nth a 0) 1) λg=>d [g] f)
def IY:=λd (e:LK) f g a (b:za) (h:LK)=>
 opt (yi .lss 3 51 50 (nth a 0) d) λi=>CD i (λc=>c [] b)
 (λc=>e [] b)
 (IX f a g h)
def IZ:=λa (d:LK) b (e:za)=>
 zQ (nb [b] (zH zz 56 1 [(0,b)] e)) λc f=>zQ (nb [nth a 0,c] (zB zz .append [56,56] 56 [nth a 0,c] f)) λg h=>d [g] h
def I0:=λc a (b:za) (d:LK)=>
 wP 26 c (nth a 1) 2 b λe=>zq zz (fn 37) [e] b (IZ a d)
def I3:=λa (b:LK) c (d:za)=>
 opt (zh .add 3 83 (nth a 1) 1) λe=>b [nth c 0,e] d
def Fk:=λd (e:LK) f a (b:za) (g:LK)=>
 opt (yi .lss 3 83 82 (nth a 1) d) λh=>CD h (λc=>c [] b)
 (λc=>e [nth a 0] b)
 (λj i=>BK (I0 f a i)
 (I3 a g))
def Fl:=λa (b:za) (c:LK) d (h:LK)=>
 opt (x0 a) λe=>opt (zg zz 87 e 3) λf=>j5 33 f 0 3 (pm 2) b λg=>c [nth d 0] g
def Fm:=λa (c:LK) (m:List aaa) (b:za)=>
 opt (x0 a) λd=>opt (zg zz 87 d 3) λe=>zn 33 e 4 3 b λf=>opt (zh .add 3 122 f 1) λg=>opt (x0 a) λh=>opt (zg zz 87 h 3) λi=>j5 33 i 4 3 g b λj=>zq zz (fn 39) [a] j (λk l=>c [k] l)
def sm:=λa (b:za) c (d:LK) e (f:LK)=>
 opt (x0 a) λg=>opt (zg zz 87 g 3) λh=>zn 33 h 4 3 b λi=>opt (yi .eql 3 111 112 i c) λj=>CD j (Fl a b d e)
 (λk=>k [] b)
 (Fm a f)
def JR:=λa (b:LK) e f (g:LK) h (c:za)=>
 opt (pk (nth a 0) h (.bool false)) λi=>CD i (λd=>d [] c)
 (λd=>b [nth a 0] c)
 (λm j=>BK (sm e j f b a)
 (λk l=>g [nth k 0] l))
def JS:=λa (c:LK) d e (f:LK) g (b:za)=>
 ze (nth a 0) true (zh .eql 3 104 g 0) b (JR a c d e f) b
def JT:=λa (d:LK) e f (g:LK) h (c:za)=>
 ze (nth a 0) true (zg zz 33 h 0) c (λi b=>ze (nth a 0) true (zd zz 3 i b) b (JS a d e f g) b) c
def U4:=λa (d:LK) e f (g:LK) h (b:za)=>
 ze (nth a 0) true (x0 h) b (λi c=>ze (nth a 0) true (zg zz 87 i 3) c (JT a d e f g) c) b
def Fo:=λa (b:za) (c:LK)=>
 opt (x0 a) λd=>opt (zg zz 87 d 3) λe=>j5 33 e 0 3 (pm 3) b λf=>c [] f
def so:=λd a (R:VK) (h:List aaa) (b:za)=>
 opt (x0 d) λe=>zn 87 e 3 33 b λf=>opt (ye 33 a f b) λc=>opt (zd zz 33 a c) λg=>rv [g,pm 0] c R
def Fp:=λa e f (R:VK) g (h:za)=>
 BK (λi=>LP (λb c j=>GD (nth b 0) true (λk=>k a c) (U4 b i a e j) c)
 [g] h)
 (λl d=>opt (Z7 zz .not (nth l 0)) λm=>CD m (Fo a d)
 (λn=>n [] d)
 (so a f R))
def Fq:=λc a d e (R:VK) f (b:za)=>
 zn 25 c 2 3 b λg=>zq zz (fn 38) [a,g,nth f 0] b (Fp a d e R)
def Fs:=λa b c d e (R:VK) (j:List aaa) (f:za)=>
 zQ (xw 26 a f) λg h=>BK (λi=>LP (Fk g i a)
 [pp,pm 0] h)
 (Fq b c d e R)
def sq:=λa b c d j k l (R:VK) e (m:za)=>
 opt (nb [a,b,e,c] (zY zz 87 [(0,a),(1,b),(2,e),(6,c)])) λf=>opt (nb [f] (some (Value.cells f).toList)) λn=>nw m n 87 λg h=>zn 25 d 0 22 h λi=>zQ (xw 22 i h) λo p=>BK (λq=>LP (IY o q i g)
 [pm 0] p)
 (Fs j d g k l R)
def JU:=λe a (R:VK) b f g h i j (c:za)=>
 opt (pk e (.bool true) j) λk=>CD k (BN a c R)
 (λl=>l [pm 0] c)
 (λp d=>opt (zd zz 25 b d) λm=>mF zz 33 [] d (λn o=>mF zz 34 [f] o (sq m n g b h i a R)))
def JV:=λa c (R:VK) d e f g h i (b:za)=>
 ze a false (zh .gtr 3 37 i 10000000) b (JU a c R d e f g h) b
def JW:=λa b f (R:VK) g h i j k (c:za)=>
 ze a false (zh .lss 3 33 k 0) c (λl d=>opt (pk a (.bool true) l) λe=>GD e false (λm=>m b d) (JV e f R g h i j b) d) c
def zbp:=λ(h:za) c d i e j (R:VK)=>
 opt (nb [c] (some (Value.cells c).toList)) λk=>nw h k 25 λb l=>uH 33 l λm n=>zQ (xw 26 d n) λo a=>zn 25 b 1 23 a λp=>zn 25 b 2 3 a λq=>opt (yh zz 23 p q) λr=>zn 49 r 1 22 a λs=>zQ (xw 22 s a) λt f=>opt (yi .neq 3 22 30 o t) λg=>GD g false (λu=>u e f) (JW g e m R b i j d) f
theorem TI(hw:zbp h t0 t1 t2 t3 t4 R):DC zz 17 [t0,t1,t2,t3,t4] h R:=zU (by kernel_rfl) hw
def U6:=λc b (a:za) d e (f:LK)=>
 wP 22 c (nth b 0) 3 a λg=>wP 56 d (nth b 0) 66 a λh=>zq zz (fn 63) [e,g,h] a (λj i=>f [] i)
def J7:=λb a c d (e:LK) (i:List aaa) (f:za)=>
 BK (U6 b a f c d)
 (λj g=>opt (zh .add 3 53 (nth a 0) 1) λh=>e [h] g)
def J8:=λd (e:LK) f g h a (b:za) (i:LK)=>
 opt (yi .lss 3 53 52 (nth a 0) d) λj=>CD j (λc=>c [] b)
 (λc=>e [] b)
 (J7 f a g h i)
def U7:=λa b (R:VK) (l:List aaa) (c:za)=>
 opt (x0 a) λf=>zn 87 f 5 85 c λd=>zQ (nb [b] (zH zz 85 1 [(0,b)] c)) λe g=>zQ (nb [d,e] (zB zz .append [85,85] 85 [d,e] g)) λh i=>opt (x0 a) λj=>j5 87 j 5 85 h i λk=>rv [.bool true] k R
def J9:=λa b i j (R:VK) (q:List aaa) (c:za)=>
 opt (x0 a) λk=>zn 49 k 4 3 c λd=>opt (nb [a,b,d] (zY zz 132 [(0,a),(2,b),(3,d)])) λe=>opt (nb [e] (some (Value.cells e).toList)) λl=>nw c l 132 λf g=>opt (x0 a) λm=>zn 49 m 1 22 g λh=>zQ (xw 22 h g) λn o=>BK (λp=>LP (J8 n p h i f)
 [pm 0] o)
 (U7 j f R)
def U8:=λ(R:VK) d e f g a (b:za)=>
 opt (Yk a 0) λh=>opt (Yk a 1) λi=>opt (zh .neq 34 38 i 0) λj=>CD j (λc=>rv [.bool false] b R)
 (λc=>c [nth d 0] b)
 (J9 e h f g R)
def Vg:=λb c (R:VK) d e (a:za)=>
 opt (x0 b) λf=>zn 87 f 1 81 a λg=>opt (x0 c) λh=>zn 49 h 3 3 a λi=>YO zz 35 [g,i] a (U8 R e c d b)
def oV:=λ(h:za) a d e (R:VK)=>
 opt (x0 a) λf=>opt (zg zz 87 f 0) λg=>zn 25 g 1 23 h λi=>opt (yh zz 23 i d) λj=>opt (x0 a) λk=>zn 87 k 5 85 h λl=>zQ (xw 85 l h) λm b=>opt (zh .geq 3 24 m 20000) λn=>CD n (λc=>rv [.bool false] b R)
 (λc=>c [.bool false] b)
 (Vg a j R e)
theorem nc(hw:oV h t0 t1 t2 R):DC zz 38 [t0,t1,t2] h R:=zU (by kernel_rfl) hw
def gU:=λc (a:za) d (e:LK) f=>
 uT zz 65 [c,f] a (λb=>opt (Yk b 0) λg=>opt (Yk b 1) λh=>opt (ye 66 d g a) λi=>e [.bool false,h] i)
def QI:=λb (a:za) c d (e:LK)=>
 zn 66 b 1 2 a λf=>zn 66 c 1 2 a λg=>zq zz (fn 67) [d,pm 3,f,g] a (λi h=>e [] h)
def Ut:=λc d e f (g:LK) (o:List aaa) (a:za)=>
 zn 51 c 1 3 a λh=>opt (zd zz 66 d a) λi=>opt (zd zz 66 e a) λj=>zq zz (fn 68) [h,i,j] a (λb k=>opt (Yk b 0) λl=>opt (Yk b 1) λm=>opt (ye 66 f l k) λn=>g [.bool false,m] n)
def Zj:=λa b c f g h (i:LK) j (d:za)=>
 ze a true (zh .eql 3 92 j 1) d (λk e=>opt (pk a k (.bool false)) λl=>CD l (QI b e c f)
 (λm=>m [] e)
 (Ut g b c h i)) d
def Zk:=λe c f g h i (j:LK) k (d:za)=>
 opt (pk e k (.bool false)) λa=>ze a true (zg zz 66 c 0) d (λl b=>ze a true (zd zz 3 l b) b (Zj a f c g h i j) b) d
def Zl:=λa c d e f g (h:LK) i (b:za)=>
 ze a true (zh .eql 3 87 i 1) b (Zk a c d e f g h) b
def Zm:=λe c f g h i (j:LK) k (d:za)=>
 opt (pk e (.bool true) k) λa=>ze a true (zg zz 66 c 0) d (λl b=>ze a true (zd zz 3 l b) b (Zl a f c g h i j) b) d
def Zn:=λa c d e f g (h:LK) i (b:za)=>
 ze a false (zh .eql 3 82 i 15) b (Zm a c d e f g h) b
def gV:=λ(g:za) h a i j (k:LK) l=>
 uH 66 g λe m=>uH 66 m λf n=>opt (ye 66 e h n) λo=>opt (ye 66 f l o) λb=>zn 51 a 1 3 b λp=>opt (zh .eql 3 78 p 14) λc=>ze c false (zg zz 51 a 1) b (λq d=>ze c false (zd zz 3 q d) d (Zn c e f i a j k) d) b
def aE:=λc d e f (g:LK) h (a:za)=>
 opt (x0 c) λi=>zn 87 i 1 81 a λj=>zn 51 d 1 3 a λk=>opt (zd zz 66 e a) λl=>YO zz 70 [j,k,l] a (λb m=>opt (Yk b 0) λn=>opt (Yk b 1) λo=>opt (ye 66 f n m) λp=>g [nth h 0,o] p)
def Vv:=λ(R:VK) e f g (h:LK) a (i:za)=>
 opt (Yk a 0) λj=>opt (Yk a 1) λk=>uH 66 i λb l=>opt (ye 66 b j l) λc=>opt (Z7 zz .not k) λm=>CD m (λd=>rv [.bool false] c R)
 (λd=>d [.bool false] c)
 (aE e f b g h)
def Vw:=λc (R:VK) (d:LK) e (a:za)=>
 opt (pk c (.bool true) e) λf=>CD f (λb=>rv [.bool false] a R)
 (λb=>b [.bool false] a)
 (λg h=>d [nth g 0] h)
def Qd:=λa e f g (R:VK) (h:LK) i (c:za)=>
 GD a false (λj=>YO zz 71 [e,f,g,i] c (λb k=>j b k)) (λb d=>ze a false (Z7 zz .not b) d (Vw a R h) d) c
def Qe:=λa d e f g (R:VK) (h:LK) i (b:za)=>
 ze a false (zd zz 3 i b) b (λj c=>GD a false (λk=>uT zz 64 [d,j] c (λl=>k l c)) (Qd a e f g R h) c) b
def Qf:=λa d e f g (R:VK) (h:LK) i (b:za)=>
 GD a false (λj=>j d b) (λk c=>ze a false (zg zz 51 e 3) c (Qe a k f g i R h) c) b
def Qg:=λa d e f g (R:VK) (h:LK) i (b:za)=>
 ze a false (zd zz 3 i b) b (λj c=>ze a false (zd zz 66 d c) c (Qf a e f g j R h) c) b
def Qh:=λa c e f (R:VK) (g:LK) h (b:za)=>
 ze a false (zd zz 81 h b) b (λi d=>ze a false (zg zz 51 c 1) d (Qg a e f c i R g) d) b
def Qi:=λa d e f (R:VK) (g:LK) h (b:za)=>
 ze a false (x0 h) b (λi c=>ze a false (zg zz 87 i 1) c (Qh a d e f R g) c) b
def Vx:=λe f g (R:VK) (h:LK) a (i:za)=>
 opt (Yk a 0) λj=>opt (Yk a 1) λk=>uH 66 i λb l=>opt (ye 66 b j l) λc=>opt (Z7 zz .not k) λd=>GD d false (λm=>m e c) (Qi d f b g R h) c
def aF:=λa (d:LK) b (e:za)=>
 zQ (nb [b] (zH zz 56 1 [(0,b)] e)) λc f=>zQ (nb [nth a 0,c] (zB zz .append [56,56] 56 [nth a 0,c] f)) λg h=>d [g] h
def Qj:=λc a (b:za) d (e:LK)=>
 wP 22 c (nth a 1) 3 b λf=>zq zz (fn 64) [d,f] b (aF a e)
def Qk:=λa (b:LK) c (d:za)=>
 opt (zh .add 3 184 (nth a 1) 1) λe=>b [nth c 0,e] d
def Vy:=λd (e:LK) f g a (b:za) (h:LK)=>
 opt (yi .lss 3 184 183 (nth a 1) d) λi=>CD i (λc=>c [] b)
 (λc=>e [nth a 0] b)
 (λk j=>BK (Qj f a j g)
 (Qk a h))
def aG:=λb c d (R:VK) (h:aaa) (a:za)=>
 zn 51 b 1 3 a λe=>zq zz (fn 38) [c,e,nth d 0] a (λf g=>rv [f] g R)
def Y8:=λa b (R:VK) d (c:za)=>
 zn 51 a 1 3 c λe=>zq zz (fn 67) [b,pm 4,e,pm 0] c (aG a b d R)
def aH:=λb c (d:LK) a (e:za)=>
 zq zz (fn 76) [b,pm 1,a] e (λj f=>zq zz (fn 37) [a] f (λg h=>opt (ye 66 c g h) λi=>d [.bool false] i))
def Z0:=λb c (d:LK) e (a:za)=>
 zn 66 b 1 2 a λf=>zq zz (fn 76) [c,pm 2,f] a (λh g=>d [nth e 0] g)
def Zi:=λ(R:VK) d (e:LK) f (g:za)=>
 uH 66 g λa h=>opt (ye 66 a f h) λb=>zn 66 a 0 3 b λi=>opt (zh .neq 3 237 i 1) λj=>CD j (λc=>rv [.bool false] b R)
 (λc=>c [.bool false] b)
 (Z0 a d e)
def aI:=λb (a:za) c (R:VK) d (e:LK)=>
 zn 51 b 2 3 a λf=>zq zz (fn 64) [c,f] a (Zi R d e)
def jg:=λa (b:za) c (d:LK)=>
 opt (x0 a) λe=>zn 87 e 2 83 b λf=>zq zz (fn 75) [f] b (aH a c d)
def Ql:=λb c (a:za) d (R:VK) e (f:LK)=>
 opt (zh .eql 3 44 b 14) λg=>CD g (aI c a d R e)
 (λh=>h [.bool false] a)
 (λi j=>f [nth i 0] j)
def ko:=λb (a:za) c d (R:VK) (j:LK)=>
 zn 51 b 2 3 a λe=>zq zz (fn 64) [c,e] a (λf g=>zq zz (fn 74) [d,f] g (λh i=>rv [h] i R))
def Wm:=λa b (c:za) d e f (R:VK) (g:LK)=>
 opt (zh .eql 3 44 a 13) λh=>CD h (jg b c d)
 (Ql a e c f R b)
 (λi j=>g [nth i 0] j)
def ux:=λa b (c:za) d e (R:VK) f (g:LK)=>
 opt (zh .eql 3 44 a 12) λh=>CD h (ko b c d e R)
 (Wm a e c f b d R)
 (λi j=>g [nth i 0] j)
def aJ:=λa (b:za) d e (R:VK) (i:LK)=>
 zn 51 a 6 22 b λc=>zQ (xw 22 c b) λf g=>BK (λh=>LP (Vy f h c d)
 [pp,pm 0] g)
 (Y8 a e R)
def wZ:=λb c (a:za) d e (R:VK) f (g:LK)=>
 opt (zh .eql 3 44 b 11) λh=>CD h (λn=>opt (zd zz 51 c a) λi=>zq zz (fn 73) [d,e,i] a (λj k=>rv [j] k R))
 (ux b c a e d R f)
 (λl m=>g [nth l 0] m)
def aK:=λb (a:za) c d (e:LK)=>
 opt (x0 b) λf=>zn 132 f 2 3 a λg=>zn 51 c 5 2 a λh=>uT zz 72 [g,h] a (λi=>opt (ye 66 d i a) λj=>e [.bool false] j)
def wM:=λa b (c:za) d e (R:VK) f (g:LK)=>
 opt (zh .eql 3 44 a 10) λh=>CD h (aJ b c d e R)
 (wZ a b c e d R f)
 (λi j=>g [nth i 0] j)
def aL:=λc (a:za) b d (e:LK)=>
 opt (x0 c) λf=>zn 87 f 4 22 a λg=>zn 51 b 1 3 a λh=>wP 22 g h 3 a λi=>zn 51 b 5 2 a λj=>uT zz 72 [i,j] a (λk=>opt (ye 66 d k a) λl=>e [.bool false] l)
def wg:=λa b (c:za) d e f (R:VK) (g:LK)=>
 opt (zh .eql 3 44 a 9) λh=>CD h (aK b c d e)
 (wM a d c b f R e)
 (λi j=>g [nth i 0] j)
def jh:=λa b (c:za) d e f (R:VK) (g:LK)=>
 opt (zh .eql 3 44 a 8) λh=>CD h (aL b c d e)
 (wg a f c d e b R)
 (λi j=>g [nth i 0] j)
def xJ:=λe a (b:za) c d (R:VK) f (g:LK)=>
 opt (zh .eql 3 44 e 7) λh=>CD h (λi=>opt (zd zz 51 a b) λj=>zq zz (fn 69) [c,d,j] b (Vx c a d R i))
 (jh e c b a f d R)
 (λk l=>g [nth k 0,.bool true] l)
def w6:=λb (a:za) c d e (f:LK)=>
 zn 51 b 2 3 a λg=>uT zz 64 [c,g] a (λh=>opt (zd zz 51 b a) λi=>uT zz 66 [c,i] a (gV a h b d e f))
def qG:=λd a (b:za) c e (R:VK) f (h:LK)=>
 opt (zh .eql 3 44 d 6) λi=>CD i (λj=>opt (zd zz 51 a b) λk=>zq zz (fn 69) [c,e,k] b (Vv R c a f j))
 (xJ d a b c e R f)
 (λg l=>h [nth g 0,nth g 1] l)
def aM:=λb (a:za) c d (e:LK)=>
 zn 51 b 1 3 a λf=>zn 51 b 2 3 a λg=>uT zz 64 [c,g] a (gU f a d e)
def uP:=λa b (c:za) d e f (R:VK) (h:LK)=>
 opt (zh .eql 3 44 a 5) λi=>CD i (w6 b c d e f)
 (qG a b c e d R f)
 (λg j=>h [nth g 0,nth g 1] j)
def aN:=λb (a:za) c d (e:LK)=>
 zn 51 b 2 3 a λf=>zq zz (fn 64) [c,f] a (λg h=>opt (ye 66 d g h) λi=>e [.bool false,.bool true] i)
def xY:=λa b (c:za) d e g (R:VK) (h:LK)=>
 opt (zh .eql 3 44 a 4) λi=>CD i (aM b c d e)
 (uP a b c d g e R)
 (λf j=>h [nth f 0,nth f 1] j)
def FR:=λb (a:za) c (d:LK)=>
 zn 51 b 5 2 a λe=>zq zz (fn 37) [e] a (λf g=>opt (ye 66 c f g) λh=>d [.bool false,.bool true] h)
def qH:=λa b (c:za) d e g (R:VK) (h:LK)=>
 opt (zh .eql 3 44 a 3) λi=>CD i (aN b c d e)
 (xY a b c d e g R)
 (λf j=>h [nth f 0,nth f 1] j)
def y9:=λa b (c:za) d f g (R:VK) (h:LK)=>
 opt (zh .eql 3 44 a 2) λi=>CD i (FR b c d)
 (qH a b c f d g R)
 (λe j=>h [nth e 0,nth e 1] j)
def FT:=λb c (R:VK) (g:aaa) (a:za)=>
 zn 51 b 7 3 a λd=>opt (x0 c) λe=>j5 132 e 3 3 d a λf=>rv [.bool true] f R
def aO:=λb d c (R:VK) (h:List aaa) (a:za)=>
 opt (zd zz 51 b a) λe=>uT zz 59 [e] a (λf=>opt (zd zz 66 d a) λg=>YO zz 63 [c,f,g] a (FT b c R))
def sV:=λ(h:za) c (R:VK)=>
 opt (x0 c) λj=>zn 87 j 5 85 h λk=>opt (x0 c) λl=>zn 87 l 5 85 h λm=>zQ (xw 85 m h) λn _=>opt (zh .sub 3 26 n 1) λo=>wP 85 k o 130 h λa=>opt (x0 a) λp=>zn 132 p 0 129 h λq=>opt (x0 q) λr=>zn 49 r 5 47 h λs=>opt (x0 a) λt=>zn 132 t 3 3 h λu=>wP 47 s u 51 h λv=>uH 51 h λb w=>opt (ye 51 b v w) λx=>uH 66 x λd e=>zn 51 b 0 3 e λy=>BK (y9 y b e d a c R)
 (λf g=>opt (Z7 zz .not (nth f 1)) λz=>CD z (λi=>rv [.bool false] g R)
 (λi=>i [nth f 0] g)
 (aO b d a R))
theorem sW(hw:sV h t0 R):DC zz 39 [t0] h R:=EW mixed (q:=qs) (n:=200) (Eq.mpr (by kernel_rfl) hw)
def RM:=λa (b:za) (f:LK)=>
 opt (x0 a) λg=>zn 132 g 1 56 b λc=>opt (nb [] (zY zz 66 [])) λd=>zQ (nb [d] (zH zz 56 1 [(0,d)] b)) λe h=>zQ (nb [c,e] (zB zz .append [56,56] 56 [c,e] h)) λi j=>opt (x0 a) λk=>j5 132 k 1 56 i j λl=>f [] l
def RN:=λa e (f:LK) (n:List aaa) (b:za) (g:LK)=>
 opt (x0 a) λh=>zn 132 h 1 56 b λi=>zQ (xw 56 i b) λj c=>opt (yi .geq 3 8 13 e j) λk=>CD k (λd=>d [] c)
 (λd=>f [] c)
 (λo l=>BK (RM a l)
 (λp m=>g [] m))
def RO:=λb c d (R:VK) (j:List aaa) (a:za)=>
 opt (x0 b) λe=>zn 132 e 1 56 a λf=>opt (zd zz 66 c a) λg=>opt (yh zz 56 f d) λh=>opt (ye 66 h g a) λi=>rv [] i R
def zfx:=λ(h:za) b a c (R:VK)=>
 opt (nb [c] (some (Value.cells c).toList)) λf=>nw h f 66 λg d=>opt (zh .lss 3 6 a 0) λi=>CD i (λe=>rv [] d R)
 (λe=>e [] d)
 (λl j=>BK (λk=>LP (RN b a k)
 [] j)
 (RO b g a R))
theorem zbA(hw:zfx h t0 t1 t2 R):DC zz 63 [t0,t1,t2] h R:=zU (by kernel_rfl) hw
def Rx:=λd e b (R:VK) (j:List aaa) (a:za)=>
 opt (x0 d) λf=>zn 132 f 1 56 a λg=>wP 56 g e 66 a λh=>opt (ye 66 b h a) λc=>opt (zd zz 66 b c) λi=>rv [i] c R
def A9:=λe a (R:VK) f g h (b:za)=>
 opt (pk e (.bool true) h) λi=>CD i (λc=>opt (nb [] (zY zz 66 [])) λj=>opt (ye 66 a j b) λd=>opt (zd zz 66 a d) λk=>rv [k] d R)
 (λc=>c [] b)
 (Rx f g a R)
def Ba:=λa e f (R:VK) g h i (c:za)=>
 GD a false (λj=>zQ (xw 56 i c) λb k=>j b k) (λb d=>ze a false (yi .geq 3 8 13 e b) d (A9 a f R g h) d) c
def Bb:=λa d e (R:VK) f g h (c:za)=>
 ze a false (zg zz 132 h 1) c (λi b=>ze a false (zd zz 56 i b) b (Ba a d e R f g) b) c
def zfv:=λ(h:za) c b (R:VK)=>
 uH 66 h λg d=>opt (zh .lss 3 5 b 0) λa=>GD a false (λi=>i b d) (λj e=>GD a false (λk=>k c e) (λl f=>ze a false (x0 l) f (Bb a j g R c b) f) e) d
theorem zbx(hw:zfv h t0 t1 R):DC zz 64 [t0,t1] h R:=zU (by kernel_rfl) hw
def su:=λa (c:za) (R:VK) (f:LK)=>
 opt (nb [] (zY zz 66 [])) λd=>opt (ye 66 a d c) λb=>opt (zd zz 66 a b) λe=>rv [e,.bool false] b R
def B5:=λf (a:za) b (R:VK) (m:LK)=>
 zn 66 f 1 2 a λc=>zQ (nb [c] (ud zz 2 21 c a)) λd g=>zQ (nb [d] (ud zz 21 2 d g)) λh i=>zq zz (fn 37) [h] i (λj k=>opt (ye 66 b j k) λe=>opt (zd zz 66 b e) λl=>rv [l,.bool true] e R)
def B6:=λf (a:za) b (R:VK) (m:LK)=>
 zn 66 f 1 2 a λc=>zQ (nb [c] (ud zz 2 152 c a)) λd g=>zQ (nb [d] (ud zz 152 2 d g)) λh i=>zq zz (fn 37) [h] i (λj k=>opt (ye 66 b j k) λe=>opt (zd zz 66 b e) λl=>rv [l,.bool true] e R)
def sw:=λb c (a:za) d (R:VK) e (f:LK)=>
 opt (zh .eql 3 10 b 4) λg=>CD g (B5 c a d R)
 (λh=>h [nth e 0] a)
 (λi j=>f [nth i 0] j)
def B7:=λd (a:za) b (R:VK) (j:LK)=>
 zn 66 d 1 2 a λe=>opt (Z7 zz .xor e) λf=>zq zz (fn 37) [f] a (λg h=>opt (ye 66 b g h) λc=>opt (zd zz 66 b c) λi=>rv [i,.bool true] c R)
def fU:=λa b (c:za) d (R:VK) e (f:LK)=>
 opt (zh .eql 3 10 a 3) λg=>CD g (B6 b c d R)
 (sw a b c d R e)
 (λh i=>f [nth h 0] i)
def B8:=λd (a:za) b (R:VK) (j:LK)=>
 zn 66 d 1 2 a λe=>opt (Z7 zz .neg e) λf=>zq zz (fn 37) [f] a (λg h=>opt (ye 66 b g h) λc=>opt (zd zz 66 b c) λi=>rv [i,.bool true] c R)
def Jf:=λa b (c:za) d (R:VK) e (f:LK)=>
 opt (zh .eql 3 10 a 2) λg=>CD g (B7 b c d R)
 (fU a b c d R e)
 (λh i=>f [nth h 0] i)
def cG:=λa b (c:za) d (R:VK) e (f:LK)=>
 opt (zh .eql 3 10 a 1) λg=>CD g (B8 b c d R)
 (Jf a b c d R e)
 (λh i=>f [nth h 0] i)
def Kf:=λa (R:VK) (f:List aaa) (c:za)=>
 opt (nb [] (zY zz 66 [])) λd=>opt (ye 66 a d c) λb=>opt (zd zz 66 a b) λe=>rv [e,.bool false] b R
def zbr:=λ(h:za) f b (R:VK)=>
 opt (nb [b] (some (Value.cells b).toList)) λg=>nw h g 66 λc i=>uH 66 i λa d=>opt (zd zz 66 c d) λj=>zq zz (fn 90) [j] d (λk e=>opt (Z7 zz .not k) λl=>CD l (su a e R)
 (λm=>m [.bool false] e)
 (λn o=>BK (cG f c o a R n)
 (Kf a R)))
theorem G7(hw:zbr h t0 t1 R):DC zz 65 [t0,t1] h R:=zU (by kernel_rfl) hw
def Ar:=λd (a:za) b (R:VK) (i:LK)=>
 zn 51 d 5 2 a λe=>zq zz (fn 37) [e] a (λf g=>opt (ye 66 b f g) λc=>opt (zd zz 66 b c) λh=>rv [h] c R)
def As:=λd e a (R:VK) (j:List aaa) (b:za)=>
 zn 51 d 3 3 b λf=>zq zz (fn 64) [e,f] b (λg h=>opt (ye 66 a g h) λc=>opt (zd zz 66 a c) λi=>rv [i] c R)
def FP:=λ(h:za) e c (R:VK)=>
 opt (nb [c] (some (Value.cells c).toList)) λf=>nw h f 51 λa g=>uH 66 g λd b=>zn 51 a 3 3 b λi=>opt (zh .eql 3 6 i (-1)) λj=>CD j (Ar a b d R)
 (λk=>k [] b)
 (As a e d R)
theorem Ha(hw:FP h t0 t1 R):DC zz 66 [t0,t1] h R:=zU (by kernel_rfl) hw
def Cy:=λ(h:za) a b c d (R:VK)=>
 opt (x0 a) λi=>opt (zg zz 87 i 3) λj=>zn 33 j 3 31 h λe=>opt (nb [b,c,d] (zY zz 71 [(0,b),(1,c),(2,d)])) λf=>zQ (nb [f] (zH zz 31 1 [(0,f)] h)) λg k=>zQ (nb [e,g] (zB zz .append [31,31] 31 [e,g] k)) λl m=>opt (x0 a) λn=>opt (zg zz 87 n 3) λo=>j5 33 o 3 31 l m λp=>rv [] p R
theorem sR(hw:Cy h t0 t1 t2 t3 R):DC zz 67 [t0,t1,t2,t3] h R:=zU (by kernel_rfl) hw
def Rv:=λ(h:za) a b c (R:VK)=>
 opt (x0 a) λg=>opt (zg zz 87 g 3) λi=>zn 33 i 2 30 h λd=>opt (nb [b,c] (zY zz 78 [(0,b),(1,c)])) λe=>zQ (nb [e] (zH zz 30 1 [(0,e)] h)) λf j=>zQ (nb [d,f] (zB zz .append [30,30] 30 [d,f] j)) λk l=>opt (x0 a) λm=>opt (zg zz 87 m 3) λn=>j5 33 n 2 30 k l λo=>rv [] o R
theorem N8(hw:Rv h t0 t1 t2 R):DC zz 76 [t0,t1,t2] h R:=zU (by kernel_rfl) hw
def YY:=λa (R:VK) b (d:za)=>
 opt (Yk b 0) λe=>opt (Yk b 1) λf=>opt (ye 66 a e d) λc=>opt (zd zz 66 a c) λg=>rv [g,f] c R
def qF:=λa (R:VK) b (d:za)=>
 opt (Yk b 0) λe=>opt (Yk b 1) λf=>opt (ye 66 a e d) λc=>opt (zd zz 66 a c) λg=>rv [g,f] c R
def xB:=λc d e f g (R:VK) (h:LK) i (a:za)=>
 opt (pk c (.bool true) i) λj=>CD j (λb=>opt (zd zz 66 d a) λk=>opt (zd zz 66 e a) λl=>zq zz (fn 93) [f,k,l] a (qF g R))
 (λb=>b [.bool false] a)
 (λm n=>h [nth m 0] n)
def xC:=λa c d e f (R:VK) (g:LK) h (b:za)=>
 ze a false (zh .eql 3 84 h 22) b (xB a c d e f R g) b
def oz:=λb (a:za) e c (R:VK) (m:LK)=>
 zn 66 b 2 3 a λf=>zn 66 b 1 2 a λg=>zn 66 e 1 2 a λh=>opt (yi .sub 2 75 77 g h) λi=>zq zz (fn 72) [f,i] a (λj k=>opt (ye 66 c j k) λd=>opt (zd zz 66 c d) λl=>rv [l,.bool true] d R)
def xD:=λa (b:za) d e f (R:VK) (g:LK)=>
 opt (zh .eql 3 81 a 21) λc=>GD c false (λh=>h a b) (xC c d e a f R g) b
def yX:=λb c d e (R:VK) h (i:LK) j (f:za)=>
 GD b true (λk=>zq zz (fn 90) [j] f (λa l=>k a l)) (λa g=>opt (pk b a (.bool false)) λm=>CD m (oz c g d e R)
 (xD h g c d e R)
 (λn o=>i [nth n 0] o)) f
def xi:=λc d g h (R:VK) i (j:LK) k (e:za)=>
 GD c true (λl=>zq zz (fn 92) [k] e (λa m=>l a m)) (λa b=>opt (pk c a (.bool false)) λf=>ze f true (zd zz 66 d b) b (yX f g d h R i j) b) e
def Kd:=λb (a:za) e c (R:VK) (m:LK)=>
 zn 66 b 2 3 a λf=>zn 66 e 1 2 a λg=>zn 66 b 1 2 a λh=>opt (yi .add 2 56 58 g h) λi=>zq zz (fn 72) [f,i] a (λj k=>opt (ye 66 c j k) λd=>opt (zd zz 66 c d) λl=>rv [l,.bool true] d R)
def yF:=λb c (a:za) e f (R:VK) (g:LK)=>
 opt (zh .eql 3 62 b 12) λd=>ze d true (zd zz 66 c a) a (xi d e c f R b g) a
def yx:=λb c d e (R:VK) h (i:LK) j (f:za)=>
 GD b true (λk=>zq zz (fn 92) [j] f (λa l=>k a l)) (λa g=>opt (pk b a (.bool false)) λm=>CD m (Kd c g d e R)
 (yF h d g c e R)
 (λn o=>i [nth n 0] o)) f
def yy:=λc d g h (R:VK) i (j:LK) k (e:za)=>
 GD c true (λl=>zq zz (fn 90) [k] e (λa m=>l a m)) (λa b=>opt (pk c a (.bool false)) λf=>ze f true (zd zz 66 d b) b (yx f d g h R i j) b) e
def ZM:=λb (a:za) e c (R:VK) (m:LK)=>
 zn 66 b 2 3 a λf=>zn 66 b 1 2 a λg=>zn 66 e 1 2 a λh=>opt (yi .add 2 37 39 g h) λi=>zq zz (fn 72) [f,i] a (λj k=>opt (ye 66 c j k) λd=>opt (zd zz 66 c d) λl=>rv [l,.bool true] d R)
def yA:=λb c (a:za) e f (R:VK) (g:LK)=>
 opt (zh .eql 3 43 b 11) λd=>ze d true (zd zz 66 c a) a (yy d e c f R b g) a
def yu:=λb c d e (R:VK) h (i:LK) j (f:za)=>
 GD b true (λk=>zq zz (fn 90) [j] f (λa l=>k a l)) (λa g=>opt (pk b a (.bool false)) λm=>CD m (ZM c g d e R)
 (yA h c g d e R)
 (λn o=>i [nth n 0] o)) f
def yw:=λc d g h (R:VK) i (j:LK) k (e:za)=>
 GD c true (λl=>zq zz (fn 92) [k] e (λa m=>l a m)) (λa b=>opt (pk c a (.bool false)) λf=>ze f true (zd zz 66 d b) b (yu f g d h R i j) b) e
def qZ:=λb (a:za) c d e (R:VK) (h:LK)=>
 zn 66 b 1 2 a λf=>zn 66 c 1 2 a λg=>zq zz (fn 91) [d,f,g] a (YY e R)
def ym:=λb c (a:za) e f (R:VK) (g:LK)=>
 opt (zh .eql 3 24 b 11) λd=>ze d true (zd zz 66 c a) a (yw d e c f R b g) a
def yd:=λb c d e f (R:VK) (i:LK) j (g:za)=>
 GD b true (λk=>zq zz (fn 90) [j] g (λa l=>k a l)) (λa h=>opt (pk b a (.bool false)) λm=>CD m (qZ c h d e f R)
 (ym e c h d f R)
 (λn o=>i [nth n 0] o)) g
def um:=λb (c:za) d f g (R:VK) (h:LK)=>
 opt (zd zz 66 b c) λi=>zq zz (fn 90) [i] c (λe a=>ze e true (zd zz 66 d a) a (yd e b d f g R h) a)
def yT:=λa (R:VK) (f:List aaa) (c:za)=>
 opt (nb [] (zY zz 66 [])) λd=>opt (ye 66 a d c) λb=>opt (zd zz 66 a b) λe=>rv [e,.bool false] b R
def IC:=λ(h:za) d a b (R:VK)=>
 opt (nb [a] (some (Value.cells a).toList)) λe=>nw h e 66 λf g=>opt (nb [b] (some (Value.cells b).toList)) λi=>nw g i 66 λj k=>uH 66 k λc l=>BK (um f l j d c R)
 (yT c R)
theorem BB(hw:IC h t0 t1 t2 R):DC zz 68 [t0,t1,t2] h R:=zU (by kernel_rfl) hw
def fV:=λa (c:za) (R:VK) (f:LK)=>
 opt (nb [] (zY zz 66 [])) λd=>opt (ye 66 a d c) λb=>opt (zd zz 66 a b) λe=>rv [e,.bool false] b R
def Ak:=λd a (R:VK) (g:aaa) (b:za)=>
 opt (zd zz 66 d b) λe=>opt (ye 66 a e b) λc=>opt (zd zz 66 a c) λf=>rv [f,.bool true] c R
def Al:=λa c d (R:VK) (g:List aaa) (b:za)=>
 zn 66 a 2 3 b λe=>zn 66 a 1 2 b λf=>zq zz (fn 67) [c,pm 2,e,f] b (Ak a d R)
def fW:=λa b (R:VK) e f g (c:za)=>
 ze a false (zh .neq 3 25 g 2) c (λh d=>opt (pk a (.bool true) h) λi=>CD i (fV b d R)
 (λj=>j [.bool false] d)
 (Al e f b R)) c
def fX:=λ(f:za) g (R:VK) h d=>
 opt (Yk d 0) λi=>opt (Yk d 1) λj=>uH 66 f λa k=>opt (ye 66 a i k) λe=>opt (Z7 zz .not j) λb=>ze b false (zg zz 66 a 0) e (λl c=>ze b false (zd zz 3 l c) c (fW b g R a h) c) e
def Am:=λb (a:za) c (R:VK) d e=>
 zn 51 b 5 2 a λf=>uT zz 37 [f] a (λg=>uT zz 68 [pm 11,e,g] a (fX a c R d))
def Fy:=λ(h:za) d e b (R:VK)=>
 opt (nb [b] (some (Value.cells b).toList)) λf=>nw h f 51 λc g=>uH 66 g λi a=>zn 51 c 2 3 a λj=>uT zz 64 [e,j] a (Am c a i R d)
theorem G8(hw:Fy h t0 t1 t2 R):DC zz 69 [t0,t1,t2] h R:=zU (by kernel_rfl) hw
def RS:=λa b c (R:VK) (h:List aaa) (e:za)=>
 opt (nb [pm 2,a,b] (zY zz 66 [(0,(pm 2)),(1,a),(2,b)])) λf=>opt (ye 66 c f e) λd=>opt (zd zz 66 c d) λg=>rv [g] d R
def zfy:=λ(h:za) b f (R:VK)=>
 uH 66 h λa c=>opt (zh .lss 3 5 b 1) λg=>CD g (λd=>opt (nb [] (zY zz 66 [])) λi=>opt (ye 66 a i c) λe=>opt (zd zz 66 a e) λj=>rv [j] e R)
 (λd=>d [] c)
 (RS f b a R)
theorem zbC(hw:zfy h t0 t1 R):DC zz 72 [t0,t1] h R:=zU (by kernel_rfl) hw
def Lu:=λb (a:za) c (d:LK)=>
 zn 51 b 8 3 a λe=>opt (x0 c) λf=>j5 132 f 3 3 e a λg=>d [] g
def Lv:=λb c e (R:VK) (l:aaa) (d:za)=>
 zn 51 b 7 3 d λf=>opt (x0 c) λg=>j5 132 g 3 3 f d λa=>zn 66 e 1 2 a λh=>opt (zh .eql 2 34 h 0) λi=>CD i (Lu b a c)
 (λj=>j [] a)
 (λm k=>rv [.bool true] k R)
def Lw:=λa c d e (R:VK) (g:List aaa) (b:za)=>
 zn 66 a 1 2 b λf=>zq zz (fn 67) [c,pm 1,f,pm 0] b (Lv d e a R)
def Ch:=λ(e:za) (R:VK) f g h a=>
 opt (Yk a 0) λi=>opt (Yk a 1) λj=>uH 66 e λb k=>opt (ye 66 b i k) λc=>opt (Z7 zz .not j) λl=>CD l (λd=>rv [.bool false] c R)
 (λd=>d [.bool false] c)
 (Lw b f g h R)
def zbv:=λ(h:za) e c d (R:VK)=>
 opt (nb [d] (some (Value.cells d).toList)) λf=>nw h f 51 λb a=>zn 51 b 1 3 a λg=>zn 51 b 2 3 a λi=>uT zz 64 [c,i] a (λj=>opt (zd zz 51 b a) λk=>uT zz 66 [c,k] a (λl=>uT zz 68 [g,j,l] a (Ch a R e b c)))
theorem TL(hw:zbv h t0 t1 t2 R):DC zz 73 [t0,t1,t2] h R:=zU (by kernel_rfl) hw
def FI:=λe a (R:VK) (m:List aaa) (b:za)=>
 opt (zg zz 66 e 1) λc=>opt (zd zz 2 c b) λf=>opt (x0 a) λg=>opt (zg zz 87 g 3) λh=>opt (zg zz 33 h 0) λd=>(apt 1 d 1 c/\opt (ye 3 d (pm 1) b) λi=>opt (x0 a) λj=>opt (zg zz 87 j 3) λk=>j5 33 k 1 2 f i λl=>rv [.bool true] l R)
def sS:=λb (a:za) (R:VK) d (g:LK)=>
 zn 66 b 0 3 a λe=>opt (zh .neq 3 51 e 1) λf=>CD f (λc=>rv [.bool false] a R)
 (λc=>c [.bool false] a)
 (FI b d R)
def FJ:=λb (a:za) c (d:LK)=>
 opt (x0 b) λe=>zn 132 e 1 56 a λf=>opt (nb [] (zY zz 66 [])) λg=>opt (yh zz 56 f (nth c 0)) λh=>opt (ye 66 h g a) λi=>d [] i
def FK:=λd (a:za) b e (f:LK)=>
 opt (x0 d) λg=>zn 87 g 6 46 a λh=>zq zz h [nth b 0] a (λi c=>opt (Z7 zz .not i) λj=>CD j (FJ e c b)
 (λk=>k [] c)
 (λm l=>f [] l))
def FL:=λb a c (d:LK) (h:List aaa) (e:za)=>
 BK (FK b e a c)
 (λi f=>opt (zh .add 3 98 (nth a 0) 1) λg=>d [g] f)
def FM:=λd (e:LK) f g a (b:za) (h:LK)=>
 opt (yi .lss 3 98 97 (nth a 0) d) λi=>CD i (λc=>c [] b)
 (λc=>e [] b)
 (FL f a g h)
def FN:=λa (b:za) c (d:LK)=>
 opt (x0 a) λe=>zn 132 e 1 56 b λf=>zQ (xw 56 f b) λg h=>BK (λi=>LP (FM g i c a)
 [pm 0] h)
 (λk j=>d [] j)
def FO:=λb c (R:VK) (g:aaa) (a:za)=>
 zn 51 b 7 3 a λd=>opt (x0 c) λe=>j5 132 e 3 3 d a λf=>rv [.bool true] f R
def sU:=λb d c (R:VK) (g:List aaa) (a:za)=>
 zn 51 b 4 3 a λe=>opt (zd zz 66 d a) λf=>zq zz (fn 63) [c,e,f] a (FO b c R)
def Cz:=λb g (R:VK) (y:List aaa) (a:za)=>
 opt (x0 b) λh=>zn 87 h 5 85 a λi=>opt (x0 b) λj=>zn 87 j 5 85 a λk=>zQ (xw 85 k a) λl _=>opt (zh .sub 3 71 l 1) λm=>wP 85 i m 130 a λc=>opt (x0 c) λn=>zn 132 n 0 129 a λo=>opt (x0 o) λp=>zn 49 p 5 47 a λq=>opt (x0 c) λr=>zn 132 r 3 3 a λs=>wP 47 q s 51 a λt=>uH 51 a λe u=>opt (ye 51 e t u) λd=>opt (x0 b) λv=>zn 87 v 6 46 d λf=>opt (nb [f,.nilFunc] (zX zz .neq 46 (.tmp 91) (.const .nilFunc) f .nilFunc)) λw=>CD w (FN c d b)
 (λx=>x [] d)
 (sU e g c R)
def nf:=λa c (R:VK) (s:aaa) (b:za)=>
 opt (x0 a) λh=>zn 87 h 5 85 b λd=>opt (x0 a) λi=>zn 87 i 5 85 b λj=>zQ (xw 85 j b) λk _=>opt (zh .sub 3 39 k 1) λe=>opt (nb [d] (cond (Nc none&&Nc (some e)) (Iu zz 85 d none (some e) b) none)) λl=>opt (x0 a) λm=>j5 87 m 5 85 l b λf=>opt (x0 a) λn=>zn 87 n 5 85 f λo=>zQ (xw 85 o f) λp g=>opt (zh .eql 3 48 p 0) λq=>CD q (sS c g R a)
 (λr=>r [.bool false] g)
 (Cz a c R)
def G9:=λ(h:za) b c (R:VK)=>
 opt (nb [c] (some (Value.cells c).toList)) λd=>nw h d 66 λe a=>opt (x0 b) λf=>zn 87 f 5 85 a λg=>opt (x0 b) λi=>zn 87 i 5 85 a λj=>zQ (xw 85 j a) λk _=>opt (zh .sub 3 17 k 1) λl=>wP 85 g l 130 a λm=>opt (x0 b) λn=>zn 87 n 1 81 a λo=>opt (x0 m) λp=>zn 132 p 2 3 a λq=>YO zz 96 [o,q] a (nf b e R)
theorem CA(hw:G9 h t0 t1 R):DC zz 74 [t0,t1] h R:=Tq mixed (q:=qs) (n:=200) (Eq.mpr (by kernel_rfl) hw)
def IT:=λb (R:VK) (i:List aaa) (a:za)=>
 opt (x0 b) λc=>zn 119 c 0 26 a λd=>opt (x0 b) λe=>zn 119 e 1 3 a λf=>opt (zh .sub 3 27 f 1) λg=>wP 26 d g 2 a λh=>rv [h] a R
def zbo:=λ(h:za) a (R:VK)=>
 opt (x0 a) λd=>zn 119 d 1 3 h λe=>opt (zh .add 3 6 e 1) λf=>opt (x0 a) λg=>j5 119 g 1 3 f h λb=>opt (x0 a) λi=>zn 119 i 1 3 b λj=>opt (x0 a) λk=>zn 119 k 0 26 b λl=>zQ (xw 26 l b) λm _=>opt (yi .gtr 3 13 18 j m) λn=>CD n (λc=>rv [pm 0] b R)
 (λc=>c [pm 0] b)
 (IT a R)
theorem TH(hw:zbo h t0 R):DC zz 75 [t0] h R:=zU (by kernel_rfl) hw
def sO:=λb (R:VK) d (c:za)=>
 GD b true (λe=>zq zz (fn 95) [d] c (λa f=>e a f)) (λa g=>opt (pk b a (.bool false)) λh=>rv [h] g R) c
def Ry:=λ(h:za) b (R:VK)=>
 opt (nb [b] (some (Value.cells b).toList)) λe=>nw h e 66 λc a=>zn 66 c 0 3 a λf=>opt (zh .eql 3 4 f 1) λd=>ze d true (zd zz 66 c a) a (sO d R) a
theorem Oa(hw:Ry h t0 R):DC zz 90 [t0] h R:=zU (by kernel_rfl) hw
def sQ:=λb (R:VK) d (c:za)=>
 GD b true (λe=>zq zz (fn 95) [d] c (λa f=>e a f)) (λa g=>opt (pk b a (.bool false)) λh=>rv [h] g R) c
def Rz:=λ(h:za) b (R:VK)=>
 opt (nb [b] (some (Value.cells b).toList)) λe=>nw h e 66 λc a=>zn 66 c 0 3 a λf=>opt (zh .eql 3 4 f 2) λd=>ze d true (zd zz 66 c a) a (sQ d R) a
theorem Ob(hw:Rz h t0 R):DC zz 92 [t0] h R:=zU (by kernel_rfl) hw
def WG:=λa (c:za) (R:VK) (f:LK)=>
 opt (nb [] (zY zz 66 [])) λd=>opt (ye 66 a d c) λb=>opt (zd zz 66 a b) λe=>rv [e,.bool false] b R
def QC:=λc d (e:za) a (R:VK) (j:LK)=>
 opt (yi .quo 2 43 44 c d) λf=>zq zz (fn 37) [f] e (λg h=>opt (ye 66 a g h) λb=>opt (zd zz 66 a b) λi=>rv [i,.bool true] b R)
def QD:=λc d a (R:VK) (j:List aaa) (e:za)=>
 opt (yi .rem 2 47 48 c d) λf=>zq zz (fn 37) [f] e (λg h=>opt (ye 66 a g h) λb=>opt (zd zz 66 a b) λi=>rv [i,.bool true] b R)
def YH:=λe a b c (R:VK) f (d:za)=>
 opt (zh .eql 3 41 e 14) λg=>CD g (QC a b d c R)
 (λh=>h [nth f 0] d)
 (QD a b c R)
def ZN:=λa e b (R:VK) f g h i (c:za)=>
 ze a false (pk e i (.bool false)) c (λj d=>opt (pk a (.bool true) j) λk=>CD k (WG b d R)
 (λl=>l [.bool false] d)
 (YH f g h b R)) c
def Zf:=λa c d (R:VK) e f g h (b:za)=>
 ze a true (zh .eql 2 36 h (-1)) b (ZN c a d R e f g) b
def Zg:=λa b g (R:VK) h i j (c:za)=>
 ze a false (zh .eql 2 33 j (-9223372036854775808)) c (λk d=>GD a false (λl=>l k d) (λe f=>GD e true (λm=>m b f) (Zf e a g R h i b) f) d) c
def YI:=λa (c:za) (R:VK) (f:LK)=>
 opt (nb [] (zY zz 66 [])) λd=>opt (ye 66 a d c) λb=>opt (zd zz 66 a b) λe=>rv [e,.bool false] b R
def aB:=λc d (e:za) a (R:VK) (j:LK)=>
 opt (yi .shl 2 81 82 c d) λf=>zq zz (fn 37) [f] e (λg h=>opt (ye 66 a g h) λb=>opt (zd zz 66 a b) λi=>rv [i,.bool true] b R)
def ZX:=λc d a (R:VK) (j:List aaa) (e:za)=>
 opt (yi .shr 2 85 86 c d) λf=>zq zz (fn 37) [f] e (λg h=>opt (ye 66 a g h) λb=>opt (zd zz 66 a b) λi=>rv [i,.bool true] b R)
def Zd:=λe a b c (R:VK) f (d:za)=>
 opt (zh .eql 3 79 e 19) λg=>CD g (aB a b d c R)
 (λh=>h [nth f 0] d)
 (ZX a b c R)
def ZY:=λa b (R:VK) e f g h (c:za)=>
 ze a false (zh .gtr 2 75 h 63) c (λi d=>opt (pk a (.bool true) i) λj=>CD j (YI b d R)
 (λk=>k [.bool false] d)
 (Zd e f g b R)) c
def aA:=λc d (e:za) a (R:VK) (j:LK)=>
 opt (yi .geq 2 121 122 c d) λf=>zq zz (fn 105) [f] e (λg h=>opt (ye 66 a g h) λb=>opt (zd zz 66 a b) λi=>rv [i,.bool true] b R)
def U9:=λc d (e:za) a (R:VK) (j:LK)=>
 opt (yi .gtr 2 115 116 c d) λf=>zq zz (fn 105) [f] e (λg h=>opt (ye 66 a g h) λb=>opt (zd zz 66 a b) λi=>rv [i,.bool true] b R)
def Qa:=λb c d (a:za) e (R:VK) (f:LK)=>
 opt (zh .eql 3 8 b 26) λg=>CD g (aA c d a e R)
 (λh=>h [.bool false] a)
 (λi j=>f [nth i 0] j)
def Vh:=λc d (e:za) a (R:VK) (j:LK)=>
 opt (yi .leq 2 109 110 c d) λf=>zq zz (fn 105) [f] e (λg h=>opt (ye 66 a g h) λb=>opt (zd zz 66 a b) λi=>rv [i,.bool true] b R)
def Vi:=λa b c (d:za) e (R:VK) (f:LK)=>
 opt (zh .eql 3 8 a 25) λg=>CD g (U9 b c d e R)
 (Qa a b c d e R)
 (λh i=>f [nth h 0] i)
def Wh:=λc d (e:za) a (R:VK) (j:LK)=>
 opt (yi .lss 2 103 104 c d) λf=>zq zz (fn 105) [f] e (λg h=>opt (ye 66 a g h) λb=>opt (zd zz 66 a b) λi=>rv [i,.bool true] b R)
def Wi:=λa b c (d:za) e (R:VK) (f:LK)=>
 opt (zh .eql 3 8 a 24) λg=>CD g (Vh b c d e R)
 (Vi a b c d e R)
 (λh i=>f [nth h 0] i)
def Y5:=λc d (e:za) a (R:VK) (j:LK)=>
 opt (yi .neq 2 97 98 c d) λf=>zq zz (fn 105) [f] e (λg h=>opt (ye 66 a g h) λb=>opt (zd zz 66 a b) λi=>rv [i,.bool true] b R)
def Y6:=λa b c (d:za) e (R:VK) (f:LK)=>
 opt (zh .eql 3 8 a 23) λg=>CD g (Wh b c d e R)
 (Wi a b c d e R)
 (λh i=>f [nth h 0] i)
def ZZ:=λc d (e:za) a (R:VK) (j:LK)=>
 opt (yi .eql 2 91 92 c d) λf=>zq zz (fn 105) [f] e (λg h=>opt (ye 66 a g h) λb=>opt (zd zz 66 a b) λi=>rv [i,.bool true] b R)
def qc:=λa b c (d:za) e (R:VK) (f:LK)=>
 opt (zh .eql 3 8 a 22) λg=>CD g (Y5 b c d e R)
 (Y6 a b c d e R)
 (λh i=>f [nth h 0] i)
def uO:=λa (b:za) d (R:VK) e f (h:LK)=>
 opt (zh .lss 2 72 a 0) λc=>GD c false (λg=>g a b) (ZY c d R e f a) b
def Ze:=λa b c (d:za) e (R:VK) (f:LK)=>
 opt (zh .eql 3 8 a 21) λg=>CD g (ZZ b c d e R)
 (qc a b c d e R)
 (λh i=>f [nth h 0] i)
def uu:=λc d (e:za) a (R:VK) (j:LK)=>
 opt (yi .xor 2 65 66 c d) λf=>zq zz (fn 37) [f] e (λg h=>opt (ye 66 a g h) λb=>opt (zd zz 66 a b) λi=>rv [i,.bool true] b R)
def uv:=λa (c:za) d e (R:VK) f (i:LK)=>
 opt (zh .eql 3 8 a 19) λg=>CD g (λb=>b [g] c)
 (λb=>opt (zh .eql 3 8 a 20) λj=>b [j] c)
 (λk h=>CD (nth k 0) (uO d h e R a f)
 (Ze a f d h e R)
 (λl m=>i [nth l 0] m))
def vU:=λc d (e:za) a (R:VK) (j:LK)=>
 opt (yi .or 2 59 60 c d) λf=>zq zz (fn 37) [f] e (λg h=>opt (ye 66 a g h) λb=>opt (zd zz 66 a b) λi=>rv [i,.bool true] b R)
def vV:=λa b c (d:za) e (R:VK) (f:LK)=>
 opt (zh .eql 3 8 a 18) λg=>CD g (uu b c d e R)
 (uv a d c e R b)
 (λh i=>f [nth h 0] i)
def vy:=λc d (e:za) a (R:VK) (j:LK)=>
 opt (yi .and 2 53 54 c d) λf=>zq zz (fn 37) [f] e (λg h=>opt (ye 66 a g h) λb=>opt (zd zz 66 a b) λi=>rv [i,.bool true] b R)
def yV:=λa b c (d:za) e (R:VK) (f:LK)=>
 opt (zh .eql 3 8 a 17) λg=>CD g (vU b c d e R)
 (vV a b c d e R)
 (λh i=>f [nth h 0] i)
def y8:=λa b (c:za) e (R:VK) f (h:LK)=>
 opt (zh .eql 2 30 a 0) λd=>GD d false (λg=>g b c) (Zg d a e R f b) c
def wY:=λa b c (d:za) e (R:VK) (f:LK)=>
 opt (zh .eql 3 8 a 16) λg=>CD g (vy b c d e R)
 (yV a b c d e R)
 (λh i=>f [nth h 0] i)
def x9:=λc d (e:za) a (R:VK) (j:LK)=>
 opt (yi .mul 2 23 24 c d) λf=>zq zz (fn 37) [f] e (λg h=>opt (ye 66 a g h) λb=>opt (zd zz 66 a b) λi=>rv [i,.bool true] b R)
def xH:=λa (c:za) d e f (R:VK) (i:LK)=>
 opt (zh .eql 3 8 a 14) λg=>CD g (λb=>b [g] c)
 (λb=>opt (zh .eql 3 8 a 15) λj=>b [j] c)
 (λk h=>CD (nth k 0) (y8 d e h f R a)
 (wY a e d h f R)
 (λl m=>i [nth l 0] m))
def xW:=λc d (e:za) a (R:VK) (j:LK)=>
 opt (yi .sub 2 17 18 c d) λf=>zq zz (fn 37) [f] e (λg h=>opt (ye 66 a g h) λb=>opt (zd zz 66 a b) λi=>rv [i,.bool true] b R)
def xE:=λa b c (d:za) e (R:VK) (f:LK)=>
 opt (zh .eql 3 8 a 13) λg=>CD g (x9 b c d e R)
 (xH a d c b e R)
 (λh i=>f [nth h 0] i)
def xP:=λc d (e:za) a (R:VK) (j:LK)=>
 opt (yi .add 2 11 12 c d) λf=>zq zz (fn 37) [f] e (λg h=>opt (ye 66 a g h) λb=>opt (zd zz 66 a b) λi=>rv [i,.bool true] b R)
def ya:=λa b c (d:za) e (R:VK) (f:LK)=>
 opt (zh .eql 3 8 a 12) λg=>CD g (xW b c d e R)
 (xE a b c d e R)
 (λh i=>f [nth h 0] i)
def yc:=λa b c (d:za) e (R:VK) (f:LK)=>
 opt (zh .eql 3 8 a 11) λg=>CD g (xP b c d e R)
 (ya a b c d e R)
 (λh i=>f [nth h 0] i)
def xX:=λa (R:VK) (f:List aaa) (c:za)=>
 opt (nb [] (zY zz 66 [])) λd=>opt (ye 66 a d c) λb=>opt (zd zz 66 a b) λe=>rv [e,.bool false] b R
def Cv:=λ(h:za) b c d (R:VK)=>
 uH 66 h λa e=>BK (yc b c d e a R)
 (xX a R)
theorem sM(hw:Cv h t0 t1 t2 R):DC zz 91 [t0,t1,t2] h R:=zU (by kernel_rfl) hw
def sB:=λe f (a:za) (g:LK) h=>
 opt (yi .eql 66 22 23 e h) λb=>ze b true (zd zz 66 f a) a (λi d=>GD b true (λj=>YO zz 92 [i] d (λc k=>j c k)) (λc l=>opt (pk b c (.bool false)) λm=>g [m] l) d) a
def lh:=λd e f (g:LK) h (a:za)=>
 opt (pk d h (.bool false)) λc=>CD c (λb=>b [c] a)
 (λb=>opt (zd zz 66 e a) λi=>uT zz 37 [pm 0] a (sB i f a b))
 (λj k=>g [nth j 0] k)
def sC:=λa e f (g:LK) h (b:za)=>
 GD a true (λi=>uT zz 37 [pm 0] b (λc=>i c b)) (λc d=>ze a true (yi .eql 66 18 19 h c) d (lh a e f g) d) b
def sD:=λb (c:za) d (f:LK)=>
 opt (zd zz 66 b c) λg=>YO zz 92 [g] c (λe a=>ze e true (zd zz 66 d a) a (sC e b d f) a)
def sF:=λd (a:za) e f b (R:VK) (o:LK)=>
 opt (zd zz 66 d a) λg=>opt (zd zz 66 e a) λh=>opt (yi .eql 66 29 30 g h) λi=>opt (zh .eql 3 32 f 21) λj=>opt (yi .eql 4 31 33 i j) λk=>zq zz (fn 105) [k] a (λl m=>opt (ye 66 b l m) λc=>opt (zd zz 66 b c) λn=>rv [n,.bool true] c R)
def lj:=λf a b g h (R:VK) (i:LK) j (c:za)=>
 opt (pk f j (.bool false)) λd=>CD d (λk=>k [d] c)
 (sD a c b)
 (λl e=>CD (nth l 0) (sF a e b g h R)
 (λm=>m [.bool false] e)
 (λn o=>i [nth n 0] o))
def sG:=λc e f g (R:VK) (h:LK) a (b:za)=>
 ze a true (zd zz 66 c b) b (λi d=>GD a true (λj=>zq zz (fn 92) [i] d (λk l=>j k l)) (lj a e c f g R h) d) b
def sH:=λa (R:VK) (f:List aaa) (c:za)=>
 opt (nb [] (zY zz 66 [])) λd=>opt (ye 66 a d c) λb=>opt (zd zz 66 a b) λe=>rv [e,.bool false] b R
def Rp:=λ(h:za) f a b (R:VK)=>
 opt (nb [a] (some (Value.cells a).toList)) λg=>nw h g 66 λc i=>opt (nb [b] (some (Value.cells b).toList)) λj=>nw i j 66 λk l=>uH 66 l λd e=>BK (λm=>opt (zd zz 66 c e) λn=>zq zz (fn 92) [n] e (sG k c f d R m))
 (sH d R)
theorem N3(hw:Rp h t0 t1 t2 R):DC zz 93 [t0,t1,t2] h R:=zU (by kernel_rfl) hw
def FU:=λ(c:za) a (R:VK) (g:LK)=>
 zq zz (fn 37) [pm 1] c (λd e=>opt (ye 66 a d e) λb=>opt (zd zz 66 a b) λf=>rv [f] b R)
def FV:=λa (R:VK) (g:List aaa) (c:za)=>
 zq zz (fn 37) [pm 0] c (λd e=>opt (ye 66 a d e) λb=>opt (zd zz 66 a b) λf=>rv [f] b R)
def RR:=λ(h:za) c (R:VK)=>
 uH 66 h λa b=>CD c (FU b a R)
 (λd=>d [] b)
 (FV a R)
theorem Oe(hw:RR h t0 R):DC zz 105 [t0] h R:=zU (by kernel_rfl) hw
def zbB:=λ(h:za) c (R:VK)=>
 zq zz (fn 60) [c] h (λa d=>opt (nb [a] (zY zz 119 [(0,a)])) λb=>opt (nb [b] (some (Value.cells b).toList)) λe=>nw d e 119 λf g=>rv [f] g R)
theorem TN(hw:zbB h t0 R):DC zz 34 [t0] h R:=zU (by kernel_rfl) hw
def E1:=λ(h:za) a (R:VK)=>
 opt (nb [a,pp] (zX zz .eql 26 (.tmp 3) (.const (pp)) a (pp))) λd=>CD d (λb=>rv [pp] h R)
 (λb=>b [pp] h)
 (λj e=>zQ (nb [] (zH zz 26 0 [] e)) λc f=>zQ (nb [c,a] (zB zz .append [26,26] 26 [c,a] f)) λg i=>rv [g] i R)
theorem GX(hw:E1 h t0 R):DC zz 60 [t0] h R:=zU (by kernel_rfl) hw
end Go.Rm
namespace Go.Ai
open Go.Ai Go.Proofs
theorem zbT:AU 129:=xZ (by kernel_rfl)
theorem Hs:AU 130:=xZ (by kernel_rfl)
theorem RX:AU 26:=xZ (by kernel_rfl)
theorem RY:AU 30:=xZ (by kernel_rfl)
theorem L6:AU 31:=xZ (by kernel_rfl)
theorem aT:FcN 33 5:=Y9 (by kernel_rfl) (by kernel_rfl)
theorem zbU:AU 46:=xZ (by kernel_rfl)
theorem YM:AU 56:=xZ (by kernel_rfl)
theorem CW:AU 81:=xZ (by kernel_rfl)
theorem zhN:AU 83:=xZ (by kernel_rfl)
theorem mA:AU 85:=xZ (by kernel_rfl)
theorem zhR:FcA 26 2 1 8:=λr v x n w h h1 h2 h3 h4=>Zo (e:=2) (e2:=2) (by kernel_rfl) (by kernel_rfl) (by kernel_rfl) (by kernel_rfl) (by decide) h1 h2 h3 h4
theorem zfA:FcA 30 78 2 16:=λr v x n w h h1 h2 h3 h4=>Zo (e:=78) (e2:=78) (by kernel_rfl) (by kernel_rfl) (by kernel_rfl) (by kernel_rfl) (by decide) h1 h2 h3 h4
theorem zfB:FcA 31 71 3 24:=λr v x n w h h1 h2 h3 h4=>Zo (e:=71) (e2:=71) (by kernel_rfl) (by kernel_rfl) (by kernel_rfl) (by kernel_rfl) (by decide) h1 h2 h3 h4
theorem Mb:FcA 56 66 3 24:=λr v x n w h h1 h2 h3 h4=>Zo (e:=66) (e2:=66) (by kernel_rfl) (by kernel_rfl) (by kernel_rfl) (by kernel_rfl) (by decide) h1 h2 h3 h4
theorem zhV:FcA 85 130 1 8:=λr v x n w h h1 h2 h3 h4=>Zo (e:=130) (e2:=130) (by kernel_rfl) (by kernel_rfl) (by kernel_rfl) (by kernel_rfl) (by decide) h1 h2 h3 h4
theorem zhX:FcI 2:=λb o _ h=>vH (by kernel_rfl) b o _ h rfl
theorem zb9:FcS 30:=λb o _ _ _ h=>vH (by kernel_rfl) b o _ h rfl
theorem zfC:FcS 31:=λb o _ _ _ h=>vH (by kernel_rfl) b o _ h rfl
theorem hZ:FcM 33 5:=YN (by kernel_rfl)
theorem zfD:FcS 56:=λb o _ _ _ h=>vH (by kernel_rfl) b o _ h rfl
theorem zcc:FcS 85:=λb o _ _ _ h=>vH (by kernel_rfl) b o _ h rfl
theorem C1:Yd pu 33=some (.agg #[(pm 0),(pm 0),(pp),(pp),(pm 0)]):=zJ (by kernel_rfl)
theorem zch(v0:Option Addr)(v0l v0c:Nat):zY pu 119 [(0,(.slice v0 v0l v0c))]=some (.agg #[(.slice v0 v0l v0c),(pm 0)]):=zJ (by kernel_rfl)
theorem Hz(v0:Option Addr)(v2:Int)(v3:Int):zY pu 132 [(0,(.pointer v0)),(2,(pm v2)),(3,(pm v3))]=some (.agg #[(.pointer v0),(pp),(pm v2),(pm v3)]):=zJ (by kernel_rfl)
theorem Ox:zY pu 33 []=some (.agg #[(pm 0),(pm 0),(pp),(pp),(pm 0)]):=zJ (by kernel_rfl)
theorem Mj(v0:Int)(v1:Int)(v2:Int):zY pu 66 [(0,(pm v0)),(1,(pm v1)),(2,(pm v2))]=some (.agg #[(pm v0),(pm v1),(pm v2)]):=zJ (by kernel_rfl)
theorem AB(v0:Int)(v1:Int)(v2:Int):zY pu 71 [(0,(pm v0)),(1,(pm v1)),(2,(pm v2))]=some (.agg #[(pm v0),(pm v1),(pm v2)]):=zJ (by kernel_rfl)
theorem tk(v0:Int)(v1:Int):zY pu 78 [(0,(pm v0)),(1,(pm v1))]=some (.agg #[(pm v0),(pm v1)]):=zJ (by kernel_rfl)
theorem EH(v00:Option Addr)(v00l v00c:Nat)(v01:Option Addr)(v01l v01c:Nat)(v02:Int)(v1:Option Addr)(v2:Option Addr)(v6:Nat)(v6a v6b:Array aaa):zY pu 87 [(0,(.agg #[(.slice v00 v00l v00c),(.slice v01 v01l v01c),(pm v02)])),(1,(.pointer v1)),(2,(.pointer v2)),(6,(.func (.func v6) v6a v6b))]=some (.agg #[(.slice v00 v00l v00c),(.slice v01 v01l v01c),(pm v02),(.pointer v1),(.pointer v2),(pm 0),(pm 0),(pp),(pp),(pm 0),(pp),(pp),(.func (.func v6) v6a v6b)]):=zJ (by kernel_rfl)
theorem zck(h:za):zH pu 26 0 [] h=some (.slice (some ⟨h.next,0,none⟩) 0 2,h.push (.cells [] 2)):=zJ (by kernel_rfl)
theorem tl(v00:Int)(v01:Int)(h:za):zH pu 30 1 [(0,(.agg #[(pm v00),(pm v01)]))] h=some (.slice (some ⟨h.next,0,none⟩) 1 3,h.push (.cells [(pm v00),(pm v01)] 78)):=zJ (by kernel_rfl)
theorem Ga(v00:Int)(v01:Int)(v02:Int)(h:za):zH pu 31 1 [(0,(.agg #[(pm v00),(pm v01),(pm v02)]))] h=some (.slice (some ⟨h.next,0,none⟩) 1 3,h.push (.cells [(pm v00),(pm v01),(pm v02)] 71)):=zJ (by kernel_rfl)
theorem Qm(v00:Int)(v01:Int)(v02:Int)(h:za):zH pu 56 1 [(0,(.agg #[(pm v00),(pm v01),(pm v02)]))] h=some (.slice (some ⟨h.next,0,none⟩) 1 3,h.push (.cells [(pm v00),(pm v01),(pm v02)] 66)):=zJ (by kernel_rfl)
theorem zac(v0:Option Addr)(h:za):zH pu 85 1 [(0,(.pointer v0))] h=some (.slice (some ⟨h.next,0,none⟩) 1 3,h.push (.cells [(.pointer v0)] 130)):=zJ (by kernel_rfl)
theorem zct(n:Int)(h:za):ud pu 2 152 (pm n) h=some (.int .i8 (IntKind.wrap .i8 n),h):=zJ (by kernel_rfl)
theorem zex(n:Int)(h:za):ud pu 2 21 (pm n) h=some (.int .i32 (IntKind.wrap .i32 n),h):=zJ (by kernel_rfl)
theorem zeA(x y:Operand):zX pu .eql 26 x y (pp) (pp)=some (.bool true):=zJ (by kernel_rfl)
theorem zgx(x y:Operand)(a:Addr)(n c:Nat):zX pu .eql 26 x y (.slice (some a) n c) (pp)=some (.bool false):=zg5 (e:=2) (by kernel_rfl) a n c
theorem zcG(x y:Operand)(a b:Bool):zX pu .eql 4 x y (.bool a) (.bool b)=some (.bool (a == b)):=zJ (by kernel_rfl)
theorem MF:NP 119 0:=λb o=>zJ (by kernel_rfl)
theorem Dh:UN 119 1 1:=λb o=>zJ (by kernel_rfl)
theorem MH:NP 132 0:=λb o=>zJ (by kernel_rfl)
theorem bC:UN 132 1 1:=λb o=>zJ (by kernel_rfl)
theorem Di:UN 132 2 2:=λb o=>zJ (by kernel_rfl)
theorem bD:UN 132 3 3:=λb o=>zJ (by kernel_rfl)
theorem j8:NP 33 0:=λb o=>zJ (by kernel_rfl)
theorem HE:UN 33 1 1:=λb o=>zJ (by kernel_rfl)
theorem Bg:UN 33 2 2:=λb o=>zJ (by kernel_rfl)
theorem pV:UN 33 3 3:=λb o=>zJ (by kernel_rfl)
theorem dV:UN 33 4 4:=λb o=>zJ (by kernel_rfl)
theorem Sw:NP 87 0:=λb o=>zJ (by kernel_rfl)
theorem dY:UN 87 1 3:=λb o=>zJ (by kernel_rfl)
theorem zeE:UN 87 2 4:=λb o=>zJ (by kernel_rfl)
theorem WJ:UN 87 3 5:=λb o=>zJ (by kernel_rfl)
theorem Sx:UN 87 4 10:=λb o=>zJ (by kernel_rfl)
theorem VV:UN 87 5 11:=λb o=>zJ (by kernel_rfl)
theorem HI:UN 87 6 12:=λb o=>zJ (by kernel_rfl)
theorem SH:PM 26 1:=λb o l c k i=>wU (e:=2) (by kernel_rfl) (by kernel_rfl)
theorem Wt:PM 56 3:=λb o l c k i=>wU (e:=66) (by kernel_rfl) (by kernel_rfl)
theorem SJ:PM 85 1:=λb o l c k i=>wU (e:=130) (by kernel_rfl) (by kernel_rfl)
theorem iG:FcE 26:=λr a n c h=>zJ (by kernel_rfl)
theorem O5:FcE 56:=λr a n c h=>zJ (by kernel_rfl)
theorem eC:FcE 85:=λr a n c h=>zJ (by kernel_rfl)
theorem zf0(b off len c:Nat)(lo hi:Option aaa)(h:za):Iu pu 85 (.slice (some ⟨b,off,none⟩) len c) lo hi h=(uV hi len len).bind λhh=>(uV lo 0 hh).bind λl=>some (.slice (some ⟨b,off+l*1,none⟩) (hh-l) (cond (wide pu h b 1) (dQ c l) 0)):=th (e:=130) (by kernel_rfl) (by kernel_rfl)
end Go.Ai
namespace Go.Rm
open Go.Ai Go.Proofs Go.Mem
open Go.Rtl (xG Pg zu)
abbrev vv(a:V):aaa := .agg #[pm a.k,pm a.n,pm a.b]
def WN(u:aaa)(v:aaa)(_:za):Prop:=v=u
theorem vz{f:FuncId}{args:List aaa}{h:za}{u:aaa}(hs:tS u=true)(d:DC pu f args h.lock (WN u)):yO pu f args h u:=yO.of hs d
def wW(o:Option V):aaa := .tuple #[vv (o.getD v0),.bool o.isSome]
theorem WO(n:Int)(h:za):yO pu 37 [pm n] h (vv (qj n)):=vz rfl ((Go.Mem.WO n h.lock).mono λv h1 e=>e.1)
theorem iC(a:V)(h:za):yO pu 95 [vv a] h (.bool (kN a)):=Go.Mem.iC a h
theorem zcd(b n:Int)(h:za):yO pu 72 [pm b,pm n] h (vv (AW b n)):=by
 apply vz rfl;apply zbC;unfold zfy AW;by_cases h1:b<1
 ·simp only[EE,↓nw,Value.cells,zb,aad,Nat.reduceAdd,yJ,zZ,zi,zo,y7,zM,h1];rfl
 ·simp only[EE,↓nw,Value.cells,zb,aad,abe,Nat.reduceAdd,yJ,zZ,zi,zo,y7,Mj,RS,h1];rfl
theorem zG(a:V)(h:za):yO pu 90 [vv a] h (.bool (isInt a)):=by
 apply vz rfl;apply Oa;unfold Ry isInt;by_cases h1:a.k=1
 ·simp only[EE,↓nw,Value.cells,aad,Nat.reduceAdd,zZ,zA,zj,zi,zP,sO,h1];refine yq (iC ⟨1,a.n,a.b⟩ _) ?_;simp only[EE];have:a=⟨1,a.n,a.b⟩:=by rw[<- h1]
  rw[<- this];simp[WN,h1]
 ·simp only[EE,↓nw,Value.cells,zA,zj,zP,sO,h1];simp[WN]
theorem zF(a:V)(h:za):yO pu 92 [vv a] h (.bool (wK a)):=by
 apply vz rfl;apply Ob;unfold Rz wK;by_cases h1:a.k=2
 ·simp only[EE,↓nw,Value.cells,aad,Nat.reduceAdd,zZ,zA,zj,zi,zP,sQ,h1];refine yq (iC ⟨2,a.n,a.b⟩ _) ?_;simp only[EE];have:a=⟨2,a.n,a.b⟩:=by rw[<- h1]
  rw[<- this];simp[WN,h1]
 ·simp only[EE,↓nw,Value.cells,zA,zj,zP,sQ,h1];simp[WN]
theorem eP(b:Bool)(h:za):yO pu 105 [.bool b] h (vv (qW b)):=by
 apply vz rfl;apply Oe;unfold RR qW;cases b with
 |true=>
  simp only[EE,↓nw,Value.cells,y7,FU];refine yq (WO 1 _) ?_;simp only[EE,zb,aad,Nat.reduceAdd,yJ,zZ,zi,zo];rfl
 |false=>
  simp only[EE,↓nw,Value.cells,y7,FV];refine yq (WO 0 _) ?_;simp only[EE,zb,aad,Nat.reduceAdd,yJ,zZ,zi,zo];rfl
theorem Dx(op a b:Int)(h:za):yO pu 91 [pm op,pm a,pm b] h (wW (uk op a b)):=by
 apply vz rfl;apply sM;unfold Cv;by_cases o11:op=11
 ·subst o11;simp only[EE,↓nw,Value.cells,↓BK,y7,xP,yc];refine yq (WO (ui (a+b)) _) ?_;simp only[EE,zb,aad,Nat.reduceAdd,yJ,zZ,zi,zo];rfl
 by_cases o12:op=12
 ·subst o12;simp only[EE,↓nw,Value.cells,↓BK,Int.reduceEq,y7,xW,ya,yc];refine yq (WO (ui (a-b)) _) ?_;simp only[EE,zb,aad,Nat.reduceAdd,yJ,zZ,zi,zo];rfl
 by_cases o13:op=13
 ·subst o13;simp only[EE,↓nw,Value.cells,↓BK,Int.reduceEq,y7,x9,xE,ya,yc];refine yq (WO (ui (a*b)) _) ?_;simp only[EE,zb,aad,Nat.reduceAdd,yJ,zZ,zi,zo];rfl
 by_cases o14:op=14
 ·subst o14;by_cases b0:b=0
  ·simp only[EE,nth,↓nw,Value.cells,↓BK,zb,aad,Nat.reduceAdd,Int.reduceEq,yJ,zZ,zi,zo,y7,zM,WG,ZN,Zf,Zg,y8,xH,xE,ya,yc,xX,b0];simp[WN,wW,uk,v0]
  by_cases am:a = -9223372036854775808
  ·by_cases b1:b = -1
   ·simp only[EE,nth,↓nw,Value.cells,↓BK,zb,aad,Nat.reduceAdd,Int.reduceEq,Int.reduceNeg,yJ,zZ,zi,zo,y7,zM,WG,ZN,Zf,Zg,y8,xH,xE,ya,yc,xX,am,b1];simp[WN,wW,uk,v0]
   ·simp only[EE,nth,↓nw,Value.cells,↓BK,zb,Nat.reduceAdd,Int.reduceEq,Int.reduceNeg,yJ,zo,y7,zM,QC,YH,ZN,Zf,Zg,y8,xH,xE,ya,yc,xX,b0,am,b1];refine yq (WO (ui (Int.tdiv (-9223372036854775808) b)) _) ?_;simp only[EE,zb,aad,Nat.reduceAdd,Int.reduceNeg,yJ,zZ,zi,zo];simp[WN,wW,uk,b0,b1]
  ·simp only[EE,nth,↓nw,Value.cells,↓BK,zb,Nat.reduceAdd,Int.reduceEq,Int.reduceNeg,yJ,zo,y7,zM,QC,YH,ZN,Zf,Zg,y8,xH,xE,ya,yc,xX,b0,am];refine yq (WO (ui (a.tdiv b)) _) ?_;simp only[EE,zb,aad,Nat.reduceAdd,yJ,zZ,zi,zo];simp[WN,wW,uk,b0,am]
 by_cases o15:op=15
 ·subst o15;by_cases b0:b=0
  ·simp only[EE,nth,↓nw,Value.cells,↓BK,zb,aad,Nat.reduceAdd,Int.reduceEq,yJ,zZ,zi,zo,y7,zM,WG,ZN,Zf,Zg,y8,xH,xE,ya,yc,xX,b0];simp[WN,wW,uk,v0]
  by_cases am:a = -9223372036854775808
  ·by_cases b1:b = -1
   ·simp only[EE,nth,↓nw,Value.cells,↓BK,zb,aad,Nat.reduceAdd,Int.reduceEq,Int.reduceNeg,yJ,zZ,zi,zo,y7,zM,WG,ZN,Zf,Zg,y8,xH,xE,ya,yc,xX,am,b1];simp[WN,wW,uk,v0]
   ·simp only[EE,nth,↓nw,Value.cells,↓BK,zb,Nat.reduceAdd,Int.reduceEq,Int.reduceNeg,yJ,zo,y7,zM,QD,YH,ZN,Zf,Zg,y8,xH,xE,ya,yc,xX,b0,am,b1];refine yq (WO ((Int.tmod (-9223372036854775808) b)) _) ?_;simp only[EE,zb,aad,Nat.reduceAdd,Int.reduceNeg,yJ,zZ,zi,zo];simp[WN,wW,uk,b0,b1]
  ·simp only[EE,nth,↓nw,Value.cells,↓BK,zb,Nat.reduceAdd,Int.reduceEq,Int.reduceNeg,yJ,zo,y7,zM,QD,YH,ZN,Zf,Zg,y8,xH,xE,ya,yc,xX,b0,am];refine yq (WO ((a.tmod b)) _) ?_;simp only[EE,zb,aad,Nat.reduceAdd,yJ,zZ,zi,zo];simp[WN,wW,uk,b0,am]
 by_cases o16:op=16
 ·subst o16;simp only[EE,nth,↓nw,Value.cells,↓BK,zb,Nat.reduceAdd,Int.reduceEq,yJ,zo,y7,zM,vy,wY,xH,xE,ya,yc,xX];refine yq (WO (WZ (· &&& ·) a b) _) ?_;simp only[EE,zb,aad,Nat.reduceAdd,yJ,zZ,zi,zo];rfl
 by_cases o17:op=17
 ·subst o17;simp only[EE,nth,↓nw,Value.cells,↓BK,zb,Nat.reduceAdd,Int.reduceEq,yJ,zo,y7,zM,vU,yV,wY,xH,xE,ya,yc,xX];refine yq (WO (WZ (· ||| ·) a b) _) ?_;simp only[EE,zb,aad,Nat.reduceAdd,yJ,zZ,zi,zo];rfl
 by_cases o18:op=18
 ·subst o18;simp only[EE,nth,↓nw,Value.cells,↓BK,zb,Nat.reduceAdd,Int.reduceEq,yJ,zo,y7,zM,uu,vV,yV,wY,xH,xE,ya,yc,xX];refine yq (WO (WZ (· ^^^ ·) a b) _) ?_;simp only[EE,zb,aad,Nat.reduceAdd,yJ,zZ,zi,zo];rfl
 by_cases o19:op=19
 ·subst o19;by_cases b0:b<0
  ·simp only[EE,nth,↓nw,Value.cells,↓BK,zb,aad,Nat.reduceAdd,Int.reduceEq,yJ,zZ,zi,zo,y7,zM,YI,ZY,uO,uv,vV,yV,wY,xH,xE,ya,yc,xX,b0];simp[WN,wW,uk,v0,b0]
  by_cases b1:63<b
  ·simp only[EE,nth,↓nw,Value.cells,↓BK,zb,aad,Nat.reduceAdd,Int.reduceEq,yJ,zZ,zi,zo,y7,zM,YI,ZY,uO,uv,vV,yV,wY,xH,xE,ya,yc,xX,b0,b1];simp[WN,wW,uk,v0,b1]
  have b2:0<=b:=by omega
  have b3:min b.toNat 64=b.toNat:=by omega
  simp only[EE,nth,↓nw,Value.cells,↓BK,zb,Nat.reduceAdd,Int.reduceEq,yJ,zo,y7,zM,aB,Zd,ZY,uO,uv,vV,yV,wY,xH,xE,ya,yc,xX,b0,b1,b2,IntKind.bits,b3];refine yq (WO (ui (a*2^b.toNat)) _) ?_;simp only[EE,zb,aad,Nat.reduceAdd,yJ,zZ,zi,zo];simp[WN,wW,uk,b0,b1]
 by_cases o20:op=20
 ·subst o20;by_cases b0:b<0
  ·simp only[EE,nth,↓nw,Value.cells,↓BK,zb,aad,Nat.reduceAdd,Int.reduceEq,yJ,zZ,zi,zo,y7,zM,YI,ZY,uO,uv,vV,yV,wY,xH,xE,ya,yc,xX,b0];simp[WN,wW,uk,v0,b0]
  by_cases b1:63<b
  ·simp only[EE,nth,↓nw,Value.cells,↓BK,zb,aad,Nat.reduceAdd,Int.reduceEq,yJ,zZ,zi,zo,y7,zM,YI,ZY,uO,uv,vV,yV,wY,xH,xE,ya,yc,xX,b0,b1];simp[WN,wW,uk,v0,b1]
  have b2:0<=b:=by omega
  have b3:min b.toNat 64=b.toNat:=by omega
  simp only[EE,nth,↓nw,Value.cells,↓BK,zb,Nat.reduceAdd,Int.reduceEq,yJ,zo,y7,zM,ZX,Zd,ZY,uO,uv,vV,yV,wY,xH,xE,ya,yc,xX,b0,b1,b2,IntKind.bits,b3];refine yq (WO (a.fdiv (2^b.toNat)) _) ?_;simp only[EE,zb,aad,Nat.reduceAdd,yJ,zZ,zi,zo];simp[WN,wW,uk,b0,b1]
 by_cases o21:op=21
 ·subst o21;simp only[EE,nth,↓nw,Value.cells,↓BK,zb,Nat.reduceAdd,Int.reduceEq,yJ,zo,y7,zM,ZZ,Ze,uv,vV,yV,wY,xH,xE,ya,yc,xX];refine yq (eP (decide (a=b)) _) ?_;simp only[EE,zb,aad,Nat.reduceAdd,yJ,zZ,zi,zo];rfl
 by_cases o22:op=22
 ·subst o22;simp only[EE,nth,↓nw,Value.cells,↓BK,zb,Nat.reduceAdd,Int.reduceEq,yJ,zo,y7,zM,Y5,qc,Ze,uv,vV,yV,wY,xH,xE,ya,yc,xX];refine yq (eP (!decide (a=b)) _) ?_;simp only[EE,zb,aad,Nat.reduceAdd,yJ,zZ,zi,zo];rfl
 by_cases o23:op=23
 ·subst o23;simp only[EE,nth,↓nw,Value.cells,↓BK,zb,Nat.reduceAdd,Int.reduceEq,yJ,zo,y7,zM,Wh,Y6,qc,Ze,uv,vV,yV,wY,xH,xE,ya,yc,xX];refine yq (eP (decide (a<b)) _) ?_;simp only[EE,zb,aad,Nat.reduceAdd,yJ,zZ,zi,zo];rfl
 by_cases o24:op=24
 ·subst o24;simp only[EE,nth,↓nw,Value.cells,↓BK,zb,Nat.reduceAdd,Int.reduceEq,yJ,zo,y7,zM,Vh,Wi,Y6,qc,Ze,uv,vV,yV,wY,xH,xE,ya,yc,xX];refine yq (eP (decide (a<=b)) _) ?_;simp only[EE,zb,aad,Nat.reduceAdd,yJ,zZ,zi,zo];rfl
 by_cases o25:op=25
 ·subst o25;simp only[EE,nth,↓nw,Value.cells,↓BK,zb,Nat.reduceAdd,Int.reduceEq,yJ,zo,y7,zM,U9,Vi,Wi,Y6,qc,Ze,uv,vV,yV,wY,xH,xE,ya,yc,xX];refine yq (eP (decide (b<a)) _) ?_;simp only[EE,zb,aad,Nat.reduceAdd,yJ,zZ,zi,zo];rfl
 by_cases o26:op=26
 ·subst o26;simp only[EE,nth,↓nw,Value.cells,↓BK,zb,Nat.reduceAdd,Int.reduceEq,yJ,zo,y7,zM,aA,Qa,Vi,Wi,Y6,qc,Ze,uv,vV,yV,wY,xH,xE,ya,yc,xX];refine yq (eP (decide (b<=a)) _) ?_;simp only[EE,zb,aad,Nat.reduceAdd,yJ,zZ,zi,zo];rfl
 simp only[EE,nth,↓nw,Value.cells,↓BK,zb,aad,Nat.reduceAdd,yJ,zZ,zi,zo,y7,zM,Qa,Vi,Wi,Y6,qc,Ze,uv,vV,yV,wY,xH,xE,ya,yc,xX,o11,o12,o13,o14,o15,o16,o17,o18,o19,o20,o21,o22,o23,o24,o25,o26];simp[WN,wW,uk,v0,o11,o12,o13,o14,o15,o16,o17,o18,o19,o20,o21,o22,o23,o24,o25,o26]
theorem Ph(a:V):((a.k == (1:Int))&&((a.n == (0:Int))&&(a.b == (0:Int))))=decide (a=qj 0):=veq a (qj 0)
theorem j7(op:Int)(a b:V)(h:za):yO pu 93 [pm op,vv a,vv b] h (wW (wO op a b)):=by
 apply vz rfl;apply N3;unfold Rp;simp only[EE,↓nw,Value.cells,↓BK,aad,Nat.reduceAdd,zZ,zi,y7];refine yq (zF a _) ?_
 have g4:(((h.lock.push (.cells [pm a.k,pm a.n,pm a.b] 66)).push (.cells [pm b.k,pm b.n,pm b.b] 66)).push (.cells [pm 0,pm 0,pm 0] 66)).get h.next=some (.cells [pm a.k,pm a.n,pm a.b] 66):=by
  rw[zt (by show h.next<h.next+1+1;omega),zt (by show h.next<h.next+1;omega)];exact zk
 have g5:(((h.lock.push (.cells [pm a.k,pm a.n,pm a.b] 66)).push (.cells [pm b.k,pm b.n,pm b.b] 66)).push (.cells [pm 0,pm 0,pm 0] 66)).get (h.next+1)=some (.cells [pm b.k,pm b.n,pm b.b] 66):=by
  rw[zt (by show h.next+1<h.next+1+1;omega)];exact zk
 have g6:(((h.lock.push (.cells [pm a.k,pm a.n,pm a.b] 66)).push (.cells [pm b.k,pm b.n,pm b.b] 66)).push (.cells [pm 0,pm 0,pm 0] 66)).get (h.next+1+1)=some (.cells [pm 0,pm 0,pm 0] 66):=zk;have r6:(((h.lock.push (.cells [pm a.k,pm a.n,pm a.b] 66)).push (.cells [pm b.k,pm b.n,pm b.b] 66)).push (.cells [pm 0,pm 0,pm 0] 66)).ro<=h.next+1+1:=by show h.next<=h.next+1+1;omega
 generalize (((h.lock.push (.cells [pm a.k,pm a.n,pm a.b] 66)).push (.cells [pm b.k,pm b.n,pm b.b] 66)).push (.cells [pm 0,pm 0,pm 0] 66))=H at g4 g5 g6 r6 ⊢
 have g2:∀v h',v=Value.tuple #[vv (qW (decide (a=b) == decide (op=21))),.bool true]->((wK a&&wK b)||((wK a&&decide (b=qj 0))||(decide (a=qj 0)&&wK b)))=true->WN (wW (wO op a b)) v h':=by
  intro v h' e1 e2;subst e1;unfold wO;rw[aai e2];rfl
 have g1:∀h',((wK a&&wK b)||((wK a&&decide (b=qj 0))||(decide (a=qj 0)&&wK b)))=false->WN (wW (wO op a b)) (.tuple #[vv v0,.bool false]) h':=by
  intro h' e2;unfold wO;rw[aac (by rw[e2];decide)];rfl
 have yes:∀J,((wK a&&wK b)||((wK a&&decide (b=qj 0))||(decide (a=qj 0)&&wK b)))=true->sF (pi h.next) H (.pointer (some ⟨h.next+1,0,none⟩)) (pm op) (.pointer (some ⟨h.next+1+1,0,none⟩)) (WN (wW (wO op a b))) J:=by
  intro J e;simp only[EE,aad,Nat.reduceAdd,zZ,zi,zcG,QS,sF,g4,g5];rw[veq a b];refine yq (eP _ _) ?_;simp only[EE,zb,aad,Nat.reduceAdd,yJ,zZ,zi,zo,g6,r6];exact g2 _ _ rfl e
 have no:∀vs,((wK a&&wK b)||((wK a&&decide (b=qj 0))||(decide (a=qj 0)&&wK b)))=false->sH (.pointer (some ⟨h.next+1+1,0,none⟩)) (WN (wW (wO op a b))) vs H:=by
  intro vs e;simp only[EE,zb,aad,Nat.reduceAdd,yJ,zZ,zi,zo,zM,sH,g6,r6];exact g1 _ e
 cases pa:wK a with
 |true=>
  simp only[EE,aad,Nat.reduceAdd,zZ,zi,sG,g5];refine yq (zF b _) ?_;cases pb:wK b with
  |true=>
   simp only[EE,nth,lj];exact yes _ (by rw[pa,pb];rfl)
  |false=>
   simp only[EE,aad,Nat.reduceAdd,zZ,zi,sD,lj,g4];refine Mt (zF a _).dc ?_;rintro _ _ ⟨rfl,rfl⟩;rw[pa];simp only[EE,aad,Nat.reduceAdd,zZ,zi,sC,g5];refine El (WO 0 _) ?_;simp only[EE,QS,qj];rw[Ph b];cases eb:decide (b=qj 0) with
   |true=>
    simp only[EE,nth,lh];exact yes _ (by rw[pa,pb,eb];rfl)
   |false=>
    simp only[EE,aad,Nat.reduceAdd,zZ,zi,lh,g4];refine El (WO 0 _) ?_;simp only[EE,QS,sB,qj];rw[Ph a];cases ea:decide (a=qj 0) with
    |true=>
     simp only[EE,aad,Nat.reduceAdd,zZ,zi,g5];refine Mt (zF b _).dc ?_;rintro _ _ ⟨rfl,rfl⟩;rw[pb];simp only[EE,nth];exact no _ (by rw[pa,pb,eb,ea];rfl)
    |false=>
     simp only[EE,nth];exact no _ (by rw[pa,pb,eb,ea];rfl)
 |false=>
  simp only[EE,aad,Nat.reduceAdd,zZ,zi,sD,lj,sG,g4];refine Mt (zF a _).dc ?_;rintro _ _ ⟨rfl,rfl⟩;rw[pa];simp only[EE,aad,Nat.reduceAdd,zZ,zi,lh,sC,g4];refine El (WO 0 _) ?_;simp only[EE,QS,sB,qj];rw[Ph a];cases ea:decide (a=qj 0) with
  |true=>
   simp only[EE,aad,Nat.reduceAdd,zZ,zi,g5];refine Mt (zF b _).dc ?_;rintro _ _ ⟨rfl,rfl⟩;cases pb:wK b with
   |true=>
    simp only[EE,nth];exact yes _ (by rw[pa,pb,ea];cases decide (b=qj 0) <;> rfl)
   |false=>
    simp only[EE,nth];exact no _ (by rw[pa,pb,ea];rfl)
  |false=>
   simp only[EE,nth];exact no _ (by rw[pa,ea];rfl)
theorem zf1(a:Int):Z7 pu .xor (pm a)=some (pm (notM a)):=rfl
theorem zje(op:Int)(a:V)(h:za):yO pu 65 [pm op,vv a] h (wW (mM op a)):=by
 apply vz rfl;apply G7;unfold zbr;simp only[EE,↓nw,Value.cells,aad,Nat.reduceAdd,zZ,zi,y7];refine yq (zG a _) ?_
 have g3:((h.lock.push (.cells [pm a.k,pm a.n,pm a.b] 66)).push (.cells [pm 0,pm 0,pm 0] 66)).get h.next=some (.cells [pm a.k,pm a.n,pm a.b] 66):=by
  rw[zt (by show h.next<h.next+1;omega)];exact zk
 have g4:((h.lock.push (.cells [pm a.k,pm a.n,pm a.b] 66)).push (.cells [pm 0,pm 0,pm 0] 66)).get (h.next+1)=some (.cells [pm 0,pm 0,pm 0] 66):=zk;have r4:((h.lock.push (.cells [pm a.k,pm a.n,pm a.b] 66)).push (.cells [pm 0,pm 0,pm 0] 66)).ro<=h.next+1:=by show h.next<=h.next+1;omega
 generalize ((h.lock.push (.cells [pm a.k,pm a.n,pm a.b] 66)).push (.cells [pm 0,pm 0,pm 0] 66))=H at g3 g4 r4 ⊢;cases hi:isInt a with
 |false=>
  simp only[EE,zb,aad,Nat.reduceAdd,yJ,zZ,zi,zo,zM,su,g4,r4];simp[WN,wW,mM,hi,v0]
 |true=>
  simp only[EE,↓BK];by_cases o1:op=1
  ·subst o1;simp only[EE,zA,xp,yf,B8,cG,g3];refine yq (WO (ui (0-a.n)) _) ?_;simp only[EE,zb,aad,Nat.reduceAdd,yJ,zZ,zi,zo,g4,r4];simp[WN,wW,mM,hi,ui]
  by_cases o2:op=2
  ·subst o2;simp only[EE,Int.reduceEq,zA,xp,yf,B7,Jf,cG,g3,zf1];refine yq (WO (notM a.n) _) ?_;simp only[EE,zb,aad,Nat.reduceAdd,yJ,zZ,zi,zo,g4,r4];simp[WN,wW,mM,hi]
  by_cases o3:op=3
  ·subst o3;simp only[EE,Int.reduceEq,zA,xp,Uv,zct,yf,B6,fU,Jf,cG,g3];refine yq (WO (ui (IntKind.wrap .i8 a.n)) _) ?_;simp only[EE,zb,aad,Nat.reduceAdd,yJ,zZ,zi,zo,g4,r4];simp[WN,wW,mM,hi,ui]
  by_cases o4:op=4
  ·subst o4;simp only[EE,Int.reduceEq,zA,xp,KQ,zex,yf,B5,sw,fU,Jf,cG,g3];refine yq (WO (ui (IntKind.wrap .i32 a.n)) _) ?_;simp only[EE,zb,aad,Nat.reduceAdd,yJ,zZ,zi,zo,g4,r4];simp[WN,wW,mM,hi,ui]
  simp only[EE,zb,aad,Nat.reduceAdd,yJ,zZ,zi,zo,zM,sw,fU,Jf,cG,Kf,g4,r4,o1,o2,o3,o4];simp[WN,wW,mM,hi,v0,o1,o2,o3,o4]
theorem xU(o:Option V):wW o=.tuple #[.agg #[pm (o.getD v0).k,pm (o.getD v0).n,pm (o.getD v0).b],.bool o.isSome]:=rfl
theorem kinds(a:V):(isInt a=true/\wK a=false)\/(isInt a=false/\wK a=true)\/(isInt a=false/\wK a=false):=by
 unfold isInt wK;by_cases h1:a.k=1
 ·have h2:¬a.k=2:=by omega
  cases kN a <;> simp[h1]
 ·by_cases h2:a.k=2
  ·cases kN a <;> simp[h2]
  ·simp[h1,h2]
theorem zcj(op:Int)(a b:V)(h:za):yO pu 68 [pm op,vv a,vv b] h (wW (yG op a b)):=by
 apply vz rfl;apply BB;unfold IC;simp only[EE,↓nw,Value.cells,↓BK,aad,Nat.reduceAdd,zZ,zi,y7,um];refine yq (zG a _) ?_
 have g4:(((h.lock.push (.cells [pm a.k,pm a.n,pm a.b] 66)).push (.cells [pm b.k,pm b.n,pm b.b] 66)).push (.cells [pm 0,pm 0,pm 0] 66)).get h.next=some (.cells [pm a.k,pm a.n,pm a.b] 66):=by
  rw[zt (by show h.next<h.next+1+1;omega),zt (by show h.next<h.next+1;omega)];exact zk
 have g5:(((h.lock.push (.cells [pm a.k,pm a.n,pm a.b] 66)).push (.cells [pm b.k,pm b.n,pm b.b] 66)).push (.cells [pm 0,pm 0,pm 0] 66)).get (h.next+1)=some (.cells [pm b.k,pm b.n,pm b.b] 66):=by
  rw[zt (by show h.next+1<h.next+1+1;omega)];exact zk
 have g6:(((h.lock.push (.cells [pm a.k,pm a.n,pm a.b] 66)).push (.cells [pm b.k,pm b.n,pm b.b] 66)).push (.cells [pm 0,pm 0,pm 0] 66)).get (h.next+1+1)=some (.cells [pm 0,pm 0,pm 0] 66):=zk;have r6:(((h.lock.push (.cells [pm a.k,pm a.n,pm a.b] 66)).push (.cells [pm b.k,pm b.n,pm b.b] 66)).push (.cells [pm 0,pm 0,pm 0] 66)).ro<=h.next+1+1:=by show h.next<=h.next+1+1;omega
 generalize (((h.lock.push (.cells [pm a.k,pm a.n,pm a.b] 66)).push (.cells [pm b.k,pm b.n,pm b.b] 66)).push (.cells [pm 0,pm 0,pm 0] 66))=H at g4 g5 g6 r6 ⊢;have xa:(isInt a=true/\wK a=false)\/(isInt a=false/\wK a=true)\/(isInt a=false/\wK a=false):=kinds a;have xb:(isInt b=true/\wK b=false)\/(isInt b=false/\wK b=true)\/(isInt b=false/\wK b=false):=kinds b;by_cases o11:op=11
 ·subst o11;rcases xa with⟨ia,pa⟩|⟨ia,pa⟩|⟨ia,pa⟩ <;> rcases xb with⟨ib,pb⟩|⟨ib,pb⟩|⟨ib,pb⟩
  ·have e:yG 11 a b=uk 11 a.n b.n:=by simp[yG,ia,ib]
   rw[e];simp only[EE,aad,Nat.reduceAdd,zZ,zi,yd,g5,ia]
   repeat (first|(refine yq (zG a H) ?_;simp only[EE])|(refine yq (zG b H) ?_;simp only[EE,zA,xp,yf,qZ,g4,g5,ia,ib])|(refine yq (zF a H) ?_;simp only[EE])|(refine yq (zF b H) ?_;simp only[EE]))
   refine yq (Dx _ a.n b.n H) ?_;simp only[xU,EE,zb,aad,Nat.reduceAdd,yJ,zZ,zi,zo,YY,g6,r6];rfl
  ·simp only[EE,aad,Nat.reduceAdd,zZ,zi,yd,g5,ia]
   repeat (first|(refine yq (zG a H) ?_;simp only[EE,aad,Nat.reduceAdd,zZ,zi,yx,g5,ia])|(refine yq (zG b H) ?_;simp only[EE,aad,Nat.reduceAdd,zZ,zi,yw,ym,g4,ia,ib])|(refine yq (zF a H) ?_;simp only[EE,aad,Nat.reduceAdd,zZ,zi,yy,yA,yu,g4,pa])|(refine yq (zF b H) ?_;simp only[EE,zA,xp,zj,yf,xM,Kd,g4,g5,pb]))
   refine yq (zcd b.b (ui (a.n+b.n)) H) ?_;simp only[EE,zb,aad,Nat.reduceAdd,yJ,zZ,zi,zo,g6,r6];simp[WN,wW,yG,ia,ib,pa,pb]
  ·simp only[EE,aad,Nat.reduceAdd,zZ,zi,yd,g5,ia]
   repeat (first|(refine yq (zG a H) ?_;simp only[EE,aad,Nat.reduceAdd,zZ,zi,yx,g5,ia])|(refine yq (zG b H) ?_;simp only[EE,aad,Nat.reduceAdd,zZ,zi,yw,ym,g4,ia,ib])|(refine yq (zF a H) ?_;simp only[EE,aad,Nat.reduceAdd,zZ,zi,yy,yA,yu,g4,pa])|(refine yq (zF b H) ?_;simp only[EE,zb,aad,Nat.reduceAdd,Int.reduceEq,yJ,zZ,zi,zo,zM,xB,xC,xD,yX,xi,yF,yT,g6,r6,pb]))
   simp[WN,wW,yG,ia,ib,pa,pb,v0]
  ·simp only[EE,aad,Nat.reduceAdd,zZ,zi,yw,ym,yd,g4,ia]
   repeat (first|(refine yq (zG a H) ?_;simp only[EE])|(refine yq (zG b H) ?_;simp only[EE,zA,xp,zj,yf,xM,ZM,g4,g5,ib])|(refine yq (zF a H) ?_;simp only[EE,aad,Nat.reduceAdd,zZ,zi,yu,g5,pa])|(refine yq (zF b H) ?_;simp only[EE]))
   refine yq (zcd a.b (ui (a.n+b.n)) H) ?_;simp only[EE,zb,aad,Nat.reduceAdd,yJ,zZ,zi,zo,g6,r6];simp[WN,wW,yG,ia,ib,pa]
  ·simp only[EE,aad,Nat.reduceAdd,zZ,zi,yw,ym,yd,g4,ia]
   repeat (first|(refine yq (zG a H) ?_;simp only[EE,zb,aad,Nat.reduceAdd,Int.reduceEq,yJ,zZ,zi,zo,zM,xB,xC,xD,yX,xi,yF,yx,yT,g6,r6,ia])|(refine yq (zG b H) ?_;simp only[EE,aad,Nat.reduceAdd,zZ,zi,yy,yA,g4,ib])|(refine yq (zF a H) ?_;simp only[EE,aad,Nat.reduceAdd,zZ,zi,yu,g5,pa])|(refine yq (zF b H) ?_;simp only[EE]))
   simp[WN,wW,yG,ia,ib,pa,pb,v0]
  ·simp only[EE,aad,Nat.reduceAdd,zZ,zi,yw,ym,yd,g4,ia]
   repeat (first|(refine yq (zG a H) ?_;simp only[EE,zb,aad,Nat.reduceAdd,Int.reduceEq,yJ,zZ,zi,zo,zM,xB,xC,xD,yX,xi,yF,yx,yT,g6,r6,ia])|(refine yq (zG b H) ?_;simp only[EE,aad,Nat.reduceAdd,zZ,zi,yy,yA,g4,ib])|(refine yq (zF a H) ?_;simp only[EE,aad,Nat.reduceAdd,zZ,zi,yu,g5,pa])|(refine yq (zF b H) ?_;simp only[EE]))
   simp[WN,wW,yG,ia,ib,pa,pb,v0]
  ·simp only[EE,aad,Nat.reduceAdd,zZ,zi,yw,ym,yd,g4,ia]
   repeat (first|(refine yq (zG a H) ?_;simp only[EE,zb,aad,Nat.reduceAdd,Int.reduceEq,yJ,zZ,zi,zo,zM,xB,xC,xD,yX,xi,yF,yx,yT,g6,r6,ia])|(refine yq (zG b H) ?_;simp only[EE])|(refine yq (zF a H) ?_;simp only[EE,aad,Nat.reduceAdd,zZ,zi,yy,yA,yu,g4,pa])|(refine yq (zF b H) ?_;simp only[EE]))
   simp[WN,wW,yG,ia,ib,pa,pb,v0]
  ·simp only[EE,aad,Nat.reduceAdd,zZ,zi,yw,ym,yd,g4,ia]
   repeat (first|(refine yq (zG a H) ?_;simp only[EE,zb,aad,Nat.reduceAdd,Int.reduceEq,yJ,zZ,zi,zo,zM,xB,xC,xD,yX,xi,yF,yx,yT,g6,r6,ia])|(refine yq (zG b H) ?_;simp only[EE])|(refine yq (zF a H) ?_;simp only[EE,aad,Nat.reduceAdd,zZ,zi,yy,yA,yu,g4,pa])|(refine yq (zF b H) ?_;simp only[EE]))
   simp[WN,wW,yG,ia,ib,pa,pb,v0]
  ·simp only[EE,aad,Nat.reduceAdd,zZ,zi,yw,ym,yd,g4,ia]
   repeat (first|(refine yq (zG a H) ?_;simp only[EE,zb,aad,Nat.reduceAdd,Int.reduceEq,yJ,zZ,zi,zo,zM,xB,xC,xD,yX,xi,yF,yx,yT,g6,r6,ia])|(refine yq (zG b H) ?_;simp only[EE])|(refine yq (zF a H) ?_;simp only[EE,aad,Nat.reduceAdd,zZ,zi,yy,yA,yu,g4,pa])|(refine yq (zF b H) ?_;simp only[EE]))
   simp[WN,wW,yG,ia,ib,pa,pb,v0]
 by_cases o12:op=12
 ·subst o12;rcases xa with⟨ia,pa⟩|⟨ia,pa⟩|⟨ia,pa⟩ <;> rcases xb with⟨ib,pb⟩|⟨ib,pb⟩|⟨ib,pb⟩
  ·have e:yG 12 a b=uk 12 a.n b.n:=by simp[yG,ia,ib]
   rw[e];simp only[EE,aad,Nat.reduceAdd,zZ,zi,yd,g5,ia]
   repeat (first|(refine yq (zG a H) ?_;simp only[EE])|(refine yq (zG b H) ?_;simp only[EE,zA,xp,yf,qZ,g4,g5,ia,ib])|(refine yq (zF a H) ?_;simp only[EE])|(refine yq (zF b H) ?_;simp only[EE]))
   refine yq (Dx _ a.n b.n H) ?_;simp only[xU,EE,zb,aad,Nat.reduceAdd,yJ,zZ,zi,zo,YY,g6,r6];rfl
  ·simp only[EE,aad,Nat.reduceAdd,zZ,zi,yd,g5,ia]
   repeat (first|(refine yq (zG a H) ?_;simp only[EE])|(refine yq (zG b H) ?_;simp only[EE,aad,Nat.reduceAdd,Int.reduceEq,zZ,zi,xi,yF,yx,yy,yA,yu,yw,ym,g4,ia,ib])|(refine yq (zF a H) ?_;simp only[EE,zb,aad,Nat.reduceAdd,Int.reduceEq,yJ,zZ,zi,zo,zM,xB,xC,xD,yX,yT,g6,r6,pa])|(refine yq (zF b H) ?_;simp only[EE]))
   simp[WN,wW,yG,ia,ib,pa,pb,v0]
  ·simp only[EE,aad,Nat.reduceAdd,zZ,zi,yd,g5,ia]
   repeat (first|(refine yq (zG a H) ?_;simp only[EE])|(refine yq (zG b H) ?_;simp only[EE,aad,Nat.reduceAdd,Int.reduceEq,zZ,zi,xi,yF,yx,yy,yA,yu,yw,ym,g4,ia,ib])|(refine yq (zF a H) ?_;simp only[EE,zb,aad,Nat.reduceAdd,Int.reduceEq,yJ,zZ,zi,zo,zM,xB,xC,xD,yX,yT,g6,r6,pa])|(refine yq (zF b H) ?_;simp only[EE]))
   simp[WN,wW,yG,ia,ib,pa,pb,v0]
  ·simp only[EE,aad,Nat.reduceAdd,Int.reduceEq,zZ,zi,xi,yF,yx,yy,yA,yu,yw,ym,yd,g4,ia]
   repeat (first|(refine yq (zG a H) ?_;simp only[EE])|(refine yq (zG b H) ?_;simp only[EE,zA,xp,zj,yf,xM,oz,g4,g5,ib])|(refine yq (zF a H) ?_;simp only[EE,aad,Nat.reduceAdd,zZ,zi,yX,g5,pa])|(refine yq (zF b H) ?_;simp only[EE]))
   refine yq (zcd a.b (ui (a.n-b.n)) H) ?_;simp only[EE,zb,aad,Nat.reduceAdd,yJ,zZ,zi,zo,g6,r6];simp[WN,wW,yG,ia,ib,pa,pb]
  ·simp only[EE,aad,Nat.reduceAdd,Int.reduceEq,zZ,zi,xi,yF,yx,yy,yA,yu,yw,ym,yd,g4,ia]
   repeat (first|(refine yq (zG a H) ?_;simp only[EE])|(refine yq (zG b H) ?_;simp only[EE,zb,aad,Nat.reduceAdd,Int.reduceEq,yJ,zZ,zi,zo,zM,xB,xC,xD,yT,g6,r6,ib])|(refine yq (zF a H) ?_;simp only[EE,aad,Nat.reduceAdd,zZ,zi,yX,g5,pa])|(refine yq (zF b H) ?_;simp only[EE]))
   simp[WN,wW,yG,ia,ib,pa,pb,v0]
  ·simp only[EE,aad,Nat.reduceAdd,Int.reduceEq,zZ,zi,xi,yF,yx,yy,yA,yu,yw,ym,yd,g4,ia]
   repeat (first|(refine yq (zG a H) ?_;simp only[EE])|(refine yq (zG b H) ?_;simp only[EE,zb,aad,Nat.reduceAdd,Int.reduceEq,yJ,zZ,zi,zo,zM,xB,xC,xD,yT,g6,r6,ib])|(refine yq (zF a H) ?_;simp only[EE,aad,Nat.reduceAdd,zZ,zi,yX,g5,pa])|(refine yq (zF b H) ?_;simp only[EE]))
   simp[WN,wW,yG,ia,ib,pa,pb,v0]
  ·simp only[EE,aad,Nat.reduceAdd,Int.reduceEq,zZ,zi,xi,yF,yx,yy,yA,yu,yw,ym,yd,g4,ia]
   repeat (first|(refine yq (zG a H) ?_;simp only[EE])|(refine yq (zG b H) ?_;simp only[EE])|(refine yq (zF a H) ?_;simp only[EE,zb,aad,Nat.reduceAdd,Int.reduceEq,yJ,zZ,zi,zo,zM,xB,xC,xD,yX,yT,g6,r6,pa])|(refine yq (zF b H) ?_;simp only[EE]))
   simp[WN,wW,yG,ia,ib,pa,pb,v0]
  ·simp only[EE,aad,Nat.reduceAdd,Int.reduceEq,zZ,zi,xi,yF,yx,yy,yA,yu,yw,ym,yd,g4,ia]
   repeat (first|(refine yq (zG a H) ?_;simp only[EE])|(refine yq (zG b H) ?_;simp only[EE])|(refine yq (zF a H) ?_;simp only[EE,zb,aad,Nat.reduceAdd,Int.reduceEq,yJ,zZ,zi,zo,zM,xB,xC,xD,yX,yT,g6,r6,pa])|(refine yq (zF b H) ?_;simp only[EE]))
   simp[WN,wW,yG,ia,ib,pa,pb,v0]
  ·simp only[EE,aad,Nat.reduceAdd,Int.reduceEq,zZ,zi,xi,yF,yx,yy,yA,yu,yw,ym,yd,g4,ia]
   repeat (first|(refine yq (zG a H) ?_;simp only[EE])|(refine yq (zG b H) ?_;simp only[EE])|(refine yq (zF a H) ?_;simp only[EE,zb,aad,Nat.reduceAdd,Int.reduceEq,yJ,zZ,zi,zo,zM,xB,xC,xD,yX,yT,g6,r6,pa])|(refine yq (zF b H) ?_;simp only[EE]))
   simp[WN,wW,yG,ia,ib,pa,pb,v0]
 by_cases o21:op=21
 ·subst o21;rcases xa with⟨ia,pa⟩|⟨ia,pa⟩|⟨ia,pa⟩ <;> rcases xb with⟨ib,pb⟩|⟨ib,pb⟩|⟨ib,pb⟩
  ·have e:yG 21 a b=uk 21 a.n b.n:=by simp[yG,ia,ib]
   rw[e];simp only[EE,aad,Nat.reduceAdd,zZ,zi,yd,g5,ia]
   repeat (first|(refine yq (zG a H) ?_;simp only[EE])|(refine yq (zG b H) ?_;simp only[EE,zA,xp,yf,qZ,g4,g5,ia,ib])|(refine yq (zF a H) ?_;simp only[EE])|(refine yq (zF b H) ?_;simp only[EE]))
   refine yq (Dx _ a.n b.n H) ?_;simp only[xU,EE,zb,aad,Nat.reduceAdd,yJ,zZ,zi,zo,YY,g6,r6];rfl
  ·have e:yG 21 a b=wO 21 a b:=by simp[yG,ia,ib,pa,pb]
   rw[e];simp only[EE,aad,Nat.reduceAdd,zZ,zi,yd,g5,ia]
   repeat (first|(refine yq (zG a H) ?_;simp only[EE])|(refine yq (zG b H) ?_;simp only[EE,aad,Nat.reduceAdd,Int.reduceEq,zZ,zi,xB,xC,xD,yX,xi,yF,yx,yy,yA,yu,yw,ym,g4,g5,ia,ib])|(refine yq (zF a H) ?_;simp only[EE])|(refine yq (zF b H) ?_;simp only[EE]))
   refine yq (j7 _ a b H) ?_;simp only[xU,EE,zb,aad,Nat.reduceAdd,yJ,zZ,zi,zo,qF,g6,r6];rfl
  ·have e:yG 21 a b=wO 21 a b:=by simp[yG,ia,ib,pa,pb]
   rw[e];simp only[EE,aad,Nat.reduceAdd,zZ,zi,yd,g5,ia]
   repeat (first|(refine yq (zG a H) ?_;simp only[EE])|(refine yq (zG b H) ?_;simp only[EE,aad,Nat.reduceAdd,Int.reduceEq,zZ,zi,xB,xC,xD,yX,xi,yF,yx,yy,yA,yu,yw,ym,g4,g5,ia,ib])|(refine yq (zF a H) ?_;simp only[EE])|(refine yq (zF b H) ?_;simp only[EE]))
   refine yq (j7 _ a b H) ?_;simp only[xU,EE,zb,aad,Nat.reduceAdd,yJ,zZ,zi,zo,qF,g6,r6];rfl
  ·have e:yG 21 a b=wO 21 a b:=by simp[yG,ia,ib,pa,pb]
   rw[e];simp only[EE,aad,Nat.reduceAdd,Int.reduceEq,zZ,zi,xB,xC,xD,yX,xi,yF,yx,yy,yA,yu,yw,ym,yd,g4,g5,ia]
   repeat (first|(refine yq (zG a H) ?_;simp only[EE])|(refine yq (zG b H) ?_;simp only[EE])|(refine yq (zF a H) ?_;simp only[EE])|(refine yq (zF b H) ?_;simp only[EE]))
   refine yq (j7 _ a b H) ?_;simp only[xU,EE,zb,aad,Nat.reduceAdd,yJ,zZ,zi,zo,qF,g6,r6];rfl
  ·have e:yG 21 a b=wO 21 a b:=by simp[yG,ia,ib,pa,pb]
   rw[e];simp only[EE,aad,Nat.reduceAdd,Int.reduceEq,zZ,zi,xB,xC,xD,yX,xi,yF,yx,yy,yA,yu,yw,ym,yd,g4,g5,ia]
   repeat (first|(refine yq (zG a H) ?_;simp only[EE])|(refine yq (zG b H) ?_;simp only[EE])|(refine yq (zF a H) ?_;simp only[EE])|(refine yq (zF b H) ?_;simp only[EE]))
   refine yq (j7 _ a b H) ?_;simp only[xU,EE,zb,aad,Nat.reduceAdd,yJ,zZ,zi,zo,qF,g6,r6];rfl
  ·have e:yG 21 a b=wO 21 a b:=by simp[yG,ia,ib,pa,pb]
   rw[e];simp only[EE,aad,Nat.reduceAdd,Int.reduceEq,zZ,zi,xB,xC,xD,yX,xi,yF,yx,yy,yA,yu,yw,ym,yd,g4,g5,ia]
   repeat (first|(refine yq (zG a H) ?_;simp only[EE])|(refine yq (zG b H) ?_;simp only[EE])|(refine yq (zF a H) ?_;simp only[EE])|(refine yq (zF b H) ?_;simp only[EE]))
   refine yq (j7 _ a b H) ?_;simp only[xU,EE,zb,aad,Nat.reduceAdd,yJ,zZ,zi,zo,qF,g6,r6];rfl
  ·have e:yG 21 a b=wO 21 a b:=by simp[yG,ia,ib,pa,pb]
   rw[e];simp only[EE,aad,Nat.reduceAdd,Int.reduceEq,zZ,zi,xB,xC,xD,yX,xi,yF,yx,yy,yA,yu,yw,ym,yd,g4,g5,ia]
   repeat (first|(refine yq (zG a H) ?_;simp only[EE])|(refine yq (zG b H) ?_;simp only[EE])|(refine yq (zF a H) ?_;simp only[EE])|(refine yq (zF b H) ?_;simp only[EE]))
   refine yq (j7 _ a b H) ?_;simp only[xU,EE,zb,aad,Nat.reduceAdd,yJ,zZ,zi,zo,qF,g6,r6];rfl
  ·have e:yG 21 a b=wO 21 a b:=by simp[yG,ia,ib,pa,pb]
   rw[e];simp only[EE,aad,Nat.reduceAdd,Int.reduceEq,zZ,zi,xB,xC,xD,yX,xi,yF,yx,yy,yA,yu,yw,ym,yd,g4,g5,ia]
   repeat (first|(refine yq (zG a H) ?_;simp only[EE])|(refine yq (zG b H) ?_;simp only[EE])|(refine yq (zF a H) ?_;simp only[EE])|(refine yq (zF b H) ?_;simp only[EE]))
   refine yq (j7 _ a b H) ?_;simp only[xU,EE,zb,aad,Nat.reduceAdd,yJ,zZ,zi,zo,qF,g6,r6];rfl
  ·have e:yG 21 a b=wO 21 a b:=by simp[yG,ia,ib,pa,pb]
   rw[e];simp only[EE,aad,Nat.reduceAdd,Int.reduceEq,zZ,zi,xB,xC,xD,yX,xi,yF,yx,yy,yA,yu,yw,ym,yd,g4,g5,ia]
   repeat (first|(refine yq (zG a H) ?_;simp only[EE])|(refine yq (zG b H) ?_;simp only[EE])|(refine yq (zF a H) ?_;simp only[EE])|(refine yq (zF b H) ?_;simp only[EE]))
   refine yq (j7 _ a b H) ?_;simp only[xU,EE,zb,aad,Nat.reduceAdd,yJ,zZ,zi,zo,qF,g6,r6];rfl
 by_cases o22:op=22
 ·subst o22;rcases xa with⟨ia,pa⟩|⟨ia,pa⟩|⟨ia,pa⟩ <;> rcases xb with⟨ib,pb⟩|⟨ib,pb⟩|⟨ib,pb⟩
  ·have e:yG 22 a b=uk 22 a.n b.n:=by simp[yG,ia,ib]
   rw[e];simp only[EE,aad,Nat.reduceAdd,zZ,zi,yd,g5,ia]
   repeat (first|(refine yq (zG a H) ?_;simp only[EE])|(refine yq (zG b H) ?_;simp only[EE,zA,xp,yf,qZ,g4,g5,ia,ib])|(refine yq (zF a H) ?_;simp only[EE])|(refine yq (zF b H) ?_;simp only[EE]))
   refine yq (Dx _ a.n b.n H) ?_;simp only[xU,EE,zb,aad,Nat.reduceAdd,yJ,zZ,zi,zo,YY,g6,r6];rfl
  ·have e:yG 22 a b=wO 22 a b:=by simp[yG,ia,ib,pa,pb]
   rw[e];simp only[EE,aad,Nat.reduceAdd,zZ,zi,yd,g5,ia]
   repeat (first|(refine yq (zG a H) ?_;simp only[EE])|(refine yq (zG b H) ?_;simp only[EE,aad,Nat.reduceAdd,Int.reduceEq,zZ,zi,xB,xC,xD,yX,xi,yF,yx,yy,yA,yu,yw,ym,g4,g5,ia,ib])|(refine yq (zF a H) ?_;simp only[EE])|(refine yq (zF b H) ?_;simp only[EE]))
   refine yq (j7 _ a b H) ?_;simp only[xU,EE,zb,aad,Nat.reduceAdd,yJ,zZ,zi,zo,qF,g6,r6];rfl
  ·have e:yG 22 a b=wO 22 a b:=by simp[yG,ia,ib,pa,pb]
   rw[e];simp only[EE,aad,Nat.reduceAdd,zZ,zi,yd,g5,ia]
   repeat (first|(refine yq (zG a H) ?_;simp only[EE])|(refine yq (zG b H) ?_;simp only[EE,aad,Nat.reduceAdd,Int.reduceEq,zZ,zi,xB,xC,xD,yX,xi,yF,yx,yy,yA,yu,yw,ym,g4,g5,ia,ib])|(refine yq (zF a H) ?_;simp only[EE])|(refine yq (zF b H) ?_;simp only[EE]))
   refine yq (j7 _ a b H) ?_;simp only[xU,EE,zb,aad,Nat.reduceAdd,yJ,zZ,zi,zo,qF,g6,r6];rfl
  ·have e:yG 22 a b=wO 22 a b:=by simp[yG,ia,ib,pa,pb]
   rw[e];simp only[EE,aad,Nat.reduceAdd,Int.reduceEq,zZ,zi,xB,xC,xD,yX,xi,yF,yx,yy,yA,yu,yw,ym,yd,g4,g5,ia]
   repeat (first|(refine yq (zG a H) ?_;simp only[EE])|(refine yq (zG b H) ?_;simp only[EE])|(refine yq (zF a H) ?_;simp only[EE])|(refine yq (zF b H) ?_;simp only[EE]))
   refine yq (j7 _ a b H) ?_;simp only[xU,EE,zb,aad,Nat.reduceAdd,yJ,zZ,zi,zo,qF,g6,r6];rfl
  ·have e:yG 22 a b=wO 22 a b:=by simp[yG,ia,ib,pa,pb]
   rw[e];simp only[EE,aad,Nat.reduceAdd,Int.reduceEq,zZ,zi,xB,xC,xD,yX,xi,yF,yx,yy,yA,yu,yw,ym,yd,g4,g5,ia]
   repeat (first|(refine yq (zG a H) ?_;simp only[EE])|(refine yq (zG b H) ?_;simp only[EE])|(refine yq (zF a H) ?_;simp only[EE])|(refine yq (zF b H) ?_;simp only[EE]))
   refine yq (j7 _ a b H) ?_;simp only[xU,EE,zb,aad,Nat.reduceAdd,yJ,zZ,zi,zo,qF,g6,r6];rfl
  ·have e:yG 22 a b=wO 22 a b:=by simp[yG,ia,ib,pa,pb]
   rw[e];simp only[EE,aad,Nat.reduceAdd,Int.reduceEq,zZ,zi,xB,xC,xD,yX,xi,yF,yx,yy,yA,yu,yw,ym,yd,g4,g5,ia]
   repeat (first|(refine yq (zG a H) ?_;simp only[EE])|(refine yq (zG b H) ?_;simp only[EE])|(refine yq (zF a H) ?_;simp only[EE])|(refine yq (zF b H) ?_;simp only[EE]))
   refine yq (j7 _ a b H) ?_;simp only[xU,EE,zb,aad,Nat.reduceAdd,yJ,zZ,zi,zo,qF,g6,r6];rfl
  ·have e:yG 22 a b=wO 22 a b:=by simp[yG,ia,ib,pa,pb]
   rw[e];simp only[EE,aad,Nat.reduceAdd,Int.reduceEq,zZ,zi,xB,xC,xD,yX,xi,yF,yx,yy,yA,yu,yw,ym,yd,g4,g5,ia]
   repeat (first|(refine yq (zG a H) ?_;simp only[EE])|(refine yq (zG b H) ?_;simp only[EE])|(refine yq (zF a H) ?_;simp only[EE])|(refine yq (zF b H) ?_;simp only[EE]))
   refine yq (j7 _ a b H) ?_;simp only[xU,EE,zb,aad,Nat.reduceAdd,yJ,zZ,zi,zo,qF,g6,r6];rfl
  ·have e:yG 22 a b=wO 22 a b:=by simp[yG,ia,ib,pa,pb]
   rw[e];simp only[EE,aad,Nat.reduceAdd,Int.reduceEq,zZ,zi,xB,xC,xD,yX,xi,yF,yx,yy,yA,yu,yw,ym,yd,g4,g5,ia]
   repeat (first|(refine yq (zG a H) ?_;simp only[EE])|(refine yq (zG b H) ?_;simp only[EE])|(refine yq (zF a H) ?_;simp only[EE])|(refine yq (zF b H) ?_;simp only[EE]))
   refine yq (j7 _ a b H) ?_;simp only[xU,EE,zb,aad,Nat.reduceAdd,yJ,zZ,zi,zo,qF,g6,r6];rfl
  ·have e:yG 22 a b=wO 22 a b:=by simp[yG,ia,ib,pa,pb]
   rw[e];simp only[EE,aad,Nat.reduceAdd,Int.reduceEq,zZ,zi,xB,xC,xD,yX,xi,yF,yx,yy,yA,yu,yw,ym,yd,g4,g5,ia]
   repeat (first|(refine yq (zG a H) ?_;simp only[EE])|(refine yq (zG b H) ?_;simp only[EE])|(refine yq (zF a H) ?_;simp only[EE])|(refine yq (zF b H) ?_;simp only[EE]))
   refine yq (j7 _ a b H) ?_;simp only[xU,EE,zb,aad,Nat.reduceAdd,yJ,zZ,zi,zo,qF,g6,r6];rfl
 ·skip
  rcases xa with⟨ia,pa⟩|⟨ia,pa⟩|⟨ia,pa⟩ <;> rcases xb with⟨ib,pb⟩|⟨ib,pb⟩|⟨ib,pb⟩
  ·have e:yG op a b=uk op a.n b.n:=by simp[yG,ia,ib]
   rw[e];simp only[EE,aad,Nat.reduceAdd,zZ,zi,yd,g5,ia]
   repeat (first|(refine yq (zG a H) ?_;simp only[EE])|(refine yq (zG b H) ?_;simp only[EE,zA,xp,yf,qZ,g4,g5,ia,ib])|(refine yq (zF a H) ?_;simp only[EE])|(refine yq (zF b H) ?_;simp only[EE]))
   refine yq (Dx _ a.n b.n H) ?_;simp only[xU,EE,zb,aad,Nat.reduceAdd,yJ,zZ,zi,zo,YY,g6,r6];rfl
  ·simp only[EE,aad,Nat.reduceAdd,zZ,zi,yd,g5,ia]
   repeat (first|(refine yq (zG a H) ?_;simp only[EE])|(refine yq (zG b H) ?_;simp only[EE,zb,aad,Nat.reduceAdd,yJ,zZ,zi,zo,zM,xB,xC,xD,yX,xi,yF,yx,yy,yA,yu,yw,ym,yT,g6,r6,ia,ib,o11,o12,o21,o22])|(refine yq (zF a H) ?_;simp only[EE])|(refine yq (zF b H) ?_;simp only[EE]))
   simp[WN,wW,yG,ia,ib,pa,pb,v0,o11,o12,o21,o22]
  ·simp only[EE,aad,Nat.reduceAdd,zZ,zi,yd,g5,ia]
   repeat (first|(refine yq (zG a H) ?_;simp only[EE])|(refine yq (zG b H) ?_;simp only[EE,zb,aad,Nat.reduceAdd,yJ,zZ,zi,zo,zM,xB,xC,xD,yX,xi,yF,yx,yy,yA,yu,yw,ym,yT,g6,r6,ia,ib,o11,o12,o21,o22])|(refine yq (zF a H) ?_;simp only[EE])|(refine yq (zF b H) ?_;simp only[EE]))
   simp[WN,wW,yG,ia,ib,pa,pb,v0,o11,o12,o21,o22]
  ·simp only[EE,zb,aad,Nat.reduceAdd,yJ,zZ,zi,zo,zM,xB,xC,xD,yX,xi,yF,yx,yy,yA,yu,yw,ym,yd,yT,g6,r6,ia,o11,o12,o21,o22]
   repeat (first|(refine yq (zG a H) ?_;simp only[EE])|(refine yq (zG b H) ?_;simp only[EE])|(refine yq (zF a H) ?_;simp only[EE])|(refine yq (zF b H) ?_;simp only[EE]))
   simp[WN,wW,yG,ia,ib,pa,pb,v0,o11,o12,o21,o22]
  ·simp only[EE,zb,aad,Nat.reduceAdd,yJ,zZ,zi,zo,zM,xB,xC,xD,yX,xi,yF,yx,yy,yA,yu,yw,ym,yd,yT,g6,r6,ia,o11,o12,o21,o22]
   repeat (first|(refine yq (zG a H) ?_;simp only[EE])|(refine yq (zG b H) ?_;simp only[EE])|(refine yq (zF a H) ?_;simp only[EE])|(refine yq (zF b H) ?_;simp only[EE]))
   simp[WN,wW,yG,ia,ib,pa,pb,v0,o11,o12,o21,o22]
  ·simp only[EE,zb,aad,Nat.reduceAdd,yJ,zZ,zi,zo,zM,xB,xC,xD,yX,xi,yF,yx,yy,yA,yu,yw,ym,yd,yT,g6,r6,ia,o11,o12,o21,o22]
   repeat (first|(refine yq (zG a H) ?_;simp only[EE])|(refine yq (zG b H) ?_;simp only[EE])|(refine yq (zF a H) ?_;simp only[EE])|(refine yq (zF b H) ?_;simp only[EE]))
   simp[WN,wW,yG,ia,ib,pa,pb,v0,o11,o12,o21,o22]
  ·simp only[EE,zb,aad,Nat.reduceAdd,yJ,zZ,zi,zo,zM,xB,xC,xD,yX,xi,yF,yx,yy,yA,yu,yw,ym,yd,yT,g6,r6,ia,o11,o12,o21,o22]
   repeat (first|(refine yq (zG a H) ?_;simp only[EE])|(refine yq (zG b H) ?_;simp only[EE])|(refine yq (zF a H) ?_;simp only[EE])|(refine yq (zF b H) ?_;simp only[EE]))
   simp[WN,wW,yG,ia,ib,pa,pb,v0,o11,o12,o21,o22]
  ·simp only[EE,zb,aad,Nat.reduceAdd,yJ,zZ,zi,zo,zM,xB,xC,xD,yX,xi,yF,yx,yy,yA,yu,yw,ym,yd,yT,g6,r6,ia,o11,o12,o21,o22]
   repeat (first|(refine yq (zG a H) ?_;simp only[EE])|(refine yq (zG b H) ?_;simp only[EE])|(refine yq (zF a H) ?_;simp only[EE])|(refine yq (zF b H) ?_;simp only[EE]))
   simp[WN,wW,yG,ia,ib,pa,pb,v0,o11,o12,o21,o22]
  ·simp only[EE,zb,aad,Nat.reduceAdd,yJ,zZ,zi,zo,zM,xB,xC,xD,yX,xi,yF,yx,yy,yA,yu,yw,ym,yd,yT,g6,r6,ia,o11,o12,o21,o22]
   repeat (first|(refine yq (zG a H) ?_;simp only[EE])|(refine yq (zG b H) ?_;simp only[EE])|(refine yq (zF a H) ?_;simp only[EE])|(refine yq (zF b H) ?_;simp only[EE]))
   simp[WN,wW,yG,ia,ib,pa,pb,v0,o11,o12,o21,o22]
end Go.Rm
namespace Go.Rtl
open Go.Ai Go.Proofs
def mL{α β:Type}(xs:List α)(ys:List β)(R:α->β->Bool)(k:Nat):Bool:=match xs[k]?,ys[k]? with
 |some x,some y=>R x y
 |_,_=>true
def YV{α β:Type}(R:α->β->Bool)(xs:List α)(ys:List β):Bool:=(List.range xs.length).all (mL xs ys R)
theorem bL{α β:Type}{xs:List α}{ys:List β}{R:α->β->Bool}{k:Nat}{x:α}{y:β}(hx:xs[k]? = some x)(hy:ys[k]? = some y):mL xs ys R k=R x y:=by
 simp only[mL,hx,hy]
theorem iU{α β:Type}{xs:List α}{ys:List β}{R:α->β->Bool}{k:Nat}{x:α}{y:β}(hx:xs[k]? = some x)(hy:ys[k]? = some y)(hr:R x y=false):YV R xs ys=false:=by
 refine Z4 (k:=k) ?_ (by rw[bL hx hy,hr]);rcases aar k xs.length with q|q
 ·exact q
 ·rw[aal q]at hx;cases hx
def EJ(a b:Int):Bool:=decide (a=b)
def ZQ(x y:xG):Bool:=decide (x.op=y.op)&&(decide (x.sub=y.sub)&&(decide (x.a=y.a)&&(decide (x.b=y.b)&&(decide (x.d=y.d)&&(decide (x.k=y.k)&&(decide (x.s=y.s)&&(decide (x.t=y.t)&&(decide ((x.args.length:Int)=y.args.length)&&YV EJ x.args y.args))))))))
section
variable {h:za}{b1 b2:Nat}{B:Bool}
theorem si3{x y:xG}{v0:aaa}(X:wt h x)(Y:wt h y)(hg1:h.get b1=some (xQ x))(hg2:h.get b2=some (xQ y))(hl:(x.args.length:Int)=y.args.length)(hB:B=YV EJ x.args y.args) :
  LP (Xq (pi b1) (λ_ h96=>u3 B (.bool true) h96) (pi b2) (u3 B)) [v0,(pm 0)] h:=by
 refine bT (λg=>g=h) x.args.length (mL x.args y.args EJ) rfl ?_;intro i h2 J hi hh hq hJ;subst hh;have xn:=X.args.wk;have yn:=Y.args.wk;have xl:=X.args.kY 3;rcases aar i x.args.length with hlt|hge
 ·obtain⟨z,hz,_⟩:=get_some hlt;obtain⟨w,hw,_⟩:=get_some (l:=y.args) (k:=i) (by omega);obtain⟨b,o,c,t,ha,hbb,hgt,hco⟩:=X.args.at hz;obtain⟨b',o',c',t',ha',hbb',hgt',hco'⟩:=Y.args.at hw;have hlt':(i:Int)<(x.args.length:Int):=by omega
  have hinc:IntKind.wrap .i64 ((i:Int)+1)=((i+1:Nat):Int):=inc (by have:=X.oj;omega);by_cases e:z=w
  ·simp only[EE,nth,↓BK,zA,yS,zj,kR,Je,mn,Xq,hg1,hg2,xn,xl,hlt',ha,hgt,hco,ha',hgt',hco',e,hinc];exact hJ _ hlt (by rw[bL hz hw];simp[EJ,e]) rfl
  ·simp only[EE,nth,↓BK,zA,yS,zj,kR,Je,Xq,hg1,hg2,xn,xl,hlt',ha,hgt,hco,ha',hgt',hco',e];rw[hB,iU hz hw (by simp[EJ,e])];rfl
 ·have hlt':¬(i:Int)<(x.args.length:Int):=by omega
  simp only[EE,nth,zA,yS,kR,Xq,hg1,xn,xl,hlt'];have:YV EJ x.args y.args=true:=Z3 λk hk=>hq k (by omega);rw[hB,this];rfl
end
theorem zaR(x y:xG)(h:za)(X:wt h x)(Y:wt h y):yO pu 53 [x.val,y.val] h (.bool (ZQ x y)):=by
 apply uh;replace X:=X.lock;replace Y:=Y.lock;generalize h.lock=L at X Y;apply BZ;unfold Aj;have xn:=X.args.wk;have yn:=Y.args.wk;simp only[EE,↓nw,Value.cells,zA,zj,zw];have e:Old L ((L.push (xQ x)).push (xQ y)):=(Old.push _ _).trans (Old.push _ _)
 have g1:((L.push (xQ x)).push (xQ y)).get L.next=some (xQ x):=by
  rw[zt (aaH _)];exact zk
 have g2:((L.push (xQ x)).push (xQ y)).get (L.next+1)=some (xQ y):=zk;generalize (L.push (xQ x)).push (xQ y)=H at e g1 g2;have X2:=X.old e;have Y2:=Y.old e;have xl:=X2.args.kY 3;have yl:=Y2.args.kY 3;unfold ZQ;by_cases c1:x.op=y.op
 case neg=>simp only[EE,v7,v8,v9,ua,ub,uc,w9,vd,ve,vf,vg,vh,vi,vj,vk,vm,vo,vp,vq,vr,vt,c1];simp[u3]
 by_cases c2:x.sub=y.sub
 case neg=>simp only[EE,zA,zj,yj,v7,v8,v9,ua,ub,uc,w9,vd,ve,vf,vg,vh,vi,vj,vk,vm,vo,vp,vq,vr,vt,g1,g2,c1,c2];simp[u3]
 by_cases c3:x.a=y.a
 case neg=>simp only[EE,zA,zj,yj,xk,v7,v8,v9,ua,ub,uc,w9,vd,ve,vf,vg,vh,vi,vj,vk,vm,vo,vp,vq,vr,vt,g1,g2,c1,c2,c3];simp[u3]
 by_cases c4:x.b=y.b
 case neg=>simp only[EE,zA,zj,yj,xk,qM,v7,v8,v9,ua,ub,uc,w9,vd,ve,vf,vg,vh,vi,vj,vk,vm,vo,vp,vq,vr,vt,g1,g2,c1,c2,c3,c4];simp[u3]
 by_cases c5:x.d=y.d
 case neg=>simp only[EE,zA,zj,yj,xk,qM,x8,v7,v8,v9,ua,ub,uc,w9,vd,ve,vf,vg,vh,vi,vj,vk,vm,vo,vp,vq,vr,vt,g1,g2,c1,c2,c3,c4,c5];simp[u3]
 by_cases c6:x.k=y.k
 case neg=>simp only[EE,zA,xp,zj,yj,xk,qM,x8,vR,v7,v8,v9,ua,ub,uc,w9,vd,ve,vf,vg,vh,vi,vj,vk,vm,vo,vp,vq,vr,vt,g1,g2,c1,c2,c3,c4,c5,c6];simp[u3]
 by_cases c7:x.s=y.s
 case neg=>simp only[EE,zA,xp,zj,yj,xk,qM,x8,vR,Xb,v7,v8,v9,ua,ub,uc,w9,vd,ve,vf,vg,vh,vi,vj,vk,vm,vo,vp,vq,vr,vt,g1,g2,c1,c2,c3,c4,c5,c6,c7];simp[u3]
 by_cases c8:x.t=y.t
 case neg=>simp only[EE,zA,xp,zj,yj,xk,qM,x8,vR,Xb,dW,v7,v8,v9,ua,ub,uc,w9,vd,ve,vf,vg,vh,vi,vj,vk,vm,vo,vp,vq,vr,vt,g1,g2,c1,c2,c3,c4,c5,c6,c7,c8];simp[u3]
 by_cases c9:(x.args.length:Int)=y.args.length
 case neg=>simp only[EE,zA,xp,yS,zj,yj,xk,qM,x8,vR,kR,Xb,dW,v7,v8,v9,ua,ub,uc,w9,vd,ve,vf,vg,vh,vi,vj,vk,vm,vo,vp,vq,vr,vt,g1,g2,xn,yn,xl,yl,c1,c2,c3,c4,c5,c6,c7,c8,c9];simp[u3]
 simp only[EE,nth,↓BK,zA,xp,yS,zj,yj,xk,qM,x8,vR,kR,Xb,dW,v7,v8,v9,ua,ub,uc,w9,vd,ve,vf,vg,vh,vi,vj,vk,vm,vo,vp,vq,vr,vt,g1,g2,xn,yn,xl,yl,c1,c2,c3,c4,c5,c6,c7,c8,c9];refine si3 X2 Y2 g1 g2 c9 ?_;simp
def Xg(f g:Fn):Bool:=(f.nm.toList == g.nm.toList)&&(decide (f.zf=g.zf)&&(decide (f.frame=g.frame)&&(decide (f.entry=g.entry)&&(decide ((f.params.length:Int)=g.params.length)&&(decide ((f.code.length:Int)=g.code.length)&&(YV EJ f.params g.params&&YV ZQ f.code g.code))))))
def V0(p q:Pg):Bool:=decide (p.main=q.main)&&(decide ((p.funcs.length:Int)=q.funcs.length)&&(decide ((p.globals.length:Int)=q.globals.length)&&(YV EJ p.globals q.globals&&YV Xg p.funcs q.funcs)))
section
variable {h:za}{b1 b2:Nat}{B:Bool}
theorem sf7{f g:Fn}{v0:aaa}(F:qE h f)(G:qE h g)(hb1:b1<h.next)(hb2:b2<h.next)(hg1:h.get b1=some (ug f))(hg2:h.get b2=some (ug g))(hl:(f.code.length:Int)=g.code.length)(hB:B=YV ZQ f.code g.code) :
  LP (oR (pi b1) (λ_ h88=>u3 B (.bool true) h88) (pi b2) (u3 B)) [v0,(pm 0)] h:=by
 refine bT (λg=>g=h) f.code.length (mL f.code g.code ZQ) rfl ?_;intro i h2 J hi hh hq hJ;subst hh;have fn:=F.code.wk;have gn:=G.code.wk;have fl:=F.code.K3 3;rw[aaf]at fl;rcases aar i f.code.length with hlt|hge
 ·obtain⟨x,hx,hxm⟩:=get_some hlt;obtain⟨y,hy,hym⟩:=get_some (l:=g.code) (k:=i) (by omega);obtain⟨b,o,c,t,ha,hbb,hgt,hle,htk,_⟩:=F.code.ED (i:=i) (r:=x.row) (by rw[aaq,hx];rfl) rfl;obtain⟨b',o',c',t',ha',hbb',hgt',hle',htk',_⟩:=G.code.ED (i:=i) (r:=y.row) (by rw[aaq,hy];rfl) rfl;have X:=F.ins x hxm;have Y:=G.ins y hym;have hlt':(i:Int)<(f.code.length:Int):=by omega
  have hinc:IntKind.wrap .i64 ((i:Int)+1)=((i+1:Nat):Int):=inc (by have:=F.tu;omega);simp only[EE,nth,↓BK,aad,zZ,zA,uS,qI,xL,fT,oR,hg1,hg2,fn,fl,hlt',ha,hgt,hle,htk,ha',hgt',hle',htk'];refine pL (by kernel_rfl) (by simp only[EE]) (zaR x y h2 X Y).dc ?_;rintro v h3 ⟨rfl,rfl⟩;cases hI:ZQ x y with
  |true=>
   simp only[EE,nth,J0,Ld,hinc];exact hJ _ hlt (by rw[bL hx hy];exact hI) rfl
  |false=>
   simp only[EE,J0];rw[hB,iU hx hy hI];rfl
 ·have hlt':¬(i:Int)<(f.code.length:Int):=by omega
  simp only[EE,nth,zA,uS,xL,oR,hg1,fn,fl,hlt'];have:YV ZQ f.code g.code=true:=Z3 λk hk=>hq k (by omega);rw[hB,this];rfl
theorem sf3{f g:Fn}{v0:aaa}(F:qE h f)(G:qE h g)(hb1:b1<h.next)(hb2:b2<h.next)(hg1:h.get b1=some (ug f))(hg2:h.get b2=some (ug g))(hl:(f.params.length:Int)=g.params.length)(hlc:(f.code.length:Int)=g.code.length)(hB:B=(YV EJ f.params g.params&&YV ZQ f.code g.code)) :
  B4 (pi b1) (pi b2) (u3 B) [v0] h:=by
 simp only[nth,↓BK,B4];refine bT (λg=>g=h) f.params.length (mL f.params g.params EJ) rfl ?_;intro i h2 J hi hh hq hJ;subst hh;have fn:=F.params.wk;have gn:=G.params.wk;have fl:=F.params.kY 3;rcases aar i f.params.length with hlt|hge
 ·obtain⟨z,hz,_⟩:=get_some hlt;obtain⟨w,hw,_⟩:=get_some (l:=g.params) (k:=i) (by omega);obtain⟨b,o,c,t,ha,hbb,hgt,hco⟩:=F.params.at hz;obtain⟨b',o',c',t',ha',hbb',hgt',hco'⟩:=G.params.at hw;have hlt':(i:Int)<(f.params.length:Int):=by omega
  have hinc:IntKind.wrap .i64 ((i:Int)+1)=((i+1:Nat):Int):=inc (by have:=F.ET;omega);by_cases e:z=w
  ·simp only[EE,nth,↓BK,zA,yS,zj,uA,JZ,fS,Qv,hg1,hg2,fn,fl,hlt',ha,hgt,hco,ha',hgt',hco',e,hinc];exact hJ _ hlt (by rw[bL hz hw];simp[EJ,e]) rfl
  ·simp only[EE,nth,↓BK,zA,yS,zj,uA,JZ,Qv,hg1,hg2,fn,fl,hlt',ha,hgt,hco,ha',hgt',hco',e];rw[hB,iU hz hw (by simp[EJ,e])];rfl
 ·have hlt':¬(i:Int)<(f.params.length:Int):=by omega
  simp only[EE,nth,zA,yS,uA,Qv,hg1,fn,fl,hlt'];have:YV EJ f.params g.params=true:=Z3 λk hk=>hq k (by omega);exact sf7 F G hb1 hb2 hg1 hg2 hlc (by rw[hB,this,aa2])
end
theorem zdJ(f g:Fn)(h:za)(F:qE h f)(G:qE h g):yO pu 26 [f.val,g.val] h (.bool (Xg f g)):=by
 apply uh;replace F:=F.lock;replace G:=G.lock;generalize h.lock=L at F G;apply sr;unfold BY;have fp:=F.params.wk;have fc:=F.code.wk;have gp:=G.params.wk;have gc:=G.code.wk;have e:Old L ((L.push (ug f)).push (ug g)):=(Old.push _ _).trans (Old.push _ _)
 have g1:((L.push (ug f)).push (ug g)).get L.next=some (ug f):=by
  rw[zt (aaH _)];exact zk
 have g2:((L.push (ug f)).push (ug g)).get (L.next+1)=some (ug g):=zk;have n1:L.next<((L.push (ug f)).push (ug g)).next:=by show L.next<L.next+1+1;omega
 have n2:L.next+1<((L.push (ug f)).push (ug g)).next:=by show L.next+1<L.next+1+1;omega
 have F2:=F.old e;have G2:=G.old e;have fpl:=F2.params.kY 3;have gpl:=G2.params.kY 3;have fcl:=F2.code.K3 3;have gcl:=G2.code.K3 3;rw[aaf]at fcl gcl;unfold Xg;cases c1:f.nm.toList == g.nm.toList with
 |false=>simp only[EE,↓nw,Value.cells,zA,zhO,Sr,zfW,Uk,XW,XX,XY,XZ,X0,X1,X3,X4,X5,X6,X7,X8,X9,c1];simp[u3]
 |true=>
 simp only[EE,↓nw,Value.cells,zA,zj,zhO,Sr,wh,zfW,c1];generalize (L.push (ug f)).push (ug g)=H at e g1 g2 F2 G2 n1 n2 ⊢;by_cases c2:f.zf=g.zf
 case neg=>simp only[EE,zA,zj,wh,Uk,XW,XX,XY,XZ,X0,X1,X3,X4,X5,X6,X7,X8,X9,g2,c2];simp[u3]
 by_cases c3:f.frame=g.frame
 case neg=>simp only[EE,zA,zj,wh,kQ,Uk,XW,XX,XY,XZ,X0,X1,X3,X4,X5,X6,X7,X8,X9,g1,g2,c2,c3];simp[u3]
 by_cases c4:f.entry=g.entry
 case neg=>simp only[EE,zA,zj,wh,kQ,XC,Uk,XW,XX,XY,XZ,X0,X1,X3,X4,X5,X6,X7,X8,X9,g1,g2,c2,c3,c4];simp[u3]
 by_cases c5:(f.params.length:Int)=g.params.length
 case neg=>simp only[EE,zA,yS,zj,uA,wh,kQ,XC,Uk,XW,XX,XY,XZ,X0,X1,X3,X4,X5,X6,X7,X8,X9,g1,g2,fp,gp,fpl,gpl,c2,c3,c4,c5];simp[u3]
 by_cases c6:(f.code.length:Int)=g.code.length
 case neg=>simp only[EE,zA,yS,zj,uS,uA,wh,kQ,XC,xL,Uk,XW,XX,XY,XZ,X0,X1,X3,X4,X5,X6,X7,X8,X9,g1,g2,fp,gp,fpl,gpl,fc,gc,fcl,gcl,c2,c3,c4,c5,c6];simp[u3]
 simp only[EE,zA,yS,zj,uS,uA,wh,kQ,XC,xL,Uk,XW,XX,XY,XZ,X0,X1,X3,X4,X5,X6,X7,X8,X9,g1,g2,fp,gp,fpl,gpl,fc,gc,fcl,gcl,c2,c3,c4,c5,c6];refine sf3 F2 G2 n1 n2 g1 g2 c5 c6 ?_;simp
section
variable {h:za}{b1 b2:Nat}{B:Bool}
theorem sp7{p q:Pg}{v0:aaa}(P:wB h p)(Q:wB h q)(hb1:b1<h.next)(hb2:b2<h.next)(hg1:h.get b1=some (vI p))(hg2:h.get b2=some (vI q))(hl:(p.funcs.length:Int)=q.funcs.length)(hB:B=YV Xg p.funcs q.funcs) :
  LP (UT (pi b1) (λ_ h58=>u3 B (.bool true) h58) (pi b2) (u3 B)) [v0,(pm 0)] h:=by
 refine bT (λg=>g=h) p.funcs.length (mL p.funcs q.funcs Xg) rfl ?_;intro i h2 J hi hh hq hJ;subst hh;have fn:=P.funcs.wk;have gn:=Q.funcs.wk;have fl:=P.funcs.K1 3;rw[aaf]at fl;rcases aar i p.funcs.length with hlt|hge
 ·obtain⟨x,hx,hxm⟩:=get_some hlt;obtain⟨y,hy,hym⟩:=get_some (l:=q.funcs) (k:=i) (by omega);obtain⟨b,o,c,t,ha,hbb,hgt,hle,htk,_⟩:=P.funcs.dJ (i:=i) (r:=x.row) (by rw[aaq,hx];rfl) rfl;obtain⟨b',o',c',t',ha',hbb',hgt',hle',htk',_⟩:=Q.funcs.dJ (i:=i) (r:=y.row) (by rw[aaq,hy];rfl) rfl;have X:=P.fns x hxm;have Y:=Q.fns y hym;have hlt':(i:Int)<(p.funcs.length:Int):=by omega
  have hinc:IntKind.wrap .i64 ((i:Int)+1)=((i+1:Nat):Int):=inc (by have:=P.Dk;omega);simp only[EE,nth,↓BK,aad,zZ,zA,ue,mw,xj,oP,UT,hg1,hg2,fn,fl,hlt',ha,hgt,hle,htk,ha',hgt',hle',htk'];refine pL (by kernel_rfl) (by simp only[EE]) (zdJ x y h2 X Y).dc ?_;rintro v h3 ⟨rfl,rfl⟩;cases hI:Xg x y with
  |true=>
   simp only[EE,nth,cA,oQ,hinc];exact hJ _ hlt (by rw[bL hx hy];exact hI) rfl
  |false=>
   simp only[EE,cA];rw[hB,iU hx hy hI];rfl
 ·have hlt':¬(i:Int)<(p.funcs.length:Int):=by omega
  simp only[EE,nth,zA,ue,xj,UT,hg1,fn,fl,hlt'];have:YV Xg p.funcs q.funcs=true:=Z3 λk hk=>hq k (by omega);rw[hB,this];rfl
theorem sp3{p q:Pg}{v0:aaa}(P:wB h p)(Q:wB h q)(hb1:b1<h.next)(hb2:b2<h.next)(hg1:h.get b1=some (vI p))(hg2:h.get b2=some (vI q))(hl:(p.globals.length:Int)=q.globals.length)(hlc:(p.funcs.length:Int)=q.funcs.length)(hB:B=(YV EJ p.globals q.globals&&YV Xg p.funcs q.funcs)) :
  cB (pi b1) (pi b2) (u3 B) [v0] h:=by
 simp only[nth,↓BK,cB];refine bT (λg=>g=h) p.globals.length (mL p.globals q.globals EJ) rfl ?_;intro i h2 J hi hh hq hJ;subst hh;have fn:=P.globals.wk;have gn:=Q.globals.wk;have fl:=P.globals.kY 3;rcases aar i p.globals.length with hlt|hge
 ·obtain⟨z,hz,_⟩:=get_some hlt;obtain⟨w,hw,_⟩:=get_some (l:=q.globals) (k:=i) (by omega);obtain⟨b,o,c,t,ha,hbb,hgt,hco⟩:=P.globals.at hz;obtain⟨b',o',c',t',ha',hbb',hgt',hco'⟩:=Q.globals.at hw;have hlt':(i:Int)<(p.globals.length:Int):=by omega
  have hinc:IntKind.wrap .i64 ((i:Int)+1)=((i+1:Nat):Int):=inc (by have:=P.MS;omega);by_cases e:z=w
  ·simp only[EE,nth,↓BK,zA,yS,zj,wj,bZ,oO,US,hg1,hg2,fn,fl,hlt',ha,hgt,hco,ha',hgt',hco',e,hinc];exact hJ _ hlt (by rw[bL hz hw];simp[EJ,e]) rfl
  ·simp only[EE,nth,↓BK,zA,yS,zj,wj,bZ,US,hg1,hg2,fn,fl,hlt',ha,hgt,hco,ha',hgt',hco',e];rw[hB,iU hz hw (by simp[EJ,e])];rfl
 ·have hlt':¬(i:Int)<(p.globals.length:Int):=by omega
  simp only[EE,nth,zA,yS,wj,US,hg1,fn,fl,hlt'];have:YV EJ p.globals q.globals=true:=Z3 λk hk=>hq k (by omega);exact sp7 P Q hb1 hb2 hg1 hg2 hlc (by rw[hB,this,aa2])
end
theorem rM(p q:Pg)(h:za)(P:wB h p)(Q:wB h q):yO pu 11 [p.val,q.val] h (.bool (V0 p q)):=by
 apply uh;replace P:=P.lock;replace Q:=Q.lock;generalize h.lock=L at P Q;apply Es;unfold B3;have pg:=P.globals.wk;have pf:=P.funcs.wk;have qg:=Q.globals.wk;have qf:=Q.funcs.wk;simp only[EE,↓nw,Value.cells,zA,zj,XB];have e:Old L ((L.push (vI p)).push (vI q)):=(Old.push _ _).trans (Old.push _ _)
 have g1:((L.push (vI p)).push (vI q)).get L.next=some (vI p):=by
  rw[zt (aaH _)];exact zk
 have g2:((L.push (vI p)).push (vI q)).get (L.next+1)=some (vI q):=zk;have n1:L.next<((L.push (vI p)).push (vI q)).next:=by show L.next<L.next+1+1;omega
 have n2:L.next+1<((L.push (vI p)).push (vI q)).next:=by show L.next+1<L.next+1+1;omega
 generalize (L.push (vI p)).push (vI q)=H at e g1 g2 n1 n2 ⊢;have P2:=P.old e;have Q2:=Q.old e;have pgl:=P2.globals.kY 3;have qgl:=Q2.globals.kY 3;have pfl:=P2.funcs.K1 3;have qfl:=Q2.funcs.K1 3;rw[aaf]at pfl qfl;unfold V0;by_cases c1:p.main=q.main
 case neg=>simp only[EE,WD,Xr,Xs,Xt,Xu,Xv,Xw,c1];simp[u3]
 by_cases c2:(p.funcs.length:Int)=q.funcs.length
 case neg=>simp only[EE,zA,ue,xj,WD,Xr,Xs,Xt,Xu,Xv,Xw,g1,g2,pf,qf,pfl,qfl,c1,c2];simp[u3]
 by_cases c3:(p.globals.length:Int)=q.globals.length
 case neg=>simp only[EE,zA,yS,ue,wj,xj,WD,Xr,Xs,Xt,Xu,Xv,Xw,g1,g2,pf,qf,pfl,qfl,pg,qg,pgl,qgl,c1,c2,c3];simp[u3]
 simp only[EE,zA,yS,ue,wj,xj,WD,Xr,Xs,Xt,Xu,Xv,Xw,g1,g2,pf,qf,pfl,qfl,pg,qg,pgl,qgl,c1,c2,c3];refine sp3 P2 Q2 n1 n2 g1 g2 c3 c2 ?_;simp
structure Sub (h h':za):Prop where
 next:h.next<=h'.next
 get:∀b o,b<h.next->h.get b=some o->h'.get b=some o
theorem Sub.refl(h:za):Sub h h:=⟨aam _,λ_ _ _ e=>e⟩
theorem Sub.trans{a b c:za}(x:Sub a b)(y:Sub b c):Sub a c:=⟨aaS x.next y.next,λi o hi e=>y.get i o (aao hi x.next) (x.get i o hi e)⟩
theorem Old.sub{h h':za}(e:Old h h'):Sub h h':=⟨e.next,λb o hb g=>by rw[e.get b hb];exact g⟩
section
variable {h h':za}
theorem zL.sub{sv:aaa}{zs:List Int}(S:zL h sv zs)(e:Sub h h'):zL h' sv zs:=by
 rcases S with a|⟨b,off,cp,rfl,hc⟩
 ·exact .inl a
 ·refine .inr ⟨b,off,cp,rfl,λhz=>?_⟩;obtain⟨c,t,hb,hg,hat⟩:=hc hz;exact⟨c,t,aao hb e.next,e.get b _ hb hg,hat⟩
theorem zC.sub{sv:aaa}{n:Nat}{rows:List (List aaa)}(S:zC h sv n rows)(e:Sub h h'):zC h' sv n rows:=by
 rcases S with a|⟨b,off,cp,rfl,hc⟩
 ·exact .inl a
 ·refine .inr ⟨b,off,cp,rfl,λhz=>?_⟩;obtain⟨c,t,hb,hg,hat⟩:=hc hz;exact⟨c,t,aao hb e.next,e.get b _ hb hg,hat⟩
theorem wt.sub{x:xG}(S:wt h x)(e:Sub h h'):wt h' x:=⟨S.args.sub e,S.oj⟩
theorem qE.sub{f:Fn}(S:qE h f)(e:Sub h h'):qE h' f:=⟨S.params.sub e,S.ET,S.code.sub e,S.tu,λx hx=>(S.ins x hx).sub e⟩
theorem wB.sub{p:Pg}(S:wB h p)(e:Sub h h'):wB h' p:=⟨S.globals.sub e,S.MS,S.funcs.sub e,S.Dk,λf hf=>(S.fns f hf).sub e⟩
theorem zC.zbV{sv:aaa}{n:Nat}{rows:List (List aaa)}(S:zC h sv n rows):gY sv=some rows.length:=by
 rcases S with⟨rfl,rfl⟩|⟨b,off,cp,rfl,hc⟩ <;> rfl
theorem zfc{c:List aaa}{off:Nat}{l:List aaa}(h:∀(i:Nat) v,l[i]? = some v->c[off+i]? = some v):(l=[]\/off+l.length<=c.length)/\(c.drop off).take l.length=l:=by
 have hle:l=[]\/off+l.length<=c.length:=by
  cases hl:l.length with
  |zero=>exact .inl (abL.1 hl)
  |succ n=>
   have:=h n l[n] (aae (by omega));rcases aar (off+n) c.length with q|q
   ·exact .inr (by omega)
   ·rw[aal q]at this;cases this
 refine⟨hle,abc λi=>?_⟩;rw[acN,aa1];by_cases hi:i<l.length
 ·rw[aai hi,aae hi];exact h i _ (aae hi)
 ·rw[aac hi,aal (by omega)]
theorem Yf{n:Nat}:∀{rows:List (List aaa)},(∀r,r∈rows->r.length=n)->∀{i:Nat} {r:List aaa} {k:Nat},rows[i]? = some r->k<n->rows.flatten[i*n+k]? = r[k]?
 |[],_,i,r,k,hr,_=>by cases hr
 |r0::rows,hn,0,r,k,hr,hk=>by
  simp only[aak,aab]at hr;subst hr;rw[acU,abj (by rw[hn _ (by simp)];omega)];simp
 |r0::rows,hn,i+1,r,k,hr,hk=>by
  have h0:=hn r0 (by simp);rw[acU,aa5 (by rw[h0,acZ];omega),h0,show(i+1)*n+k-n=i*n+k by rw[acZ];omega];exact Yf (λr hr=>hn r (by simp[hr])) (by simpa using hr) hk
theorem uZ{n:Nat}:∀{rows:List (List aaa)},(∀r,r∈rows->r.length=n)->rows.flatten.length=rows.length*n
 |[],_=>by simp
 |r0::rows,hn=>by
  rw[acU,abH,uZ (λr hr=>hn r (by simp[hr])),hn r0 (by simp),aaE,acZ];omega
theorem Dn{n:Nat}{rows:List (List aaa)}(hn:∀r,r∈rows->r.length=n){i:Nat}{r:List aaa}(hr:rows[i]? = some r):i*n+n<=rows.flatten.length/\(rows.flatten.drop (i*n)).take n=r:=by
 have hi:i<rows.length:=by
  rcases aar i rows.length with a|a
  ·exact a
  ·rw[aal a]at hr;cases hr
 have hl:r.length=n:=hn r (aau hr)
 constructor
 ·rw[uZ hn];have:=abR n (acF hi);rw[acR]at this;exact this
 ·refine abc λk=>?_;rw[acN,aa1];by_cases hk:k<n
  ·rw[aai hk];exact Yf hn hr hk
  ·rw[aac hk,aal (by omega)]
theorem Nz{b n cp:Nat}{t:TypeId}{rows:List (List aaa)}(hn:∀r,r∈rows->r.length=n)(hb:b<h.next)(hg:h.get b=some (.cells rows.flatten t)):zC h (.slice (some ⟨b,0,none⟩) rows.length cp) n rows :=
 .inr ⟨b,0,cp,rfl,λ_=>⟨_,t,hb,hg,λi r hr=>by rw[aay];exact Dn hn hr⟩⟩
theorem zC.first{sv:aaa}{n:Nat}{rows:List (List aaa)}(S:zC h sv n rows)(h0:0<n)(hn:∀r,r∈rows->r.length=n):wR h rows.length n sv=some rows.flatten:=by
 rcases S with⟨rfl,rfl⟩|⟨b,off,cp,rfl,hc⟩
 ·rfl
 ·cases rows with
  |nil=>unfold wR;simp only[aaz,acP];rfl
  |cons r0 rows=>
   obtain⟨c,t,hb,hg,hat⟩:=hc (by simp)
   obtain⟨h1,h2⟩:=zfc (c:=c) (off:=off) (l:=(r0::rows).flatten) (λj v hv=>by
    have hj:j<(r0::rows).length*n:=by
     rcases aar j ((r0::rows).flatten.length) with a|a
     ·rw[uZ hn]at a;exact a
     ·rw[aal a]at hv;cases hv
    have hi:j/n<(r0::rows).length:=(Nat.div_lt_iff_lt_mul h0).2 hj;have hk:j%n<n:=Nat.mod_lt _ h0;have hr:(r0::rows)[j/n]? = some (r0::rows)[j/n]:=aae hi;have e:j=j/n*n+j%n:=by rw[Nat.mul_comm];exact(Nat.div_add_mod j n).symm
    rw[e,Yf hn hr hk]at hv;obtain⟨_,h4⟩:=hat _ _ hr;rw[<- h4,acN,aai hk,aa1]at hv;rw[e,<- acz];exact hv)
   have hl:=uZ hn;rw[hl]at h1 h2;have hne:(r0::rows).length*n≠0:=by rw[aaE];exact Nat.mul_ne_zero (by omega) (by omega)
   have h3:off+(r0::rows).length*n<=c.length:=by
    rcases h1 with e|e
    ·rw[e]at hl;exact absurd hl.symm hne
    ·exact e
   unfold wR;simp only[hg];rw[show Nat.beq ((r0::rows).length*n) 0=false by rw[<- acH,acS];exact hne,aaK,Nat.ble_eq_true_of_le h3,aaC,h2]
end
abbrev xG.core(x:xG):xG:={x with av := .bool false}
abbrev Fn.core(f:Fn):Fn:={f with pv := .bool false,cv := .bool false,code:=f.code.map xG.core}
abbrev Pg.core(p:Pg):Pg:={p with gv := .bool false,fv := .bool false,funcs:=p.funcs.map Fn.core}
def Zx(lo h:za)(t:TypeId)(l:aaa)(rows:List (List aaa)):Prop:=(l=.slice none 0 0/\rows=[]) \/ ∃b c,l=.slice (some ⟨b,0,none⟩) rows.length c/\c≠0/\lo.next<=b/\b<h.next/\h.ro<=b/\h.get b=some (.cells rows.flatten t)
def k9:aaa->List Nat
 | .slice (some a) _ _=>[a.block]
 |_=>[]
section
variable {lo h:za}{l:aaa}{rows:List (List aaa)}{t:TypeId}
theorem Zx.read{n:Nat}(S:Zx lo h t l rows)(hn:∀r,r∈rows->r.length=n):zC h l n rows:=by
 rcases S with a|⟨b,c,rfl,hc,h1,h2,h3,h4⟩
 ·exact .inl a
 ·exact Nz hn h2 h4
theorem TW{n bz:Nat}(S:Zx lo h t l rows)(hro:h.ro<=h.next)(hlo:lo.next<=h.next)(h0n:0<n)(hn:∀r,r∈rows->r.length=n){ys:List (List aaa)}(hb:(rows.length+ys.length)*bz<=2^47) :
  ∃l' h',Q9 h t n bz ys.length ys.flatten l=some (l',h')/\Zx lo h' t l' (rows++ys)/\h'.ro=h.ro/\h'.ro<=h'.next/\h.next<=h'.next/\(UJ h->UJ h')/\(∀b,b<h.next->b∉k9 l->h'.get b=h.get b)/\(∀b,b∈k9 l'->b∈k9 l\/h.next<=b):=by
 rcases S with⟨rfl,rfl⟩|⟨b,c,rfl,hc,hb1,hb2,hb3,hg⟩
 ·by_cases h0:ys.length=0
  ·have:ys=[]:=abL.1 h0;subst this;exact⟨_,_,by simp only[Q9,aaz,aad],.inl ⟨rfl,rfl⟩,rfl,hro,aam _,id,λ_ _ _=>rfl,λb hb => .inl hb⟩
  ·refine⟨.slice (some ⟨h.next,0,none⟩) ys.length 1,h.push (.cells ys.flatten t),?_,.inr ⟨h.next,1,by simp,by decide,hlo,aaH _,hro,by rw[zk];rfl⟩,rfl,abu hro,abr _,λw=>Ja w _,λb hb _=>zt hb,λb hb=>by simp only[k9,aaV]at hb;exact .inr (by omega)⟩;simp only[Q9,h0,abe];have:ys.length*bz<=2^48:=by simp only[aaz,aay]at hb;omega
   rw[aai this]
 ·by_cases h0:ys.length=0
  ·have:ys=[]:=abL.1 h0;subst this;exact⟨.slice (some ⟨b,0,none⟩) rows.length c,h,by simp only[Q9,aaz,aad],.inr ⟨b,c,by simp,hc,hb1,hb2,hb3,by simpa using hg⟩,rfl,hro,aam _,id,λ_ _ _=>rfl,λb hb => .inl hb⟩
  ·have hroom:roomFor c (rows.length+ys.length) bz=true:=by
    unfold roomFor;cases Nat.beq c 2 <;> simp only[aaC,aaK,acp] <;> omega
   have hl:=uZ hn;refine⟨.slice (some ⟨h.next,0,none⟩) (rows.length+ys.length) (uG c (rows.length+ys.length)),(h.set b none).push (.cells (rows++ys).flatten t),?_,.inr ⟨h.next,uG c (rows.length+ys.length),by simp,tp _ _,by omega,aaH _,hro,zk⟩,rfl,abu hro,abr _,λw=>Ja (wf_set w hb2 _) _,λb' hb' hne=>?_,λb hb=>by simp only[k9,aaV]at hb;exact .inr (by omega)⟩
   ·simp only[Q9,h0,abe,hg];rw[aai ⟨hc,trivial,hb3,by rw[hl];omega,hroom,by simp⟩]
    congr 3
    rw[abA,ace (by rw[hl];omega),List.flatten_append]
   ·simp only[k9,aaV]at hne;rw[zt (by show b'<h.next;exact hb'),zK hne]
end
theorem zeM{h:za}{l:List Nat}{b:Nat}:(h.Jq l).get b=if b∈l then none else h.get b:=Xy h l b
structure zhB (l:List Nat) (H h:za):Prop where
 next:H.next<=h.next
 ro:h.ro=H.ro
 get:∀b,b<H.next->b∉l->h.get b=H.get b
theorem zhB.sub{l:List Nat}{H h:za}(k:zhB l H h):Sub (H.Jq l) (h.Jq l):=⟨k.next,λb o hb g=>by
 rw[zeM]at g ⊢;split at g
 ·cases g
 ·rename_i q;rw[aac q,k.get b hb q];exact g⟩
theorem zaM(h h2:za):(vB h h2).ro=h.ro:=rfl
theorem AN(h h2:za):(vB h h2).next=h2.next:=rfl
theorem Md{h:za}{x:aaa}{zs:List Int}{e:Nat}(S:zL (h.push (.cells [] 3)) x zs)(oj:zs.length<=17592186043904)(hro:h.ro<=h.next)(he:h.next<e){K:aaa->za->Prop}(k:∀v h6,k7 h h6 v zs->Old h h6->h6.ro<=h6.next->K v h6) :
  TX pu [22,22] 22 [.slice (some ⟨h.next,0,none⟩) 0 2,x] (some (h.next,e)) (h.push (.cells [] 3)) (h.push (.cells [] 3)) K:=by
 refine⟨⟨aam _,he,by rw[zk];simp⟩,?_⟩;have W:k7 h (h.push (.cells [] 3)) (.slice (some ⟨h.next,0,none⟩) 0 2) [] := .inr ⟨h.next,2,rfl,by decide,aam _,aaH _,hro,zk⟩;obtain⟨l',h',a1,a2,a3,a4,a5,a6,a7⟩:=pF W (Old.push _ _) (abu hro) S.first.1 rfl S.first.2 (by simpa using(by omega:zs.length<=17592186044416));rw[a1,zN rfl,zN S.wk,yg];show K l' _;have hr:(vB (rN (h.push (.cells [] 3)) (.slice (some ⟨h.next,0,none⟩) 0 2) h') h').ro=h.ro:=by rw[zaM,S7];rfl
 have a5':h.next+1<=h'.next:=a5
 have gg:∀b,(vB (rN (h.push (.cells [] 3)) (.slice (some ⟨h.next,0,none⟩) 0 2) h') h').get b=if h.next<=b/\b<h'.next then h'.get b else h.get b:=by
  intro b;rw[uy,tK];show(if h.next+1<=b/\b<h'.next then h'.get b else ((h.push (.cells [] 3)).set h.next (h'.get h.next)).get b)=_;by_cases hb:h.next+1<=b/\b<h'.next
  ·rw[aai hb,aai ⟨by omega,hb.2⟩]
  ·rw[aac hb];by_cases hb2:b=h.next
   ·subst hb2;rw[zR,aai ⟨aam _,by omega⟩]
   ·rw[zK hb2,aac (by omega),za.vA,aac hb2]
 refine k _ _ ?_ ⟨by rw[AN];omega,hr,λb hb=>by rw[gg,aac (by omega)]⟩ ?_
 ·rw[abT]at a2;rcases a2 with q|⟨b,c,q1,q2,q3,q4,q5,q6⟩
  ·exact .inl q
  ·refine .inr ⟨b,c,q1,q2,q3,q4,?_,?_⟩
   ·rw[hr];omega
   ·rw[gg,aai ⟨q3,q4⟩];exact q6
 ·rw[hr,AN];omega
theorem k7.sub{lo h K:za}{v:aaa}{zs:List Int}(S:k7 lo h v zs)(hn:h.next<=K.next)(hk:∀b,lo.next<=b->b<h.next->K.get b=h.get b):zL K v zs:=by
 rcases S with a|⟨b,c,rfl,hc,h1,h2,h3,h4⟩
 ·exact .inl a
 ·refine .inr ⟨b,0,c,rfl,λ_=>⟨_,3,aao h2 hn,by rw[hk b h1 h2];exact h4,λi z hz=>?_⟩⟩;simp[ints,hz]
theorem k7.shape{lo h:za}{v:aaa}{zs:List Int}(S:k7 lo h v zs):∃a n c,v=.slice a n c:=by
 rcases S with⟨rfl,_⟩|⟨_,_,rfl,_⟩ <;> exact⟨_,_,_,rfl⟩
theorem lZ(ys:List xG):∀r,r∈ys.map xG.row->r.length=9:=by
 intro r hr;simp only[abm]at hr;obtain⟨y,_,rfl⟩:=hr;rfl
theorem Zx.shape{lo h:za}{t:TypeId}{v:aaa}{rows:List (List aaa)}(S:Zx lo h t v rows):∃a n c,v=.slice a n c:=by
 rcases S with⟨rfl,_⟩|⟨_,_,rfl,_⟩ <;> exact⟨_,_,_,rfl⟩
theorem p0(ys:List Fn):∀r,r∈ys.map Fn.row->r.length=6:=by
 intro r hr;simp only[abm]at hr;obtain⟨y,_,rfl⟩:=hr;rfl
theorem Zx.lo{lo lo' h:za}{t:TypeId}{v:aaa}{rows:List (List aaa)}(S:Zx lo h t v rows)(hl:lo'.next<=lo.next):Zx lo' h t v rows:=by
 rcases S with a|⟨b,c,h0,h1,h2,h3⟩
 ·exact .inl a
 ·exact .inr ⟨b,c,h0,h1,by omega,h3⟩
theorem Zx.zJ{lo h h':za}{t:TypeId}{v:aaa}{rows:List (List aaa)}(S:Zx lo h t v rows)(hn:h.next<=h'.next)(hr:h'.ro=h.ro)(hg:∀b,b∈k9 v->h'.get b=h.get b):Zx lo h' t v rows:=by
 rcases S with a|⟨b,c,rfl,h1,h2,h3,h4,h5⟩
 ·exact .inl a
 ·exact .inr ⟨b,c,rfl,h1,h2,by omega,by omega,by rw[hg b (by simp[k9])];exact h5⟩
theorem zb1{h:za}{x:aaa}{zs:List Int}(S:zL (h.push (.cells [] 3)) x zs)(oj:zs.length<=17592186043904)(hro:h.ro<=h.next) :
  ∃v h',zB pu .append [22,22] 22 [.slice (some ⟨h.next,0,none⟩) 0 2,x] (h.push (.cells [] 3))=some (v,h')/\k7 h h' v zs/\Old h h'/\h'.ro<=h'.next/\h.next<h'.next:=by
 have W:k7 h (h.push (.cells [] 3)) (.slice (some ⟨h.next,0,none⟩) 0 2) [] := .inr ⟨h.next,2,rfl,by decide,aam _,aaH _,hro,zk⟩;obtain⟨l',h',a1,a2,a3,a4,a5,a6,a7⟩:=pF W (Old.push _ _) (abu hro) S.first.1 rfl S.first.2 (by simpa using(by omega:zs.length<=17592186044416));exact⟨l',h',a1,by rw[abT]at a2;exact a2,a3,a4,a5⟩
theorem zc3{h:za}{ys:List xG}(Y:∀y,y∈ys->wt h y):(ys.map xG.row).flatten.all yN=true:=by
 rw[aaD];intro v hv;simp only[List.mem_flatten,abm]at hv;obtain⟨_,⟨y,hy,rfl⟩,hv⟩:=hv;simp only[abt,List.not_mem_nil,or_false]at hv;rcases hv with rfl|rfl|rfl|rfl|rfl|rfl|rfl|rfl|rfl
 all_goals first|rfl|exact(Y y hy).args.eT
theorem zb2{h:za}{x:aaa}{ys:List xG}(S:zC (h.push (.cells [] 51)) x 9 (ys.map xG.row))(Y:∀y,y∈ys->wt (h.push (.cells [] 51)) y)(oj:ys.length*88<=140737488351232)(hro:h.ro<=h.next) :
  ∃v h',zB pu .append [47,47] 47 [.slice (some ⟨h.next,0,none⟩) 0 2,x] (h.push (.cells [] 51))=some (v,h')/\Zx h h' 51 v (ys.map xG.row)/\Old h h'/\h'.ro<=h'.next/\h.next<h'.next:=by
 have W:Zx h (h.push (.cells [] 51)) 51 (.slice (some ⟨h.next,0,none⟩) 0 2) [] := .inr ⟨h.next,2,rfl,by decide,aam _,aaH _,hro,zk⟩;obtain⟨l',h',a1,a2,a3,a4,a5,a6,a7,a8⟩:=TW (n:=9) (bz:=88) W (abu hro) (abr _) (by decide) (λr hr=>by cases hr) (ys:=ys.map xG.row) (by simp;omega);have al:=S.zbV;have fi:=S.first (by decide) (lZ ys);rw[aaf]at al fi a1;refine⟨l',h',?_,by rw[abT]at a2;exact a2,⟨by have:h.next+1<=h'.next:=a5;omega,a3,λb hb=>?_⟩,a4,a5⟩
 ·rw[zhS 47 _ _ ys.length (ys.map xG.row).flatten _ al fi (zc3 Y) (by rw[uZ (lZ ys),aaf])];exact a1
 ·rw[a7 b (by show b<h.next+1;omega) (by simp only[k9,aaV];omega),zt hb]
end Go.Rtl
