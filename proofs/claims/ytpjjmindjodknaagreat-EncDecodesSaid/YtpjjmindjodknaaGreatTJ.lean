import Derived.Test.YtpjjmindjodknaaGreatTI
set_option linter.unusedVariables false
set_option linter.unusedSimpArgs false
set_option maxRecDepth 100000
namespace Go.Ar
open Go.Ai Go.Proofs Go.Proofs.Tryz
noncomputable abbrev zz:=prog
abbrev VK:=aaa->za->Prop
abbrev LK:=List aaa->za->Prop
abbrev ci(n:Int):Operand := .const (pm n)
abbrev fn(n:Nat):aaa := .func (.func n) #[] #[]
variable {h:za}{t0 t1 t2 t3 t4 t5 t6:aaa}{R:VK}
def qs:FuncId->Nat:=λg=>[0].getD g 0
theorem mixed:prog.follows .mixedOrders=true:=acg Tryz.checked
theorem xp{f:FuncId}{args:List aaa}{X:Prop}(e:Pu zz (ba zz qs) 200 f args h R=X)(hw:X):DC zz f args h R:=Up mixed (q:=qs) (n:=200) (Eq.mpr e hw)
def JG:=λc (R:VK) d (e:LK) f (a:za)=>
 opt (pk c (.bool true) f) λg=>CD g (λb=>rv [.bool false] a R)
 (λb=>b [nth d 0] a)
 (λh i=>e [nth h 0] i)
def JH:=λa (R:VK) c (d:LK) e (b:za)=>
 zg a false (zi .gtr 3 60 e 65536) b (JG a R c d) b
def JI:=λa d (R:VK) e (f:LK) g (c:za)=>
 zg a false (xR zz 22 d g) c (λh b=>zg a false (zd zz 3 h b) b (JH a R e f) b) c
def JJ:=λa c (R:VK) (e:LK) f (b:za)=>
 zg a false (zd zz 22 f b) b (λg d=>GD a false (λh=>h (nth c 1) d) (JI a g R c e) d) b
def JK:=λb (a:za) c (R:VK) (e:LK)=>
 zI 25 b 0 22 a λf=>qk 22 f (nth c 1) 3 a λg=>opt (zi .lss 3 53 g 0) λd=>zg d false (zp zz 25 b 0) a (JJ d c R e) a
def sJ:=λa (b:LK) c (d:za)=>
 opt (zi .add 3 47 (nth a 1) 1) λe=>b [nth c 0,e] d
def sK:=λb (f:LK) (R:VK) a (c:za) (g:LK)=>
 zI 25 b 0 22 c λh=>zD (uy 22 h c) λi d=>opt (xL .lss 3 42 45 (nth a 1) i) λj=>CD j (λe=>e [] d)
 (λe=>f [nth a 0] d)
 (λl k=>BK (JK b k a R)
 (sJ a g))
def wV:=λc (R:VK) d (e:LK) f g (a:za)=>
 opt (pk c g (.bool false)) λh=>CD h (λb=>rv [.bool false] a R)
 (λb=>b [nth d 0] a)
 (λi j=>e [nth i 0,f] j)
def wW:=λa e b (R:VK) f (g:LK) h i (c:za)=>
 zg a false (xL .gtr 2 162 168 e i) c (λj d=>zg b true (pk a (.bool true) j) d (wV b R f g h) d) c
def wi:=λa d e f (R:VK) g (h:LK) i j (c:za)=>
 zg a false (xR zz 22 d j) c (λk b=>zg a false (zd zz 3 k b) b (wW a e f R g h i) b) c
def wj:=λa d e f (R:VK) g (h:LK) i j (c:za)=>
 zg a false (zp zz 42 d 3) c (λk b=>zg a false (zd zz 3 k b) b (wi a j e f R g h i) b) c
def wm:=λa d e f (R:VK) g (h:LK) i j (c:za)=>
 zg a false (zp zz 25 d 0) c (λk b=>zg a false (zd zz 22 k b) b (wj a e j f R g h i) b) c
def wq:=λc e f (R:VK) g (h:LK) i a (d:za)=>
 zg a false (zp zz 42 c 6) d (λj b=>zg a false (zd zz 2 j b) b (wm a e c f R g h i) b) d
def wt:=λa d e f (R:VK) g (h:LK) i j (b:za)=>
 zg a true (pk d (.bool true) j) b (λk c=>GD a true (λl=>l k c) (wq e f a R g h i) c) b
def wx:=λa c d e (R:VK) f (g:LK) h i (b:za)=>
 zg a false (zi .lss 2 157 i 0) b (wt c a d e R f g h) b
def wy:=λc e f (R:VK) g (h:LK) i a (d:za)=>
 zg a false (zp zz 42 c 6) d (λj b=>zg a false (zd zz 2 j b) b (wx a e c f R g h i) b) d
def wz:=λa d e f (R:VK) g (h:LK) i j (b:za)=>
 zg a true (pk d (.bool true) j) b (λk c=>GD a true (λl=>l k c) (wy e a f R g h i) c) b
def wA:=λa c d e f (R:VK) g (h:LK) i j (b:za)=>
 zg a false (xL .geq 3 149 152 c j) b (wz d a e f R g h i) b
def wB:=λb c d e f (R:VK) g (h:LK) i j (a:za)=>
 GD b false (λk=>zD (uy 22 j a) λl _=>k l a) (wA b c d e f R g h i) a
def wC:=λa c e f (R:VK) g (h:LK) i j (d:za)=>
 zg a false (zp zz 25 c 0) d (λk b=>zg a false (zd zz 22 k b) b (wB a j e f c R g h i) b) d
def wD:=λc e f (R:VK) g (h:LK) i a (d:za)=>
 zg a false (zp zz 42 c 3) d (λj b=>zg a false (zd zz 3 j b) b (wC a e f c R g h i) b) d
def wE:=λa d e (R:VK) f (g:LK) h i (b:za)=>
 zg a true (zi .lss 3 145 i 0) b (λj c=>GD a true (λk=>k j c) (wD d e a R f g h) c) b
def wF:=λa e (R:VK) (f:LK) g h (b:za)=>
 zI 42 a 0 3 b λi=>opt (zi .eql 3 141 i 6) λc=>zg c true (zp zz 42 a 3) b (λj d=>zg c true (zd zz 3 j d) d (wE c a e R h f g) d) b
def xt:=λc (R:VK) d e f (g:LK) h i (a:za)=>
 opt (pk c i (.bool false)) λj=>CD j (λb=>rv [.bool false] a R)
 (λb=>b [nth d 0] a)
 (wF e f R g h)
def xw:=λa e b (R:VK) f g h (i:LK) j k (c:za)=>
 zg a false (xL .geq 3 133 136 e k) c (λl d=>zg b true (pk a (.bool true) l) d (xt b R f g h i j) d) c
def xx:=λa c d (R:VK) e f g (h:LK) i j (b:za)=>
 GD a false (λk=>zD (uy 23 j b) λl m=>k l m) (xw a c d R e f g h i) b
def xz:=λa c e (R:VK) f g (h:LK) i j (d:za)=>
 zg a false (zp zz 25 c 1) d (λk b=>zg a false (zd zz 23 k b) b (xx a j e R f g c h i) b) d
def xA:=λc e f (R:VK) g (h:LK) i a (d:za)=>
 zg a false (zp zz 42 c 3) d (λj b=>zg a false (zd zz 3 j b) b (xz a e f R g c h i) b) d
def xB:=λa d e (R:VK) f (g:LK) h i (b:za)=>
 zg a true (zi .lss 3 129 i 0) b (λj c=>GD a true (λk=>k j c) (xA d e a R f g h) c) b
def xC:=λa e (R:VK) (f:LK) g h (b:za)=>
 zI 42 a 0 3 b λi=>opt (zi .eql 3 125 i 21) λc=>zg c true (zp zz 42 a 3) b (λj d=>zg c true (zd zz 3 j d) d (xB c a e R h f g) d) b
def yB:=λc (R:VK) d e f (g:LK) h i (a:za)=>
 opt (pk c (.bool true) i) λj=>CD j (λb=>rv [.bool false] a R)
 (λb=>b [nth d 0] a)
 (xC e f R g h)
def yC:=λa b (R:VK) e f g (h:LK) i j (c:za)=>
 zg a true (zi .lss 3 120 j 0) c (λk d=>zg b false (pk a k (.bool false)) d (yB b R e f g h i) d) c
def yR:=λa c d (R:VK) e f g (h:LK) i j (b:za)=>
 GD a true (λk=>zP zz (fn 28) [c,j] b (λl m=>k l m)) (yC a d R e f g h i) b
def yS:=λa c e (R:VK) f g (h:LK) i j (d:za)=>
 zg a true (zp zz 42 c 5) d (λk b=>zg a true (zd zz 3 k b) b (yR a j e R f c g h i) b) d
def yT:=λb e f (R:VK) g h (i:LK) j k (c:za)=>
 GD b false (λl=>l k c) (λd a=>zg d true (zd zz 50 e a) a (yS d f b R g h i j) a) c
def yU:=λa b e f (R:VK) g h (i:LK) j k (c:za)=>
 zg a false (zi .eql 3 113 k 19) c (λl d=>zg b false (pk a (.bool true) l) d (yT b e f R g h i j) d) c
def yV:=λc e f (R:VK) g h (i:LK) j a (d:za)=>
 zg a false (zp zz 42 c 0) d (λk b=>zg a false (zd zz 3 k b) b (yU a e f c R g h i j) b) d
def yW:=λa d e (R:VK) f g (h:LK) i j (b:za)=>
 zg a false (zi .eql 3 109 j 18) b (λk c=>GD a false (λl=>l k c) (yV d a e R f g h i) c) b
def yX:=λe c f (R:VK) g h (i:LK) j k (d:za)=>
 opt (pk e k (.bool false)) λa=>zg a false (zp zz 42 c 0) d (λl b=>zg a false (zd zz 3 l b) b (yW a c f R g h i j) b) d
def yY:=λa c d e (R:VK) f g (h:LK) i j (b:za)=>
 zg a true (xL .neq 3 103 104 c j) b (yX a d e R f g h i) b
def xD:=λa e f g h (R:VK) i j (k:LK) l m (c:za)=>
 GD a true (λn=>zP zz (fn 28) [e,m] c (λb o=>n b o)) (λb d=>GD a true (λp=>p (nth f 2) d) (yY a b g h R i j k l) d) c
def xE:=λa c e f (R:VK) g h (i:LK) j k (d:za)=>
 zg a true (zp zz 42 c 5) d (λl b=>zg a true (zd zz 3 l b) b (xD a k e c f R g h i j) b) d
def xF:=λb c e (R:VK) f (g:LK) h i (a:za)=>
 zI 42 b 0 3 a λj=>opt (zi .eql 3 97 j 20) λd=>zg d true (zd zz 50 c a) a (xE d b e c R i f g h) a
def yZ:=λ(R:VK) a d e f (g:LK) h i (b:za)=>
 opt (DP zz .not i) λj=>CD j (λc=>rv [.bool false] b R)
 (λc=>c [nth a 0] b)
 (xF d e a R f g h)
def bN:=λa b (R:VK) d e (f:LK) g (c:za)=>
 opt (pk (nth a 1) (.bool true) g) λh=>opt (zd zz 42 b c) λi=>zP zz (fn 27) [i] c (yZ R a b d e f h)
def bO:=λa c (R:VK) d e (f:LK) g (b:za)=>
 zg (nth a 1) false (zi .neq 3 90 g 20) b (bN a c R d e f) b
def nv:=λe (b:za) a (R:VK) g (h:LK)=>
 zI 50 e 1 48 b λi=>qk 48 i (nth a 2) 42 b λj=>jz 42 b λc k=>opt (wg 42 c j k) λf=>zg (nth a 1) false (zp zz 42 c 0) f (λl d=>zg (nth a 1) false (zd zz 3 l d) d (bO a c R e g h) d) f
def uR:=λb (c:LK) a (d:za)=>
 opt (zi .add 3 80 (nth b 2) 1) λe=>c [nth a 0,nth a 1,e] d
def bP:=λb (f:LK) (R:VK) g a (c:za) (h:LK)=>
 zI 50 b 1 48 c λi=>zD (uy 48 i c) λj d=>opt (xL .lss 3 75 78 (nth a 2) j) λk=>CD k (λe=>e [] d)
 (λe=>f [nth a 0,nth a 1] d)
 (λm l=>BK (nv b l a R g)
 (uR a h))
def Qo:=λc (R:VK) d (e:LK) f (a:za)=>
 opt (pk c (.bool true) f) λg=>CD g (λb=>rv [.bool false] a R)
 (λb=>b [nth d 0] a)
 (λh i=>e [nth h 0] i)
def Qp:=λa (R:VK) c (d:LK) e (b:za)=>
 zg a false (zi .gtr 3 177 e 100000) b (Qo a R c d) b
def Qq:=λa (R:VK) d (e:LK) f (b:za)=>
 zg a false (zd zz 48 f b) b (λg c=>GD a false (λh=>zD (uy 48 g c) λi j=>h i j) (Qp a R d e) c) b
def nz:=λd (R:VK) (e:LK) a (b:za)=>
 opt (DP zz .not (nth a 1)) λc=>zg c false (zp zz 50 d 1) b (Qq c R a e) b
def nB:=λc (a:za) d (R:VK) (e:LK)=>
 zI 25 c 1 23 a λf=>qk 23 f (nth d 1) 50 a λg=>jz 50 a λb h=>opt (wg 50 b g h) λi=>BK (λj=>LP (bP b j R c)
 [nth d 0,.bool false,pm 0] i)
 (nz b R e)
def nC:=λa (b:LK) c (d:za)=>
 opt (zi .add 3 68 (nth a 1) 1) λe=>b [nth c 0,e] d
def bQ:=λb (f:LK) (R:VK) a (c:za) (g:LK)=>
 zI 25 b 1 23 c λh=>zD (uy 23 h c) λi d=>opt (xL .lss 3 63 66 (nth a 1) i) λj=>CD j (λe=>e [] d)
 (λe=>f [nth a 0] d)
 (λl k=>BK (nB b k a R)
 (nC a g))
def bR:=λa (R:VK) b (c:za)=>
 BK (λd=>LP (sK a d R)
 [nth b 0,pm 0] c)
 (λe f=>BK (λg=>LP (bQ a g R)
 [nth e 0,pm 0] f)
 (λi h=>rv [.bool true] h R))
def jY:=λa (R:VK) e f (b:za)=>
 zg a false (zi .gtr 3 39 f 6) b (λg c=>opt (pk a (.bool true) g) λh=>CD h (λd=>rv [.bool false] c R)
 (λd=>d [.bool false] c)
 (bR e R)) b
def jZ:=λe c (R:VK) f (d:za)=>
 opt (pk e (.bool true) f) λa=>zg a false (zp zz 25 c 3) d (λg b=>zg a false (zd zz 3 g b) b (jY a R c) b) d
def j0:=λa c (R:VK) d (b:za)=>
 zg a false (zi .lss 3 34 d 0) b (jZ a c R) b
def j1:=λe c (R:VK) f (d:za)=>
 opt (pk e (.bool true) f) λa=>zg a false (zp zz 25 c 3) d (λg b=>zg a false (zd zz 3 g b) b (j0 a c R) b) d
def j2:=λa e f (R:VK) g (c:za)=>
 GD a false (λh=>zD (uy 23 g c) λb i=>h b i) (λb d=>zg a false (xL .geq 3 26 29 e b) d (j1 a f R) d) c
def j3:=λa c (R:VK) e (d:za)=>
 zg a false (zp zz 25 c 1) d (λf b=>zg a false (zd zz 23 f b) b (j2 a e c R) b) d
def j4:=λe c (R:VK) f (d:za)=>
 opt (pk e (.bool true) f) λa=>zg a false (zp zz 25 c 2) d (λg b=>zg a false (zd zz 3 g b) b (j3 a c R) b) d
def j5:=λa c (R:VK) d (b:za)=>
 zg a false (zi .lss 3 21 d 0) b (j4 a c R) b
def j6:=λe c (R:VK) f (d:za)=>
 opt (pk e (.bool true) f) λa=>zg a false (zp zz 25 c 2) d (λg b=>zg a false (zd zz 3 g b) b (j5 a c R) b) d
def j7:=λa c (R:VK) d (b:za)=>
 zg a false (zi .gtr 3 16 d 100) b (j6 a c R) b
def j8:=λa d (R:VK) e (b:za)=>
 zg a false (zd zz 23 e b) b (λf c=>GD a false (λg=>zD (uy 23 f c) λh i=>g h i) (j7 a d R) c) b
def Hb:=λ(h:za) b (R:VK)=>
 opt (nb [b] (some (Value.cells b).toList)) λf=>nw h f 25 λa c=>zI 25 a 0 22 c λg=>zD (uy 22 g c) λi d=>opt (zi .gtr 3 11 i 200) λe=>zg e false (zp zz 25 a 1) d (j8 e a R) d
theorem Fp(hw:Hb h t0 R):DC zz 11 [t0] h R:=xp (by kernel_rfl) hw
def jr:=λb (R:VK) d (c:za)=>
 GD b true (λe=>zP zz (fn 37) [d] c (λa f=>e a f)) (λa g=>opt (pk b a (.bool false)) λh=>rv [h] g R) c
def jt:=λd e (R:VK) f (c:za)=>
 opt (pk d (.bool true) f) λa=>zg a true (zp zz 42 e 6) c (λg b=>zg a true (zd zz 2 g b) b (jr a R) b) c
def ju:=λa c (R:VK) d (b:za)=>
 zg a false (zi .eql 3 94 d 8) b (jt a c R) b
def jv:=λe c (R:VK) f (d:za)=>
 opt (pk e (.bool true) f) λa=>zg a false (zp zz 42 c 3) d (λg b=>zg a false (zd zz 3 g b) b (ju a c R) b) d
def jw:=λa c (R:VK) d (b:za)=>
 zg a false (zi .eql 3 89 d 4) b (jv a c R) b
def bT:=λb (R:VK) d (c:za)=>
 GD b true (λe=>zP zz (fn 37) [d] c (λa f=>e a f)) (λa g=>opt (pk b a (.bool false)) λh=>rv [h] g R) c
def bU:=λd (R:VK) a (c:za)=>
 zg a true (zp zz 42 d 6) c (λe b=>zg a true (zd zz 2 e b) b (bT a R) b) c
def Qr:=λa (R:VK) c (b:za)=>
 zg a false (zi .eql 3 130 c 2) b (λd e=>opt (pk a (.bool true) d) λf=>rv [f] e R) b
def Qs:=λa (R:VK) c (b:za)=>
 zg a false (zi .eql 3 140 c 4) b (λd e=>opt (pk a (.bool true) d) λf=>rv [f] e R) b
def kW:=λa (R:VK) c (b:za)=>
 zg a true (zi .leq 2 160 c 63) b (λd e=>opt (pk a d (.bool false)) λf=>rv [f] e R) b
def kX:=λd e (R:VK) f (c:za)=>
 opt (pk d f (.bool false)) λa=>zg a true (zp zz 42 e 6) c (λg b=>zg a true (zd zz 2 g b) b (kW a R) b) c
def kY:=λa c (R:VK) d (b:za)=>
 zg a true (zi .geq 2 155 d 0) b (kX a c R) b
def kZ:=λe c (R:VK) f (d:za)=>
 opt (pk e (.bool true) f) λa=>zg a true (zp zz 42 c 6) d (λg b=>zg a true (zd zz 2 g b) b (kY a c R) b) d
def k8:=λa c (R:VK) d (b:za)=>
 zg a false (zi .eql 3 150 d 20) b (kZ a c R) b
def Vz:=λa (R:VK) c (b:za)=>
 zg a false (zi .eql 3 170 c 20) b (λd e=>opt (pk a (.bool true) d) λf=>rv [f] e R) b
def XI:=λa (R:VK) c (b:za)=>
 zg a true (zi .leq 3 190 c 10000000) b (λd e=>opt (pk a d (.bool false)) λf=>rv [f] e R) b
def XJ:=λd e (R:VK) f (c:za)=>
 opt (pk d f (.bool false)) λa=>zg a true (zp zz 42 e 5) c (λg b=>zg a true (zd zz 3 g b) b (XI a R) b) c
def XK:=λa c (R:VK) d (b:za)=>
 zg a true (zi .geq 3 185 d 0) b (XJ a c R) b
def XL:=λc (R:VK) a (d:za)=>
 zg a true (zp zz 42 c 5) d (λe b=>zg a true (zd zz 3 e b) b (XK a c R) b) d
def j9:=λa (R:VK) c (b:za)=>
 zg a true (zi .leq 3 201 c 10000000) b (λd e=>opt (pk a d (.bool false)) λf=>rv [f] e R) b
def Za:=λa (R:VK) c (b:za)=>
 zg a true (zi .leq 2 212 c 65536) b (λd e=>opt (pk a d (.bool false)) λf=>rv [f] e R) b
def Zb:=λd (a:za) (R:VK) (g:LK)=>
 zI 42 d 6 2 a λe=>opt (zi .geq 2 208 e 0) λb=>zg b true (zp zz 42 d 6) a (λf c=>zg b true (zd zz 2 f c) c (Za b R) c) a
def Zc:=λd (a:za) (R:VK) (g:LK)=>
 zI 42 d 5 3 a λe=>opt (zi .geq 3 197 e 0) λb=>zg b true (zp zz 42 d 5) a (λf c=>zg b true (zd zz 3 f c) c (j9 b R) c) a
def k9:=λb (c:za) f (R:VK) g (h:LK)=>
 opt (zi .eql 3 80 b 23) λd=>CD d (λa=>a [d] c)
 (λa=>opt (zi .eql 3 80 b 24) λi=>a [i] c)
 (λj e=>CD (nth j 0) (Zb f e R)
 (λk=>k [nth g 0] e)
 (λl m=>h [nth l 0] m))
def vJ:=λa (c:za) d (R:VK) g (h:LK)=>
 opt (zi .eql 3 80 a 18) λe=>CD e (λb=>b [e] c)
 (λb=>opt (zi .eql 3 80 a 20) λi=>b [i] c)
 (λj f=>CD (nth j 0) (Zc d f R)
 (k9 a f d R g)
 (λk l=>h [nth k 0] l))
def iH:=λb (a:za) (R:VK) (f:LK)=>
 zI 42 b 4 3 a λc=>zP zz (fn 56) [c] a (λd e=>rv [d] e R)
def vx:=λc a (b:za) (R:VK) d (e:LK)=>
 opt (zi .eql 3 80 c 19) λf=>CD f (λj=>zI 42 a 4 3 b λg=>zP zz (fn 56) [g] b (XL a R))
 (vJ c b a R d)
 (λh i=>e [nth h 0] i)
def VA:=λd (a:za) (R:VK) (g:LK)=>
 zI 42 d 3 3 a λe=>opt (zi .eql 3 166 e 19) λb=>zg b false (zp zz 42 d 3) a (λf c=>zg b false (zd zz 3 f c) c (Vz b R) c) a
def wY:=λa b (c:za) (R:VK) d (e:LK)=>
 opt (zi .eql 3 80 a 17) λf=>CD f (iH b c R)
 (vx a b c R d)
 (λg h=>e [nth g 0] h)
def ja:=λa (b:za) (R:VK) (g:LK)=>
 zI 42 a 3 3 b λe=>opt (zi .eql 3 146 e 19) λc=>zg c false (zp zz 42 a 3) b (λf d=>zg c false (zd zz 3 f d) d (k8 c a R) d) b
def xZ:=λa b (c:za) (R:VK) d (e:LK)=>
 opt (zi .eql 3 80 a 12) λf=>CD f (VA b c R)
 (wY a b c R d)
 (λg h=>e [nth g 0] h)
def VB:=λd (a:za) (R:VK) (g:LK)=>
 zI 42 d 3 3 a λe=>opt (zi .eql 3 136 e 3) λb=>zg b false (zp zz 42 d 3) a (λf c=>zg b false (zd zz 3 f c) c (Qs b R) c) a
def yI:=λa b (c:za) (R:VK) d (e:LK)=>
 opt (zi .eql 3 80 a 11) λf=>CD f (ja b c R)
 (xZ a b c R d)
 (λg h=>e [nth g 0] h)
def VC:=λd (a:za) (R:VK) (g:LK)=>
 zI 42 d 3 3 a λe=>opt (zi .eql 3 126 e 1) λb=>zg b false (zp zz 42 d 3) a (λf c=>zg b false (zd zz 3 f c) c (Qr b R) c) a
def yp:=λa b (c:za) (R:VK) d (e:LK)=>
 opt (zi .eql 3 80 a 10) λf=>CD f (VB b c R)
 (yI a b c R d)
 (λg h=>e [nth g 0] h)
def ye:=λa b (c:za) (R:VK) d (e:LK)=>
 opt (zi .eql 3 80 a 9) λf=>CD f (VC b c R)
 (yp a b c R d)
 (λg h=>e [nth g 0] h)
def iI:=λb (a:za) (R:VK) (f:LK)=>
 zI 42 b 3 3 a λc=>zP zz (fn 55) [c] a (λd e=>rv [d] e R)
def yc:=λc a (b:za) (R:VK) d (e:LK)=>
 opt (zi .eql 3 80 c 8) λf=>CD f (λj=>zI 42 a 3 3 b λg=>zP zz (fn 55) [g] b (bU a R))
 (ye c a b R d)
 (λh i=>e [nth h 0] i)
def KJ:=λb (a:za) (R:VK) (f:LK)=>
 zI 42 b 6 2 a λc=>zP zz (fn 37) [c] a (λd e=>rv [d] e R)
def ya:=λa b (c:za) (R:VK) d (e:LK)=>
 opt (zi .eql 3 80 a 7) λf=>CD f (iI b c R)
 (yc a b c R d)
 (λg h=>e [nth g 0] h)
def kg:=λa (b:za) (R:VK) (g:LK)=>
 zI 42 a 3 3 b λe=>opt (zi .eql 3 85 e 1) λc=>zg c false (zp zz 42 a 3) b (λf d=>zg c false (zd zz 3 f d) d (jw c a R) d) b
def zW:=λa (c:za) d (R:VK) g (h:LK)=>
 opt (zi .eql 3 80 a 5) λe=>CD e (λb=>b [e] c)
 (λb=>opt (zi .eql 3 80 a 16) λi=>b [i] c)
 (λj f=>CD (nth j 0) (KJ d f R)
 (ya a d f R g)
 (λk l=>h [nth k 0] l))
def zJ:=λa (c:za) d (R:VK) g (h:LK)=>
 opt (zi .eql 3 80 a 3) λe=>CD e (λb=>b [e] c)
 (λb=>opt (zi .eql 3 80 a 4) λi=>b [i] c)
 (λj f=>CD (nth j 0) (kg d f R)
 (zW a f d R g)
 (λk l=>h [nth k 0] l))
def zn:=λa (R:VK) c (b:za)=>
 zI 42 a 0 3 b λd=>BK (zJ d b a R c)
 (λf e=>rv [.bool true] e R)
def jb:=λa (R:VK) e f g (b:za)=>
 zg a true (zi .neq 3 76 g 1) b (λh c=>opt (pk a h (.bool false)) λi=>CD i (λd=>rv [.bool false] c R)
 (λd=>d [nth e 0] c)
 (zn f R)) b
def jc:=λe c (R:VK) f g (d:za)=>
 opt (pk e g (.bool false)) λa=>zg a true (zp zz 42 c 0) d (λh b=>zg a true (zd zz 3 h b) b (jb a R f c) b) d
def jd:=λa c (R:VK) d e (b:za)=>
 zg a true (zi .neq 3 71 e 5) b (jc a c R d) b
def jf:=λe c (R:VK) f g (d:za)=>
 opt (pk e g (.bool false)) λa=>zg a true (zp zz 42 c 0) d (λh b=>zg a true (zd zz 3 h b) b (jd a c R f) b) d
def jg:=λa c (R:VK) d e (b:za)=>
 zg a true (zi .neq 3 66 e 4) b (jf a c R d) b
def jh:=λe c (R:VK) f g (d:za)=>
 opt (pk e g (.bool false)) λa=>zg a true (zp zz 42 c 0) d (λh b=>zg a true (zd zz 3 h b) b (jg a c R f) b) d
def ji:=λa c (R:VK) d e (b:za)=>
 zg a true (zi .neq 3 61 e 3) b (jh a c R d) b
def jj:=λe c (R:VK) f g (d:za)=>
 opt (pk e g (.bool false)) λa=>zg a true (zp zz 42 c 0) d (λh b=>zg a true (zd zz 3 h b) b (ji a c R f) b) d
def jk:=λa c (R:VK) d e (b:za)=>
 zg a true (zi .eql 3 56 e 4) b (jj a c R d) b
def kh:=λa c (R:VK) e (d:za)=>
 zg a true (zp zz 42 c 2) d (λf b=>zg a true (zd zz 3 f b) b (jk a c R e) b) d
def xN:=λa e (R:VK) f g h (b:za)=>
 zg a false (pk e h (.bool false)) b (λi c=>opt (pk a (.bool true) i) λj=>CD j (λd=>rv [.bool false] c R)
 (λd=>d [.bool false] c)
 (kh f g R)) b
def xO:=λa c (R:VK) d e f (b:za)=>
 zg a true (zi .eql 3 49 f 4) b (xN c a R d e) b
def xP:=λc e (R:VK) f a (d:za)=>
 zg a true (zp zz 42 c 1) d (λg b=>zg a true (zd zz 3 g b) b (xO a e R f c) b) d
def vX:=λa e (R:VK) f g (c:za)=>
 GD a false (λh=>zP zz (fn 54) [g] c (λb i=>h b i)) (λb d=>GD a false (λj=>j b d) (xP e a R f) d) c
def vY:=λb f c (R:VK) g h (d:za)=>
 zg b false (pk f h (.bool false)) d (λi a=>opt (pk b (.bool true) i) λe=>zg e false (zd zz 42 c a) a (vX e c R g) a) d
def vZ:=λa b e f (R:VK) g h (c:za)=>
 zg a false (zi .gtr 3 39 h 15) c (λi d=>zg b true (pk a (.bool true) i) d (vY e b f R g) d) c
def v8:=λc e f (R:VK) g a (d:za)=>
 zg a false (zp zz 42 c 2) d (λh b=>zg a false (zd zz 3 h b) b (vZ a e f c R g) b) d
def v9:=λa d e (R:VK) f g (b:za)=>
 zg a true (zi .lss 3 35 g 0) b (λh c=>GD a true (λi=>i h c) (v8 d a e R f) c) b
def ua:=λc e (R:VK) f a (d:za)=>
 zg a true (zp zz 42 c 2) d (λg b=>zg a true (zd zz 3 g b) b (v9 a c e R f) b) d
def ub:=λe b f (R:VK) g (c:za)=>
 opt (pk e (.bool true) g) λa=>GD a false (λh=>h b c) (λi d=>GD a false (λj=>j i d) (ua f a R b) d) c
def uc:=λa e b f g (R:VK) h (c:za)=>
 zg a true (pk e (.bool true) h) c (λi d=>zg b false (pk a i (.bool false)) d (ub b f g R) d) c
def ud:=λa c d e f (R:VK) g (b:za)=>
 zg a false (zi .gtr 3 26 g 15) b (uc c a d e f R) b
def ue:=λc e f g (R:VK) a (d:za)=>
 zg a false (zp zz 42 c 1) d (λh b=>zg a false (zd zz 3 h b) b (ud a e f g c R) b) d
def uf:=λa d e f (R:VK) g (b:za)=>
 zg a true (zi .lss 3 22 g 0) b (λh c=>GD a true (λi=>i h c) (ue d a e f R) c) b
def ug:=λc e f (R:VK) a (d:za)=>
 zg a true (zp zz 42 c 1) d (λg b=>zg a true (zd zz 3 g b) b (uf a c e f R) b) d
def uh:=λd e f g (R:VK) h (b:za)=>
 opt (pk d (.bool true) h) λa=>GD a false (λi=>i e b) (λj c=>GD a false (λk=>k j c) (ug f a g R) c) b
def ui:=λa c d e (R:VK) f (b:za)=>
 zg a false (zi .gtr 3 15 f 26) b (uh a c d e R) b
def uj:=λa (R:VK) e (b:za)=>
 opt (Kn e 0) λf=>opt (Kn e 1) λg=>zI 42 a 0 3 b λh=>opt (zi .lss 3 11 h 1) λc=>zg c false (zp zz 42 a 0) b (λi d=>zg c false (zd zz 3 i d) d (ui c f a g R) d) b
def CE:=λ(h:za) a (R:VK)=>
 opt (nb [a] (some (Value.cells a).toList)) λd=>nw h d 42 λb c=>opt (zd zz 42 b c) λe=>zP zz (fn 53) [e] c (uj b R)
theorem CF(hw:CE h t0 R):DC zz 27 [t0] h R:=xp (by kernel_rfl) hw
def QB:=λb (c:za) (e:LK)=>
 opt (zi .eql 3 4 b 12) λd=>CD d (λa=>a [d] c)
 (λa=>opt (zi .eql 3 4 b 17) λf=>a [f] c)
 (λg h=>e [nth g 0] h)
def W2:=λa (b:za) (d:LK)=>
 opt (zi .eql 3 4 a 11) λc=>CD c (λe=>e [c] b)
 (QB a b)
 (λf g=>d [nth f 0] g)
def Y9:=λa (b:za) (d:LK)=>
 opt (zi .eql 3 4 a 10) λc=>CD c (λe=>e [c] b)
 (W2 a b)
 (λf g=>d [nth f 0] g)
def Z0:=λa (b:za) (d:LK)=>
 opt (zi .eql 3 4 a 9) λc=>CD c (λe=>e [c] b)
 (Y9 a b)
 (λf g=>d [nth f 0] g)
def Zd:=λa (b:za) (d:LK)=>
 opt (zi .eql 3 4 a 8) λc=>CD c (λe=>e [c] b)
 (Z0 a b)
 (λf g=>d [nth f 0] g)
def jx:=λa (b:za) (d:LK)=>
 opt (zi .eql 3 4 a 7) λc=>CD c (λe=>e [c] b)
 (Zd a b)
 (λf g=>d [nth f 0] g)
def kF:=λa (b:za) (d:LK)=>
 opt (zi .eql 3 4 a 6) λc=>CD c (λe=>e [c] b)
 (jx a b)
 (λf g=>d [nth f 0] g)
def qE:=λa (b:za) (d:LK)=>
 opt (zi .eql 3 4 a 5) λc=>CD c (λe=>e [c] b)
 (kF a b)
 (λf g=>d [nth f 0] g)
def qp:=λa (b:za) (d:LK)=>
 opt (zi .eql 3 4 a 3) λc=>CD c (λe=>e [c] b)
 (qE a b)
 (λf g=>d [nth f 0] g)
def uo:=λa (b:za) (d:LK)=>
 opt (zi .eql 3 4 a 2) λc=>CD c (λe=>e [c] b)
 (qp a b)
 (λf g=>d [nth f 0] g)
def vK:=λa (b:za) (R:VK) (f:LK)=>
 opt (zi .eql 3 4 a 1) λc=>CD c (λg=>g [c] b)
 (uo a b)
 (λh d=>CD (nth h 0) (λe=>rv [.bool true] d R)
 (λe=>e [.bool false] d)
 (λi j=>f [nth i 0] j))
def Dr:=λ(h:za) a (R:VK)=>
 opt (nb [a] (some (Value.cells a).toList)) λc=>nw h c 42 λd b=>zI 42 d 0 3 b λe=>BK (vK e b R)
 (λg f=>rv [.bool false] f R)
theorem Ds(hw:Dr h t0 R):DC zz 54 [t0] h R:=xp (by kernel_rfl) hw
def qS:=λb (c:za) (e:LK)=>
 opt (zi .eql 3 23 b 14) λd=>CD d (λa=>a [d] c)
 (λa=>opt (zi .eql 3 23 b 15) λf=>a [f] c)
 (λg h=>e [nth g 0] h)
def qA:=λa (b:za) (d:LK)=>
 opt (zi .eql 3 23 a 10) λc=>CD c (λe=>e [c] b)
 (qS a b)
 (λf g=>d [nth f 0] g)
def qm:=λa (b:za) (d:LK)=>
 opt (zi .eql 3 23 a 7) λc=>CD c (λe=>e [c] b)
 (qA a b)
 (λf g=>d [nth f 0] g)
def uV:=λa (b:za) (d:LK)=>
 opt (zi .eql 3 23 a 5) λc=>CD c (λe=>e [c] b)
 (qm a b)
 (λf g=>d [nth f 0] g)
def uI:=λa (b:za) (d:LK)=>
 opt (zi .eql 3 23 a 4) λc=>CD c (λe=>e [c] b)
 (uV a b)
 (λf g=>d [nth f 0] g)
def um:=λa (b:za) (d:LK)=>
 opt (zi .eql 3 23 a 3) λc=>CD c (λe=>e [c] b)
 (uI a b)
 (λf g=>d [nth f 0] g)
def vP:=λd (R:VK) (e:LK) f (a:za)=>
 CD (nth f 0) (λb=>rv [d,.bool true] a R)
 (λb=>b [.bool false,.bool false] a)
 (λc g=>e [nth c 0,nth c 1] g)
def vQ:=λa (b:za) d (R:VK) (e:LK)=>
 opt (zi .eql 3 23 a 1) λc=>CD c (λf=>f [c] b)
 (um a b)
 (vP d R e)
def vR:=λc d (R:VK) e (a:za)=>
 opt (pk c (.bool true) e) λb=>zI 42 d 0 3 a λf=>BK (vQ f a b R)
 (λh g=>rv [b,.bool false] g R)
def vd:=λa c (R:VK) d (b:za)=>
 zg a false (zi .eql 3 19 d 16) b (vR a c R) b
def ve:=λe c (R:VK) f (d:za)=>
 opt (pk e (.bool true) f) λa=>zg a false (zp zz 42 c 0) d (λg b=>zg a false (zd zz 3 g b) b (vd a c R) b) d
def vf:=λa c (R:VK) d (b:za)=>
 zg a false (zi .eql 3 14 d 15) b (ve a c R) b
def vh:=λe c (R:VK) f (d:za)=>
 opt (pk e (.bool true) f) λa=>zg a false (zp zz 42 c 0) d (λg b=>zg a false (zd zz 3 g b) b (vf a c R) b) d
def vi:=λa c (R:VK) d (b:za)=>
 zg a false (zi .eql 3 9 d 4) b (vh a c R) b
def vj:=λc (R:VK) a (d:za)=>
 zg a false (zp zz 42 c 0) d (λe b=>zg a false (zd zz 3 e b) b (vi a c R) b) d
def Hs:=λ(h:za) a (R:VK)=>
 opt (nb [a] (some (Value.cells a).toList)) λd=>nw h d 42 λb c=>opt (zd zz 42 b c) λe=>zP zz (fn 54) [e] c (vj b R)
theorem Fv(hw:Hs h t0 R):DC zz 53 [t0] h R:=xp (by kernel_rfl) hw
def J4:=λa (R:VK) c (b:za)=>
 zg a true (zi .leq 2 6 c 2147483647) b (λd e=>opt (pk a d (.bool false)) λf=>rv [f] e R) b
def Hv:=λ(h:za) a (R:VK)=>
 opt (zi .geq 2 3 a (-2147483648)) λb=>GD b true (λc=>c a h) (J4 b R) h
theorem FA(hw:Hv h t0 R):DC zz 37 [t0] h R:=xp (by kernel_rfl) hw
def lQ:=λa (R:VK) c (b:za)=>
 zg a true (zi .leq 3 6 c 26) b (λd e=>opt (pk a d (.bool false)) λf=>rv [f] e R) b
def Ss:=λ(h:za) a (R:VK)=>
 opt (zi .geq 3 3 a 21) λb=>GD b true (λc=>c a h) (lQ b R) h
theorem MQ(hw:Ss h t0 R):DC zz 56 [t0] h R:=xp (by kernel_rfl) hw
def XD:=λa (R:VK) c (b:za)=>
 zg a false (zi .eql 3 22 c 18) b (λd e=>opt (pk a (.bool true) d) λf=>rv [f] e R) b
def XE:=λa e (R:VK) f (b:za)=>
 zg a false (zi .eql 3 18 f 17) b (λg c=>opt (pk a (.bool true) g) λd=>GD d false (λh=>h e c) (XD d R) c) b
def XF:=λa b (R:VK) f (c:za)=>
 zg a false (zi .eql 3 14 f 16) c (λg d=>opt (pk a (.bool true) g) λe=>GD e false (λh=>h b d) (XE e b R) d) c
def XG:=λa b (R:VK) f (c:za)=>
 zg a false (zi .eql 3 10 f 13) c (λg d=>opt (pk a (.bool true) g) λe=>GD e false (λh=>h b d) (XF e b R) d) c
def XH:=λa b (R:VK) f (c:za)=>
 zg a false (zi .eql 3 6 f 12) c (λg d=>opt (pk a (.bool true) g) λe=>GD e false (λh=>h b d) (XG e b R) d) c
def MP:=λ(h:za) a (R:VK)=>
 opt (zi .eql 3 3 a 11) λb=>GD b false (λc=>c a h) (XH b a R) h
theorem I3(hw:MP h t0 R):DC zz 55 [t0] h R:=xp (by kernel_rfl) hw
def Jz:=λd a (R:VK) (e:LK) f (b:za)=>
 opt (pk d f (.bool false)) λg=>CD g (λc=>rv [nth a 1] b R)
 (λc=>c [nth a 0] b)
 (λh i=>e [nth h 0] i)
def JA:=λa d e (R:VK) (f:LK) g (b:za)=>
 GD a true (λh=>h d b) (λi c=>zg a true (xL .eql 3 26 27 g i) c (Jz a e R f) c) b
def JB:=λa d e (R:VK) (f:LK) g (c:za)=>
 zg a true (zp zz 42 g 5) c (λh b=>zg a true (zd zz 3 h b) b (JA a d e R f) b) c
def JC:=λa b e (R:VK) (f:LK) g (c:za)=>
 GD a true (λh=>h (nth b 1) c) (λi d=>zg a true (xR zz 48 g i) d (JB a e b R f) d) c
def JD:=λd (a:za) e f (R:VK) (g:LK)=>
 zI 50 d 1 48 a λh=>opt (xR zz 48 h (nth e 1)) λi=>zI 42 i 0 3 a λj=>opt (zi .eql 3 18 j 20) λb=>zg b true (zp zz 50 d 1) a (λk c=>zg b true (zd zz 48 k c) c (JC b e f R g) c) a
def fI:=λa (b:LK) c (d:za)=>
 opt (zi .add 3 11 (nth a 1) 1) λe=>b [nth c 0,e] d
def sC:=λb (f:LK) g (R:VK) a (c:za) (h:LK)=>
 zI 50 b 1 48 c λi=>zD (uy 48 i c) λj d=>opt (xL .lss 3 6 9 (nth a 1) j) λk=>CD k (λe=>e [] d)
 (λe=>f [nth a 0] d)
 (λm l=>BK (JD b l a g R)
 (fI a h))
def G6:=λ(h:za) a b (R:VK)=>
 opt (nb [a] (some (Value.cells a).toList)) λc=>nw h c 50 λd e=>BK (λf=>LP (sC d f b R)
 [pm 0,pm 0] e)
 (λi g=>rv [pm (-1)] g R)
theorem Fm(hw:G6 h t0 t1 R):DC zz 28 [t0,t1] h R:=xp (by kernel_rfl) hw
end Go.Ar
namespace Go.Ai
open Go.Ai Go.Proofs
end Go.Ai
namespace Go.As
open Go.Ai Go.Proofs Go.Proofs.Tryz
noncomputable abbrev zz:=prog
abbrev VK:=aaa->za->Prop
abbrev LK:=List aaa->za->Prop
abbrev ci(n:Int):Operand := .const (pm n)
abbrev fn(n:Nat):aaa := .func (.func n) #[] #[]
variable {h:za}{t0 t1 t2 t3 t4 t5 t6:aaa}{R:VK}
def qs:FuncId->Nat:=λg=>([(89,3),(90,3),(93,2),(104,2),(106,2),(108,2),(116,3),(117,2)].lookup g).getD 0
theorem mixed:prog.follows .mixedOrders=true:=acg Tryz.checked
theorem xp{f:FuncId}{args:List aaa}{X:Prop}(e:Pu zz (ba zz qs) 200 f args h R=X)(hw:X):DC zz f args h R:=Up mixed (q:=qs) (n:=200) (Eq.mpr e hw)
def qU:=λb (R:VK) d (c:za)=>
 GD b true (λe=>zP zz (fn 72) [d] c (λa f=>e a f)) (λa g=>opt (pk b a (.bool false)) λh=>rv [h] g R) c
def qX:=λd e (R:VK) f (c:za)=>
 opt (pk d (.bool true) f) λa=>zg a true (zp zz 42 e 6) c (λg b=>zg a true (zd zz 2 g b) b (qU a R) b) c
def ka:=λa c (R:VK) d (b:za)=>
 zg a false (zi .eql 3 33 d 8) b (qX a c R) b
def ke:=λe c (R:VK) f (d:za)=>
 opt (pk e (.bool true) f) λa=>zg a false (zp zz 42 c 3) d (λg b=>zg a false (zd zz 3 g b) b (ka a c R) b) d
def kf:=λa c (R:VK) d (b:za)=>
 zg a false (zi .eql 3 28 d 4) b (ke a c R) b
def Z4:=λa c (R:VK) d (b:za)=>
 zg a true (xL .leq 2 66 71 c d) b (λe f=>opt (pk a e (.bool false)) λg=>rv [g] f R) b
def Z5:=λa d e (R:VK) f (c:za)=>
 zg a true (xR zz 22 d f) c (λg b=>zg a true (zd zz 3 g b) b (Z4 a e R) b) c
def Z6:=λa d e (R:VK) f (c:za)=>
 zg a true (zp zz 42 d 3) c (λg b=>zg a true (zd zz 3 g b) b (Z5 a f e R) b) c
def Z7:=λa d e (R:VK) f (b:za)=>
 zg a true (zd zz 2 f b) b (λg c=>GD a true (λh=>h d c) (Z6 a e g R) c) b
def Zp:=λa b f (R:VK) g (c:za)=>
 zg a true (zi .geq 2 61 g 0) c (λh d=>opt (pk a h (.bool false)) λe=>zg e true (zp zz 42 b 6) d (Z7 e f b R) d) c
def Zq:=λe c f (R:VK) g (d:za)=>
 opt (pk e g (.bool false)) λa=>zg a true (zp zz 42 c 6) d (λh b=>zg a true (zd zz 2 h b) b (Zp a c f R) b) d
def Zr:=λa e f g (R:VK) h (b:za)=>
 GD a true (λi=>zD (uy 22 h b) λc _=>i c b) (λc d=>zg a true (xL .lss 3 54 56 e c) d (Zq a f g R) d) b
def Zs:=λa c e (R:VK) f (b:za)=>
 zg a true (zd zz 3 f b) b (λg d=>GD a true (λh=>h c d) (Zr a g e c R) d) b
def U4:=λb (R:VK) d (c:za)=>
 GD b true (λe=>zP zz (fn 72) [d] c (λa f=>e a f)) (λa g=>opt (pk b a (.bool false)) λh=>rv [h] g R) c
def U5:=λd (R:VK) a (c:za)=>
 zg a true (zp zz 42 d 6) c (λe b=>zg a true (zd zz 2 e b) b (U4 a R) b) c
def Wk:=λa (R:VK) c (b:za)=>
 zg a false (zi .eql 3 96 c 2) b (λd e=>opt (pk a (.bool true) d) λf=>rv [f] e R) b
def Wl:=λa (R:VK) c (b:za)=>
 zg a false (zi .eql 3 106 c 4) b (λd e=>opt (pk a (.bool true) d) λf=>rv [f] e R) b
def qV:=λa (R:VK) c (b:za)=>
 zg a true (zi .leq 2 126 c 63) b (λd e=>opt (pk a d (.bool false)) λf=>rv [f] e R) b
def qW:=λd e (R:VK) f (c:za)=>
 opt (pk d f (.bool false)) λa=>zg a true (zp zz 42 e 6) c (λg b=>zg a true (zd zz 2 g b) b (qV a R) b) c
def qY:=λa c (R:VK) d (b:za)=>
 zg a true (zi .geq 2 121 d 0) b (qW a c R) b
def qZ:=λe c (R:VK) f (d:za)=>
 opt (pk e (.bool true) f) λa=>zg a true (zp zz 42 c 6) d (λg b=>zg a true (zd zz 2 g b) b (qY a c R) b) d
def q8:=λa c (R:VK) d (b:za)=>
 zg a false (zi .eql 3 116 d 20) b (qZ a c R) b
def Wm:=λa (R:VK) c (b:za)=>
 zg a false (zi .eql 3 136 c 20) b (λd e=>opt (pk a (.bool true) d) λf=>rv [f] e R) b
def Wn:=λa (R:VK) c (b:za)=>
 zg a true (zi .leq 3 152 c 10000000) b (λd e=>opt (pk a d (.bool false)) λf=>rv [f] e R) b
def jo:=λa (R:VK) c (b:za)=>
 zg a true (zi .leq 2 163 c 65536) b (λd e=>opt (pk a d (.bool false)) λf=>rv [f] e R) b
def jq:=λd (a:za) (R:VK) (g:LK)=>
 zI 42 d 6 2 a λe=>opt (zi .geq 2 159 e 0) λb=>zg b true (zp zz 42 d 6) a (λf c=>zg b true (zd zz 2 f c) c (jo b R) c) a
def Wo:=λd (a:za) (R:VK) (g:LK)=>
 zI 42 d 5 3 a λe=>opt (zi .geq 3 148 e 0) λb=>zg b true (zp zz 42 d 5) a (λf c=>zg b true (zd zz 3 f c) c (Wn b R) c) a
def q9:=λb (c:za) f (R:VK) g (h:LK)=>
 opt (zi .eql 3 19 b 23) λd=>CD d (λa=>a [d] c)
 (λa=>opt (zi .eql 3 19 b 24) λi=>a [i] c)
 (λj e=>CD (nth j 0) (jq f e R)
 (λk=>k [nth g 0] e)
 (λl m=>h [nth l 0] m))
def U6:=λb (a:za) (R:VK) (f:LK)=>
 zI 42 b 4 3 a λc=>zP zz (fn 74) [c] a (λd e=>rv [d] e R)
def uA:=λa b (c:za) (R:VK) d (e:LK)=>
 opt (zi .eql 3 19 a 20) λf=>CD f (Wo b c R)
 (q9 a c b R d)
 (λg h=>e [nth g 0] h)
def Wp:=λd (a:za) (R:VK) (g:LK)=>
 zI 42 d 3 3 a λe=>opt (zi .eql 3 132 e 19) λb=>zg b false (zp zz 42 d 3) a (λf c=>zg b false (zd zz 3 f c) c (Wm b R) c) a
def vC:=λa (c:za) d (R:VK) g (h:LK)=>
 opt (zi .eql 3 19 a 17) λe=>CD e (λb=>b [e] c)
 (λb=>opt (zi .eql 3 19 a 19) λi=>b [i] c)
 (λj f=>CD (nth j 0) (U6 d f R)
 (uA a d f R g)
 (λk l=>h [nth k 0] l))
def kd:=λa (b:za) (R:VK) (g:LK)=>
 zI 42 a 3 3 b λe=>opt (zi .eql 3 112 e 19) λc=>zg c false (zp zz 42 a 3) b (λf d=>zg c false (zd zz 3 f d) d (q8 c a R) d) b
def wK:=λa b (c:za) (R:VK) d (e:LK)=>
 opt (zi .eql 3 19 a 12) λf=>CD f (Wp b c R)
 (vC a c b R d)
 (λg h=>e [nth g 0] h)
def Wq:=λd (a:za) (R:VK) (g:LK)=>
 zI 42 d 3 3 a λe=>opt (zi .eql 3 102 e 3) λb=>zg b false (zp zz 42 d 3) a (λf c=>zg b false (zd zz 3 f c) c (Wl b R) c) a
def yL:=λa b (c:za) (R:VK) d (e:LK)=>
 opt (zi .eql 3 19 a 11) λf=>CD f (kd b c R)
 (wK a b c R d)
 (λg h=>e [nth g 0] h)
def Wr:=λd (a:za) (R:VK) (g:LK)=>
 zI 42 d 3 3 a λe=>opt (zi .eql 3 92 e 1) λb=>zg b false (zp zz 42 d 3) a (λf c=>zg b false (zd zz 3 f c) c (Wk b R) c) a
def yo:=λa b (c:za) (R:VK) d (e:LK)=>
 opt (zi .eql 3 19 a 10) λf=>CD f (Wq b c R)
 (yL a b c R d)
 (λg h=>e [nth g 0] h)
def yd:=λa b (c:za) (R:VK) d (e:LK)=>
 opt (zi .eql 3 19 a 9) λf=>CD f (Wr b c R)
 (yo a b c R d)
 (λg h=>e [nth g 0] h)
def df:=λb (a:za) (R:VK) (f:LK)=>
 zI 42 b 3 3 a λc=>zP zz (fn 73) [c] a (λd e=>rv [d] e R)
def yb:=λc a (b:za) (R:VK) d (e:LK)=>
 opt (zi .eql 3 19 c 8) λf=>CD f (λj=>zI 42 a 3 3 b λg=>zP zz (fn 73) [g] b (U5 a R))
 (yd c a b R d)
 (λh i=>e [nth h 0] i)
def Zt:=λa (b:za) d (R:VK) (f:LK)=>
 zI 42 a 3 3 b λe=>opt (zi .geq 3 50 e 0) λc=>zg c true (zp zz 42 a 3) b (Zs c d a R) b
def z7:=λa b (c:za) (R:VK) d (e:LK)=>
 opt (zi .eql 3 19 a 7) λf=>CD f (df b c R)
 (yb a b c R d)
 (λg h=>e [nth g 0] h)
def U7:=λb (a:za) (R:VK) (f:LK)=>
 zI 42 b 6 2 a λc=>zP zz (fn 72) [c] a (λd e=>rv [d] e R)
def zR:=λa b (c:za) d (R:VK) e (f:LK)=>
 opt (zi .eql 3 19 a 6) λg=>CD g (Zt b c d R)
 (z7 a b c R e)
 (λh i=>f [nth h 0] i)
def qx:=λa (b:za) (R:VK) (g:LK)=>
 zI 42 a 3 3 b λe=>opt (zi .eql 3 24 e 1) λc=>zg c false (zp zz 42 a 3) b (λf d=>zg c false (zd zz 3 f d) d (kf c a R) d) b
def zO:=λa (c:za) d (R:VK) g h (i:LK)=>
 opt (zi .eql 3 19 a 5) λe=>CD e (λb=>b [e] c)
 (λb=>opt (zi .eql 3 19 a 16) λj=>b [j] c)
 (λk f=>CD (nth k 0) (U7 d f R)
 (zR a d f g R h)
 (λl m=>i [nth l 0] m))
def zC:=λa (c:za) d (R:VK) g h (i:LK)=>
 opt (zi .eql 3 19 a 3) λe=>CD e (λb=>b [e] c)
 (λb=>opt (zi .eql 3 19 a 4) λj=>b [j] c)
 (λk f=>CD (nth k 0) (qx d f R)
 (zO a f d R g h)
 (λl m=>i [nth l 0] m))
def zl:=λa (R:VK) c d (b:za)=>
 zI 42 a 0 3 b λe=>BK (zC e b a R c d)
 (λg f=>rv [.bool true] f R)
def Yq:=λa (R:VK) e f g (b:za)=>
 zg a false (DP zz .not g) b (λh c=>opt (pk a (.bool true) h) λi=>CD i (λd=>rv [.bool false] c R)
 (λd=>d [.bool false] c)
 (zl e R f)) b
def Ws:=λe c (R:VK) f g (a:za)=>
 opt (pk e (.bool true) g) λb=>zg b false (zd zz 42 c a) a (λh d=>GD b false (λi=>zP zz (fn 71) [h] d (λj k=>i j k)) (Yq b R c f) d) a
def Wt:=λa c (R:VK) d e (b:za)=>
 zg a false (zi .gtr 3 10 e 26) b (Ws a c R d) b
def sB:=λ(h:za) e f (R:VK)=>
 opt (nb [e] (some (Value.cells e).toList)) λg=>nw h g 42 λa b=>zI 42 a 0 3 b λi=>opt (zi .lss 3 6 i 1) λc=>zg c false (zp zz 42 a 0) b (λj d=>zg c false (zd zz 3 j d) d (Wt c a R f) d) b
theorem AQ(hw:sB h t0 t1 R):DC zz 34 [t0,t1] h R:=xp (by kernel_rfl) hw
def y5:=λe a (R:VK) b (c:za)=>
 GD b false (λf=>f e c) (λg d=>zg a true (pk b (.bool true) g) d (λh i=>opt (pk a h (.bool false)) λj=>rv [j] i R) d) c
def y6:=λa d (R:VK) e (b:za)=>
 zg a true (zi .neq 3 62 e 4) b (λf c=>GD a true (λg=>g f c) (y5 d a R) c) b
def y8:=λd e f (R:VK) g (c:za)=>
 opt (pk d g (.bool false)) λa=>zg a true (zp zz 42 e 2) c (λh b=>zg a true (zd zz 3 h b) b (y6 a f R) b) c
def y9:=λa c d (R:VK) e (b:za)=>
 zg a true (zi .lss 3 57 e 16) b (y8 a c d R) b
def xa:=λe a (R:VK) f (b:za)=>
 opt (pk e (.bool true) f) λg=>zI 42 a 2 3 b λh=>opt (zi .geq 3 53 h 0) λc=>zg c true (zp zz 42 a 2) b (λi d=>zg c true (zd zz 3 i d) d (y9 c a g R) d) b
def xb:=λa c (R:VK) d (b:za)=>
 zg a false (zi .eql 3 49 d 1) b (xa a c R) b
def xc:=λe c (R:VK) f (d:za)=>
 opt (pk e (.bool true) f) λa=>zg a false (zp zz 42 c 0) d (λg b=>zg a false (zd zz 3 g b) b (xb a c R) b) d
def xe:=λa c (R:VK) d (b:za)=>
 zg a false (zi .eql 3 44 d 5) b (xc a c R) b
def xf:=λe c (R:VK) f (d:za)=>
 opt (pk e (.bool true) f) λa=>zg a false (zp zz 42 c 0) d (λg b=>zg a false (zd zz 3 g b) b (xe a c R) b) d
def yJ:=λa c (R:VK) d (b:za)=>
 zg a false (zi .eql 3 39 d 4) b (xf a c R) b
def yu:=λa (R:VK) (g:List aaa) (b:za)=>
 zI 42 a 0 3 b λe=>opt (zi .eql 3 35 e 3) λc=>zg c false (zp zz 42 a 0) b (λf d=>zg c false (zd zz 3 f d) d (yJ c a R) d) b
def u0:=λe (R:VK) f g h (a:za)=>
 opt (pk e h (.bool false)) λi=>CD i (λb=>rv [.bool false] a R)
 (λb=>b [.bool false] a)
 (λj c=>opt (DP zz .not f) λk=>CD k (λd=>rv [.bool true] c R)
 (λd=>d [nth j 0] c)
 (yu g R))
def kr:=λa e b (R:VK) f g h (c:za)=>
 zg a false (pk e h (.bool false)) c (λi d=>zg b true (pk a (.bool true) i) d (u0 b R f g) d) c
def ku:=λa c d (R:VK) e f g (b:za)=>
 zg a true (zi .eql 3 27 g 4) b (kr c a d R e f) b
def kx:=λc e f (R:VK) g a (d:za)=>
 zg a true (zp zz 42 c 1) d (λh b=>zg a true (zd zz 3 h b) b (ku a e f R g c) b) d
def kA:=λb f g (R:VK) h i (c:za)=>
 GD b true (λj=>j i c) (λa d=>GD a false (λk=>k f d) (λl e=>GD a false (λm=>m l e) (kx g a b R h) e) d) c
def kB:=λa b e f (R:VK) g h (c:za)=>
 zg a false (zi .geq 3 20 h 16) c (λi d=>zg b true (pk a (.bool true) i) d (kA b e f R g) d) c
def kC:=λc e f (R:VK) g a (d:za)=>
 zg a false (zp zz 42 c 1) d (λh b=>zg a false (zd zz 3 h b) b (kB a e f c R g) b) d
def kD:=λa d e (R:VK) f g (b:za)=>
 zg a true (zi .lss 3 16 g 0) b (λh c=>GD a true (λi=>i h c) (kC d a e R f) c) b
def kE:=λd (R:VK) a (e:za)=>
 opt (Kn a 0) λb=>opt (Kn a 1) λf=>opt (Kn a 2) λg=>zg b true (zp zz 42 d 1) e (λh c=>zg b true (zd zz 3 h c) c (kD b d g R f) c) e
def nI:=λ(h:za) a (R:VK)=>
 opt (nb [a] (some (Value.cells a).toList)) λd=>nw h d 42 λb c=>opt (zd zz 42 b c) λe=>zP zz (fn 87) [e] c (kE b R)
theorem rL(hw:nI h t0 R):DC zz 71 [t0] h R:=xp (by kernel_rfl) hw
def uS:=λb (c:za) (e:LK)=>
 opt (zi .eql 3 6 b 7) λd=>CD d (λa=>a [d] c)
 (λa=>opt (zi .eql 3 6 b 10) λf=>a [f] c)
 (λg h=>e [nth g 0] h)
def uH:=λa (b:za) (d:LK)=>
 opt (zi .eql 3 6 a 5) λc=>CD c (λe=>e [c] b)
 (uS a b)
 (λf g=>d [nth f 0] g)
def uk:=λa (b:za) (d:LK)=>
 opt (zi .eql 3 6 a 3) λc=>CD c (λe=>e [c] b)
 (uH a b)
 (λf g=>d [nth f 0] g)
def Z9:=λb (c:za) (e:LK)=>
 opt (zi .eql 3 6 b 12) λd=>CD d (λa=>a [d] c)
 (λa=>opt (zi .eql 3 6 b 17) λf=>a [f] c)
 (λg h=>e [nth g 0] h)
def Zu:=λa (b:za) (d:LK)=>
 opt (zi .eql 3 6 a 11) λc=>CD c (λe=>e [c] b)
 (Z9 a b)
 (λf g=>d [nth f 0] g)
def jL:=λa (b:za) (d:LK)=>
 opt (zi .eql 3 6 a 9) λc=>CD c (λe=>e [c] b)
 (Zu a b)
 (λf g=>d [nth f 0] g)
def kQ:=λa (b:za) (d:LK)=>
 opt (zi .eql 3 6 a 8) λc=>CD c (λe=>e [c] b)
 (jL a b)
 (λf g=>d [nth f 0] g)
def qR:=λa (b:za) (d:LK)=>
 opt (zi .eql 3 6 a 6) λc=>CD c (λe=>e [c] b)
 (kQ a b)
 (λf g=>d [nth f 0] g)
def fU:=λd (b:za) (R:VK) (e:LK)=>
 opt (zi .eql 3 6 d 14) λf=>CD f (λc=>rv [.bool false,.bool true,.bool false] b R)
 (λc=>c [.bool false,.bool false,.bool false] b)
 (λa g=>e [nth a 0,nth a 1,nth a 2] g)
def Qy:=λb (c:za) (R:VK) (d:LK)=>
 opt (zi .eql 3 6 b 16) λe=>CD e (λg=>rv [.bool true,.bool false,.bool false] c R)
 (fU b c R)
 (λa f=>d [nth a 0,nth a 1,nth a 2] f)
def Y4:=λ(R:VK) c (d:LK) e (b:za)=>
 CD (nth e 0) (λg=>rv [.bool true,.bool true,.bool false] b R)
 (Qy c b R)
 (λa f=>d [nth a 0,nth a 1,nth a 2] f)
def Y5:=λa (c:za) (R:VK) (e:LK)=>
 opt (zi .eql 3 6 a 4) λd=>CD d (λb=>b [d] c)
 (λb=>opt (zi .eql 3 6 a 15) λf=>b [f] c)
 (Y4 R a e)
def uT:=λ(R:VK) c (d:LK) e (b:za)=>
 CD (nth e 0) (λg=>rv [.bool true,.bool false,.bool true] b R)
 (Y5 c b R)
 (λa f=>d [nth a 0,nth a 1,nth a 2] f)
def uU:=λa (b:za) (R:VK) (d:LK)=>
 opt (zi .eql 3 6 a 2) λc=>CD c (λe=>e [c] b)
 (qR a b)
 (uT R a d)
def w9:=λ(R:VK) c (d:LK) e (b:za)=>
 CD (nth e 0) (λg=>rv [.bool true,.bool true,.bool true] b R)
 (uU c b R)
 (λa f=>d [nth a 0,nth a 1,nth a 2] f)
def vc:=λa (b:za) (R:VK) (d:LK)=>
 opt (zi .eql 3 6 a 1) λc=>CD c (λe=>e [c] b)
 (uk a b)
 (w9 R a d)
def Hr:=λ(h:za) a (R:VK)=>
 opt (nb [a] (some (Value.cells a).toList)) λc=>nw h c 42 λd b=>zI 42 d 0 3 b λe=>BK (vc e b R)
 (λg f=>rv [.bool false,.bool false,.bool false] f R)
theorem Fu(hw:Hr h t0 R):DC zz 87 [t0] h R:=xp (by kernel_rfl) hw
def MT:=λ(h:za) a (R:VK)=>
 zD (nb [a] (xg zz 2 21 a h)) λb c=>zD (nb [b] (xg zz 21 2 b c)) λd e=>opt (xL .eql 2 3 6 a d) λf=>rv [f] e R
theorem I5(hw:MT h t0 R):DC zz 72 [t0] h R:=xp (by kernel_rfl) hw
def lP:=λb (h:za) (d:LK)=>
 opt (zi .eql 3 3 b 17) λc=>CD c (λa=>a [c] h)
 (λa=>opt (zi .eql 3 3 b 18) λe=>a [e] h)
 (λf g=>d [nth f 0] g)
def dr:=λa (h:za) (c:LK)=>
 opt (zi .eql 3 3 a 16) λb=>CD b (λd=>d [b] h)
 (lP a h)
 (λe f=>c [nth e 0] f)
def JF:=λa (h:za) (c:LK)=>
 opt (zi .eql 3 3 a 13) λb=>CD b (λd=>d [b] h)
 (dr a h)
 (λe f=>c [nth e 0] f)
def U9:=λa (h:za) (c:LK)=>
 opt (zi .eql 3 3 a 12) λb=>CD b (λd=>d [b] h)
 (JF a h)
 (λe f=>c [nth e 0] f)
def Vy:=λa (h:za) (R:VK) (e:LK)=>
 opt (zi .eql 3 3 a 11) λb=>CD b (λf=>f [b] h)
 (U9 a h)
 (λg c=>CD (nth g 0) (λd=>rv [.bool true] c R)
 (λd=>d [.bool false] c)
 (λi j=>e [nth i 0] j))
def Sr:=λ(h:za) a (R:VK)=>
 BK (Vy a h R)
 (λc b=>rv [.bool false] b R)
theorem MN(hw:Sr h t0 R):DC zz 73 [t0] h R:=xp (by kernel_rfl) hw
def nt:=λ(h:za) b (R:VK)=>
 zP zz (fn 88) [b] h (λa c=>opt (Kn a 0) λe=>opt (Kn a 1) λd=>rv [d] c R)
theorem rK(hw:nt h t0 R):DC zz 74 [t0] h R:=xp (by kernel_rfl) hw
def ng:=λc (h:za) (R:VK) (d:LK)=>
 opt (zi .eql 3 4 c 25) λe=>CD e (λa=>rv [pm 24,.bool true] h R)
 (λa=>a [pm 0,.bool false] h)
 (λb f=>d [nth b 0,nth b 1] f)
def db:=λa (h:za) (R:VK) (c:LK)=>
 opt (zi .eql 3 4 a 24) λd=>CD d (λf=>rv [pm 25,.bool true] h R)
 (ng a h R)
 (λb e=>c [nth b 0,nth b 1] e)
def KC:=λa (h:za) (R:VK) (c:LK)=>
 opt (zi .eql 3 4 a 26) λd=>CD d (λf=>rv [pm 23,.bool true] h R)
 (db a h R)
 (λb e=>c [nth b 0,nth b 1] e)
def Uq:=λa (h:za) (R:VK) (c:LK)=>
 opt (zi .eql 3 4 a 23) λd=>CD d (λf=>rv [pm 26,.bool true] h R)
 (KC a h R)
 (λb e=>c [nth b 0,nth b 1] e)
def WV:=λa (h:za) (R:VK) (c:LK)=>
 opt (zi .eql 3 4 a 22) λd=>CD d (λf=>rv [pm 21,.bool true] h R)
 (Uq a h R)
 (λb e=>c [nth b 0,nth b 1] e)
def Xy:=λa (h:za) (R:VK) (c:LK)=>
 opt (zi .eql 3 4 a 21) λd=>CD d (λf=>rv [pm 22,.bool true] h R)
 (WV a h R)
 (λb e=>c [nth b 0,nth b 1] e)
def MJ:=λ(h:za) a (R:VK)=>
 BK (Xy a h R)
 (λc b=>rv [pm 0,.bool false] b R)
theorem IY(hw:MJ h t0 R):DC zz 88 [t0] h R:=xp (by kernel_rfl) hw
end Go.As
namespace Go.Ai
open Go.Ai Go.Proofs
theorem H0(n:Int)(h:za):xg pu 2 21 (pm n) h=some (.int .i32 (IntKind.wrap .i32 n),h):=yG (by kernel_rfl)
theorem zbU:FcX 23 2:=λb o l c k i=>Zy (e:=50) (by kernel_rfl) (by kernel_rfl)
theorem zbV:FcX 48 7:=λb o l c k i=>Zy (e:=42) (by kernel_rfl) (by kernel_rfl)
theorem Ol:FcE 23:=λr a n c h=>yG (by kernel_rfl)
theorem Om:FcE 48:=λr a n c h=>yG (by kernel_rfl)
end Go.Ai
namespace Go.Rm
open Go.Ai Go.Proofs
end Go.Rm
namespace Go.Ai
open Go.Ai Go.Proofs
end Go.Ai
namespace Go.Rtl
open Go.Ai Go.Proofs
def xk(b:Bool)(v:aaa)(_:za):Prop:=v=.bool b
def gT(n:Int)(v:aaa)(_:za):Prop:=v=.int .i64 n
theorem yD{f:FuncId}{args:List aaa}{h:za}{b:Bool}(d:DC pu f args h.lock (xk b)):wX pu f args h (.bool b):=wX.of rfl d
theorem vq{f:FuncId}{args:List aaa}{h:za}{n:Int}(d:DC pu f args h.lock (gT n)):wX pu f args h (pm n):=wX.of rfl d
structure Old (h h':za):Prop where
 next:h.next<=h'.next
 ro:h'.ro=h.ro
 get:∀b,b<h.next->h'.get b=h.get b
theorem Old.push(h:za)(o:vl):Old h (h.push o):=⟨abI _,rfl,λb hb=>x6 hb⟩
def zE(h:za)(sv:aaa)(zs:List Int):Prop:=(sv=.slice none 0 0/\zs=[]) \/ ∃b off cp,sv=.slice (some ⟨b,off,none⟩) zs.length cp/\(zs≠[]->∃c t,b<h.next/\h.get b=some (.cells c t) /\ ∀(i:Nat) z,zs[i]? = some z->c[off+i]? = some (pm z))
section
variable {h h':za}{sv:aaa}{zs:List Int}
theorem zE.QU(S:zE h sv zs):zQ sv=false:=by
 rcases S with⟨rfl,_⟩|⟨b,off,cp,rfl,_⟩ <;> rfl
theorem zE.FQ(S:zE h sv zs):xj sv=true:=by
 rcases S with⟨rfl,_⟩|⟨b,off,cp,rfl,_⟩ <;> rfl
theorem zE.old(S:zE h sv zs)(e:Old h h'):zE h' sv zs:=by
 rcases S with a|⟨b,off,cp,rfl,hc⟩
 ·exact .inl a
 ·refine .inr ⟨b,off,cp,rfl,λhz=>?_⟩;obtain⟨c,t,hb,hg,hat⟩:=hc hz;exact⟨c,t,aap hb e.next,by rw[e.get b hb];exact hg,hat⟩
theorem zE.lock(S:zE h sv zs):zE h.lock sv zs:=by
 rcases S with a|⟨b,off,cp,rfl,hc⟩
 ·exact .inl a
 ·refine .inr ⟨b,off,cp,rfl,λhz=>?_⟩;obtain⟨c,t,hb,hg,hat⟩:=hc hz;exact⟨c,t,hb,by rw[UO];exact hg,hat⟩
end
theorem YJ{h:za}(w:qJ h)(o:vl):qJ (h.push o):=⟨λb x hb=>by
 rw[za.vT]at hb;show b<h.next+1;split at hb
 ·rename_i e;omega
 ·have:=w.1 b x hb;omega,Nat.le_succ_of_le w.2⟩
theorem wf_set{h:za}(w:qJ h){b:Nat}(hb:b<h.next)(o:Option vl):qJ (h.set b o):=⟨λc x hc=>by
 rw[za.yy]at hc;split at hc
 ·rename_i e;subst e;exact hb
 ·exact w.1 c x hc,w.2⟩
theorem inc{i:Nat}(h:i<4611686018427387904):IntKind.wrap .i64 ((i:Int)+1)=((i+1:Nat):Int):=by
 simp only[IntKind.wrap,IntKind.bits,IntKind.signed];simp;omega
def zA(h:za)(sv:aaa)(n:Nat)(rows:List (List aaa)):Prop:=(sv=.slice none 0 0/\rows=[]) \/ ∃b off cp,sv=.slice (some ⟨b,off,none⟩) rows.length cp /\
 (rows≠[]->∃c t,b<h.next/\h.get b=some (.cells c t) /\ ∀(i:Nat) r,rows[i]? = some r->off+i*n+n<=c.length/\(c.drop (off+i*n)).take n=r)
section
variable {h h':za}{sv:aaa}{n:Nat}{rows:List (List aaa)}
theorem zA.QU(S:zA h sv n rows):zQ sv=false:=by
 rcases S with⟨rfl,_⟩|⟨b,off,cp,rfl,_⟩ <;> rfl
theorem zA.FQ(S:zA h sv n rows):xj sv=true:=by
 rcases S with⟨rfl,_⟩|⟨b,off,cp,rfl,_⟩ <;> rfl
theorem zA.old(S:zA h sv n rows)(e:Old h h'):zA h' sv n rows:=by
 rcases S with a|⟨b,off,cp,rfl,hc⟩
 ·exact .inl a
 ·refine .inr ⟨b,off,cp,rfl,λhz=>?_⟩;obtain⟨c,t,hb,hg,hat⟩:=hc hz;exact⟨c,t,aap hb e.next,by rw[e.get b hb];exact hg,hat⟩
theorem zA.lock(S:zA h sv n rows):zA h.lock sv n rows:=by
 rcases S with a|⟨b,off,cp,rfl,hc⟩
 ·exact .inl a
 ·refine .inr ⟨b,off,cp,rfl,λhz=>?_⟩;obtain⟨c,t,hb,hg,hat⟩:=hc hz;exact⟨c,t,hb,by rw[UO];exact hg,hat⟩
theorem zA.spot(S:zA h sv n rows){i:Nat}{r:List aaa}(hr:rows[i]? = some r)(hn:r.length=n):∃b o c t,(∃off cp,sv=.slice (some ⟨b,off,none⟩) rows.length cp/\o=off+i*n)/\i<rows.length/\b<h.next/\h.get b=some (.cells c t)/\o+n<=c.length/\(c.drop o).take n=r /\ ∀k,k<n->c[o+k]? = r[k]?:=by
 rcases S with⟨rfl,rfl⟩|⟨b,off,cp,rfl,hc⟩
 ·cases hr
 ·have hlt:i<rows.length:=by
   rcases aaL i rows.length with a|a
   ·exact a
   ·rw[aat a]at hr;cases hr
  obtain⟨c,t,hb,hg,hat⟩:=hc (by intro e;subst e;cases hr);obtain⟨h1,h2⟩:=hat i r hr;refine⟨b,off+i*n,c,t,⟨off,cp,rfl,rfl⟩,hlt,hb,hg,h1,h2,λk hk=>?_⟩
  ·rw[<- h2,aa0 hk,aaS]
end
def Pp{α:Type}(l:List α)(B:α->Bool)(k:Nat):Bool:=match l[k]? with
 |some x=>B x
 |none=>true
theorem WM{α:Type}{l:List α}{B:α->Bool}(h:∀k,k<l.length->Pp l B k=true):l.all B=true:=by
 rw[aaD];intro x hx;obtain⟨k,hk,rfl⟩:=acb hx;have:=h k hk;simpa only[Pp,aaf hk] using this
theorem ak{α:Type}{l:List α}{B:α->Bool}{k:Nat}{x:α}(hx:l[k]? = some x)(hb:B x=false):l.all B=false:=by
 rw[List.all_eq_false];exact⟨x,aax hx,by simp[hb]⟩
theorem gE{α:Type}{l:List α}{B:α->Bool}{k:Nat}{x:α}(hx:l[k]? = some x):Pp l B k=B x:=by simp only[Pp,hx]
theorem get_some{α:Type}{l:List α}{k:Nat}(h:k<l.length):∃x,l[k]? = some x/\x∈l:=⟨l[k],aaf h,List.getElem_mem h⟩
section
variable {h h':za}
theorem zA.oB{sv:aaa}{n:Nat}{rows:List (List aaa)}(S:zA h sv n rows):KZ sv=some rows.length:=by
 rcases S with⟨rfl,rfl⟩|⟨b,off,cp,rfl,hc⟩ <;> rfl
theorem Sc{c:List aaa}{off:Nat}{l:List aaa}(h:∀(i:Nat) v,l[i]? = some v->c[off+i]? = some v):(l=[]\/off+l.length<=c.length)/\(c.drop off).take l.length=l:=by
 have hle:l=[]\/off+l.length<=c.length:=by
  cases hl:l.length with
  |zero=>exact .inl (abC.1 hl)
  |succ n=>
   have:=h n l[n] (aaf (by omega));rcases aaL (off+n) c.length with q|q
   ·exact .inr (by omega)
   ·rw[aat q]at this;cases this
 refine⟨hle,abV λi=>?_⟩;rw[List.getElem?_take,aaS];by_cases hi:i<l.length
 ·rw[aai hi,aaf hi];exact h i _ (aaf hi)
 ·rw[aag hi,aat (by omega)]
theorem ad{n:Nat}:∀{rows:List (List aaa)},(∀r,r∈rows->r.length=n)->∀{i:Nat} {r:List aaa} {k:Nat},rows[i]? = some r->k<n->rows.flatten[i*n+k]? = r[k]?
 |[],_,i,r,k,hr,_=>by cases hr
 |r0::rows,hn,0,r,k,hr,hk=>by
  simp only[aay,aab]at hr;subst hr;rw[acs,abk (by rw[hn _ (by simp)];omega)];simp
 |r0::rows,hn,i+1,r,k,hr,hk=>by
  have h0:=hn r0 (by simp);rw[acs,abj (by rw[h0,acn];omega),h0,show(i+1)*n+k-n=i*n+k by rw[acn];omega];exact ad (λr hr=>hn r (by simp[hr])) (by simpa using hr) hk
theorem vm{n:Nat}:∀{rows:List (List aaa)},(∀r,r∈rows->r.length=n)->rows.flatten.length=rows.length*n
 |[],_=>by simp
 |r0::rows,hn=>by
  rw[acs,aar,vm (λr hr=>hn r (by simp[hr])),hn r0 (by simp),aa3,acn];omega
theorem pf{n:Nat}{rows:List (List aaa)}(hn:∀r,r∈rows->r.length=n){i:Nat}{r:List aaa}(hr:rows[i]? = some r):i*n+n<=rows.flatten.length/\(rows.flatten.drop (i*n)).take n=r:=by
 have hi:i<rows.length:=by
  rcases aaL i rows.length with a|a
  ·exact a
  ·rw[aat a]at hr;cases hr
 have hl:r.length=n:=hn r (aax hr)
 constructor
 ·rw[vm hn];have:=abx n (Nat.succ_le_of_lt hi);rw[Nat.succ_mul]at this;exact this
 ·refine abV λk=>?_;rw[List.getElem?_take,aaS];by_cases hk:k<n
  ·rw[aai hk];exact ad hn hr hk
  ·rw[aag hk,aat (by omega)]
theorem zA.first{sv:aaa}{n:Nat}{rows:List (List aaa)}(S:zA h sv n rows)(h0:0<n)(hn:∀r,r∈rows->r.length=n):qP h rows.length n sv=some rows.flatten:=by
 rcases S with⟨rfl,rfl⟩|⟨b,off,cp,rfl,hc⟩
 ·rfl
 ·cases rows with
  |nil=>unfold qP;simp only[abr,acy];rfl
  |cons r0 rows=>
   obtain⟨c,t,hb,hg,hat⟩:=hc (by simp)
   obtain⟨h1,h2⟩:=Sc (c:=c) (off:=off) (l:=(r0::rows).flatten) (λj v hv=>by
    have hj:j<(r0::rows).length*n:=by
     rcases aaL j ((r0::rows).flatten.length) with a|a
     ·rw[vm hn]at a;exact a
     ·rw[aat a]at hv;cases hv
    have hi:j/n<(r0::rows).length:=(Nat.div_lt_iff_lt_mul h0).2 hj;have hk:j%n<n:=Nat.mod_lt _ h0;have hr:(r0::rows)[j/n]? = some (r0::rows)[j/n]:=aaf hi;have e:j=j/n*n+j%n:=by rw[Nat.mul_comm];exact(Nat.div_add_mod j n).symm
    rw[e,ad hn hr hk]at hv;obtain⟨_,h4⟩:=hat _ _ hr;rw[<- h4,List.getElem?_take,aai hk,aaS]at hv;rw[e,<- abJ];exact hv)
   have hl:=vm hn;rw[hl]at h1 h2;have hne:(r0::rows).length*n≠0:=by rw[aa3];exact Nat.mul_ne_zero (by omega) (by omega)
   have h3:off+(r0::rows).length*n<=c.length:=by
    rcases h1 with e|e
    ·rw[e]at hl;exact absurd hl.symm hne
    ·exact e
   unfold qP;simp only[hg];rw[show Nat.beq ((r0::rows).length*n) 0=false by rw[<- abZ,acq];exact hne,aaB,Nat.ble_eq_true_of_le h3,aav,h2]
end
end Go.Rtl
namespace Go.Rm
open Go.Ai Go.Proofs Go.Mem
def isO(u:aaa)(v:aaa)(_:za):Prop:=v=u
theorem ax{f:FuncId}{args:List aaa}{h:za}{u:aaa}(hs:hZ u=true)(d:DC pu f args h.lock (isO u)):wX pu f args h u:=wX.of hs d
open Go.Rtl (zE zA Old vm pf ad)
def kM(ty:TypeId)(n:Nat)(sv:aaa)(rows:List (List aaa)):HP:=λm=>
 (sv=.slice none 0 0/\rows=[] /\ ∀x,m x=none) \/ ∃b c cs,sv=.slice (some ⟨b,0,none⟩) rows.length c/\c≠0/\rows.length*n<=cs.length/\cs.take (rows.length*n)=rows.flatten/\pt b (.cells cs ty) m
section
variable {lo:y4}{h:za}{L:List HP}{ty:TypeId}{n:Nat}{sv:aaa}{rows:List (List aaa)}
theorem yF(s:Sat lo h (kM ty n sv rows::L)):(sv=.slice none 0 0/\rows=[]/\Sat lo h L) \/ ∃b c cs,sv=.slice (some ⟨b,0,none⟩) rows.length c/\c≠0/\rows.length*n<=cs.length/\cs.take (rows.length*n)=rows.flatten/\Sat lo h (pt b (.cells cs ty)::L):=by
 obtain⟨a,ha,d,w,s⟩:=s;rcases ha with⟨e1,e2,e3⟩|⟨b,c,cs,e1,e2,e3,e4,e5⟩
 ·exact .inl ⟨e1,e2,by rw[y4.Pk e3]at s;exact s⟩
 ·exact .inr ⟨b,c,cs,e1,e2,e3,e4,a,e5,d,w,s⟩
theorem wR(ty:TypeId)(n:Nat)(s:Sat lo h L):Sat lo h (kM ty n (pp) []::L):=⟨λ_=>none,.inl ⟨rfl,rfl,λ_=>rfl⟩,λ_ _ e=>(by cases e),λ_ _ e=>(by cases e),by rw[y4.Pk λ_=>rfl];exact s⟩
theorem Ju{b c:Nat}{cs:List aaa}(hc:c≠0)(hl:rows.length*n<=cs.length)(ht:cs.take (rows.length*n)=rows.flatten)(s:Sat lo h (pt b (.cells cs ty)::L)):Sat lo h (kM ty n (.slice (some ⟨b,0,none⟩) rows.length c) rows::L):=by
 obtain⟨a,ha,d,w,s⟩:=s;exact⟨a,.inr ⟨b,c,cs,rfl,hc,hl,ht,ha⟩,d,w,s⟩
theorem wJ{b c:Nat}{cs:List aaa}(hc:c≠0)(hn:∀r,r∈rows->r.length=n)(he:cs=rows.flatten)(s:Sat lo h (pt b (.cells cs ty)::L)):Sat lo h (kM ty n (.slice (some ⟨b,0,none⟩) rows.length c) rows::L) :=
 Ju hc (by rw[he,vm hn];exact aaj _) (by rw[he,List.take_of_length_le (by rw[vm hn];exact aaj _)]) s
theorem UW(s:Sat lo h (kM ty n sv rows::L)):∃a c,sv=.slice a rows.length c:=by
 rcases yF s with⟨rfl,rfl,_⟩|⟨b,c,cs,rfl,_⟩ <;> exact⟨_,_,rfl⟩
theorem yP(s:Sat lo h (kM ty n sv rows::L)):zQ sv=false:=by obtain⟨_,_,rfl⟩:=UW s;rfl
theorem uw(s:Sat lo h (kM ty n sv rows::L)):xj sv=true:=by obtain⟨_,_,rfl⟩:=UW s;rfl
theorem xr(s:Sat lo h (kM ty n sv rows::L))(hn:∀r,r∈rows->r.length=n):zA h sv n rows:=by
 rcases yF s with⟨e1,e2,_⟩|⟨b,c,cs,rfl,hc,hl,hf,s⟩
 ·exact .inl ⟨e1,e2⟩
 ·refine .inr ⟨b,0,c,rfl,λ_=>⟨cs,ty,s.lt,s.get,λi r hr=>?_⟩⟩
  have hi:i<rows.length:=by
   rcases aaL i rows.length with a|a
   ·exact a
   ·rw[aat a]at hr;cases hr
  obtain⟨f1,f2⟩:=pf hn hr;have hm:=abx n (Nat.succ_le_of_lt hi);rw[Nat.succ_mul]at hm;refine⟨by omega,?_⟩;rw[<- f2,<- hf,abz,List.drop_take,List.take_take]
  congr 1
  omega
theorem YH(s:Sat lo h (kM ty n sv rows::L))(hn:∀r,r∈rows->r.length=n)(row:List aaa)(hr:row.length=n)(h0n:0<n)(bz:Nat)(hb:(rows.length+1)*bz<=2^47) :
  ∃b' c' h',cA h ty n bz 1 row sv=some (.slice (some ⟨b',0,none⟩) (rows.length+1) c',h')/\Sat lo h' (kM ty n (.slice (some ⟨b',0,none⟩) (rows.length+1) c') (rows++[row])::L):=by
 have hn2:∀r,r∈rows++[row]->r.length=n:=λr q=>by
  rcases aaG.1 q with q|q
  ·exact hn r q
  ·simp only[aaq]at q;subst q;exact hr
 have hlen:(rows++[row]).length=rows.length+1:=by simp
 rcases yF s with⟨rfl,rfl,s'⟩|⟨b,c,cs,rfl,hc,hl,hf,s⟩
 ·refine⟨h.next,1,h.push (.cells row ty),?_,wJ (cs:=row) (rows:=[]++[row]) (c:=1) (by decide) hn2 (by simp) (s'.push (.cells row ty))⟩;simp only[cA];rw[aag (by decide),aai (by simp at hb;omega)];rfl
 ·have hroom:roomFor c (rows.length+1) bz=true:=by
   unfold roomFor;cases Nat.beq c 2 <;> simp only[aav,aaB,abU] <;> omega
  refine⟨h.next,uF c (rows.length+1),(h.set b none).push (.cells (((cs.drop 0).take (rows.length*n))++row) ty),?_,?_⟩
  ·simp only[cA,s.get];rw[aag (by decide),aai ⟨hc,trivial,s.wr,by omega,hroom,by simp⟩]
  ·have q:=wJ (rows:=rows++[row]) (c:=uF c (rows.length+1)) (cC _ _) hn2 (by rw[abH,hf,List.flatten_append];simp) ((s.forget none).push (.cells (((cs.drop 0).take (rows.length*n))++row) ty));rw[hlen]at q;exact q
theorem Fa{cs:List aaa}{i:Nat}{row:List aaa}(hi:i<rows.length)(hn:∀r,r∈rows->r.length=n)(hr:row.length=n)(hl:rows.length*n<=cs.length)(ht:cs.take (rows.length*n)=rows.flatten) :
  (zu cs (i*n) row).take (rows.length*n)=(rows.set i row).flatten:=by
 have hn2:∀r,r∈rows.set i row->r.length=n:=λr q=>by
  rcases List.mem_or_eq_of_mem_set q with q|rfl
  ·exact hn r q
  ·exact hr
 have hm:i*n+n<=cs.length:=by
  have:=abx n (Nat.succ_le_of_lt hi);rw[Nat.succ_mul]at this;omega
 apply abV;intro j;by_cases hj:j<rows.length*n
 ·rw[aa0 hj,Eg _ _ _ _ (by rw[hr];exact hm),hr];have e0:=congrArg (λl=>l[j]?) ht;simp only[aa0 hj]at e0
  have h0:0<n:=by rcases ab3 n with q|q; · subst q;simp at hj
                  ·exact q
  have hq:j/n<rows.length:=Nat.div_lt_of_lt_mul (by rw[Nat.mul_comm];exact hj);have hj3:j/n*n+j%n=j:=by rw[Nat.mul_comm];exact Nat.div_add_mod j n
  have hmn:j%n<n:=Nat.mod_lt _ h0
  have get:∀(m:List (List aaa)),(∀r,r∈m->r.length=n)->∀x,m[j/n]? = some x->m.flatten[j]? = x[j%n]?:=λm hm x hx=>by
   have:=ad hm hx hmn
   rwa [hj3]at this
  rw[e0,get _ hn _ (aaf hq)];by_cases e:i=j/n
  ·rw[get _ hn2 row (by rw[e,abX hq]),aai (by rw[e];omega),e]
   congr 1;omega
  ·rw[get _ hn2 _ (by rw[ab5 e,aaf hq]),aag];rintro⟨a,b⟩;apply e;exact(Nat.div_eq_of_lt_le a (by rw[Nat.succ_mul];exact b)).symm
 ·rw[aat (by simp;omega),aat (by rw[vm hn2];simp;omega)]
theorem mj(s:Sat lo h (kM ty n sv rows::L))(hn:∀r,r∈rows->r.length=n){i:Nat}(hi:i<rows.length) :
  ∃b c cs,sv=.slice (some ⟨b,0,none⟩) rows.length c/\h.get b=some (.cells cs ty)/\h.ro<=b/\i*n+n<=cs.length /\ ∀row,row.length=n->Sat lo (h.set b (some (.cells (zu cs (i*n) row) ty))) (kM ty n sv (rows.set i row)::L):=by
 rcases yF s with⟨rfl,rfl,_⟩|⟨b,c,cs,rfl,hc,hl,hf,s⟩
 ·cases hi
 ·refine⟨b,c,cs,rfl,s.get,s.wr,?_,λrow hr=>?_⟩
  ·have:=abx n (Nat.succ_le_of_lt hi);rw[Nat.succ_mul]at this;omega
  ·have q:=Ju (n:=n) (rows:=rows.set i row) (c:=c) hc (by rw[aco,xK];exact hl) (by rw[aco];exact Fa hi hn hr hl hf) (s.set (.cells (zu cs (i*n) row) ty))
   rwa [aco]at q
theorem ml{b i:Nat}{cs row:List aaa}{K:za->Prop}(gb:h.get b=some (.cells cs ty))(wb:h.ro<=b)(lb:i*n+n<=cs.length)(s3:∀row,row.length=n->Sat lo (h.set b (some (.cells (zu cs (i*n) row) ty))) (kM ty n sv (rows.set i row)::L))
  (hr:row.length=n) (hc:row.all xj=true) (k:∀h',Sat lo h' (kM ty n sv (rows.set i row)::L)->K h'):opt (AK h b (i*n) row) K:=by
 rw[GQ gb,aai ⟨by omega,wb,hc⟩];exact k _ (s3 row hr)
theorem Cb(s:Sat lo h L)(row:List aaa)(ty:TypeId):Sat lo (h.push (.cells row ty)) (kM ty row.length (.slice (some ⟨h.next,0,none⟩) 1 3) [row]::L) :=
 wJ (rows:=[row]) (c:=3) (by decide) (by simp) (by simp) (s.push (.cells row ty))
theorem xG{α:Type}{f:α->List aaa}{n:Nat}(hf:∀a,(f a).length=n)(l:List α):∀r,r∈l.map f->r.length=n:=by
 intro r hr;simp only[aa4]at hr;obtain⟨y,_,rfl⟩:=hr;exact hf y
end
def zN(z:Int):List aaa:=[pm z]
section
variable {g h:za}{F G:Nat->Prop}
end
section
variable {lo:y4}{h:za}{L:List HP}{m:Nat}{M:MM}
end
def Rd(lo:y4)(X:za->Prop):Prop := ∀h,fF lo h->X h
theorem Rd.mono{lo lo':y4}{X:za->Prop}(x:Rd lo X)(l:lo.Le lo'):Rd lo' X:=λh b=>x h (b.mono l)
theorem Rd.at{lo:y4}{X:za->Prop}{h:za}{L:List HP}(x:Rd lo X)(s:Sat lo h L):X h:=x h s.base
theorem Rd.of{lo:y4}{X:za->Prop}{h0:za}(hl:lo.Has h0)(x:X h0)(m:∀h,Old h0 h->X h):Rd lo X:=λh b=>m h (by obtain⟨a,c,d⟩:=hl.old b;exact⟨a,c,d⟩)
section
variable {lo:y4}{h:za}{L:List HP}{ty:TypeId}{n:Nat}{sv:aaa}{rows:List (List aaa)}
theorem ZE(s:Sat lo h (kM ty n sv rows::L))(hn:∀r,r∈rows->r.length=n):∃lo1,lo.Le lo1/\Rd lo1 (zA · sv n rows)/\Sat lo1 h L /\ ∀h' L',Sat lo1 h' L'->Sat lo h' (kM ty n sv rows::L'):=by
 obtain⟨a,ha,d,w,s⟩:=s;refine⟨lo.un a,y4.pK d,λh1 b1=>?_,s,λh' L' s'=>⟨a,ha,d,w,s'⟩⟩;have:Sat lo h1 [kM ty n sv rows]:=⟨a,ha,d,w,b1⟩;exact xr this hn
end
section
variable {lo:y4}{h:za}{L:List HP}{ty:TypeId}{n:Nat}{sv:aaa}{rows:List (List aaa)}
theorem Zm(s:Sat lo h (kM ty n sv rows::L))(hn:∀r,r∈rows->r.length=n)(rows2:List (List aaa))(hn2:∀r,r∈rows2->r.length=n)(bz:Nat)(hb:(rows.length+rows2.length)*bz<=2^47)(hne:rows2≠[]) :
  ∃b' c' h',cA h ty n bz rows2.length rows2.flatten sv=some (.slice (some ⟨b',0,none⟩) (rows.length+rows2.length) c',h')/\Sat lo h' (kM ty n (.slice (some ⟨b',0,none⟩) (rows.length+rows2.length) c') (rows++rows2)::L):=by
 have hn3:∀r,r∈rows++rows2->r.length=n:=λr q=>by
  rcases aaG.1 q with q|q
  ·exact hn r q
  ·exact hn2 r q
 have hlen:(rows++rows2).length=rows.length+rows2.length:=by simp
 have h0:¬rows2.length=0:=λe=>hne (abC.1 e);rcases yF s with⟨rfl,rfl,s'⟩|⟨b,c,cs,rfl,hc,hl,hf,s⟩
 ·refine⟨h.next,1,h.push (.cells rows2.flatten ty),?_,?_⟩
  ·simp only[cA];rw[aag h0,aai (by simp at hb;omega)];simp
  ·have q:=wJ (cs:=rows2.flatten) (rows:=[]++rows2) (c:=1) (by decide) hn3 (by simp) (s'.push (.cells rows2.flatten ty));rw[hlen]at q;exact q
 ·have hroom:roomFor c (rows.length+rows2.length) bz=true:=by
   unfold roomFor;cases Nat.beq c 2 <;> simp only[aav,aaB,abU] <;> omega
  refine⟨h.next,uF c (rows.length+rows2.length),(h.set b none).push (.cells (((cs.drop 0).take (rows.length*n))++rows2.flatten) ty),?_,?_⟩
  ·simp only[cA,s.get];rw[aag h0,aai ⟨hc,trivial,s.wr,by omega,hroom,by simp⟩]
  ·have q:=wJ (rows:=rows++rows2) (c:=uF c (rows.length+rows2.length)) (cC _ _) hn3 (by rw[abH,hf,List.flatten_append]) ((s.forget none).push (.cells (((cs.drop 0).take (rows.length*n))++rows2.flatten) ty));rw[hlen]at q;exact q
end
section
variable {lo:y4}{h:za}{L:List HP}{b mb wb fb:Nat}{world:List Int}{ev lk gl cl kv wn:aaa}{fi:List Nat}{kept:Option (Int->Bool)}
end
def vb(v:V):Prop:=aG v.b
open Go.Rtl (inc)
section
variable {lo:y4}{h:za}{L:List HP}{wv:aaa}{world:List Int}
end
end Go.Rm
namespace Go.As
open Go.Ai Go.Proofs Go.Mem Go.Rm
open Go.Rtl (zE zA Old)
structure zF where
 op:Int
 r:Int
 m:Int
 sub:Int
 cc:Int
 l:Int
 k:Int
structure Fn where
 nm:ByteArray
 cv:aaa
 code:List zF
structure Pg where
 gv:aaa
 globals:List Int
 fv:aaa
 funcs:List Fn
 main:Int
 params:Int
abbrev zF.row(x:zF):List aaa:=[pm x.op,pm x.r,pm x.m,pm x.sub,pm x.cc,pm x.l,pm x.k]
abbrev zF.val(x:zF):aaa := .agg #[pm x.op,pm x.r,pm x.m,pm x.sub,pm x.cc,pm x.l,pm x.k]
abbrev Fn.row(f:Fn):List aaa:=[.string f.nm,f.cv]
abbrev Fn.val(f:Fn):aaa := .agg #[.string f.nm,f.cv]
abbrev Pg.row(p:Pg):List aaa:=[p.gv,p.fv,pm p.main,pm p.params]
abbrev Pg.val(p:Pg):aaa := .agg #[p.gv,p.fv,pm p.main,pm p.params]
structure X4 (h:za) (f:Fn):Prop where
 code:zA h f.cv 7 (f.code.map zF.row)
 PJ:f.code.length*56<=140737488351232
structure kP (h:za) (p:Pg):Prop where
 globals:zE h p.gv p.globals
 T7:p.globals.length<=17592186043904
 funcs:zA h p.fv 2 (p.funcs.map Fn.row)
 T5:p.funcs.length*24<=140737488351232
 fns:∀f,f∈p.funcs->X4 h f
section
variable {h h':za}{f:Fn}{p:Pg}
theorem X4.old(S:X4 h f)(e:Old h h'):X4 h' f:=⟨S.code.old e,S.PJ⟩
theorem X4.lock(S:X4 h f):X4 h.lock f:=⟨S.code.lock,S.PJ⟩
theorem kP.old(S:kP h p)(e:Old h h'):kP h' p:=⟨S.globals.old e,S.T7,S.funcs.old e,S.T5,λf hf=>(S.fns f hf).old e⟩
theorem kP.lock(S:kP h p):kP h.lock p:=⟨S.globals.lock,S.T7,S.funcs.lock,S.T5,λf hf=>(S.fns f hf).lock⟩
end
section
variable (p:Pg)(lim:Int)(world:List Int)(lab:Bool)(fuel:Int)
end
end Go.As
namespace Go.Ai
noncomputable section
variable {P:Program}
def LO:List (Int×aaa)->Int->Option aaa
 |[],_=>none
 |(a,v)::l,k=>if a=k then some v else LO l k
def GG:List (Int×aaa)->Int->aaa->List (Int×aaa)
 |[],k,v=>[(k,v)]
 |(a,w)::l,k,v=>if a=k then (a,v)::l else (a,w)::GG l k v
theorem Ef:∀(l:List (Int×aaa)) (k k':Int) (v:aaa),LO (GG l k v) k'=if k=k' then some v else LO l k'
 |[],k,k',v=>rfl
 |(a,w)::l,k,k',v=>by
  unfold GG;by_cases h:a=k
  ·rw[aai h];subst h;unfold LO;by_cases h2:a=k'
   ·rw[aai h2,aai h2]
   ·rw[aag h2,aag h2,aag h2]
  ·rw[aag h];unfold LO;rw[Ef l];by_cases h2:a=k'
   ·rw[aai h2,aai h2,aag (by omega)]
   ·rw[aag h2,aag h2]
section
variable {t kt et:TypeId}{kind:IntKind}{z:aaa}{h:za}{b:Nat}{l:List (Int×aaa)}
end
end
end Go.Ai
namespace Go.As
open Go.Ai Go.Proofs Go.Mem Go.Rm
def bh(k:Int):Bool:=decide (k=IntKind.wrap .i64 (IntKind.wrap .i32 k))
def sd(op:Int):Bool:=decide (op=1\/op=3\/op=5\/op=7\/op=10\/op=2\/op=6\/op=8\/op=9\/op=11\/op=12\/op=17\/op=4\/op=15\/op=16)
def cN(op:Int):Bool:=decide (op=1\/op=3\/op=5\/op=7\/op=10\/op=4\/op=15\/op=14)
def Un(op:Int):Bool:=decide (op=1\/op=3\/op=5\/op=7\/op=10\/op=2\/op=6\/op=8\/op=9\/op=11\/op=12\/op=17)
def uZ(op:Int):Bool:=decide (op=3\/op=4\/op=5\/op=1)
def Yl(i:zF):Bool := !(sd i.op&&(decide (i.r<0)||(decide (16<=i.r)||(Un i.op&&decide (i.r=4)))))&&(!cN i.op||(decide (0<=i.m)&&(decide (i.m<16)&&(!decide (i.m=4)||uZ i.op))))
def Yz(n:Int):Bool:=decide (21<=n)&&decide (n<=26)
def kj(s:Int):Bool:=decide (s=11\/s=12\/s=13\/s=16\/s=17\/s=18)
def yn(gl:List Int)(i:zF):Bool :=
 if i.op=3\/i.op=4 then decide (i.sub=1\/i.sub=4\/i.sub=8)&&bh i.k
 else if i.op=5\/i.op=16 then bh i.k
 else if i.op=6 then decide (0<=i.sub)&&(decide (i.sub<gl.length)&&(decide (0<=i.k)&&decide (i.k<=gl.getD i.sub.toNat 0)))
 else if i.op=7 then kj i.sub
 else if i.op=8 then kj i.sub&&bh i.k
 else if i.op=9 then decide (i.sub=1\/i.sub=2)
 else if i.op=10 then decide (i.sub=3\/i.sub=4)
 else if i.op=11 then decide (i.sub=19\/i.sub=20)&&(decide (0<=i.k)&&decide (i.k<=63))
 else if i.op=12 then decide (i.sub=19\/i.sub=20)
 else if i.op=17\/i.op=19 then Yz i.cc
 else if i.op=20 then decide (0<=i.l)&&decide (i.l<=10000000)
 else if i.op=23\/i.op=24 then decide (0<=i.k)&&decide (i.k<=65536)
 else true
def jI(gl:List Int)(i:zF):Bool:=decide (1<=i.op)&&(decide (i.op<=26)&&(Yl i&&yn gl i))
def hasB(m:List (Int×aaa))(l:Int):Bool:=match LO m l with
 |some (.bool b)=>b
 |_=>false
def fB(gl:List Int):List zF->List (Int×aaa)->Bool->Option (List (Int×aaa)×Bool)
 |[],m,some?=>some (m,some?)
 |x::xs,m,some?=>if jI gl x=false then none else if x.op=20 then (if hasB m x.l=true then none else fB gl xs (GG m x.l (.bool true)) some?) else fB gl xs m true
def El(n:Nat)(m:List (Int×aaa))(x:zF):Bool := !(decide (x.op=18\/x.op=19) && !hasB m x.l) && !(decide (x.op=21)&&(decide (x.sub<0)||decide ((n:Int)<=x.sub)))
def An(n:Nat)(code:List zF):Option (List (Int×aaa)×Bool)->Bool
 |none=>false
 |some r=>code.all (El n r.1)&&r.2
def Tb(p:Pg)(f:Fn):Bool := !decide (100000<(f.code.length:Int))&&An p.funcs.length f.code (fB p.globals f.code [] false)
def ZD(p:Pg):Bool := !decide (p.main<0)&&(!decide ((p.funcs.length:Int)<=p.main)&&(!decide ((100:Int)<p.funcs.length)&&(!decide ((200:Int)<p.globals.length)&&(!decide (p.params<0) && !decide (6<p.params)))))
def Wh(p:Pg):Bool:=ZD p&&(p.globals.all (λn => !decide (n<0) && !decide (65536<n))&&p.funcs.all (Tb p))
open Go.Rtl (zE zA Old yD xk)
theorem qh{u v w:aaa}{h:za}{R:aaa->za->Prop}(ha:zQ u=false)(hb:zQ v=false)(hc:zQ w=false):rv [u,v,w] h R=R (.tuple #[u,v,w]) h:=by
 apply propext;simp only[rv,yi,ha,hb,hc,aaB,xV,true_and]
theorem Lr(a b c:Bool):Kn (.tuple #[.bool a,.bool b,.bool c]) 0=some (.bool a):=rfl
theorem Ls(a b c:Bool):Kn (.tuple #[.bool a,.bool b,.bool c]) 1=some (.bool b):=rfl
theorem Lt(a b c:Bool):Kn (.tuple #[.bool a,.bool b,.bool c]) 2=some (.bool c):=rfl
theorem QM(k:Int)(h:za):wX pu 72 [pm k] h (.bool (bh k)):=by
 apply yD;apply I5;unfold MT bh;by_cases hk:k=IntKind.wrap .i64 (IntKind.wrap .i32 k)
 ·simp only[EE,Bv,H0];simp[xk]
 ·simp only[EE,Bv,H0];simp[xk]
theorem PW(n:Int)(h:za):DC pu 88 [pm n] h (λv h1=>(∃a,v=.tuple #[pm a,.bool (Yz n)])/\h1=h):=by
 apply IY;unfold MJ;by_cases h21:n=21
 ·subst h21;simp only[EE,↓BK,Xy];exact⟨_,rfl⟩
 by_cases h22:n=22
 ·subst h22;simp only[EE,↓BK,Int.reduceEq,WV,Xy];exact⟨_,rfl⟩
 by_cases h23:n=23
 ·subst h23;simp only[EE,↓BK,Int.reduceEq,Uq,WV,Xy];exact⟨_,rfl⟩
 by_cases h24:n=24
 ·subst h24;simp only[EE,↓BK,Int.reduceEq,db,KC,Uq,WV,Xy];exact⟨_,rfl⟩
 by_cases h25:n=25
 ·subst h25;simp only[EE,↓BK,Int.reduceEq,ng,db,KC,Uq,WV,Xy];exact⟨_,rfl⟩
 by_cases h26:n=26
 ·subst h26;simp only[EE,↓BK,Int.reduceEq,KC,Uq,WV,Xy];exact⟨_,rfl⟩
 simp only[EE,↓BK,ng,db,KC,Uq,WV,Xy,h21,h22,h23,h24,h25,h26];have e:Yz n=false:=by unfold Yz;simp;omega
 rw[e];exact⟨_,rfl⟩
theorem oT(n:Int)(h:za):wX pu 74 [pm n] h (.bool (Yz n)):=by
 apply yD;apply rK;unfold nt;refine QJ (PW n _) ?_;rintro v h1 ⟨⟨a,rfl⟩,rfl⟩;simp only[EE];rfl
theorem DG(n:Int)(h:za):wX pu 73 [pm n] h (.bool (kj n)):=by
 apply yD;apply MN;unfold Sr;by_cases h11:n=11
 ·subst h11;simp only[EE,nth,↓BK,Vy];rfl
 by_cases h12:n=12
 ·subst h12;simp only[EE,nth,↓BK,Int.reduceEq,U9,Vy];rfl
 by_cases h13:n=13
 ·subst h13;simp only[EE,nth,↓BK,Int.reduceEq,JF,U9,Vy];rfl
 by_cases h16:n=16
 ·subst h16;simp only[EE,nth,↓BK,Int.reduceEq,dr,JF,U9,Vy];rfl
 by_cases h17:n=17
 ·subst h17;simp only[EE,nth,↓BK,Int.reduceEq,lP,dr,JF,U9,Vy];rfl
 by_cases h18:n=18
 ·subst h18;simp only[EE,nth,↓BK,Int.reduceEq,lP,dr,JF,U9,Vy];rfl
 simp only[EE,nth,↓BK,lP,dr,JF,U9,Vy,h11,h12,h13,h16,h17,h18];have e:kj n=false:=by unfold kj;simp;omega
 rw[e];rfl
theorem Rh(x:zF)(h:za):wX pu 87 [x.val] h (.tuple #[.bool (sd x.op),.bool (cN x.op),.bool (Un x.op)]):=by
 apply ax rfl;apply Fu;unfold Hr;obtain⟨op,r,m,sub,cc,l,k⟩:=x;by_cases h1:op=1
 ·subst h1;simp only[EE,nth,↓nw,Value.cells,↓BK,zv,zk,zc,w9,vc,qh];rfl
 by_cases h3:op=3
 ·subst h3;simp only[EE,nth,↓nw,Value.cells,↓BK,Int.reduceEq,zv,zk,zc,uk,w9,vc,qh];rfl
 by_cases h5:op=5
 ·subst h5;simp only[EE,nth,↓nw,Value.cells,↓BK,Int.reduceEq,zv,zk,zc,uH,uk,w9,vc,qh];rfl
 by_cases h7:op=7
 ·subst h7;simp only[EE,nth,↓nw,Value.cells,↓BK,Int.reduceEq,zv,zk,zc,uS,uH,uk,w9,vc,qh];rfl
 by_cases h10:op=10
 ·subst h10;simp only[EE,nth,↓nw,Value.cells,↓BK,Int.reduceEq,zv,zk,zc,uS,uH,uk,w9,vc,qh];rfl
 by_cases h2:op=2
 ·subst h2;simp only[EE,nth,↓nw,Value.cells,↓BK,Int.reduceEq,zv,zk,zc,uS,uH,uk,uT,uU,w9,vc,qh];rfl
 by_cases h6:op=6
 ·subst h6;simp only[EE,nth,↓nw,Value.cells,↓BK,Int.reduceEq,zv,zk,zc,uS,uH,uk,qR,uT,uU,w9,vc,qh];rfl
 by_cases h8:op=8
 ·subst h8;simp only[EE,nth,↓nw,Value.cells,↓BK,Int.reduceEq,zv,zk,zc,uS,uH,uk,kQ,qR,uT,uU,w9,vc,qh];rfl
 by_cases h9:op=9
 ·subst h9;simp only[EE,nth,↓nw,Value.cells,↓BK,Int.reduceEq,zv,zk,zc,uS,uH,uk,jL,kQ,qR,uT,uU,w9,vc,qh];rfl
 by_cases h11:op=11
 ·subst h11;simp only[EE,nth,↓nw,Value.cells,↓BK,Int.reduceEq,zv,zk,zc,uS,uH,uk,Zu,jL,kQ,qR,uT,uU,w9,vc,qh];rfl
 by_cases h12:op=12
 ·subst h12;simp only[EE,nth,↓nw,Value.cells,↓BK,Int.reduceEq,zv,zk,zc,uS,uH,uk,Z9,Zu,jL,kQ,qR,uT,uU,w9,vc,qh];rfl
 by_cases h17:op=17
 ·subst h17;simp only[EE,nth,↓nw,Value.cells,↓BK,Int.reduceEq,zv,zk,zc,uS,uH,uk,Z9,Zu,jL,kQ,qR,uT,uU,w9,vc,qh];rfl
 by_cases h4:op=4
 ·subst h4;simp only[EE,nth,↓nw,Value.cells,↓BK,Int.reduceEq,zv,zk,zc,uS,uH,uk,Z9,Zu,jL,kQ,qR,Y4,Y5,uT,uU,w9,vc,qh];rfl
 by_cases h15:op=15
 ·subst h15;simp only[EE,nth,↓nw,Value.cells,↓BK,Int.reduceEq,zv,zk,zc,uS,uH,uk,Z9,Zu,jL,kQ,qR,Y4,Y5,uT,uU,w9,vc,qh];rfl
 by_cases h16:op=16
 ·subst h16;simp only[EE,nth,↓nw,Value.cells,↓BK,Int.reduceEq,zv,zk,zc,uS,uH,uk,Z9,Zu,jL,kQ,qR,Qy,Y4,Y5,uT,uU,w9,vc,qh];rfl
 by_cases h14:op=14
 ·subst h14;simp only[EE,nth,↓nw,Value.cells,↓BK,Int.reduceEq,zv,zk,zc,uS,uH,uk,Z9,Zu,jL,kQ,qR,fU,Qy,Y4,Y5,uT,uU,w9,vc,qh];rfl
 simp only[EE,nth,↓nw,Value.cells,↓BK,zv,zk,zc,uS,uH,uk,Z9,Zu,jL,kQ,qR,fU,Qy,Y4,Y5,uT,uU,w9,vc,qh,h1,h3,h5,h7,h10,h2,h6,h8,h9,h11,h12,h17,h4,h15,h16,h14];have e1:sd op=false:=by unfold sd;simp;omega
 have e2:cN op=false:=by unfold cN;simp;omega
 have e3:Un op=false:=by unfold Un;simp;omega
 rw[e1,e2,e3];rfl
theorem zcS{x:zF}{H:za}{b1:Nat}{B:Bool}{vs:List aaa}(g:H.get b1=some (.cells x.row 42))(hB:B=(decide (0<=x.m)&&(decide (x.m<16)&&(!decide (x.m=4)||uZ x.op)))):yu (pi b1) (xk B) vs H:=by
 obtain⟨op,r,m,sub,cc,l,k⟩:=x;simp only at hB g;by_cases o3:op=3
 ·subst o3;by_cases m0:0<=m
  ·by_cases m1:m<16
   ·by_cases m4:m=4
    ·simp only[EE,Int.reduceLT,Int.reduceLE,zv,zk,zc,yx,y5,y6,y8,y9,xa,xb,xc,xe,xf,yJ,yu,g,m4];rw[hB];simp[xk,m4,uZ]
    ·simp only[EE,zv,zk,zc,yx,y5,y6,y8,y9,xa,xb,xc,xe,xf,yJ,yu,g,m0,m1,m4];rw[hB];simp[xk,m0,m1,m4,uZ]
   ·simp only[EE,zv,zk,zc,yx,y5,y6,y8,y9,xa,xb,xc,xe,xf,yJ,yu,g,m0,m1];rw[hB];simp[xk,m0,m1,uZ]
  ·simp only[EE,zv,zk,zc,yx,y5,y6,y8,y9,xa,xb,xc,xe,xf,yJ,yu,g,m0];rw[hB];simp[xk,m0,uZ]
 by_cases o4:op=4
 ·subst o4;by_cases m0:0<=m
  ·by_cases m1:m<16
   ·by_cases m4:m=4
    ·simp only[EE,seval,zv,zk,zc,yx,y5,y6,y8,y9,xa,xb,xc,xe,xf,yJ,yu,g,m4];rw[hB];simp[xk,m4,uZ]
    ·simp only[EE,Int.reduceEq,zv,zk,zc,yx,y5,y6,y8,y9,xa,xb,xc,xe,xf,yJ,yu,g,m0,m1,m4];rw[hB];simp[xk,m0,m1,m4,uZ]
   ·simp only[EE,Int.reduceEq,zv,zk,zc,yx,y5,y6,y8,y9,xa,xb,xc,xe,xf,yJ,yu,g,m0,m1];rw[hB];simp[xk,m0,m1,uZ]
  ·simp only[EE,Int.reduceEq,zv,zk,zc,yx,y5,y6,y8,y9,xa,xb,xc,xe,xf,yJ,yu,g,m0];rw[hB];simp[xk,m0,uZ]
 by_cases o5:op=5
 ·subst o5;by_cases m0:0<=m
  ·by_cases m1:m<16
   ·by_cases m4:m=4
    ·simp only[EE,seval,zv,zk,zc,yx,y5,y6,y8,y9,xa,xb,xc,xe,xf,yJ,yu,g,m4];rw[hB];simp[xk,m4,uZ]
    ·simp only[EE,Int.reduceEq,zv,zk,zc,yx,y5,y6,y8,y9,xa,xb,xc,xe,xf,yJ,yu,g,m0,m1,m4];rw[hB];simp[xk,m0,m1,m4,uZ]
   ·simp only[EE,Int.reduceEq,zv,zk,zc,yx,y5,y6,y8,y9,xa,xb,xc,xe,xf,yJ,yu,g,m0,m1];rw[hB];simp[xk,m0,m1,uZ]
  ·simp only[EE,Int.reduceEq,zv,zk,zc,yx,y5,y6,y8,y9,xa,xb,xc,xe,xf,yJ,yu,g,m0];rw[hB];simp[xk,m0,uZ]
 by_cases o1:op=1
 ·subst o1;by_cases m0:0<=m
  ·by_cases m1:m<16
   ·by_cases m4:m=4
    ·simp only[EE,seval,zv,zk,zc,yx,y5,y6,y8,y9,xa,xb,xc,xe,xf,yJ,yu,g,m4];rw[hB];simp[xk,m4,uZ]
    ·simp only[EE,Int.reduceEq,zv,zk,zc,yx,y5,y6,y8,y9,xa,xb,xc,xe,xf,yJ,yu,g,m0,m1,m4];rw[hB];simp[xk,m0,m1,m4,uZ]
   ·simp only[EE,Int.reduceEq,zv,zk,zc,yx,y5,y6,y8,y9,xa,xb,xc,xe,xf,yJ,yu,g,m0,m1];rw[hB];simp[xk,m0,m1,uZ]
  ·simp only[EE,Int.reduceEq,zv,zk,zc,yx,y5,y6,y8,y9,xa,xb,xc,xe,xf,yJ,yu,g,m0];rw[hB];simp[xk,m0,uZ]
 have ef:uZ op=false:=by unfold uZ;simp[o3,o4,o5,o1]
 by_cases m0:0<=m
 ·by_cases m1:m<16
  ·by_cases m4:m=4
   ·simp only[EE,Int.reduceLT,Int.reduceLE,zv,zk,zc,yx,y5,y6,y8,y9,xa,xb,xc,xe,xf,yJ,yu,g,m4,o3,o4,o5,o1];rw[hB];simp[xk,m4,ef]
   ·simp only[EE,zv,zk,zc,yx,y5,y6,y8,y9,xa,xb,xc,xe,xf,yJ,yu,g,m0,m1,m4,o3,o4,o5,o1];rw[hB];simp[xk,m0,m1,m4,ef]
  ·simp only[EE,zv,zk,zc,yx,y5,y6,y8,y9,xa,xb,xc,xe,xf,yJ,yu,g,m0,m1,o3,o4,o5,o1];rw[hB];simp[xk,m0,m1,ef]
 ·simp only[EE,zv,zk,zc,yx,y5,y6,y8,y9,xa,xb,xc,xe,xf,yJ,yu,g,m0,o3,o4,o5,o1];rw[hB];simp[xk,m0,ef]
theorem zbS{x:zF}{H:za}{b1:Nat}{B:Bool}{bad:Bool}{t10:Bool}(g:H.get b1=some (.cells x.row 42))(hb:(t10&&bad)=false)(hB:B=(!cN x.op||(decide (0<=x.m)&&(decide (x.m<16)&&(!decide (x.m=4)||uZ x.op)))))(v:aaa)(hv:t10=true->v=.bool bad)(h0:t10=false->True):u0 (.bool t10) (xk B) (.bool (cN x.op)) (pi b1) v H:=by
 have fin:∀vs,yu (pi b1) (xk B) vs H\/cN x.op=false:=λvs=>by
  cases hm:cN x.op with
  |false=>exact .inr rfl
  |true=>exact .inl (zcS g (by rw[hB,hm];rfl))
 cases t10 with
 |false=>
  cases hm:cN x.op with
  |false=>simp only[EE,u0];rw[hB,hm];rfl
  |true=>simp only[EE,nth,u0];rcases fin [.bool false] with q|q;exact q;rw[hm]at q;cases q
 |true=>
  have hbad:bad=false:=by simpa using hb
  subst hbad;rw[hv rfl];cases hm:cN x.op with
  |false=>simp only[EE,u0];rw[hB,hm];rfl
  |true=>simp only[EE,nth,u0];rcases fin [.bool false] with q|q;exact q;rw[hm]at q;cases q
theorem Gg(x:zF)(h:za):wX pu 71 [x.val] h (.bool (Yl x)):=by
 apply yD;generalize h.lock=L;apply rL;unfold nI;simp only[EE,↓nw,Value.cells,Nat.reduceAdd,kH,uC];refine YL (Rh x _) ?_;have g:(L.push (.cells x.row 42)).get L.next=some (.cells x.row 42):=uz;generalize L.push (.cells x.row 42)=H at g ⊢;obtain⟨op,r,m,sub,cc,l,k⟩:=x;simp only at g ⊢;cases hr:sd op with
 |false=>
  have hB:Yl ⟨op,r,m,sub,cc,l,k⟩=(!cN op||(decide (0<=m)&&(decide (m<16)&&(!decide (m=4)||uZ op)))):=by unfold Yl;simp only[hr,Bool.false_and,ab4,abq]
  simp only[EE,kr,ku,kx,kA,kB,kC,kD,kE,Lr,Ls,Lt];exact zbS (x:=⟨op,r,m,sub,cc,l,k⟩) (t10:=false) (bad:=false) g rfl hB _ (λq=>by cases q) (λ_=>trivial)
 |true=>
  have bad:∀{v},v=.bool true->Yl ⟨op,r,m,sub,cc,l,k⟩=false->u0 (.bool true) (xk (Yl ⟨op,r,m,sub,cc,l,k⟩)) (.bool (cN op)) (pi L.next) v H:=by
   rintro v rfl hf;rw[hf];simp only[EE,u0];rfl
  have good:∀{v},v=.bool false->(decide (r<0)||(decide (16<=r)||(Un op&&decide (r=4))))=false->u0 (.bool true) (xk (Yl ⟨op,r,m,sub,cc,l,k⟩)) (.bool (cN op)) (pi L.next) v H:=by
   rintro v rfl hf;have hB:Yl ⟨op,r,m,sub,cc,l,k⟩=(!cN op||(decide (0<=m)&&(decide (m<16)&&(!decide (m=4)||uZ op)))):=by unfold Yl;simp only[hr,hf,Bool.and_false,ab4,abq]
   exact zbS (x:=⟨op,r,m,sub,cc,l,k⟩) (t10:=true) (bad:=false) g rfl hB _ (λ_=>rfl) (λq=>by cases q)
  by_cases r0:r<0
  ·simp only[EE,zv,zk,z8,kr,ku,kx,kA,kB,kC,kD,kE,g,Lr,Ls,Lt,r0];exact bad rfl (by unfold Yl;simp[hr,r0])
  by_cases r1:r ≥ 16
  ·simp only[EE,zv,zk,z8,kr,ku,kx,kA,kB,kC,kD,kE,g,Lr,Ls,Lt,r0,r1];exact bad rfl (by have r1:16<=r:=r1;unfold Yl;simp[hr,r1])
  have r1':¬16<=r:=r1;cases hw:Un op with
  |false=>
   simp only[EE,zv,zk,z8,kr,ku,kx,kA,kB,kC,kD,kE,g,Lr,Ls,Lt,r0,r1];exact good rfl (by simp[r0,r1',hw])
  |true=>
   by_cases r4:r=4
   ·subst r4;simp only[EE,zv,zk,z8,kr,ku,kx,kA,kB,kC,kD,kE,g,Lr,Ls,Lt,r0,r1];exact bad rfl (by unfold Yl;simp[hr,hw])
   ·simp only[EE,zv,zk,z8,kr,ku,kx,kA,kB,kC,kD,kE,g,Lr,Ls,Lt,r0,r1,r4];exact good rfl (by simp[r0,r1',r4])
theorem qw{h:za}{sv:aaa}{zs:List Int}(S:zE h sv zs)(r:TypeId)(h':za):zG pu .len [22] r [sv] h'=some (pm zs.length,h'):=by
 rcases S with⟨rfl,rfl⟩|⟨b,off,cp,rfl,_⟩
 ·simp only[BN,abr]
 ·simp only[BN]
theorem Zf{h:za}{sv:aaa}{zs:List Int}(S:zE h sv zs){i:Nat}{z:Int}(hz:zs[i]? = some z):∃b o c t,xR pu 22 sv (pm i)=some (.pointer (some ⟨b,o,none⟩))/\b<h.next/\h.get b=some (.cells c t)/\c[o]? = some (pm z):=by
 have hi:i<zs.length:=by
  rcases aaL i zs.length with q|q
  ·exact q
  ·rw[aat q]at hz;cases hz
 rcases S with⟨rfl,rfl⟩|⟨b,off,cp,rfl,hc⟩
 ·cases hz
 ·obtain⟨c,t,hb,hg,hat⟩:=hc (by intro e;subst e;cases hz);have h0:(0:Int)<=i:=by omega
  have h1:(i:Int)<(zs.length:Int):=by omega
  exact⟨b,off+i,c,t,by simp only[Ep,h0,h1,abS,and_self,acp,abl],hb,hg,hat i z hz⟩
section
variable {gl:List Int}{gv:aaa}{H:za}{b:Nat}{B:Bool}{vs:List aaa}{x:zF}
theorem zcL{r m sub cc l k:Int}(g:H.get b=some (.cells (zF.row ⟨3,r,m,sub,cc,l,k⟩) 42))(S:zE H gv gl)(hB:B=yn gl ⟨3,r,m,sub,cc,l,k⟩):zl (pi b) (xk B) gv vs H:=by
 by_cases s1:sub=1
 ·subst s1;simp only[EE,nth,↓BK,zv,xY,zk,zc,zq,zL,qU,qX,ka,ke,kf,qx,zC,zl,g];refine YL (QM k _) ?_;simp only[EE];rw[hB];simp[xk,yn]
 by_cases s4:sub=4
 ·subst s4;simp only[EE,nth,↓BK,zv,xY,zk,zc,zq,zL,qU,qX,ka,ke,kf,qx,zC,zl,g,s1];refine YL (QM k _) ?_;simp only[EE];rw[hB];simp[xk,yn,s1]
 by_cases s8:sub=8
 ·subst s8;simp only[EE,nth,↓BK,zv,xY,zk,zc,zq,zL,qU,qX,ka,ke,kf,qx,zC,zl,g,s1,s4];refine YL (QM k _) ?_;simp only[EE];rw[hB];simp[xk,yn,s1,s4]
 simp only[EE,nth,↓BK,zv,zk,zc,zq,qU,qX,ka,ke,kf,qx,zC,zl,g,s1,s4,s8];rw[hB];simp[xk,yn,s1,s4,s8]
theorem zcM{r m sub cc l k:Int}(g:H.get b=some (.cells (zF.row ⟨4,r,m,sub,cc,l,k⟩) 42))(S:zE H gv gl)(hB:B=yn gl ⟨4,r,m,sub,cc,l,k⟩):zl (pi b) (xk B) gv vs H:=by
 by_cases s1:sub=1
 ·subst s1;simp only[EE,nth,↓BK,Int.reduceEq,zv,xY,zk,zc,zq,zL,qU,qX,ka,ke,kf,qx,zC,zl,g];refine YL (QM k _) ?_;simp only[EE];rw[hB];simp[xk,yn]
 by_cases s4:sub=4
 ·subst s4;simp only[EE,nth,↓BK,Int.reduceEq,zv,xY,zk,zc,zq,zL,qU,qX,ka,ke,kf,qx,zC,zl,g,s1];refine YL (QM k _) ?_;simp only[EE];rw[hB];simp[xk,yn,s1]
 by_cases s8:sub=8
 ·subst s8;simp only[EE,nth,↓BK,Int.reduceEq,zv,xY,zk,zc,zq,zL,qU,qX,ka,ke,kf,qx,zC,zl,g,s1,s4];refine YL (QM k _) ?_;simp only[EE];rw[hB];simp[xk,yn,s1,s4]
 simp only[EE,nth,↓BK,Int.reduceEq,zv,zk,zc,zq,qU,qX,ka,ke,kf,qx,zC,zl,g,s1,s4,s8];rw[hB];simp[xk,yn,s1,s4,s8]
theorem zcN{r m sub cc l k:Int}(g:H.get b=some (.cells (zF.row ⟨5,r,m,sub,cc,l,k⟩) 42))(S:zE H gv gl)(hB:B=yn gl ⟨5,r,m,sub,cc,l,k⟩):zl (pi b) (xk B) gv vs H:=by
 simp only[EE,nth,↓BK,Int.reduceEq,zv,xY,zk,zc,zL,U7,zO,zC,zl,g];refine YL (QM k _) ?_;simp only[EE];rw[hB];simp[xk,yn]
theorem zbM{r m sub cc l k:Int}(g:H.get b=some (.cells (zF.row ⟨16,r,m,sub,cc,l,k⟩) 42))(S:zE H gv gl)(hB:B=yn gl ⟨16,r,m,sub,cc,l,k⟩):zl (pi b) (xk B) gv vs H:=by
 simp only[EE,nth,↓BK,Int.reduceEq,zv,xY,zk,zc,zL,U7,zO,zC,zl,g];refine YL (QM k _) ?_;simp only[EE];rw[hB];simp[xk,yn]
theorem zcO{r m sub cc l k:Int}(g:H.get b=some (.cells (zF.row ⟨6,r,m,sub,cc,l,k⟩) 42))(S:zE H gv gl)(hB:B=yn gl ⟨6,r,m,sub,cc,l,k⟩):zl (pi b) (xk B) gv vs H:=by
 have nl:=S.QU;have hl:=qw S 3;by_cases s0:0<=sub
 ·by_cases s1:sub<(gl.length:Int)
  ·by_cases k0:0<=k
   ·obtain⟨z,hz⟩:∃z,gl[sub.toNat]? = some z:=⟨_,aaf (by omega)⟩;obtain⟨bb,oo,c,t,ha,hbb,hgt,hat⟩:=Zf S hz;rw[acd s0]at ha;have hd:gl.getD sub.toNat 0=z:=by rw[abd,hz];rfl
    by_cases k1:k<=z
    ·simp only[EE,nth,↓BK,Int.reduceEq,zv,xY,zk,zc,zq,zL,Z4,Z5,Z6,Z7,Zp,Zq,Zr,Zs,Zt,zR,zO,zC,zl,g,nl,hl,s0,s1,k0,ha,hgt,hat,k1];rw[hB];simp only[yn,hd];simp[xk,s0,s1,k0,k1]
    ·simp only[EE,nth,↓BK,Int.reduceEq,zv,xY,zk,zc,zq,zL,Z4,Z5,Z6,Z7,Zp,Zq,Zr,Zs,Zt,zR,zO,zC,zl,g,nl,hl,s0,s1,k0,ha,hgt,hat,k1];rw[hB];simp only[yn,hd];simp[xk,s0,s1,k0,k1]
   ·simp only[EE,nth,↓BK,Int.reduceEq,zv,xY,zk,zc,zq,zL,Z4,Z5,Z6,Z7,Zp,Zq,Zr,Zs,Zt,zR,zO,zC,zl,g,nl,hl,s0,s1,k0];rw[hB];simp[xk,yn,s0,s1,k0]
  ·simp only[EE,nth,↓BK,Int.reduceEq,zv,zk,zc,zq,Z4,Z5,Z6,Z7,Zp,Zq,Zr,Zs,Zt,zR,zO,zC,zl,g,nl,hl,s0,s1];rw[hB];simp[xk,yn,s0,s1]
 ·simp only[EE,nth,↓BK,Int.reduceEq,zv,zk,zc,zq,Z4,Z5,Z6,Z7,Zp,Zq,Zr,Zs,Zt,zR,zO,zC,zl,g,s0];rw[hB];simp[xk,yn,s0]
theorem zcP{r m sub cc l k:Int}(g:H.get b=some (.cells (zF.row ⟨7,r,m,sub,cc,l,k⟩) 42))(S:zE H gv gl)(hB:B=yn gl ⟨7,r,m,sub,cc,l,k⟩):zl (pi b) (xk B) gv vs H:=by
 simp only[EE,nth,↓BK,Int.reduceEq,zv,zk,zc,zq,df,z7,zR,zO,zC,zl,g];refine YL (DG sub _) ?_;simp only[EE];rw[hB];simp[xk,yn]
theorem zcQ{r m sub cc l k:Int}(g:H.get b=some (.cells (zF.row ⟨8,r,m,sub,cc,l,k⟩) 42))(S:zE H gv gl)(hB:B=yn gl ⟨8,r,m,sub,cc,l,k⟩):zl (pi b) (xk B) gv vs H:=by
 simp only[EE,nth,↓BK,Int.reduceEq,zv,zk,zc,zq,yb,z7,zR,zO,zC,zl,g];refine YL (DG sub _) ?_;cases ha:kj sub with
 |false=>
  simp only[EE,U4,U5];rw[hB];simp[xk,yn,ha]
 |true=>
  simp only[EE,zv,xY,zL,U4,U5,g];refine YL (QM k _) ?_;simp only[EE];rw[hB];simp[xk,yn,ha]
theorem zcR{r m sub cc l k:Int}(g:H.get b=some (.cells (zF.row ⟨9,r,m,sub,cc,l,k⟩) 42))(S:zE H gv gl)(hB:B=yn gl ⟨9,r,m,sub,cc,l,k⟩):zl (pi b) (xk B) gv vs H:=by
 by_cases s1:sub=1
 ·subst s1;simp only[EE,nth,↓BK,Int.reduceEq,zv,zk,zc,zq,Wk,Wr,yd,yb,z7,zR,zO,zC,zl,g];rw[hB];simp[xk,yn]
 by_cases s2:sub=2
 ·subst s2;simp only[EE,nth,↓BK,Int.reduceEq,zv,zk,zc,zq,Wk,Wr,yd,yb,z7,zR,zO,zC,zl,g,s1];rw[hB];simp[xk,yn,s1]
 simp only[EE,nth,↓BK,Int.reduceEq,zv,zk,zc,zq,Wk,Wr,yd,yb,z7,zR,zO,zC,zl,g,s1,s2];rw[hB];simp[xk,yn,s1,s2]
theorem zbJ{r m sub cc l k:Int}(g:H.get b=some (.cells (zF.row ⟨10,r,m,sub,cc,l,k⟩) 42))(S:zE H gv gl)(hB:B=yn gl ⟨10,r,m,sub,cc,l,k⟩):zl (pi b) (xk B) gv vs H:=by
 by_cases s3:sub=3
 ·subst s3;simp only[EE,nth,↓BK,Int.reduceEq,zv,zk,zc,zq,Wl,Wq,yo,yd,yb,z7,zR,zO,zC,zl,g];rw[hB];simp[xk,yn]
 by_cases s4:sub=4
 ·subst s4;simp only[EE,nth,↓BK,Int.reduceEq,zv,zk,zc,zq,Wl,Wq,yo,yd,yb,z7,zR,zO,zC,zl,g,s3];rw[hB];simp[xk,yn,s3]
 simp only[EE,nth,↓BK,Int.reduceEq,zv,zk,zc,zq,Wl,Wq,yo,yd,yb,z7,zR,zO,zC,zl,g,s3,s4];rw[hB];simp[xk,yn,s3,s4]
theorem zbL{r m sub cc l k:Int}(g:H.get b=some (.cells (zF.row ⟨12,r,m,sub,cc,l,k⟩) 42))(S:zE H gv gl)(hB:B=yn gl ⟨12,r,m,sub,cc,l,k⟩):zl (pi b) (xk B) gv vs H:=by
 by_cases s19:sub=19
 ·subst s19;simp only[EE,nth,↓BK,Int.reduceEq,zv,zk,zc,zq,Wm,Wp,wK,yL,yo,yd,yb,z7,zR,zO,zC,zl,g];rw[hB];simp[xk,yn]
 by_cases s20:sub=20
 ·subst s20;simp only[EE,nth,↓BK,Int.reduceEq,zv,zk,zc,zq,Wm,Wp,wK,yL,yo,yd,yb,z7,zR,zO,zC,zl,g,s19];rw[hB];simp[xk,yn,s19]
 simp only[EE,nth,↓BK,Int.reduceEq,zv,zk,zc,zq,Wm,Wp,wK,yL,yo,yd,yb,z7,zR,zO,zC,zl,g,s19,s20];rw[hB];simp[xk,yn,s19,s20]
theorem zbK{r m sub cc l k:Int}(g:H.get b=some (.cells (zF.row ⟨11,r,m,sub,cc,l,k⟩) 42))(S:zE H gv gl)(hB:B=yn gl ⟨11,r,m,sub,cc,l,k⟩):zl (pi b) (xk B) gv vs H:=by
 by_cases s19:sub=19
 ·subst s19;by_cases k0:0<=k
  ·by_cases k1:k<=63
   ·simp only[EE,nth,↓BK,Int.reduceEq,zv,xY,zk,zc,zq,zL,qV,qW,qY,qZ,q8,kd,yL,yo,yd,yb,z7,zR,zO,zC,zl,g,k0,k1];rw[hB];simp[xk,yn,k0,k1]
   ·simp only[EE,nth,↓BK,Int.reduceEq,zv,xY,zk,zc,zq,zL,qV,qW,qY,qZ,q8,kd,yL,yo,yd,yb,z7,zR,zO,zC,zl,g,k0,k1];rw[hB];simp[xk,yn,k0,k1]
  ·simp only[EE,nth,↓BK,Int.reduceEq,zv,xY,zk,zc,zq,zL,qV,qW,qY,qZ,q8,kd,yL,yo,yd,yb,z7,zR,zO,zC,zl,g,k0];rw[hB];simp[xk,yn,k0]
 by_cases s20:sub=20
 ·subst s20;by_cases k0:0<=k
  ·by_cases k1:k<=63
   ·simp only[EE,nth,↓BK,Int.reduceEq,zv,xY,zk,zc,zq,zL,qV,qW,qY,qZ,q8,kd,yL,yo,yd,yb,z7,zR,zO,zC,zl,g,s19,k0,k1];rw[hB];simp[xk,yn,s19,k0,k1]
   ·simp only[EE,nth,↓BK,Int.reduceEq,zv,xY,zk,zc,zq,zL,qV,qW,qY,qZ,q8,kd,yL,yo,yd,yb,z7,zR,zO,zC,zl,g,s19,k0,k1];rw[hB];simp[xk,yn,s19,k0,k1]
  ·simp only[EE,nth,↓BK,Int.reduceEq,zv,xY,zk,zc,zq,zL,qV,qW,qY,qZ,q8,kd,yL,yo,yd,yb,z7,zR,zO,zC,zl,g,s19,k0];rw[hB];simp[xk,yn,s19,k0]
 simp only[EE,nth,↓BK,Int.reduceEq,zv,zk,zc,zq,qV,qW,qY,qZ,q8,kd,yL,yo,yd,yb,z7,zR,zO,zC,zl,g,s19,s20];rw[hB];simp[xk,yn,s19,s20]
theorem zbN{r m sub cc l k:Int}(g:H.get b=some (.cells (zF.row ⟨17,r,m,sub,cc,l,k⟩) 42))(S:zE H gv gl)(hB:B=yn gl ⟨17,r,m,sub,cc,l,k⟩):zl (pi b) (xk B) gv vs H:=by
 simp only[EE,nth,↓BK,Int.reduceEq,zv,zk,zc,aa,U6,vC,wK,yL,yo,yd,yb,z7,zR,zO,zC,zl,g];refine YL (oT cc _) ?_;simp only[EE];rw[hB];simp[xk,yn]
theorem zbO{r m sub cc l k:Int}(g:H.get b=some (.cells (zF.row ⟨19,r,m,sub,cc,l,k⟩) 42))(S:zE H gv gl)(hB:B=yn gl ⟨19,r,m,sub,cc,l,k⟩):zl (pi b) (xk B) gv vs H:=by
 simp only[EE,nth,↓BK,Int.reduceEq,zv,zk,zc,aa,U6,vC,wK,yL,yo,yd,yb,z7,zR,zO,zC,zl,g];refine YL (oT cc _) ?_;simp only[EE];rw[hB];simp[xk,yn]
theorem zbP{r m sub cc l k:Int}(g:H.get b=some (.cells (zF.row ⟨20,r,m,sub,cc,l,k⟩) 42))(S:zE H gv gl)(hB:B=yn gl ⟨20,r,m,sub,cc,l,k⟩):zl (pi b) (xk B) gv vs H:=by
 by_cases k0:0<=l
 ·by_cases k1:l<=10000000
  ·simp only[EE,nth,↓BK,Int.reduceEq,zv,zk,zc,uv,Wn,Wo,uA,vC,wK,yL,yo,yd,yb,z7,zR,zO,zC,zl,g,k0,k1];rw[hB];simp[xk,yn,k0,k1]
  ·simp only[EE,nth,↓BK,Int.reduceEq,zv,zk,zc,uv,Wn,Wo,uA,vC,wK,yL,yo,yd,yb,z7,zR,zO,zC,zl,g,k0,k1];rw[hB];simp[xk,yn,k0,k1]
 ·simp only[EE,nth,↓BK,Int.reduceEq,zv,zk,zc,uv,Wn,Wo,uA,vC,wK,yL,yo,yd,yb,z7,zR,zO,zC,zl,g,k0];rw[hB];simp[xk,yn,k0]
theorem zbQ{r m sub cc l k:Int}(g:H.get b=some (.cells (zF.row ⟨23,r,m,sub,cc,l,k⟩) 42))(S:zE H gv gl)(hB:B=yn gl ⟨23,r,m,sub,cc,l,k⟩):zl (pi b) (xk B) gv vs H:=by
 by_cases k0:0<=k
 ·by_cases k1:k<=65536
  ·simp only[EE,nth,↓BK,Int.reduceEq,zv,xY,zk,zc,zL,jo,jq,q9,uA,vC,wK,yL,yo,yd,yb,z7,zR,zO,zC,zl,g,k0,k1];rw[hB];simp[xk,yn,k0,k1]
  ·simp only[EE,nth,↓BK,Int.reduceEq,zv,xY,zk,zc,zL,jo,jq,q9,uA,vC,wK,yL,yo,yd,yb,z7,zR,zO,zC,zl,g,k0,k1];rw[hB];simp[xk,yn,k0,k1]
 ·simp only[EE,nth,↓BK,Int.reduceEq,zv,xY,zk,zc,zL,jo,jq,q9,uA,vC,wK,yL,yo,yd,yb,z7,zR,zO,zC,zl,g,k0];rw[hB];simp[xk,yn,k0]
theorem zbR{r m sub cc l k:Int}(g:H.get b=some (.cells (zF.row ⟨24,r,m,sub,cc,l,k⟩) 42))(S:zE H gv gl)(hB:B=yn gl ⟨24,r,m,sub,cc,l,k⟩):zl (pi b) (xk B) gv vs H:=by
 by_cases k0:0<=k
 ·by_cases k1:k<=65536
  ·simp only[EE,nth,↓BK,Int.reduceEq,zv,xY,zk,zc,zL,jo,jq,q9,uA,vC,wK,yL,yo,yd,yb,z7,zR,zO,zC,zl,g,k0,k1];rw[hB];simp[xk,yn,k0,k1]
  ·simp only[EE,nth,↓BK,Int.reduceEq,zv,xY,zk,zc,zL,jo,jq,q9,uA,vC,wK,yL,yo,yd,yb,z7,zR,zO,zC,zl,g,k0,k1];rw[hB];simp[xk,yn,k0,k1]
 ·simp only[EE,nth,↓BK,Int.reduceEq,zv,xY,zk,zc,zL,jo,jq,q9,uA,vC,wK,yL,yo,yd,yb,z7,zR,zO,zC,zl,g,k0];rw[hB];simp[xk,yn,k0]
theorem T8(g:H.get b=some (.cells x.row 42))(S:zE H gv gl)(hB:B=yn gl x):zl (pi b) (xk B) gv vs H:=by
 obtain⟨op,r,m,sub,cc,l,k⟩:=x;by_cases o3:op=3
 ·subst o3;exact zcL g S hB
 by_cases o4:op=4
 ·subst o4;exact zcM g S hB
 by_cases o5:op=5
 ·subst o5;exact zcN g S hB
 by_cases o16:op=16
 ·subst o16;exact zbM g S hB
 by_cases o6:op=6
 ·subst o6;exact zcO g S hB
 by_cases o7:op=7
 ·subst o7;exact zcP g S hB
 by_cases o8:op=8
 ·subst o8;exact zcQ g S hB
 by_cases o9:op=9
 ·subst o9;exact zcR g S hB
 by_cases o10:op=10
 ·subst o10;exact zbJ g S hB
 by_cases o11:op=11
 ·subst o11;exact zbK g S hB
 by_cases o12:op=12
 ·subst o12;exact zbL g S hB
 by_cases o17:op=17
 ·subst o17;exact zbN g S hB
 by_cases o19:op=19
 ·subst o19;exact zbO g S hB
 by_cases o20:op=20
 ·subst o20;exact zbP g S hB
 by_cases o23:op=23
 ·subst o23;exact zbQ g S hB
 by_cases o24:op=24
 ·subst o24;exact zbR g S hB
 simp only[EE,nth,↓BK,zv,zk,zc,q9,uA,vC,wK,yL,yo,yd,yb,z7,zR,zO,zC,zl,g,o3,o4,o5,o16,o6,o7,o8,o9,o10,o11,o12,o17,o19,o20,o23,o24];rw[hB];simp[xk,yn,o3,o4,o5,o16,o6,o7,o8,o9,o10,o11,o12,o17,o19,o20,o23,o24]
theorem Ag(S:zE H gv gl):wX pu 34 [x.val,gv] H (.bool (jI gl x)):=by
 apply yD;replace S:=S.lock;generalize H.lock=L at S;apply AQ;unfold sB;have nl:=S.QU;simp only[EE,↓nw,Value.cells,zv,zk,zc];have S2:=S.old (Old.push L (.cells x.row 42));have g:(L.push (.cells x.row 42)).get L.next=some (.cells x.row 42):=uz;generalize L.push (.cells x.row 42)=G at g S2 ⊢;obtain⟨op,r,m,sub,cc,l,k⟩:=x;simp only at g ⊢;by_cases o1:op<1
 ·have e:jI gl ⟨op,r,m,sub,cc,l,k⟩=false:=by have q:¬1<=op:=by omega
                                             unfold jI;simp[q]
  simp only[EE,Yq,Ws,Wt,o1];rw[e];rfl
 by_cases o2:op>26
 ·have e:jI gl ⟨op,r,m,sub,cc,l,k⟩=false:=by have q:¬op<=26:=by omega
                                             unfold jI;simp[q]
  simp only[EE,zv,zk,zc,Yq,Ws,Wt,g,o1,o2];rw[e];rfl
 simp only[EE,Nat.reduceAdd,kH,zv,zk,uC,zc,Ws,Wt,g,o1,o2];refine YL (Gg ⟨op,r,m,sub,cc,l,k⟩ G) ?_
 have e:jI gl ⟨op,r,m,sub,cc,l,k⟩=(Yl ⟨op,r,m,sub,cc,l,k⟩&&yn gl ⟨op,r,m,sub,cc,l,k⟩):=by
  have q1:1<=op:=by omega
  have q2:op<=26:=by omega
  unfold jI;simp only[q1,q2,decide_true,abq]
 cases hr:Yl ⟨op,r,m,sub,cc,l,k⟩ with
 |false=>
  simp only[EE,Yq];rw[e,hr];rfl
 |true=>
  simp only[EE,Yq];exact T8 (x:=⟨op,r,m,sub,cc,l,k⟩) g S2 (by rw[e,hr];rfl)
end
open Go.Rtl (inc Pp WM ak gE get_some)
section
variable {h:za}{sv:aaa}{rows:List (List aaa)}
theorem uW(S:zA h sv 7 rows){i:Nat}{r:List aaa}(hr:rows[i]? = some r)(hn:r.length=7):∃b o c t,xR pu 48 sv (pm i)=some (.pointer (some ⟨b,o,none⟩))/\b<h.next/\h.get b=some (.cells c t)/\o+7<=c.length/\(c.drop o).take 7=r /\ ∀k,k<7->c[o+k]? = r[k]?:=by
 obtain⟨b,o,c,t,⟨off,cp,rfl,rfl⟩,hi,hb,hg,hl,ht,hk⟩:=S.spot hr hn;have h1:0<=(i:Int)/\(i:Int)<(rows.length:Int):=by omega
 exact⟨b,off+i*7,c,t,by simp only[zbV,h1,abl,and_self,abS],hb,hg,hl,ht,hk⟩
theorem XR(S:zA h sv 2 rows){i:Nat}{r:List aaa}(hr:rows[i]? = some r)(hn:r.length=2):∃b o c t,xR pu 23 sv (pm i)=some (.pointer (some ⟨b,o,none⟩))/\b<h.next/\h.get b=some (.cells c t)/\o+2<=c.length/\(c.drop o).take 2=r /\ ∀k,k<2->c[o+k]? = r[k]?:=by
 obtain⟨b,o,c,t,⟨off,cp,rfl,rfl⟩,hi,hb,hg,hl,ht,hk⟩:=S.spot hr hn;have h1:0<=(i:Int)/\(i:Int)<(rows.length:Int):=by omega
 exact⟨b,off+i*2,c,t,by simp only[zbU,h1,abl,and_self,abS],hb,hg,hl,ht,hk⟩
theorem vE{l:List zF}{n:Nat}(S:zA h sv n (l.map zF.row))(r:TypeId)(h':za):zG pu .len [48] r [sv] h'=some (pm l.length,h'):=by
 rcases S with⟨rfl,e⟩|⟨b,off,cp,rfl,_⟩
 ·have:l=[]:=by simpa using e
  subst this;simp only[Om,abr]
 ·simp only[Om,aau]
theorem jQ{l:List Fn}{n:Nat}(S:zA h sv n (l.map Fn.row))(r:TypeId)(h':za):zG pu .len [23] r [sv] h'=some (pm l.length,h'):=by
 rcases S with⟨rfl,e⟩|⟨b,off,cp,rfl,_⟩
 ·have:l=[]:=by simpa using e
  subst this;simp only[Ol,abr]
 ·simp only[Ol,aau]
end
section
variable {h:za}{p:Pg}{f:Fn}
end
def LR(n:Int):Bool := !decide (n<0) && !decide (65536<n)
section
variable {p:Pg}
end
end Go.As
namespace Go.Ar
open Go.Ai Go.Proofs
open Go.Rtl (zE zA Old yD xk)
open Go.Rm (ax)
open Go.As (zF sd cN Un uZ kj Yz)
def zS(k:Int):Bool:=decide (-2147483648<=k)&&decide (k<=2147483647)
theorem ZA(k:Int)(h:za):wX pu 37 [pm k] h (.bool (zS k)):=by
 apply yD;apply FA;unfold Hv;by_cases a:k ≥ -2147483648
 ·by_cases b:k<=2147483647
  ·simp only[EE,Int.reduceNeg,J4,a,b];simp[xk,zS];omega
  ·simp only[EE,Int.reduceNeg,J4,a,b];simp[xk,zS];omega
 ·simp only[EE,Int.reduceNeg,J4,a];simp[xk,zS];omega
theorem zbr(k:Int)(h:za):wX pu 56 [pm k] h (.bool (Yz k)):=by
 apply yD;apply MQ;unfold Ss;by_cases a:k ≥ 21
 ·by_cases b:k<=26
  ·simp only[EE,lQ,a,b];simp[xk,Yz];omega
  ·simp only[EE,lQ,a,b];simp[xk,Yz];omega
 ·simp only[EE,lQ,a];simp[xk,Yz];omega
theorem DG(n:Int)(h:za):wX pu 55 [pm n] h (.bool (kj n)):=by
 apply yD;apply I3;unfold MP;by_cases h11:n=11
 ·subst h11;simp only[EE,XD,XE,XF,XG,XH];rfl
 by_cases h12:n=12
 ·subst h12;simp only[EE,Int.reduceEq,XD,XE,XF,XG,XH];rfl
 by_cases h13:n=13
 ·subst h13;simp only[EE,Int.reduceEq,XD,XE,XF,XG,XH];rfl
 by_cases h16:n=16
 ·subst h16;simp only[EE,Int.reduceEq,XD,XE,XF,XG,XH];rfl
 by_cases h17:n=17
 ·subst h17;simp only[EE,Int.reduceEq,XD,XE,XF,XG,XH];rfl
 by_cases h18:n=18
 ·subst h18;simp only[EE,Int.reduceEq,XD,XE,XF,XG,XH];rfl
 simp only[EE,XD,XE,XF,XG,XH,h11,h12,h13,h16,h17,h18];have e:kj n=false:=by unfold kj;simp;omega
 rw[e];rfl
theorem Jx(x:zF)(h:za):wX pu 54 [x.val] h (.bool (Un x.op)):=by
 apply yD;apply Ds;unfold Dr;obtain⟨op,r,m,sub,cc,l,k⟩:=x;by_cases h1:op=1
 ·subst h1;simp only[EE,nth,↓nw,Value.cells,↓BK,zv,zk,zc,vK];rfl
 by_cases h2:op=2
 ·subst h2;simp only[EE,nth,↓nw,Value.cells,↓BK,Int.reduceEq,zv,zk,zc,uo,vK];rfl
 by_cases h3:op=3
 ·subst h3;simp only[EE,nth,↓nw,Value.cells,↓BK,Int.reduceEq,zv,zk,zc,qp,uo,vK];rfl
 by_cases h5:op=5
 ·subst h5;simp only[EE,nth,↓nw,Value.cells,↓BK,Int.reduceEq,zv,zk,zc,qE,qp,uo,vK];rfl
 by_cases h6:op=6
 ·subst h6;simp only[EE,nth,↓nw,Value.cells,↓BK,Int.reduceEq,zv,zk,zc,kF,qE,qp,uo,vK];rfl
 by_cases h7:op=7
 ·subst h7;simp only[EE,nth,↓nw,Value.cells,↓BK,Int.reduceEq,zv,zk,zc,jx,kF,qE,qp,uo,vK];rfl
 by_cases h8:op=8
 ·subst h8;simp only[EE,nth,↓nw,Value.cells,↓BK,Int.reduceEq,zv,zk,zc,Zd,jx,kF,qE,qp,uo,vK];rfl
 by_cases h9:op=9
 ·subst h9;simp only[EE,nth,↓nw,Value.cells,↓BK,Int.reduceEq,zv,zk,zc,Z0,Zd,jx,kF,qE,qp,uo,vK];rfl
 by_cases h10:op=10
 ·subst h10;simp only[EE,nth,↓nw,Value.cells,↓BK,Int.reduceEq,zv,zk,zc,Y9,Z0,Zd,jx,kF,qE,qp,uo,vK];rfl
 by_cases h11:op=11
 ·subst h11;simp only[EE,nth,↓nw,Value.cells,↓BK,Int.reduceEq,zv,zk,zc,W2,Y9,Z0,Zd,jx,kF,qE,qp,uo,vK];rfl
 by_cases h12:op=12
 ·subst h12;simp only[EE,nth,↓nw,Value.cells,↓BK,Int.reduceEq,zv,zk,zc,QB,W2,Y9,Z0,Zd,jx,kF,qE,qp,uo,vK];rfl
 by_cases h17:op=17
 ·subst h17;simp only[EE,nth,↓nw,Value.cells,↓BK,Int.reduceEq,zv,zk,zc,QB,W2,Y9,Z0,Zd,jx,kF,qE,qp,uo,vK];rfl
 simp only[EE,nth,↓nw,Value.cells,↓BK,zv,zk,zc,QB,W2,Y9,Z0,Zd,jx,kF,qE,qp,uo,vK,h1,h2,h3,h5,h6,h7,h8,h9,h10,h11,h12,h17];have e:Un op=false:=by unfold Un;simp;omega
 rw[e];rfl
theorem Ri(x:zF)(h:za):wX pu 53 [x.val] h (.tuple #[.bool (sd x.op),.bool (cN x.op)]):=by
 apply ax rfl;apply Fv;unfold Hs;obtain⟨op,r,m,sub,cc,l,k⟩:=x;simp only[EE,↓nw,Value.cells,Nat.reduceAdd,kH,uC];refine YL (Jx ⟨op,r,m,sub,cc,l,k⟩ _) ?_;by_cases h1:op=1
 ·subst h1;simp only[EE,nth,↓BK,zv,zk,zc,vP,vQ,vR,vd,ve,vf,vh,vi,vj,show Un 1=true from rfl];rfl
 by_cases h3:op=3
 ·subst h3;simp only[EE,nth,↓BK,Int.reduceEq,zv,zk,zc,um,vP,vQ,vR,vd,ve,vf,vh,vi,vj,show Un 3=true from rfl];rfl
 by_cases h5:op=5
 ·subst h5;simp only[EE,nth,↓BK,Int.reduceEq,zv,zk,zc,uV,uI,um,vP,vQ,vR,vd,ve,vf,vh,vi,vj,show Un 5=true from rfl];rfl
 by_cases h7:op=7
 ·subst h7;simp only[EE,nth,↓BK,Int.reduceEq,zv,zk,zc,qm,uV,uI,um,vP,vQ,vR,vd,ve,vf,vh,vi,vj,show Un 7=true from rfl];rfl
 by_cases h10:op=10
 ·subst h10;simp only[EE,nth,↓BK,Int.reduceEq,zv,zk,zc,qA,qm,uV,uI,um,vP,vQ,vR,vd,ve,vf,vh,vi,vj,show Un 10=true from rfl];rfl
 by_cases h2:op=2
 ·subst h2;simp only[EE,nth,↓BK,Int.reduceEq,zv,zk,zc,qS,qA,qm,uV,uI,um,vP,vQ,vR,vd,ve,vf,vh,vi,vj,show Un 2=true from rfl];rfl
 by_cases h6:op=6
 ·subst h6;simp only[EE,nth,↓BK,Int.reduceEq,zv,zk,zc,qS,qA,qm,uV,uI,um,vP,vQ,vR,vd,ve,vf,vh,vi,vj,show Un 6=true from rfl];rfl
 by_cases h8:op=8
 ·subst h8;simp only[EE,nth,↓BK,Int.reduceEq,zv,zk,zc,qS,qA,qm,uV,uI,um,vP,vQ,vR,vd,ve,vf,vh,vi,vj,show Un 8=true from rfl];rfl
 by_cases h9:op=9
 ·subst h9;simp only[EE,nth,↓BK,Int.reduceEq,zv,zk,zc,qS,qA,qm,uV,uI,um,vP,vQ,vR,vd,ve,vf,vh,vi,vj,show Un 9=true from rfl];rfl
 by_cases h11:op=11
 ·subst h11;simp only[EE,nth,↓BK,Int.reduceEq,zv,zk,zc,qS,qA,qm,uV,uI,um,vP,vQ,vR,vd,ve,vf,vh,vi,vj,show Un 11=true from rfl];rfl
 by_cases h12:op=12
 ·subst h12;simp only[EE,nth,↓BK,Int.reduceEq,zv,zk,zc,qS,qA,qm,uV,uI,um,vP,vQ,vR,vd,ve,vf,vh,vi,vj,show Un 12=true from rfl];rfl
 by_cases h17:op=17
 ·subst h17;simp only[EE,nth,↓BK,Int.reduceEq,zv,zk,zc,qS,qA,qm,uV,uI,um,vP,vQ,vR,vd,ve,vf,vh,vi,vj,show Un 17=true from rfl];rfl
 by_cases h4:op=4
 ·subst h4;simp only[EE,nth,↓BK,Int.reduceEq,zv,zk,zc,uI,um,vP,vQ,vR,vd,ve,vf,vh,vi,vj,show Un 4=false from rfl];rfl
 by_cases h15:op=15
 ·subst h15;simp only[EE,nth,↓BK,Int.reduceEq,zv,zk,zc,qS,qA,qm,uV,uI,um,vP,vQ,vR,vd,ve,vf,vh,vi,vj,show Un 15=false from rfl];rfl
 by_cases h16:op=16
 ·subst h16;simp only[EE,nth,↓BK,Int.reduceEq,zv,zk,zc,qS,qA,qm,uV,uI,um,vP,vQ,vR,vd,ve,vf,vh,vi,vj,show Un 16=false from rfl];rfl
 by_cases h14:op=14
 ·subst h14;simp only[EE,nth,↓BK,Int.reduceEq,zv,zk,zc,qS,qA,qm,uV,uI,um,vP,vQ,vR,vd,ve,vf,vh,vi,vj,show Un 14=false from rfl];rfl
 have e3:Un op=false:=by unfold Un;simp;omega
 simp only[EE,nth,↓BK,zv,zk,zc,qS,qA,qm,uV,uI,um,vP,vQ,vR,vd,ve,vf,vh,vi,vj,e3,h1,h3,h5,h7,h10,h4,h15,h16,h14];have e1:sd op=false:=by unfold sd;simp;omega
 have e2:cN op=false:=by unfold cN;simp;omega
 rw[e1,e2];rfl
def tailD(i:zF):Bool :=
 if i.op=3\/i.op=4 then decide (i.sub=1\/i.sub=4\/i.sub=8)&&zS i.k
 else if i.op=5\/i.op=16 then zS i.k
 else if i.op=7 then kj i.sub
 else if i.op=8 then kj i.sub&&zS i.k
 else if i.op=9 then decide (i.sub=1\/i.sub=2)
 else if i.op=10 then decide (i.sub=3\/i.sub=4)
 else if i.op=11 then decide (i.sub=19\/i.sub=20)&&(decide (0<=i.k)&&decide (i.k<=63))
 else if i.op=12 then decide (i.sub=19\/i.sub=20)
 else if i.op=17 then Yz i.cc
 else if i.op=19 then Yz i.cc&&(decide (0<=i.l)&&decide (i.l<=10000000))
 else if i.op=18\/i.op=20 then decide (0<=i.l)&&decide (i.l<=10000000)
 else if i.op=23\/i.op=24 then decide (0<=i.k)&&decide (i.k<=65536)
 else true
section
variable {H:za}{b:Nat}{B:Bool}{vs:List aaa}{x:zF}
theorem zcF{r m sub cc l k:Int}(g:H.get b=some (.cells (zF.row ⟨3,r,m,sub,cc,l,k⟩) 42))(hB:B=tailD ⟨3,r,m,sub,cc,l,k⟩):zn (pi b) (xk B) vs H:=by
 by_cases s1:sub=1
 ·subst s1;simp only[EE,nth,↓BK,zv,xY,zk,zc,zq,zL,jr,jt,ju,jv,jw,kg,zJ,zn,g];refine YL (ZA k _) ?_;simp only[EE];rw[hB];simp[xk,tailD]
 by_cases s4:sub=4
 ·subst s4;simp only[EE,nth,↓BK,zv,xY,zk,zc,zq,zL,jr,jt,ju,jv,jw,kg,zJ,zn,g,s1];refine YL (ZA k _) ?_;simp only[EE];rw[hB];simp[xk,tailD,s1]
 by_cases s8:sub=8
 ·subst s8;simp only[EE,nth,↓BK,zv,xY,zk,zc,zq,zL,jr,jt,ju,jv,jw,kg,zJ,zn,g,s1,s4];refine YL (ZA k _) ?_;simp only[EE];rw[hB];simp[xk,tailD,s1,s4]
 simp only[EE,nth,↓BK,zv,zk,zc,zq,jr,jt,ju,jv,jw,kg,zJ,zn,g,s1,s4,s8];rw[hB];simp[xk,tailD,s1,s4,s8]
theorem zcG{r m sub cc l k:Int}(g:H.get b=some (.cells (zF.row ⟨4,r,m,sub,cc,l,k⟩) 42))(hB:B=tailD ⟨4,r,m,sub,cc,l,k⟩):zn (pi b) (xk B) vs H:=by
 by_cases s1:sub=1
 ·subst s1;simp only[EE,nth,↓BK,Int.reduceEq,zv,xY,zk,zc,zq,zL,jr,jt,ju,jv,jw,kg,zJ,zn,g];refine YL (ZA k _) ?_;simp only[EE];rw[hB];simp[xk,tailD]
 by_cases s4:sub=4
 ·subst s4;simp only[EE,nth,↓BK,Int.reduceEq,zv,xY,zk,zc,zq,zL,jr,jt,ju,jv,jw,kg,zJ,zn,g,s1];refine YL (ZA k _) ?_;simp only[EE];rw[hB];simp[xk,tailD,s1]
 by_cases s8:sub=8
 ·subst s8;simp only[EE,nth,↓BK,Int.reduceEq,zv,xY,zk,zc,zq,zL,jr,jt,ju,jv,jw,kg,zJ,zn,g,s1,s4];refine YL (ZA k _) ?_;simp only[EE];rw[hB];simp[xk,tailD,s1,s4]
 simp only[EE,nth,↓BK,Int.reduceEq,zv,zk,zc,zq,jr,jt,ju,jv,jw,kg,zJ,zn,g,s1,s4,s8];rw[hB];simp[xk,tailD,s1,s4,s8]
theorem zcH{r m sub cc l k:Int}(g:H.get b=some (.cells (zF.row ⟨5,r,m,sub,cc,l,k⟩) 42))(hB:B=tailD ⟨5,r,m,sub,cc,l,k⟩):zn (pi b) (xk B) vs H:=by
 simp only[EE,nth,↓BK,Int.reduceEq,zv,xY,zk,zc,zL,KJ,zW,zJ,zn,g];refine YL (ZA k _) ?_;simp only[EE];rw[hB];simp[xk,tailD]
theorem zbw{r m sub cc l k:Int}(g:H.get b=some (.cells (zF.row ⟨16,r,m,sub,cc,l,k⟩) 42))(hB:B=tailD ⟨16,r,m,sub,cc,l,k⟩):zn (pi b) (xk B) vs H:=by
 simp only[EE,nth,↓BK,Int.reduceEq,zv,xY,zk,zc,zL,KJ,zW,zJ,zn,g];refine YL (ZA k _) ?_;simp only[EE];rw[hB];simp[xk,tailD]
theorem zcI{r m sub cc l k:Int}(g:H.get b=some (.cells (zF.row ⟨7,r,m,sub,cc,l,k⟩) 42))(hB:B=tailD ⟨7,r,m,sub,cc,l,k⟩):zn (pi b) (xk B) vs H:=by
 simp only[EE,nth,↓BK,Int.reduceEq,zv,zk,zc,zq,iI,ya,zW,zJ,zn,g];refine YL (DG sub _) ?_;simp only[EE];rw[hB];simp[xk,tailD]
theorem zcJ{r m sub cc l k:Int}(g:H.get b=some (.cells (zF.row ⟨8,r,m,sub,cc,l,k⟩) 42))(hB:B=tailD ⟨8,r,m,sub,cc,l,k⟩):zn (pi b) (xk B) vs H:=by
 simp only[EE,nth,↓BK,Int.reduceEq,zv,zk,zc,zq,yc,ya,zW,zJ,zn,g];refine YL (DG sub _) ?_;cases ha:kj sub with
 |false=>
  simp only[EE,bT,bU];rw[hB];simp[xk,tailD,ha]
 |true=>
  simp only[EE,zv,xY,zL,bT,bU,g];refine YL (ZA k _) ?_;simp only[EE];rw[hB];simp[xk,tailD,ha]
theorem zcK{r m sub cc l k:Int}(g:H.get b=some (.cells (zF.row ⟨9,r,m,sub,cc,l,k⟩) 42))(hB:B=tailD ⟨9,r,m,sub,cc,l,k⟩):zn (pi b) (xk B) vs H:=by
 by_cases s1:sub=1
 ·subst s1;simp only[EE,nth,↓BK,Int.reduceEq,zv,zk,zc,zq,Qr,VC,ye,yc,ya,zW,zJ,zn,g];rw[hB];simp[xk,tailD]
 by_cases s2:sub=2
 ·subst s2;simp only[EE,nth,↓BK,Int.reduceEq,zv,zk,zc,zq,Qr,VC,ye,yc,ya,zW,zJ,zn,g,s1];rw[hB];simp[xk,tailD,s1]
 simp only[EE,nth,↓BK,Int.reduceEq,zv,zk,zc,zq,Qr,VC,ye,yc,ya,zW,zJ,zn,g,s1,s2];rw[hB];simp[xk,tailD,s1,s2]
theorem zbt{r m sub cc l k:Int}(g:H.get b=some (.cells (zF.row ⟨10,r,m,sub,cc,l,k⟩) 42))(hB:B=tailD ⟨10,r,m,sub,cc,l,k⟩):zn (pi b) (xk B) vs H:=by
 by_cases s3:sub=3
 ·subst s3;simp only[EE,nth,↓BK,Int.reduceEq,zv,zk,zc,zq,Qs,VB,yp,ye,yc,ya,zW,zJ,zn,g];rw[hB];simp[xk,tailD]
 by_cases s4:sub=4
 ·subst s4;simp only[EE,nth,↓BK,Int.reduceEq,zv,zk,zc,zq,Qs,VB,yp,ye,yc,ya,zW,zJ,zn,g,s3];rw[hB];simp[xk,tailD,s3]
 simp only[EE,nth,↓BK,Int.reduceEq,zv,zk,zc,zq,Qs,VB,yp,ye,yc,ya,zW,zJ,zn,g,s3,s4];rw[hB];simp[xk,tailD,s3,s4]
theorem zbv{r m sub cc l k:Int}(g:H.get b=some (.cells (zF.row ⟨12,r,m,sub,cc,l,k⟩) 42))(hB:B=tailD ⟨12,r,m,sub,cc,l,k⟩):zn (pi b) (xk B) vs H:=by
 by_cases s19:sub=19
 ·subst s19;simp only[EE,nth,↓BK,Int.reduceEq,zv,zk,zc,zq,Vz,VA,xZ,yI,yp,ye,yc,ya,zW,zJ,zn,g];rw[hB];simp[xk,tailD]
 by_cases s20:sub=20
 ·subst s20;simp only[EE,nth,↓BK,Int.reduceEq,zv,zk,zc,zq,Vz,VA,xZ,yI,yp,ye,yc,ya,zW,zJ,zn,g,s19];rw[hB];simp[xk,tailD,s19]
 simp only[EE,nth,↓BK,Int.reduceEq,zv,zk,zc,zq,Vz,VA,xZ,yI,yp,ye,yc,ya,zW,zJ,zn,g,s19,s20];rw[hB];simp[xk,tailD,s19,s20]
theorem zbu{r m sub cc l k:Int}(g:H.get b=some (.cells (zF.row ⟨11,r,m,sub,cc,l,k⟩) 42))(hB:B=tailD ⟨11,r,m,sub,cc,l,k⟩):zn (pi b) (xk B) vs H:=by
 by_cases s19:sub=19
 ·subst s19;by_cases k0:0<=k
  ·by_cases k1:k<=63
   ·simp only[EE,nth,↓BK,Int.reduceEq,zv,xY,zk,zc,zq,zL,kW,kX,kY,kZ,k8,ja,yI,yp,ye,yc,ya,zW,zJ,zn,g,k0,k1];rw[hB];simp[xk,tailD,k0,k1]
   ·simp only[EE,nth,↓BK,Int.reduceEq,zv,xY,zk,zc,zq,zL,kW,kX,kY,kZ,k8,ja,yI,yp,ye,yc,ya,zW,zJ,zn,g,k0,k1];rw[hB];simp[xk,tailD,k0,k1]
  ·simp only[EE,nth,↓BK,Int.reduceEq,zv,xY,zk,zc,zq,zL,kW,kX,kY,kZ,k8,ja,yI,yp,ye,yc,ya,zW,zJ,zn,g,k0];rw[hB];simp[xk,tailD,k0]
 by_cases s20:sub=20
 ·subst s20;by_cases k0:0<=k
  ·by_cases k1:k<=63
   ·simp only[EE,nth,↓BK,Int.reduceEq,zv,xY,zk,zc,zq,zL,kW,kX,kY,kZ,k8,ja,yI,yp,ye,yc,ya,zW,zJ,zn,g,s19,k0,k1];rw[hB];simp[xk,tailD,s19,k0,k1]
   ·simp only[EE,nth,↓BK,Int.reduceEq,zv,xY,zk,zc,zq,zL,kW,kX,kY,kZ,k8,ja,yI,yp,ye,yc,ya,zW,zJ,zn,g,s19,k0,k1];rw[hB];simp[xk,tailD,s19,k0,k1]
  ·simp only[EE,nth,↓BK,Int.reduceEq,zv,xY,zk,zc,zq,zL,kW,kX,kY,kZ,k8,ja,yI,yp,ye,yc,ya,zW,zJ,zn,g,s19,k0];rw[hB];simp[xk,tailD,s19,k0]
 simp only[EE,nth,↓BK,Int.reduceEq,zv,zk,zc,zq,kW,kX,kY,kZ,k8,ja,yI,yp,ye,yc,ya,zW,zJ,zn,g,s19,s20];rw[hB];simp[xk,tailD,s19,s20]
theorem zbx{r m sub cc l k:Int}(g:H.get b=some (.cells (zF.row ⟨17,r,m,sub,cc,l,k⟩) 42))(hB:B=tailD ⟨17,r,m,sub,cc,l,k⟩):zn (pi b) (xk B) vs H:=by
 simp only[EE,nth,↓BK,Int.reduceEq,zv,zk,zc,aa,iH,wY,xZ,yI,yp,ye,yc,ya,zW,zJ,zn,g];refine YL (zbr cc _) ?_;simp only[EE];rw[hB];simp[xk,tailD]
theorem zbz{r m sub cc l k:Int}(g:H.get b=some (.cells (zF.row ⟨19,r,m,sub,cc,l,k⟩) 42))(hB:B=tailD ⟨19,r,m,sub,cc,l,k⟩):zn (pi b) (xk B) vs H:=by
 simp only[EE,nth,↓BK,Int.reduceEq,zv,zk,zc,aa,vx,wY,xZ,yI,yp,ye,yc,ya,zW,zJ,zn,g];refine YL (zbr cc _) ?_;cases ha:Yz cc with
 |false=>
  simp only[EE,XI,XJ,XK,XL];rw[hB];simp[xk,tailD,ha]
 |true=>
  by_cases k0:0<=l
  ·by_cases k1:l<=10000000
   ·simp only[EE,zv,zk,uv,XI,XJ,XK,XL,g,k0,k1];rw[hB];simp[xk,tailD,ha,k0,k1]
   ·simp only[EE,zv,zk,uv,XI,XJ,XK,XL,g,k0,k1];rw[hB];simp[xk,tailD,ha,k0,k1]
  ·simp only[EE,zv,zk,uv,XI,XJ,XK,XL,g,k0];rw[hB];simp[xk,tailD,ha,k0]
theorem zby{r m sub cc l k:Int}(g:H.get b=some (.cells (zF.row ⟨18,r,m,sub,cc,l,k⟩) 42))(hB:B=tailD ⟨18,r,m,sub,cc,l,k⟩):zn (pi b) (xk B) vs H:=by
 by_cases k0:0<=l
 ·by_cases k1:l<=10000000
  ·simp only[EE,nth,↓BK,Int.reduceEq,zv,zk,zc,uv,j9,Zc,vJ,vx,wY,xZ,yI,yp,ye,yc,ya,zW,zJ,zn,g,k0,k1];rw[hB];simp[xk,tailD,k0,k1]
  ·simp only[EE,nth,↓BK,Int.reduceEq,zv,zk,zc,uv,j9,Zc,vJ,vx,wY,xZ,yI,yp,ye,yc,ya,zW,zJ,zn,g,k0,k1];rw[hB];simp[xk,tailD,k0,k1]
 ·simp only[EE,nth,↓BK,Int.reduceEq,zv,zk,zc,uv,j9,Zc,vJ,vx,wY,xZ,yI,yp,ye,yc,ya,zW,zJ,zn,g,k0];rw[hB];simp[xk,tailD,k0]
theorem zbA{r m sub cc l k:Int}(g:H.get b=some (.cells (zF.row ⟨20,r,m,sub,cc,l,k⟩) 42))(hB:B=tailD ⟨20,r,m,sub,cc,l,k⟩):zn (pi b) (xk B) vs H:=by
 by_cases k0:0<=l
 ·by_cases k1:l<=10000000
  ·simp only[EE,nth,↓BK,Int.reduceEq,zv,zk,zc,uv,j9,Zc,vJ,vx,wY,xZ,yI,yp,ye,yc,ya,zW,zJ,zn,g,k0,k1];rw[hB];simp[xk,tailD,k0,k1]
  ·simp only[EE,nth,↓BK,Int.reduceEq,zv,zk,zc,uv,j9,Zc,vJ,vx,wY,xZ,yI,yp,ye,yc,ya,zW,zJ,zn,g,k0,k1];rw[hB];simp[xk,tailD,k0,k1]
 ·simp only[EE,nth,↓BK,Int.reduceEq,zv,zk,zc,uv,j9,Zc,vJ,vx,wY,xZ,yI,yp,ye,yc,ya,zW,zJ,zn,g,k0];rw[hB];simp[xk,tailD,k0]
theorem zbB{r m sub cc l k:Int}(g:H.get b=some (.cells (zF.row ⟨23,r,m,sub,cc,l,k⟩) 42))(hB:B=tailD ⟨23,r,m,sub,cc,l,k⟩):zn (pi b) (xk B) vs H:=by
 by_cases k0:0<=k
 ·by_cases k1:k<=65536
  ·simp only[EE,nth,↓BK,Int.reduceEq,zv,xY,zk,zc,zL,Za,Zb,k9,vJ,vx,wY,xZ,yI,yp,ye,yc,ya,zW,zJ,zn,g,k0,k1];rw[hB];simp[xk,tailD,k0,k1]
  ·simp only[EE,nth,↓BK,Int.reduceEq,zv,xY,zk,zc,zL,Za,Zb,k9,vJ,vx,wY,xZ,yI,yp,ye,yc,ya,zW,zJ,zn,g,k0,k1];rw[hB];simp[xk,tailD,k0,k1]
 ·simp only[EE,nth,↓BK,Int.reduceEq,zv,xY,zk,zc,zL,Za,Zb,k9,vJ,vx,wY,xZ,yI,yp,ye,yc,ya,zW,zJ,zn,g,k0];rw[hB];simp[xk,tailD,k0]
theorem zbC{r m sub cc l k:Int}(g:H.get b=some (.cells (zF.row ⟨24,r,m,sub,cc,l,k⟩) 42))(hB:B=tailD ⟨24,r,m,sub,cc,l,k⟩):zn (pi b) (xk B) vs H:=by
 by_cases k0:0<=k
 ·by_cases k1:k<=65536
  ·simp only[EE,nth,↓BK,Int.reduceEq,zv,xY,zk,zc,zL,Za,Zb,k9,vJ,vx,wY,xZ,yI,yp,ye,yc,ya,zW,zJ,zn,g,k0,k1];rw[hB];simp[xk,tailD,k0,k1]
  ·simp only[EE,nth,↓BK,Int.reduceEq,zv,xY,zk,zc,zL,Za,Zb,k9,vJ,vx,wY,xZ,yI,yp,ye,yc,ya,zW,zJ,zn,g,k0,k1];rw[hB];simp[xk,tailD,k0,k1]
 ·simp only[EE,nth,↓BK,Int.reduceEq,zv,xY,zk,zc,zL,Za,Zb,k9,vJ,vx,wY,xZ,yI,yp,ye,yc,ya,zW,zJ,zn,g,k0];rw[hB];simp[xk,tailD,k0]
theorem gM(g:H.get b=some (.cells x.row 42))(hB:B=tailD x):zn (pi b) (xk B) vs H:=by
 obtain⟨op,r,m,sub,cc,l,k⟩:=x;by_cases o3:op=3
 ·subst o3;exact zcF g hB
 by_cases o4:op=4
 ·subst o4;exact zcG g hB
 by_cases o5:op=5
 ·subst o5;exact zcH g hB
 by_cases o16:op=16
 ·subst o16;exact zbw g hB
 by_cases o7:op=7
 ·subst o7;exact zcI g hB
 by_cases o8:op=8
 ·subst o8;exact zcJ g hB
 by_cases o9:op=9
 ·subst o9;exact zcK g hB
 by_cases o10:op=10
 ·subst o10;exact zbt g hB
 by_cases o11:op=11
 ·subst o11;exact zbu g hB
 by_cases o12:op=12
 ·subst o12;exact zbv g hB
 by_cases o17:op=17
 ·subst o17;exact zbx g hB
 by_cases o19:op=19
 ·subst o19;exact zbz g hB
 by_cases o18:op=18
 ·subst o18;exact zby g hB
 by_cases o20:op=20
 ·subst o20;exact zbA g hB
 by_cases o23:op=23
 ·subst o23;exact zbB g hB
 by_cases o24:op=24
 ·subst o24;exact zbC g hB
 simp only[EE,nth,↓BK,zv,zk,zc,k9,vJ,vx,wY,xZ,yI,yp,ye,yc,ya,zW,zJ,zn,g,o3,o4,o5,o16,o7,o8,o9,o10,o11,o12,o17,o19,o18,o20,o23,o24];rw[hB];simp[xk,tailD,o3,o4,o5,o16,o7,o8,o9,o10,o11,o12,o17,o19,o18,o20,o23,o24]
end
def WJ(x:zF):Bool := !(sd x.op&&(decide (x.r<0)||decide (15<x.r)))
def Vs(x:zF):Bool := !(cN x.op&&(decide (x.m<0)||decide (15<x.m)))
def Jv(x:zF):Bool := !(Un x.op&&decide (x.r=4))
def lK(x:zF):Bool := !(cN x.op&&(decide (x.m=4) && !uZ x.op))
def ym(x:zF):Bool := !decide (x.op<1)&&(!decide (26<x.op)&&(WJ x&&(Vs x&&(Jv x&&(lK x&&tailD x)))))
section
variable {H:za}{b:Nat}{B:Bool}{vs:List aaa}{x:zF}
theorem lq{mb:Bool}(hm:cN x.op=mb)(g:H.get b=some (.cells x.row 42))(hB:B=(lK x&&tailD x)):kh (.bool mb) (pi b) (xk B) vs H:=by
 cases mb with
 |false=>
  simp only[EE,jb,jc,jd,jf,jg,jh,ji,jj,jk,kh];exact gM g (by rw[hB];simp[lK,hm])
 |true=>
  by_cases m4:x.m=4
  ·by_cases o3:x.op=3
   ·simp only[EE,zv,zk,zc,yx,jb,jc,jd,jf,jg,jh,ji,jj,jk,kh,g,m4,o3];exact gM g (by rw[hB];simp[lK,uZ,o3])
   by_cases o4:x.op=4
   ·simp only[EE,Int.reduceEq,zv,zk,zc,yx,jb,jc,jd,jf,jg,jh,ji,jj,jk,kh,g,m4,o4];exact gM g (by rw[hB];simp[lK,uZ,o4])
   by_cases o5:x.op=5
   ·simp only[EE,Int.reduceEq,zv,zk,zc,yx,jb,jc,jd,jf,jg,jh,ji,jj,jk,kh,g,m4,o5];exact gM g (by rw[hB];simp[lK,uZ,o5])
   by_cases o1:x.op=1
   ·simp only[EE,Int.reduceEq,zv,zk,zc,yx,jb,jc,jd,jf,jg,jh,ji,jj,jk,kh,g,m4,o1];exact gM g (by rw[hB];simp[lK,uZ,o1])
   simp only[EE,zv,zk,zc,yx,jb,jc,jd,jf,jg,jh,ji,jj,jk,kh,g,m4,o3,o4,o5,o1];have e:uZ x.op=false:=by unfold uZ;simp[o3,o4,o5,o1]
   rw[hB];simp[xk,lK,hm,m4,e]
  ·simp only[EE,zv,zk,yx,jb,jc,jd,jf,jg,jh,ji,jj,jk,kh,g,m4];exact gM g (by rw[hB];simp[lK,m4])
theorem mh:wX pu 27 [x.val] H (.bool (ym x)):=by
 apply yD;generalize H.lock=L;apply CF;unfold CE;simp only[EE,↓nw,Value.cells,Nat.reduceAdd,kH,uC];have g:(L.push (.cells x.row 42)).get L.next=some (.cells x.row 42):=uz;generalize L.push (.cells x.row 42)=G at g ⊢;generalize L.next=b at g ⊢;simp only[];refine YL (Ri x _) ?_;by_cases c1:x.op<1
 ·simp only[EE,zv,zk,zc,xN,xO,xP,vX,vY,vZ,v8,v9,ua,ub,uc,ud,ue,uf,ug,uh,ui,uj,g,c1];simp[xk,ym,c1]
 by_cases c2:x.op>26
 ·simp only[EE,zv,zk,zc,xN,xO,xP,vX,vY,vZ,v8,v9,ua,ub,uc,ud,ue,uf,ug,uh,ui,uj,g,c1,c2];have c2':26<x.op:=c2;simp[xk,ym,c2']
 have c2':¬26<x.op:=c2;cases hr:sd x.op with
 |false=>
  cases hm:cN x.op with
  |false=>
   simp only[EE,Nat.reduceAdd,kH,zv,zk,uC,zc,vX,vY,vZ,v8,v9,ua,ub,uc,ud,ue,uf,ug,uh,ui,uj,g,c1,c2];refine YL (Jx x _) ?_;cases hw:Un x.op with
   |false=>
    simp only[EE,xN,xO,xP];refine lq (x:=x) (B:=ym x) hm g ?_;simp[ym,WJ,Vs,Jv,c1,c2',hr,hm,hw]
   |true=>
    by_cases r4:x.r=4
    ·simp only[EE,zv,zk,z8,xN,xO,xP,g,r4];simp[xk,ym,WJ,Vs,Jv,hw,r4]
    ·simp only[EE,zv,zk,z8,xN,xO,xP,g,r4];refine lq (x:=x) (B:=ym x) hm g ?_;simp[ym,WJ,Vs,Jv,c1,c2',hr,hm,hw,r4]
  |true=>
   by_cases m0:x.m<0
   ·simp only[EE,zv,zk,zc,yx,xN,xO,xP,vX,vY,vZ,v8,v9,ua,ub,uc,ud,ue,uf,ug,uh,ui,uj,g,c1,c2,m0];simp[xk,ym,WJ,Vs,hm,m0]
   by_cases m1:x.m>15
   ·simp only[EE,zv,zk,zc,yx,xN,xO,xP,vX,vY,vZ,v8,v9,ua,ub,uc,ud,ue,uf,ug,uh,ui,uj,g,c1,c2,m0,m1];have m1':15<x.m:=m1;simp[xk,ym,WJ,Vs,hm,m1']
   have m1':¬15<x.m:=m1;simp only[EE,Nat.reduceAdd,kH,zv,zk,uC,zc,yx,vX,vY,vZ,v8,v9,ua,ub,uc,ud,ue,uf,ug,uh,ui,uj,g,c1,c2,m0,m1];refine YL (Jx x _) ?_;cases hw:Un x.op with
   |false=>
    simp only[EE,xN,xO,xP];refine lq (x:=x) (B:=ym x) hm g ?_;simp[ym,WJ,Vs,Jv,c1,c2',hr,hm,m0,m1',hw]
   |true=>
    by_cases r4:x.r=4
    ·simp only[EE,zv,zk,z8,xN,xO,xP,g,r4];simp[xk,ym,WJ,Vs,Jv,hw,r4]
    ·simp only[EE,zv,zk,z8,xN,xO,xP,g,r4];refine lq (x:=x) (B:=ym x) hm g ?_;simp[ym,WJ,Vs,Jv,c1,c2',hr,hm,m0,m1',hw,r4]
 |true=>
  by_cases r0:x.r<0
  ·simp only[EE,zv,zk,zc,z8,xN,xO,xP,vX,vY,vZ,v8,v9,ua,ub,uc,ud,ue,uf,ug,uh,ui,uj,g,c1,c2,r0];simp[xk,ym,WJ,hr,r0]
  by_cases r1:x.r>15
  ·simp only[EE,zv,zk,zc,z8,xN,xO,xP,vX,vY,vZ,v8,v9,ua,ub,uc,ud,ue,uf,ug,uh,ui,uj,g,c1,c2,r0,r1];have r1':15<x.r:=r1;simp[xk,ym,WJ,hr,r1']
  have r1':¬15<x.r:=r1;cases hm:cN x.op with
  |false=>
   simp only[EE,Nat.reduceAdd,kH,zv,zk,uC,zc,z8,vX,vY,vZ,v8,v9,ua,ub,uc,ud,ue,uf,ug,uh,ui,uj,g,c1,c2,r0,r1];refine YL (Jx x _) ?_;cases hw:Un x.op with
   |false=>
    simp only[EE,xN,xO,xP];refine lq (x:=x) (B:=ym x) hm g ?_;simp[ym,WJ,Vs,Jv,c1,c2',hr,r0,r1',hm,hw]
   |true=>
    by_cases r4:x.r=4
    ·simp only[EE,zv,zk,z8,xN,xO,xP,g,r4];simp[xk,ym,WJ,Vs,Jv,hw,r4]
    ·simp only[EE,zv,zk,z8,xN,xO,xP,g,r4];refine lq (x:=x) (B:=ym x) hm g ?_;simp[ym,WJ,Vs,Jv,c1,c2',hr,r0,r1',hm,hw,r4]
  |true=>
   by_cases m0:x.m<0
   ·simp only[EE,zv,zk,zc,z8,yx,xN,xO,xP,vX,vY,vZ,v8,v9,ua,ub,uc,ud,ue,uf,ug,uh,ui,uj,g,c1,c2,r0,r1,m0];simp[xk,ym,WJ,Vs,hm,m0]
   by_cases m1:x.m>15
   ·simp only[EE,zv,zk,zc,z8,yx,xN,xO,xP,vX,vY,vZ,v8,v9,ua,ub,uc,ud,ue,uf,ug,uh,ui,uj,g,c1,c2,r0,r1,m0,m1];have m1':15<x.m:=m1;simp[xk,ym,WJ,Vs,hm,m1']
   have m1':¬15<x.m:=m1;simp only[EE,Nat.reduceAdd,kH,zv,zk,uC,zc,z8,yx,vX,vY,vZ,v8,v9,ua,ub,uc,ud,ue,uf,ug,uh,ui,uj,g,c1,c2,r0,r1,m0,m1];refine YL (Jx x _) ?_;cases hw:Un x.op with
   |false=>
    simp only[EE,xN,xO,xP];refine lq (x:=x) (B:=ym x) hm g ?_;simp[ym,WJ,Vs,Jv,c1,c2',hr,r0,r1',hm,m0,m1',hw]
   |true=>
    by_cases r4:x.r=4
    ·simp only[EE,zv,zk,z8,xN,xO,xP,g,r4];simp[xk,ym,WJ,Vs,Jv,hw,r4]
    ·simp only[EE,zv,zk,z8,xN,xO,xP,g,r4];refine lq (x:=x) (B:=ym x) hm g ?_;simp[ym,WJ,Vs,Jv,c1,c2',hr,r0,r1',hm,m0,m1',hw,r4]
end
open Go.Rtl (inc)
open Go.Rm (Rd Rd.of Rd.at isO)
open Go.As (X4 uW vE)
def xX:List zF->Int->Nat->Int
 |[],_,_ => -1
 |x::xs,l,n=>if x.op=20/\x.l=l then (n:Nat) else xX xs l (n+1)
theorem WI{h:za}{f:Go.As.Fn}(F:X4 h f)(l:Int):wX pu 28 [f.val,pm l] h (pm (xX f.code l 0)):=by
 apply ax rfl;replace F:=F.lock;generalize h.lock=L at F;apply Wg;intro wf;apply Fm;unfold G6;have s0:Sat (.of L) L []:=Sat.self wf.2;have RF:Rd (.of L) (X4 · f):=Rd.of (y4.jP L) F λh' o=>F.old o;have cn:=F.code.QU;have cc:=F.code.FQ;simp only[EE,Value.cells,↓zt];refine qt s0 λb2 h2 s2=>?_;have g2:=s2.get;simp only[];have F2:=RF.at s2;have cl:=vE F2.code 3;refine qb (λm vs h'=>∃i:Nat,i<=f.code.length/\m=f.code.length-i/\vs=[pm 0,pm (i:Nat)]/\h'=h2/\xX f.code l 0=xX (f.code.drop i) l i) f.code.length ⟨0,aaN _,rfl,rfl,rfl,rfl⟩ ?_;rintro m vs h' ⟨i,hi,rfl,rfl,rfl,he⟩;unfold sC;by_cases hc:(i:Int)<(f.code.length:Int)
 ·obtain⟨x,hx⟩:∃x,f.code[i]? = some x:=⟨_,aaf (by omega)⟩
  have hd:f.code.drop i=x::f.code.drop (i+1):=by
   rw[abw (by omega)];rw[aaf (by omega)]at hx;rw[abn hx]
  rw[hd]at he;obtain⟨bi,oi,ci,ti,ha,hbi,hgi,hle,htk,hki⟩:=uW F2.code (i:=i) (r:=x.row) (by rw[aaA,hx];rfl) rfl;have q0:=hki 0 (by decide);have q0:ci[oi]? = some (pm x.op):=q0;have q5:=hki 5 (by decide);have q5:ci[oi+5]? = some (pm x.l):=q5;have hin:=inc (show i<4611686018427387904 by have:=F.PJ;omega);by_cases e1:x.op=20
  ·by_cases e2:x.l=l
   ·simp only[EE,nth,↓zt,zv,zk,Yw,zc,uv,qy,Jz,JA,JB,JC,JD,hc,g2,cn,cl,ha,hgi,q0,q5,e1,e2];show Value.int .i64 (i:Nat)=.int .i64 (xX f.code l 0);rw[he];unfold xX;rw[aai ⟨e1,e2⟩]
   ·simp only[EE,nth,↓zt,zv,zk,Yw,zc,uv,qy,Jz,JA,JB,JC,JD,fI,hc,g2,cn,cl,ha,hgi,q0,q5,e1,e2,hin];refine⟨f.code.length-(i+1),by omega,i+1,by omega,rfl,rfl,?_⟩;rw[he]
    conv=>lhs;unfold xX
    rw[aag (λq=>e2 q.2)]
  ·simp only[EE,nth,↓zt,zv,zk,Yw,zc,qy,Jz,JA,JB,JC,JD,fI,hc,g2,cn,cl,ha,hgi,q0,e1,hin];refine⟨f.code.length-(i+1),by omega,i+1,by omega,rfl,rfl,?_⟩;rw[he]
   conv=>lhs;unfold xX
   rw[aag (λq=>e1 q.1)]
 ·have e:i=f.code.length:=by omega
  subst e;simp only[EE,nth,Int.reduceNeg,zv,Yw,qy,hc,g2,cn,cl];show Value.int .i64 (-1)=.int .i64 (xX f.code l 0);rw[he,List.drop_length];rfl
end Go.Ar
