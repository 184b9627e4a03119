import Derived.Test.YtpjjmindjodknaaGreatTI
set_option linter.unusedVariables false
set_option linter.unusedSimpArgs false
set_option maxRecDepth 100000
namespace Go.Ar
open Go.Ai Go.Proofs Go.Proofs.Tryz
noncomputable abbrev zz:=prog
abbrev VK:=aaa->za->Prop
abbrev LK:=List aaa->za->Prop
abbrev ci(n:Int):Operand := .const (pm n)
abbrev fn(n:Nat):aaa := .func (.func n) #[] #[]
variable {h:za}{t0 t1 t2 t3 t4 t5 t6:aaa}{R:VK}
def qs:FuncId->Nat:=λg=>[0].getD g 0
theorem mixed:prog.follows .mixedOrders=true:=aci Tryz.checked
theorem xY{f:FuncId}{args:List aaa}{X:Prop}(e:Rz zz (bC zz qs) 200 f args h R=X)(hw:X):DC zz f args h R:=UO mixed (q:=qs) (n:=200) (Eq.mpr e hw)
def JT:=λc (R:VK) d (e:LK) f (a:za)=>
 opt (pk c (.bool true) f) λg=>CD g (λb=>rv [.bool false] a R)
 (λb=>b [nth d 0] a)
 (λh i=>e [nth h 0] i)
def JU:=λa (R:VK) c (d:LK) e (b:za)=>
 zf a false (zi .gtr 3 60 e 65536) b (JT a R c d) b
def JV:=λa d (R:VK) e (f:LK) g (c:za)=>
 zf a false (vG zz 22 d g) c (λh b=>zf a false (zd zz 3 h b) b (JU a R e f) b) c
def JW:=λa c (R:VK) (e:LK) f (b:za)=>
 zf a false (zd zz 22 f b) b (λg d=>GD a false (λh=>h (nth c 1) d) (JV a g R c e) d) b
def JX:=λb (a:za) c (R:VK) (e:LK)=>
 zJ 25 b 0 22 a λf=>Z8 22 f (nth c 1) 3 a λg=>opt (zi .lss 3 53 g 0) λd=>zf d false (zk zz 25 b 0) a (JW d c R e) a
def tH:=λa (b:LK) c (d:za)=>
 opt (zi .add 3 47 (nth a 1) 1) λe=>b [nth c 0,e] d
def tI:=λb (f:LK) (R:VK) a (c:za) (g:LK)=>
 zJ 25 b 0 22 c λh=>zP (qo 22 h c) λi d=>opt (wZ .lss 3 42 45 (nth a 1) i) λj=>CD j (λe=>e [] d)
 (λe=>f [nth a 0] d)
 (λl k=>BK (JX b k a R)
 (tH a g))
def wX:=λc (R:VK) d (e:LK) f g (a:za)=>
 opt (pk c g (.bool false)) λh=>CD h (λb=>rv [.bool false] a R)
 (λb=>b [nth d 0] a)
 (λi j=>e [nth i 0,f] j)
def wY:=λa e b (R:VK) f (g:LK) h i (c:za)=>
 zf a false (wZ .gtr 2 162 168 e i) c (λj d=>zf b true (pk a (.bool true) j) d (wX b R f g h) d) c
def wq:=λa d e f (R:VK) g (h:LK) i j (c:za)=>
 zf a false (vG zz 22 d j) c (λk b=>zf a false (zd zz 3 k b) b (wY a e f R g h i) b) c
def wt:=λa d e f (R:VK) g (h:LK) i j (c:za)=>
 zf a false (zk zz 42 d 3) c (λk b=>zf a false (zd zz 3 k b) b (wq a j e f R g h i) b) c
def wu:=λa d e f (R:VK) g (h:LK) i j (c:za)=>
 zf a false (zk zz 25 d 0) c (λk b=>zf a false (zd zz 22 k b) b (wt a e j f R g h i) b) c
def wx:=λc e f (R:VK) g (h:LK) i a (d:za)=>
 zf a false (zk zz 42 c 6) d (λj b=>zf a false (zd zz 2 j b) b (wu a e c f R g h i) b) d
def wy:=λa d e f (R:VK) g (h:LK) i j (b:za)=>
 zf a true (pk d (.bool true) j) b (λk c=>GD a true (λl=>l k c) (wx e f a R g h i) c) b
def wz:=λa c d e (R:VK) f (g:LK) h i (b:za)=>
 zf a false (zi .lss 2 157 i 0) b (wy c a d e R f g h) b
def wA:=λc e f (R:VK) g (h:LK) i a (d:za)=>
 zf a false (zk zz 42 c 6) d (λj b=>zf a false (zd zz 2 j b) b (wz a e c f R g h i) b) d
def wB:=λa d e f (R:VK) g (h:LK) i j (b:za)=>
 zf a true (pk d (.bool true) j) b (λk c=>GD a true (λl=>l k c) (wA e a f R g h i) c) b
def wC:=λa c d e f (R:VK) g (h:LK) i j (b:za)=>
 zf a false (wZ .geq 3 149 152 c j) b (wB d a e f R g h i) b
def wD:=λb c d e f (R:VK) g (h:LK) i j (a:za)=>
 GD b false (λk=>zP (qo 22 j a) λl _=>k l a) (wC b c d e f R g h i) a
def wE:=λa c e f (R:VK) g (h:LK) i j (d:za)=>
 zf a false (zk zz 25 c 0) d (λk b=>zf a false (zd zz 22 k b) b (wD a j e f c R g h i) b) d
def wF:=λc e f (R:VK) g (h:LK) i a (d:za)=>
 zf a false (zk zz 42 c 3) d (λj b=>zf a false (zd zz 3 j b) b (wE a e f c R g h i) b) d
def wG:=λa d e (R:VK) f (g:LK) h i (b:za)=>
 zf a true (zi .lss 3 145 i 0) b (λj c=>GD a true (λk=>k j c) (wF d e a R f g h) c) b
def wH:=λa e (R:VK) (f:LK) g h (b:za)=>
 zJ 42 a 0 3 b λi=>opt (zi .eql 3 141 i 6) λc=>zf c true (zk zz 42 a 3) b (λj d=>zf c true (zd zz 3 j d) d (wG c a e R h f g) d) b
def xC:=λc (R:VK) d e f (g:LK) h i (a:za)=>
 opt (pk c i (.bool false)) λj=>CD j (λb=>rv [.bool false] a R)
 (λb=>b [nth d 0] a)
 (wH e f R g h)
def xD:=λa e b (R:VK) f g h (i:LK) j k (c:za)=>
 zf a false (wZ .geq 3 133 136 e k) c (λl d=>zf b true (pk a (.bool true) l) d (xC b R f g h i j) d) c
def xE:=λa c d (R:VK) e f g (h:LK) i j (b:za)=>
 GD a false (λk=>zP (qo 23 j b) λl m=>k l m) (xD a c d R e f g h i) b
def xF:=λa c e (R:VK) f g (h:LK) i j (d:za)=>
 zf a false (zk zz 25 c 1) d (λk b=>zf a false (zd zz 23 k b) b (xE a j e R f g c h i) b) d
def xG:=λc e f (R:VK) g (h:LK) i a (d:za)=>
 zf a false (zk zz 42 c 3) d (λj b=>zf a false (zd zz 3 j b) b (xF a e f R g c h i) b) d
def xH:=λa d e (R:VK) f (g:LK) h i (b:za)=>
 zf a true (zi .lss 3 129 i 0) b (λj c=>GD a true (λk=>k j c) (xG d e a R f g h) c) b
def xI:=λa e (R:VK) (f:LK) g h (b:za)=>
 zJ 42 a 0 3 b λi=>opt (zi .eql 3 125 i 21) λc=>zf c true (zk zz 42 a 3) b (λj d=>zf c true (zd zz 3 j d) d (xH c a e R h f g) d) b
def yE:=λc (R:VK) d e f (g:LK) h i (a:za)=>
 opt (pk c (.bool true) i) λj=>CD j (λb=>rv [.bool false] a R)
 (λb=>b [nth d 0] a)
 (xI e f R g h)
def yF:=λa b (R:VK) e f g (h:LK) i j (c:za)=>
 zf a true (zi .lss 3 120 j 0) c (λk d=>zf b false (pk a k (.bool false)) d (yE b R e f g h i) d) c
def yW:=λa c d (R:VK) e f g (h:LK) i j (b:za)=>
 GD a true (λk=>zL zz (fn 28) [c,j] b (λl m=>k l m)) (yF a d R e f g h i) b
def yX:=λa c e (R:VK) f g (h:LK) i j (d:za)=>
 zf a true (zk zz 42 c 5) d (λk b=>zf a true (zd zz 3 k b) b (yW a j e R f c g h i) b) d
def yY:=λb e f (R:VK) g h (i:LK) j k (c:za)=>
 GD b false (λl=>l k c) (λd a=>zf d true (zd zz 50 e a) a (yX d f b R g h i j) a) c
def yZ:=λa b e f (R:VK) g h (i:LK) j k (c:za)=>
 zf a false (zi .eql 3 113 k 19) c (λl d=>zf b false (pk a (.bool true) l) d (yY b e f R g h i j) d) c
def y4:=λc e f (R:VK) g h (i:LK) j a (d:za)=>
 zf a false (zk zz 42 c 0) d (λk b=>zf a false (zd zz 3 k b) b (yZ a e f c R g h i j) b) d
def y5:=λa d e (R:VK) f g (h:LK) i j (b:za)=>
 zf a false (zi .eql 3 109 j 18) b (λk c=>GD a false (λl=>l k c) (y4 d a e R f g h i) c) b
def y6:=λe c f (R:VK) g h (i:LK) j k (d:za)=>
 opt (pk e k (.bool false)) λa=>zf a false (zk zz 42 c 0) d (λl b=>zf a false (zd zz 3 l b) b (y5 a c f R g h i j) b) d
def y8:=λa c d e (R:VK) f g (h:LK) i j (b:za)=>
 zf a true (wZ .neq 3 103 104 c j) b (y6 a d e R f g h i) b
def xJ:=λa e f g h (R:VK) i j (k:LK) l m (c:za)=>
 GD a true (λn=>zL zz (fn 28) [e,m] c (λb o=>n b o)) (λb d=>GD a true (λp=>p (nth f 2) d) (y8 a b g h R i j k l) d) c
def xK:=λa c e f (R:VK) g h (i:LK) j k (d:za)=>
 zf a true (zk zz 42 c 5) d (λl b=>zf a true (zd zz 3 l b) b (xJ a k e c f R g h i j) b) d
def xL:=λb c e (R:VK) f (g:LK) h i (a:za)=>
 zJ 42 b 0 3 a λj=>opt (zi .eql 3 97 j 20) λd=>zf d true (zd zz 50 c a) a (xK d b e c R i f g h) a
def y9:=λ(R:VK) a d e f (g:LK) h i (b:za)=>
 opt (r7 zz .not i) λj=>CD j (λc=>rv [.bool false] b R)
 (λc=>c [nth a 0] b)
 (xL d e a R f g h)
def bV:=λa b (R:VK) d e (f:LK) g (c:za)=>
 opt (pk (nth a 1) (.bool true) g) λh=>opt (zd zz 42 b c) λi=>zL zz (fn 27) [i] c (y9 R a b d e f h)
def bW:=λa c (R:VK) d e (f:LK) g (b:za)=>
 zf (nth a 1) false (zi .neq 3 90 g 20) b (bV a c R d e f) b
def nd:=λe (b:za) a (R:VK) g (h:LK)=>
 zJ 50 e 1 48 b λi=>Z8 48 i (nth a 2) 42 b λj=>qO 42 b λc k=>opt (wa 42 c j k) λf=>zf (nth a 1) false (zk zz 42 c 0) f (λl d=>zf (nth a 1) false (zd zz 3 l d) d (bW a c R e g h) d) f
def uU:=λb (c:LK) a (d:za)=>
 opt (zi .add 3 80 (nth b 2) 1) λe=>c [nth a 0,nth a 1,e] d
def bX:=λb (f:LK) (R:VK) g a (c:za) (h:LK)=>
 zJ 50 b 1 48 c λi=>zP (qo 48 i c) λj d=>opt (wZ .lss 3 75 78 (nth a 2) j) λk=>CD k (λe=>e [] d)
 (λe=>f [nth a 0,nth a 1] d)
 (λm l=>BK (nd b l a R g)
 (uU a h))
def QF:=λc (R:VK) d (e:LK) f (a:za)=>
 opt (pk c (.bool true) f) λg=>CD g (λb=>rv [.bool false] a R)
 (λb=>b [nth d 0] a)
 (λh i=>e [nth h 0] i)
def QG:=λa (R:VK) c (d:LK) e (b:za)=>
 zf a false (zi .gtr 3 177 e 100000) b (QF a R c d) b
def QH:=λa (R:VK) d (e:LK) f (b:za)=>
 zf a false (zd zz 48 f b) b (λg c=>GD a false (λh=>zP (qo 48 g c) λi j=>h i j) (QG a R d e) c) b
def ng:=λd (R:VK) (e:LK) a (b:za)=>
 opt (r7 zz .not (nth a 1)) λc=>zf c false (zk zz 50 d 1) b (QH c R a e) b
def nh:=λc (a:za) d (R:VK) (e:LK)=>
 zJ 25 c 1 23 a λf=>Z8 23 f (nth d 1) 50 a λg=>qO 50 a λb h=>opt (wa 50 b g h) λi=>BK (λj=>LP (bX b j R c)
 [nth d 0,.bool false,pm 0] i)
 (ng b R e)
def ni:=λa (b:LK) c (d:za)=>
 opt (zi .add 3 68 (nth a 1) 1) λe=>b [nth c 0,e] d
def bY:=λb (f:LK) (R:VK) a (c:za) (g:LK)=>
 zJ 25 b 1 23 c λh=>zP (qo 23 h c) λi d=>opt (wZ .lss 3 63 66 (nth a 1) i) λj=>CD j (λe=>e [] d)
 (λe=>f [nth a 0] d)
 (λl k=>BK (nh b k a R)
 (ni a g))
def bZ:=λa (R:VK) b (c:za)=>
 BK (λd=>LP (tI a d R)
 [nth b 0,pm 0] c)
 (λe f=>BK (λg=>LP (bY a g R)
 [nth e 0,pm 0] f)
 (λi h=>rv [.bool true] h R))
def Zo:=λa (R:VK) e f (b:za)=>
 zf a false (zi .gtr 3 39 f 6) b (λg c=>opt (pk a (.bool true) g) λh=>CD h (λd=>rv [.bool false] c R)
 (λd=>d [.bool false] c)
 (bZ e R)) b
def Zp:=λe c (R:VK) f (d:za)=>
 opt (pk e (.bool true) f) λa=>zf a false (zk zz 25 c 3) d (λg b=>zf a false (zd zz 3 g b) b (Zo a R c) b) d
def Zq:=λa c (R:VK) d (b:za)=>
 zf a false (zi .lss 3 34 d 0) b (Zp a c R) b
def Zr:=λe c (R:VK) f (d:za)=>
 opt (pk e (.bool true) f) λa=>zf a false (zk zz 25 c 3) d (λg b=>zf a false (zd zz 3 g b) b (Zq a c R) b) d
def Zs:=λa e f (R:VK) g (c:za)=>
 GD a false (λh=>zP (qo 23 g c) λb i=>h b i) (λb d=>zf a false (wZ .geq 3 26 29 e b) d (Zr a f R) d) c
def Zt:=λa c (R:VK) e (d:za)=>
 zf a false (zk zz 25 c 1) d (λf b=>zf a false (zd zz 23 f b) b (Zs a e c R) b) d
def Zu:=λe c (R:VK) f (d:za)=>
 opt (pk e (.bool true) f) λa=>zf a false (zk zz 25 c 2) d (λg b=>zf a false (zd zz 3 g b) b (Zt a c R) b) d
def Zv:=λa c (R:VK) d (b:za)=>
 zf a false (zi .lss 3 21 d 0) b (Zu a c R) b
def Zw:=λe c (R:VK) f (d:za)=>
 opt (pk e (.bool true) f) λa=>zf a false (zk zz 25 c 2) d (λg b=>zf a false (zd zz 3 g b) b (Zv a c R) b) d
def Zx:=λa c (R:VK) d (b:za)=>
 zf a false (zi .gtr 3 16 d 100) b (Zw a c R) b
def Zy:=λa d (R:VK) e (b:za)=>
 zf a false (zd zz 23 e b) b (λf c=>GD a false (λg=>zP (qo 23 f c) λh i=>g h i) (Zx a d R) c) b
def HF:=λ(h:za) b (R:VK)=>
 opt (nb [b] (some (Value.cells b).toList)) λf=>nw h f 25 λa c=>zJ 25 a 0 22 c λg=>zP (qo 22 g c) λi d=>opt (zi .gtr 3 11 i 200) λe=>zf e false (zk zz 25 a 1) d (Zy e a R) d
theorem F3(hw:HF h t0 R):DC zz 11 [t0] h R:=xY (by kernel_rfl) hw
def jK:=λb (R:VK) d (c:za)=>
 GD b true (λe=>zL zz (fn 37) [d] c (λa f=>e a f)) (λa g=>opt (pk b a (.bool false)) λh=>rv [h] g R) c
def jL:=λd e (R:VK) f (c:za)=>
 opt (pk d (.bool true) f) λa=>zf a true (zk zz 42 e 6) c (λg b=>zf a true (zd zz 2 g b) b (jK a R) b) c
def jM:=λa c (R:VK) d (b:za)=>
 zf a false (zi .eql 3 94 d 8) b (jL a c R) b
def jN:=λe c (R:VK) f (d:za)=>
 opt (pk e (.bool true) f) λa=>zf a false (zk zz 42 c 3) d (λg b=>zf a false (zd zz 3 g b) b (jM a c R) b) d
def jO:=λa c (R:VK) d (b:za)=>
 zf a false (zi .eql 3 89 d 4) b (jN a c R) b
def ca:=λb (R:VK) d (c:za)=>
 GD b true (λe=>zL zz (fn 37) [d] c (λa f=>e a f)) (λa g=>opt (pk b a (.bool false)) λh=>rv [h] g R) c
def cg:=λd (R:VK) a (c:za)=>
 zf a true (zk zz 42 d 6) c (λe b=>zf a true (zd zz 2 e b) b (ca a R) b) c
def QI:=λa (R:VK) c (b:za)=>
 zf a false (zi .eql 3 130 c 2) b (λd e=>opt (pk a (.bool true) d) λf=>rv [f] e R) b
def QJ:=λa (R:VK) c (b:za)=>
 zf a false (zi .eql 3 140 c 4) b (λd e=>opt (pk a (.bool true) d) λf=>rv [f] e R) b
def jl:=λa (R:VK) c (b:za)=>
 zf a true (zi .leq 2 160 c 63) b (λd e=>opt (pk a d (.bool false)) λf=>rv [f] e R) b
def jm:=λd e (R:VK) f (c:za)=>
 opt (pk d f (.bool false)) λa=>zf a true (zk zz 42 e 6) c (λg b=>zf a true (zd zz 2 g b) b (jl a R) b) c
def jn:=λa c (R:VK) d (b:za)=>
 zf a true (zi .geq 2 155 d 0) b (jm a c R) b
def jo:=λe c (R:VK) f (d:za)=>
 opt (pk e (.bool true) f) λa=>zf a true (zk zz 42 c 6) d (λg b=>zf a true (zd zz 2 g b) b (jn a c R) b) d
def jq:=λa c (R:VK) d (b:za)=>
 zf a false (zi .eql 3 150 d 20) b (jo a c R) b
def VY:=λa (R:VK) c (b:za)=>
 zf a false (zi .eql 3 170 c 20) b (λd e=>opt (pk a (.bool true) d) λf=>rv [f] e R) b
def X4:=λa (R:VK) c (b:za)=>
 zf a true (zi .leq 3 190 c 10000000) b (λd e=>opt (pk a d (.bool false)) λf=>rv [f] e R) b
def X5:=λd e (R:VK) f (c:za)=>
 opt (pk d f (.bool false)) λa=>zf a true (zk zz 42 e 5) c (λg b=>zf a true (zd zz 3 g b) b (X4 a R) b) c
def X6:=λa c (R:VK) d (b:za)=>
 zf a true (zi .geq 3 185 d 0) b (X5 a c R) b
def X7:=λc (R:VK) a (d:za)=>
 zf a true (zk zz 42 c 5) d (λe b=>zf a true (zd zz 3 e b) b (X6 a c R) b) d
def Zz:=λa (R:VK) c (b:za)=>
 zf a true (zi .leq 3 201 c 10000000) b (λd e=>opt (pk a d (.bool false)) λf=>rv [f] e R) b
def ZA:=λa (R:VK) c (b:za)=>
 zf a true (zi .leq 2 212 c 65536) b (λd e=>opt (pk a d (.bool false)) λf=>rv [f] e R) b
def ZB:=λd (a:za) (R:VK) (g:LK)=>
 zJ 42 d 6 2 a λe=>opt (zi .geq 2 208 e 0) λb=>zf b true (zk zz 42 d 6) a (λf c=>zf b true (zd zz 2 f c) c (ZA b R) c) a
def ZC:=λd (a:za) (R:VK) (g:LK)=>
 zJ 42 d 5 3 a λe=>opt (zi .geq 3 197 e 0) λb=>zf b true (zk zz 42 d 5) a (λf c=>zf b true (zd zz 3 f c) c (Zz b R) c) a
def jr:=λb (c:za) f (R:VK) g (h:LK)=>
 opt (zi .eql 3 80 b 23) λd=>CD d (λa=>a [d] c)
 (λa=>opt (zi .eql 3 80 b 24) λi=>a [i] c)
 (λj e=>CD (nth j 0) (ZB f e R)
 (λk=>k [nth g 0] e)
 (λl m=>h [nth l 0] m))
def vO:=λa (c:za) d (R:VK) g (h:LK)=>
 opt (zi .eql 3 80 a 18) λe=>CD e (λb=>b [e] c)
 (λb=>opt (zi .eql 3 80 a 20) λi=>b [i] c)
 (λj f=>CD (nth j 0) (ZC d f R)
 (jr a f d R g)
 (λk l=>h [nth k 0] l))
def iT:=λb (a:za) (R:VK) (f:LK)=>
 zJ 42 b 4 3 a λc=>zL zz (fn 56) [c] a (λd e=>rv [d] e R)
def vx:=λc a (b:za) (R:VK) d (e:LK)=>
 opt (zi .eql 3 80 c 19) λf=>CD f (λj=>zJ 42 a 4 3 b λg=>zL zz (fn 56) [g] b (X7 a R))
 (vO c b a R d)
 (λh i=>e [nth h 0] i)
def VZ:=λd (a:za) (R:VK) (g:LK)=>
 zJ 42 d 3 3 a λe=>opt (zi .eql 3 166 e 19) λb=>zf b false (zk zz 42 d 3) a (λf c=>zf b false (zd zz 3 f c) c (VY b R) c) a
def w8:=λa b (c:za) (R:VK) d (e:LK)=>
 opt (zi .eql 3 80 a 17) λf=>CD f (iT b c R)
 (vx a b c R d)
 (λg h=>e [nth g 0] h)
def jt:=λa (b:za) (R:VK) (g:LK)=>
 zJ 42 a 3 3 b λe=>opt (zi .eql 3 146 e 19) λc=>zf c false (zk zz 42 a 3) b (λf d=>zf c false (zd zz 3 f d) d (jq c a R) d) b
def wh:=λa b (c:za) (R:VK) d (e:LK)=>
 opt (zi .eql 3 80 a 12) λf=>CD f (VZ b c R)
 (w8 a b c R d)
 (λg h=>e [nth g 0] h)
def V0:=λd (a:za) (R:VK) (g:LK)=>
 zJ 42 d 3 3 a λe=>opt (zi .eql 3 136 e 3) λb=>zf b false (zk zz 42 d 3) a (λf c=>zf b false (zd zz 3 f c) c (QJ b R) c) a
def yK:=λa b (c:za) (R:VK) d (e:LK)=>
 opt (zi .eql 3 80 a 11) λf=>CD f (jt b c R)
 (wh a b c R d)
 (λg h=>e [nth g 0] h)
def V1:=λd (a:za) (R:VK) (g:LK)=>
 zJ 42 d 3 3 a λe=>opt (zi .eql 3 126 e 1) λb=>zf b false (zk zz 42 d 3) a (λf c=>zf b false (zd zz 3 f c) c (QI b R) c) a
def yu:=λa b (c:za) (R:VK) d (e:LK)=>
 opt (zi .eql 3 80 a 10) λf=>CD f (V0 b c R)
 (yK a b c R d)
 (λg h=>e [nth g 0] h)
def yh:=λa b (c:za) (R:VK) d (e:LK)=>
 opt (zi .eql 3 80 a 9) λf=>CD f (V1 b c R)
 (yu a b c R d)
 (λg h=>e [nth g 0] h)
def iU:=λb (a:za) (R:VK) (f:LK)=>
 zJ 42 b 3 3 a λc=>zL zz (fn 55) [c] a (λd e=>rv [d] e R)
def yc:=λc a (b:za) (R:VK) d (e:LK)=>
 opt (zi .eql 3 80 c 8) λf=>CD f (λj=>zJ 42 a 3 3 b λg=>zL zz (fn 55) [g] b (cg a R))
 (yh c a b R d)
 (λh i=>e [nth h 0] i)
def KX:=λb (a:za) (R:VK) (f:LK)=>
 zJ 42 b 6 2 a λc=>zL zz (fn 37) [c] a (λd e=>rv [d] e R)
def ya:=λa b (c:za) (R:VK) d (e:LK)=>
 opt (zi .eql 3 80 a 7) λf=>CD f (iU b c R)
 (yc a b c R d)
 (λg h=>e [nth g 0] h)
def km:=λa (b:za) (R:VK) (g:LK)=>
 zJ 42 a 3 3 b λe=>opt (zi .eql 3 85 e 1) λc=>zf c false (zk zz 42 a 3) b (λf d=>zf c false (zd zz 3 f d) d (jO c a R) d) b
def zV:=λa (c:za) d (R:VK) g (h:LK)=>
 opt (zi .eql 3 80 a 5) λe=>CD e (λb=>b [e] c)
 (λb=>opt (zi .eql 3 80 a 16) λi=>b [i] c)
 (λj f=>CD (nth j 0) (KX d f R)
 (ya a d f R g)
 (λk l=>h [nth k 0] l))
def zI:=λa (c:za) d (R:VK) g (h:LK)=>
 opt (zi .eql 3 80 a 3) λe=>CD e (λb=>b [e] c)
 (λb=>opt (zi .eql 3 80 a 4) λi=>b [i] c)
 (λj f=>CD (nth j 0) (km d f R)
 (zV a f d R g)
 (λk l=>h [nth k 0] l))
def zp:=λa (R:VK) c (b:za)=>
 zJ 42 a 0 3 b λd=>BK (zI d b a R c)
 (λf e=>rv [.bool true] e R)
def ju:=λa (R:VK) e f g (b:za)=>
 zf a true (zi .neq 3 76 g 1) b (λh c=>opt (pk a h (.bool false)) λi=>CD i (λd=>rv [.bool false] c R)
 (λd=>d [nth e 0] c)
 (zp f R)) b
def jv:=λe c (R:VK) f g (d:za)=>
 opt (pk e g (.bool false)) λa=>zf a true (zk zz 42 c 0) d (λh b=>zf a true (zd zz 3 h b) b (ju a R f c) b) d
def jw:=λa c (R:VK) d e (b:za)=>
 zf a true (zi .neq 3 71 e 5) b (jv a c R d) b
def jx:=λe c (R:VK) f g (d:za)=>
 opt (pk e g (.bool false)) λa=>zf a true (zk zz 42 c 0) d (λh b=>zf a true (zd zz 3 h b) b (jw a c R f) b) d
def jy:=λa c (R:VK) d e (b:za)=>
 zf a true (zi .neq 3 66 e 4) b (jx a c R d) b
def jz:=λe c (R:VK) f g (d:za)=>
 opt (pk e g (.bool false)) λa=>zf a true (zk zz 42 c 0) d (λh b=>zf a true (zd zz 3 h b) b (jy a c R f) b) d
def jA:=λa c (R:VK) d e (b:za)=>
 zf a true (zi .neq 3 61 e 3) b (jz a c R d) b
def jB:=λe c (R:VK) f g (d:za)=>
 opt (pk e g (.bool false)) λa=>zf a true (zk zz 42 c 0) d (λh b=>zf a true (zd zz 3 h b) b (jA a c R f) b) d
def jC:=λa c (R:VK) d e (b:za)=>
 zf a true (zi .eql 3 56 e 4) b (jB a c R d) b
def kn:=λa c (R:VK) e (d:za)=>
 zf a true (zk zz 42 c 2) d (λf b=>zf a true (zd zz 3 f b) b (jC a c R e) b) d
def xQ:=λa e (R:VK) f g h (b:za)=>
 zf a false (pk e h (.bool false)) b (λi c=>opt (pk a (.bool true) i) λj=>CD j (λd=>rv [.bool false] c R)
 (λd=>d [.bool false] c)
 (kn f g R)) b
def xR:=λa c (R:VK) d e f (b:za)=>
 zf a true (zi .eql 3 49 f 4) b (xQ c a R d e) b
def xS:=λc e (R:VK) f a (d:za)=>
 zf a true (zk zz 42 c 1) d (λg b=>zf a true (zd zz 3 g b) b (xR a e R f c) b) d
def v8:=λa e (R:VK) f g (c:za)=>
 GD a false (λh=>zL zz (fn 54) [g] c (λb i=>h b i)) (λb d=>GD a false (λj=>j b d) (xS e a R f) d) c
def v9:=λb f c (R:VK) g h (d:za)=>
 zf b false (pk f h (.bool false)) d (λi a=>opt (pk b (.bool true) i) λe=>zf e false (zd zz 42 c a) a (v8 e c R g) a) d
def ua:=λa b e f (R:VK) g h (c:za)=>
 zf a false (zi .gtr 3 39 h 15) c (λi d=>zf b true (pk a (.bool true) i) d (v9 e b f R g) d) c
def ub:=λc e f (R:VK) g a (d:za)=>
 zf a false (zk zz 42 c 2) d (λh b=>zf a false (zd zz 3 h b) b (ua a e f c R g) b) d
def uc:=λa d e (R:VK) f g (b:za)=>
 zf a true (zi .lss 3 35 g 0) b (λh c=>GD a true (λi=>i h c) (ub d a e R f) c) b
def ud:=λc e (R:VK) f a (d:za)=>
 zf a true (zk zz 42 c 2) d (λg b=>zf a true (zd zz 3 g b) b (uc a c e R f) b) d
def ue:=λe b f (R:VK) g (c:za)=>
 opt (pk e (.bool true) g) λa=>GD a false (λh=>h b c) (λi d=>GD a false (λj=>j i d) (ud f a R b) d) c
def uf:=λa e b f g (R:VK) h (c:za)=>
 zf a true (pk e (.bool true) h) c (λi d=>zf b false (pk a i (.bool false)) d (ue b f g R) d) c
def ug:=λa c d e f (R:VK) g (b:za)=>
 zf a false (zi .gtr 3 26 g 15) b (uf c a d e f R) b
def uh:=λc e f g (R:VK) a (d:za)=>
 zf a false (zk zz 42 c 1) d (λh b=>zf a false (zd zz 3 h b) b (ug a e f g c R) b) d
def ui:=λa d e f (R:VK) g (b:za)=>
 zf a true (zi .lss 3 22 g 0) b (λh c=>GD a true (λi=>i h c) (uh d a e f R) c) b
def uj:=λc e f (R:VK) a (d:za)=>
 zf a true (zk zz 42 c 1) d (λg b=>zf a true (zd zz 3 g b) b (ui a c e f R) b) d
def uk:=λd e f g (R:VK) h (b:za)=>
 opt (pk d (.bool true) h) λa=>GD a false (λi=>i e b) (λj c=>GD a false (λk=>k j c) (uj f a g R) c) b
def um:=λa c d e (R:VK) f (b:za)=>
 zf a false (zi .gtr 3 15 f 26) b (uk a c d e R) b
def uo:=λa (R:VK) e (b:za)=>
 opt (Jf e 0) λf=>opt (Jf e 1) λg=>zJ 42 a 0 3 b λh=>opt (zi .lss 3 11 h 1) λc=>zf c false (zk zz 42 a 0) b (λi d=>zf c false (zd zz 3 i d) d (um c f a g R) d) b
def C3:=λ(h:za) a (R:VK)=>
 opt (nb [a] (some (Value.cells a).toList)) λd=>nw h d 42 λb c=>opt (zd zz 42 b c) λe=>zL zz (fn 53) [e] c (uo b R)
theorem C4(hw:C3 h t0 R):DC zz 27 [t0] h R:=xY (by kernel_rfl) hw
def QO:=λb (c:za) (e:LK)=>
 opt (zi .eql 3 4 b 12) λd=>CD d (λa=>a [d] c)
 (λa=>opt (zi .eql 3 4 b 17) λf=>a [f] c)
 (λg h=>e [nth g 0] h)
def Vj:=λa (b:za) (d:LK)=>
 opt (zi .eql 3 4 a 11) λc=>CD c (λe=>e [c] b)
 (QO a b)
 (λf g=>d [nth f 0] g)
def Xx:=λa (b:za) (d:LK)=>
 opt (zi .eql 3 4 a 10) λc=>CD c (λe=>e [c] b)
 (Vj a b)
 (λf g=>d [nth f 0] g)
def Yq:=λa (b:za) (d:LK)=>
 opt (zi .eql 3 4 a 9) λc=>CD c (λe=>e [c] b)
 (Xx a b)
 (λf g=>d [nth f 0] g)
def ZF:=λa (b:za) (d:LK)=>
 opt (zi .eql 3 4 a 8) λc=>CD c (λe=>e [c] b)
 (Yq a b)
 (λf g=>d [nth f 0] g)
def jT:=λa (b:za) (d:LK)=>
 opt (zi .eql 3 4 a 7) λc=>CD c (λe=>e [c] b)
 (ZF a b)
 (λf g=>d [nth f 0] g)
def kS:=λa (b:za) (d:LK)=>
 opt (zi .eql 3 4 a 6) λc=>CD c (λe=>e [c] b)
 (jT a b)
 (λf g=>d [nth f 0] g)
def qH:=λa (b:za) (d:LK)=>
 opt (zi .eql 3 4 a 5) λc=>CD c (λe=>e [c] b)
 (kS a b)
 (λf g=>d [nth f 0] g)
def ql:=λa (b:za) (d:LK)=>
 opt (zi .eql 3 4 a 3) λc=>CD c (λe=>e [c] b)
 (qH a b)
 (λf g=>d [nth f 0] g)
def uu:=λa (b:za) (d:LK)=>
 opt (zi .eql 3 4 a 2) λc=>CD c (λe=>e [c] b)
 (ql a b)
 (λf g=>d [nth f 0] g)
def vP:=λa (b:za) (R:VK) (f:LK)=>
 opt (zi .eql 3 4 a 1) λc=>CD c (λg=>g [c] b)
 (uu a b)
 (λh d=>CD (nth h 0) (λe=>rv [.bool true] d R)
 (λe=>e [.bool false] d)
 (λi j=>f [nth i 0] j))
def DS:=λ(h:za) a (R:VK)=>
 opt (nb [a] (some (Value.cells a).toList)) λc=>nw h c 42 λd b=>zJ 42 d 0 3 b λe=>BK (vP e b R)
 (λg f=>rv [.bool false] f R)
theorem DT(hw:DS h t0 R):DC zz 54 [t0] h R:=xY (by kernel_rfl) hw
def qW:=λb (c:za) (e:LK)=>
 opt (zi .eql 3 23 b 14) λd=>CD d (λa=>a [d] c)
 (λa=>opt (zi .eql 3 23 b 15) λf=>a [f] c)
 (λg h=>e [nth g 0] h)
def qD:=λa (b:za) (d:LK)=>
 opt (zi .eql 3 23 a 10) λc=>CD c (λe=>e [c] b)
 (qW a b)
 (λf g=>d [nth f 0] g)
def qi:=λa (b:za) (d:LK)=>
 opt (zi .eql 3 23 a 7) λc=>CD c (λe=>e [c] b)
 (qD a b)
 (λf g=>d [nth f 0] g)
def uY:=λa (b:za) (d:LK)=>
 opt (zi .eql 3 23 a 5) λc=>CD c (λe=>e [c] b)
 (qi a b)
 (λf g=>d [nth f 0] g)
def uK:=λa (b:za) (d:LK)=>
 opt (zi .eql 3 23 a 4) λc=>CD c (λe=>e [c] b)
 (uY a b)
 (λf g=>d [nth f 0] g)
def ur:=λa (b:za) (d:LK)=>
 opt (zi .eql 3 23 a 3) λc=>CD c (λe=>e [c] b)
 (uK a b)
 (λf g=>d [nth f 0] g)
def vS:=λd (R:VK) (e:LK) f (a:za)=>
 CD (nth f 0) (λb=>rv [d,.bool true] a R)
 (λb=>b [.bool false,.bool false] a)
 (λc g=>e [nth c 0,nth c 1] g)
def vT:=λa (b:za) d (R:VK) (e:LK)=>
 opt (zi .eql 3 23 a 1) λc=>CD c (λf=>f [c] b)
 (ur a b)
 (vS d R e)
def vU:=λc d (R:VK) e (a:za)=>
 opt (pk c (.bool true) e) λb=>zJ 42 d 0 3 a λf=>BK (vT f a b R)
 (λh g=>rv [b,.bool false] g R)
def vf:=λa c (R:VK) d (b:za)=>
 zf a false (zi .eql 3 19 d 16) b (vU a c R) b
def vh:=λe c (R:VK) f (d:za)=>
 opt (pk e (.bool true) f) λa=>zf a false (zk zz 42 c 0) d (λg b=>zf a false (zd zz 3 g b) b (vf a c R) b) d
def vi:=λa c (R:VK) d (b:za)=>
 zf a false (zi .eql 3 14 d 15) b (vh a c R) b
def vj:=λe c (R:VK) f (d:za)=>
 opt (pk e (.bool true) f) λa=>zf a false (zk zz 42 c 0) d (λg b=>zf a false (zd zz 3 g b) b (vi a c R) b) d
def vk:=λa c (R:VK) d (b:za)=>
 zf a false (zi .eql 3 9 d 4) b (vj a c R) b
def vm:=λc (R:VK) a (d:za)=>
 zf a false (zk zz 42 c 0) d (λe b=>zf a false (zd zz 3 e b) b (vk a c R) b) d
def H3:=λ(h:za) a (R:VK)=>
 opt (nb [a] (some (Value.cells a).toList)) λd=>nw h d 42 λb c=>opt (zd zz 42 b c) λe=>zL zz (fn 54) [e] c (vm b R)
theorem F8(hw:H3 h t0 R):DC zz 53 [t0] h R:=xY (by kernel_rfl) hw
def J3:=λa (R:VK) c (b:za)=>
 zf a true (zi .leq 2 6 c 2147483647) b (λd e=>opt (pk a d (.bool false)) λf=>rv [f] e R) b
def H5:=λ(h:za) a (R:VK)=>
 opt (zi .geq 2 3 a (-2147483648)) λb=>GD b true (λc=>c a h) (J3 b R) h
theorem Ga(hw:H5 h t0 R):DC zz 37 [t0] h R:=xY (by kernel_rfl) hw
def lT:=λa (R:VK) c (b:za)=>
 zf a true (zi .leq 3 6 c 26) b (λd e=>opt (pk a d (.bool false)) λf=>rv [f] e R) b
def TF:=λ(h:za) a (R:VK)=>
 opt (zi .geq 3 3 a 21) λb=>GD b true (λc=>c a h) (lT b R) h
theorem NC(hw:TF h t0 R):DC zz 56 [t0] h R:=xY (by kernel_rfl) hw
def XY:=λa (R:VK) c (b:za)=>
 zf a false (zi .eql 3 22 c 18) b (λd e=>opt (pk a (.bool true) d) λf=>rv [f] e R) b
def XZ:=λa e (R:VK) f (b:za)=>
 zf a false (zi .eql 3 18 f 17) b (λg c=>opt (pk a (.bool true) g) λd=>GD d false (λh=>h e c) (XY d R) c) b
def X0:=λa b (R:VK) f (c:za)=>
 zf a false (zi .eql 3 14 f 16) c (λg d=>opt (pk a (.bool true) g) λe=>GD e false (λh=>h b d) (XZ e b R) d) c
def X2:=λa b (R:VK) f (c:za)=>
 zf a false (zi .eql 3 10 f 13) c (λg d=>opt (pk a (.bool true) g) λe=>GD e false (λh=>h b d) (X0 e b R) d) c
def X3:=λa b (R:VK) f (c:za)=>
 zf a false (zi .eql 3 6 f 12) c (λg d=>opt (pk a (.bool true) g) λe=>GD e false (λh=>h b d) (X2 e b R) d) c
def NB:=λ(h:za) a (R:VK)=>
 opt (zi .eql 3 3 a 11) λb=>GD b false (λc=>c a h) (X3 b a R) h
theorem LC(hw:NB h t0 R):DC zz 55 [t0] h R:=xY (by kernel_rfl) hw
def JM:=λd a (R:VK) (e:LK) f (b:za)=>
 opt (pk d f (.bool false)) λg=>CD g (λc=>rv [nth a 1] b R)
 (λc=>c [nth a 0] b)
 (λh i=>e [nth h 0] i)
def JN:=λa d e (R:VK) (f:LK) g (b:za)=>
 GD a true (λh=>h d b) (λi c=>zf a true (wZ .eql 3 26 27 g i) c (JM a e R f) c) b
def JO:=λa d e (R:VK) (f:LK) g (c:za)=>
 zf a true (zk zz 42 g 5) c (λh b=>zf a true (zd zz 3 h b) b (JN a d e R f) b) c
def JP:=λa b e (R:VK) (f:LK) g (c:za)=>
 GD a true (λh=>h (nth b 1) c) (λi d=>zf a true (vG zz 48 g i) d (JO a e b R f) d) c
def JQ:=λd (a:za) e f (R:VK) (g:LK)=>
 zJ 50 d 1 48 a λh=>opt (vG zz 48 h (nth e 1)) λi=>zJ 42 i 0 3 a λj=>opt (zi .eql 3 18 j 20) λb=>zf b true (zk zz 50 d 1) a (λk c=>zf b true (zd zz 48 k c) c (JP b e f R g) c) a
def f9:=λa (b:LK) c (d:za)=>
 opt (zi .add 3 11 (nth a 1) 1) λe=>b [nth c 0,e] d
def tC:=λb (f:LK) g (R:VK) a (c:za) (h:LK)=>
 zJ 50 b 1 48 c λi=>zP (qo 48 i c) λj d=>opt (wZ .lss 3 6 9 (nth a 1) j) λk=>CD k (λe=>e [] d)
 (λe=>f [nth a 0] d)
 (λm l=>BK (JQ b l a g R)
 (f9 a h))
def HA:=λ(h:za) a b (R:VK)=>
 opt (nb [a] (some (Value.cells a).toList)) λc=>nw h c 50 λd e=>BK (λf=>LP (tC d f b R)
 [pm 0,pm 0] e)
 (λi g=>rv [pm (-1)] g R)
theorem FY(hw:HA h t0 t1 R):DC zz 28 [t0,t1] h R:=xY (by kernel_rfl) hw
end Go.Ar
namespace Go.Ai
open Go.Ai Go.Proofs
end Go.Ai
namespace Go.As
open Go.Ai Go.Proofs Go.Proofs.Tryz
noncomputable abbrev zz:=prog
abbrev VK:=aaa->za->Prop
abbrev LK:=List aaa->za->Prop
abbrev ci(n:Int):Operand := .const (pm n)
abbrev fn(n:Nat):aaa := .func (.func n) #[] #[]
variable {h:za}{t0 t1 t2 t3 t4 t5 t6:aaa}{R:VK}
def qs:FuncId->Nat:=λg=>([(89,3),(90,3),(93,2),(104,2),(106,2),(108,2),(116,3),(117,2)].lookup g).getD 0
theorem mixed:prog.follows .mixedOrders=true:=aci Tryz.checked
theorem xY{f:FuncId}{args:List aaa}{X:Prop}(e:Rz zz (bC zz qs) 200 f args h R=X)(hw:X):DC zz f args h R:=UO mixed (q:=qs) (n:=200) (Eq.mpr e hw)
def dF:=λc (R:VK) d (e:LK) f (a:za)=>
 opt (pk c (.bool true) f) λg=>CD g (λb=>rv [.bool false] a R)
 (λb=>b [nth d 0] a)
 (λh i=>e [nth h 0] i)
def dG:=λa (R:VK) c (d:LK) e (b:za)=>
 zf a false (zi .gtr 3 50 e 65536) b (dF a R c d) b
def dH:=λe b (a:za) (R:VK) (f:LK)=>
 Z8 22 e (nth b 1) 3 a λc=>opt (zi .lss 3 47 c 0) λd=>GD d false (λg=>g c a) (dG d R b f) a
def CS:=λa (b:LK) c (d:za)=>
 opt (zi .add 3 43 (nth a 1) 1) λe=>b [nth c 0,e] d
def CT:=λd (e:LK) f (R:VK) a (b:za) (g:LK)=>
 opt (wZ .lss 3 43 42 (nth a 1) d) λh=>CD h (λc=>c [] b)
 (λc=>e [nth a 0] b)
 (λj i=>BK (dH f a i R)
 (CS a g))
def mS:=λ(R:VK) c (d:LK) e (a:za)=>
 opt (r7 zz .not e) λf=>CD f (λb=>rv [.bool false] a R)
 (λb=>b [nth c 0] a)
 (λg h=>d [nth g 0] h)
def CU:=λe b (c:za) f (R:VK) (g:LK)=>
 Z8 23 e (nth b 1) 50 c λh=>qO 50 c λd i=>opt (wa 50 d h i) λa=>opt (zd zz 25 f a) λj=>opt (zd zz 50 d a) λk=>zL zz (fn 46) [j,k] a (mS R b g)
def CV:=λa (b:LK) c (d:za)=>
 opt (zi .add 3 57 (nth a 1) 1) λe=>b [nth c 0,e] d
def CW:=λd (e:LK) f g (R:VK) a (b:za) (h:LK)=>
 opt (wZ .lss 3 57 56 (nth a 1) d) λi=>CD i (λc=>c [] b)
 (λc=>e [nth a 0] b)
 (λk j=>BK (CU f a j g R)
 (CV a h))
def fY:=λa (R:VK) d (b:za)=>
 zJ 25 a 1 23 b λc=>zP (qo 23 c b) λe f=>BK (λg=>LP (CW e g c a R)
 [nth d 0,pm 0] f)
 (λi h=>rv [.bool true] h R)
def fZ:=λa (R:VK) d (b:za)=>
 zJ 25 a 0 22 b λc=>zP (qo 22 c b) λe f=>BK (λg=>LP (CT e g c R)
 [nth d 0,pm 0] f)
 (fY a R)
def YB:=λa (R:VK) e f (b:za)=>
 zf a false (zi .gtr 3 37 f 6) b (λg c=>opt (pk a (.bool true) g) λh=>CD h (λd=>rv [.bool false] c R)
 (λd=>d [.bool false] c)
 (fZ e R)) b
def YC:=λe c (R:VK) f (d:za)=>
 opt (pk e (.bool true) f) λa=>zf a false (zk zz 25 c 3) d (λg b=>zf a false (zd zz 3 g b) b (YB a R c) b) d
def YD:=λa c (R:VK) d (b:za)=>
 zf a false (zi .lss 3 32 d 0) b (YC a c R) b
def YE:=λe c (R:VK) f (d:za)=>
 opt (pk e (.bool true) f) λa=>zf a false (zk zz 25 c 3) d (λg b=>zf a false (zd zz 3 g b) b (YD a c R) b) d
def YF:=λa c (R:VK) d (b:za)=>
 zf a false (zi .gtr 3 27 d 200) b (YE a c R) b
def YG:=λa d (R:VK) e (b:za)=>
 zf a false (zd zz 22 e b) b (λf c=>GD a false (λg=>zP (qo 22 f c) λh i=>g h i) (YF a d R) c) b
def YH:=λa b (R:VK) f (c:za)=>
 zf a false (zi .gtr 3 21 f 100) c (λg d=>opt (pk a (.bool true) g) λe=>zf e false (zk zz 25 b 0) d (YG e b R) d) c
def YI:=λa d (R:VK) e (b:za)=>
 zf a false (zd zz 23 e b) b (λf c=>GD a false (λg=>zP (qo 23 f c) λh i=>g h i) (YH a d R) c) b
def YJ:=λa f b (R:VK) g (c:za)=>
 zf a false (wZ .geq 3 12 15 f g) c (λh d=>opt (pk a (.bool true) h) λe=>zf e false (zk zz 25 b 1) d (YI e b R) d) c
def YK:=λa d e (R:VK) f (b:za)=>
 zf a false (zd zz 23 f b) b (λg c=>GD a false (λh=>zP (qo 23 g c) λi j=>h i j) (YJ a d e R) c) b
def YL:=λa c (R:VK) e (b:za)=>
 zf a false (zd zz 3 e b) b (λf d=>zf a false (zk zz 25 c 1) d (YK a f c R) d) b
def Nu:=λ(h:za) c (R:VK)=>
 opt (nb [c] (some (Value.cells c).toList)) λe=>nw h e 25 λa b=>zJ 25 a 2 3 b λf=>opt (zi .lss 3 8 f 0) λd=>zf d false (zk zz 25 a 2) b (YL d a R) b
theorem Ly(hw:Nu h t0 R):DC zz 23 [t0] h R:=xY (by kernel_rfl) hw
def dS:=λd (a:za) (e:LK) f g (b:za)=>
 zJ 42 d 5 3 b λc=>opt (nb [(wV a).1,c,.bool true] (qI zz 115 (wV a).1 c (.bool true) b)) λh=>e [nth g 0,nth f 0] h
def dU:=λc (b:za) (R:VK) f (g:LK) h (a:za)=>
 zJ 42 c 5 3 a λd=>opt (nb [(wV b).1,d] (Zg zz 115 (wV b).1 d false a)) λi=>CD i (λe=>rv [.bool false] a R)
 (λe=>e [nth f 0] a)
 (dS c b g h)
def dV:=λb (c:LK) f (g:za) (R:VK) d (a:za)=>
 zJ 42 b 0 3 a λh=>opt (zi .neq 3 29 h 20) λi=>CD i (λe=>c [nth d 0,.bool true] a)
 (λe=>e [nth f 1] a)
 (dU b g R d c)
def dW:=λg a (d:za) h (R:VK) (i:za) (j:LK)=>
 Z8 48 g (nth a 2) 42 d λk=>qO 42 d λb l=>opt (wa 42 b k l) λc=>opt (zd zz 42 b c) λm=>zJ 25 h 0 22 c λn=>zL zz (fn 34) [m,n] c (λo e=>opt (r7 zz .not o) λp=>CD p (λf=>rv [.bool false] e R)
 (λf=>f [nth a 0] e)
 (dV b j a i R))
def QK:=λb (c:LK) a (d:za)=>
 opt (zi .add 3 19 (nth b 2) 1) λe=>c [nth a 0,nth a 1,e] d
def dX:=λd (e:LK) f g (R:VK) (h:za) a (b:za) (i:LK)=>
 opt (wZ .lss 3 19 18 (nth a 2) d) λj=>CD j (λc=>c [] b)
 (λc=>e [nth a 0,nth a 1] b)
 (λl k=>BK (dW f a k g R h)
 (QK a i))
def jP:=λc (R:VK) d (e:LK) f (a:za)=>
 opt (pk c f (.bool false)) λg=>CD g (λb=>rv [.bool false] a R)
 (λb=>b [nth d 0] a)
 (λh i=>e [nth h 0] i)
def jQ:=λa e b (R:VK) f (g:LK) h (c:za)=>
 zf a false (wZ .geq 3 72 75 e h) c (λi d=>zf b true (pk a (.bool true) i) d (jP b R f g) d) c
def jR:=λa d e (R:VK) f (g:LK) h (b:za)=>
 zf a false (zd zz 23 h b) b (λi c=>GD a false (λj=>zP (qo 23 i c) λk l=>j k l) (jQ a d e R f g) c) b
def kx:=λa d e (R:VK) f (g:LK) h (b:za)=>
 zf a false (zd zz 3 h b) b (λi c=>zf a false (zk zz 25 d 1) c (jR a i e R f g) c) b
def kA:=λa e f (R:VK) g (h:LK) i (b:za)=>
 GD a true (λj=>j i b) (λc d=>zf c false (zk zz 42 e 3) d (kx c f a R g h) d) b
def kB:=λa c d (R:VK) e (f:LK) g (b:za)=>
 zf a true (zi .lss 3 68 g 0) b (kA a c d R e f) b
def kC:=λa (b:za) e (R:VK) f (g:LK)=>
 zJ 42 a 0 3 b λh=>opt (zi .eql 3 64 h 21) λc=>zf c true (zk zz 42 a 3) b (λi d=>zf c true (zd zz 3 i d) d (kB c a e R f g) d) b
def kD:=λb (R:VK) c d e (f:LK) g (a:za)=>
 opt (pk b g (.bool false)) λh=>CD h (λk=>rv [.bool false] a R)
 (kC c a d R e)
 (λi j=>f [nth i 0] j)
def kE:=λa c (R:VK) f g h (i:LK) d (b:za)=>
 zf a true (nb [c,d] (Zg zz 115 c d false b)) b (λj e=>zf a true (r7 zz .not j) e (kD a R f g h i) e) b
def kF:=λa c (R:VK) e f (g:LK) h (d:za)=>
 zf a true (zk zz 42 c 5) d (λi b=>zf a true (zd zz 3 i b) b (kE a h R c e f g) b) d
def kG:=λa (e:za) f (R:VK) g h (i:LK) j (b:za)=>
 zf a false (zi .eql 3 52 j 19) b (λk c=>opt (pk a (.bool true) k) λd=>GD d true (λl=>l (wV e).1 c) (kF d f R g h i) c) b
def kH:=λa (b e:za) (R:VK) f g (h:LK)=>
 zJ 42 a 0 3 b λi=>opt (zi .eql 3 48 i 18) λc=>zf c false (zk zz 42 a 0) b (λj d=>zf c false (zd zz 3 j d) d (kG c e a R f g h) d) b
def bj:=λd a (b e:za) (R:VK) f (g:LK)=>
 Z8 48 d (nth a 1) 42 b λh=>qO 42 b λc i=>opt (wa 42 c h i) λj=>BK (kH c j e R f a)
 (λk l=>g [nth k 0] l)
def Ya:=λa (b:LK) c (d:za)=>
 opt (zi .add 3 42 (nth a 1) 1) λe=>b [nth c 0,e] d
def bk:=λd (e:LK) f (g:za) (R:VK) h a (b:za) (i:LK)=>
 opt (wZ .lss 3 42 41 (nth a 1) d) λj=>CD j (λc=>c [] b)
 (λc=>e [nth a 0] b)
 (λl k=>BK (bj f a k g R h)
 (Ya a i))
def bm:=λd (e:za) (R:VK) f a (b:za)=>
 zJ 50 d 1 48 b λc=>zP (qo 48 c b) λg h=>BK (λi=>LP (bk g i c e R f)
 [nth a 0,pm 0] h)
 (λk j=>rv [nth a 1] j R)
def bp:=λc d (R:VK) e (a:za)=>
 opt (zk zz 50 c 1) λf=>opt (zd zz 48 f (wV a).2) λb=>zP (nb [b] (zF zz .len [48] 3 [b] (wV a).2)) λg h=>BK (λi=>LP (dX g i b d R a)
 [nth e 0,.bool false,pm 0] h)
 (bm c a R d)
def nn:=λ(h:za) a b (R:VK)=>
 opt (nb [a] (some (Value.cells a).toList)) λg=>nw h g 25 λi j=>opt (nb [b] (some (Value.cells b).toList)) λk=>nw j k 50 λc d=>zJ 50 c 1 48 d λl=>zP (qo 48 l d) λm e=>opt (zi .gtr 3 13 m 100000) λn=>CD n (λf=>rv [.bool false] e R)
 (λf=>f [.bool false] e)
 (bp c i R)
theorem si(hw:nn h t0 t1 R):DC zz 46 [t0,t1] h R:=xY (by kernel_rfl) hw
def qY:=λb (R:VK) d (c:za)=>
 GD b true (λe=>zL zz (fn 72) [d] c (λa f=>e a f)) (λa g=>opt (pk b a (.bool false)) λh=>rv [h] g R) c
def q9:=λd e (R:VK) f (c:za)=>
 opt (pk d (.bool true) f) λa=>zf a true (zk zz 42 e 6) c (λg b=>zf a true (zd zz 2 g b) b (qY a R) b) c
def kg:=λa c (R:VK) d (b:za)=>
 zf a false (zi .eql 3 33 d 8) b (q9 a c R) b
def ki:=λe c (R:VK) f (d:za)=>
 opt (pk e (.bool true) f) λa=>zf a false (zk zz 42 c 3) d (λg b=>zf a false (zd zz 3 g b) b (kg a c R) b) d
def kj:=λa c (R:VK) d (b:za)=>
 zf a false (zi .eql 3 28 d 4) b (ki a c R) b
def Yx:=λa c (R:VK) d (b:za)=>
 zf a true (wZ .leq 2 66 71 c d) b (λe f=>opt (pk a e (.bool false)) λg=>rv [g] f R) b
def Yy:=λa d e (R:VK) f (c:za)=>
 zf a true (vG zz 22 d f) c (λg b=>zf a true (zd zz 3 g b) b (Yx a e R) b) c
def Yz:=λa d e (R:VK) f (c:za)=>
 zf a true (zk zz 42 d 3) c (λg b=>zf a true (zd zz 3 g b) b (Yy a f e R) b) c
def YA:=λa d e (R:VK) f (b:za)=>
 zf a true (zd zz 2 f b) b (λg c=>GD a true (λh=>h d c) (Yz a e g R) c) b
def ZS:=λa b f (R:VK) g (c:za)=>
 zf a true (zi .geq 2 61 g 0) c (λh d=>opt (pk a h (.bool false)) λe=>zf e true (zk zz 42 b 6) d (YA e f b R) d) c
def ZT:=λe c f (R:VK) g (d:za)=>
 opt (pk e g (.bool false)) λa=>zf a true (zk zz 42 c 6) d (λh b=>zf a true (zd zz 2 h b) b (ZS a c f R) b) d
def ZU:=λa e f g (R:VK) h (b:za)=>
 GD a true (λi=>zP (qo 22 h b) λc _=>i c b) (λc d=>zf a true (wZ .lss 3 54 56 e c) d (ZT a f g R) d) b
def ZV:=λa c e (R:VK) f (b:za)=>
 zf a true (zd zz 3 f b) b (λg d=>GD a true (λh=>h c d) (ZU a g e c R) d) b
def Qz:=λb (R:VK) d (c:za)=>
 GD b true (λe=>zL zz (fn 72) [d] c (λa f=>e a f)) (λa g=>opt (pk b a (.bool false)) λh=>rv [h] g R) c
def QA:=λd (R:VK) a (c:za)=>
 zf a true (zk zz 42 d 6) c (λe b=>zf a true (zd zz 2 e b) b (Qz a R) b) c
def WG:=λa (R:VK) c (b:za)=>
 zf a false (zi .eql 3 96 c 2) b (λd e=>opt (pk a (.bool true) d) λf=>rv [f] e R) b
def WH:=λa (R:VK) c (b:za)=>
 zf a false (zi .eql 3 106 c 4) b (λd e=>opt (pk a (.bool true) d) λf=>rv [f] e R) b
def qZ:=λa (R:VK) c (b:za)=>
 zf a true (zi .leq 2 126 c 63) b (λd e=>opt (pk a d (.bool false)) λf=>rv [f] e R) b
def q8:=λd e (R:VK) f (c:za)=>
 opt (pk d f (.bool false)) λa=>zf a true (zk zz 42 e 6) c (λg b=>zf a true (zd zz 2 g b) b (qZ a R) b) c
def ka:=λa c (R:VK) d (b:za)=>
 zf a true (zi .geq 2 121 d 0) b (q8 a c R) b
def kd:=λe c (R:VK) f (d:za)=>
 opt (pk e (.bool true) f) λa=>zf a true (zk zz 42 c 6) d (λg b=>zf a true (zd zz 2 g b) b (ka a c R) b) d
def ke:=λa c (R:VK) d (b:za)=>
 zf a false (zi .eql 3 116 d 20) b (kd a c R) b
def WI:=λa (R:VK) c (b:za)=>
 zf a false (zi .eql 3 136 c 20) b (λd e=>opt (pk a (.bool true) d) λf=>rv [f] e R) b
def WJ:=λa (R:VK) c (b:za)=>
 zf a true (zi .leq 3 152 c 10000000) b (λd e=>opt (pk a d (.bool false)) λf=>rv [f] e R) b
def jI:=λa (R:VK) c (b:za)=>
 zf a true (zi .leq 2 163 c 65536) b (λd e=>opt (pk a d (.bool false)) λf=>rv [f] e R) b
def jJ:=λd (a:za) (R:VK) (g:LK)=>
 zJ 42 d 6 2 a λe=>opt (zi .geq 2 159 e 0) λb=>zf b true (zk zz 42 d 6) a (λf c=>zf b true (zd zz 2 f c) c (jI b R) c) a
def WK:=λd (a:za) (R:VK) (g:LK)=>
 zJ 42 d 5 3 a λe=>opt (zi .geq 3 148 e 0) λb=>zf b true (zk zz 42 d 5) a (λf c=>zf b true (zd zz 3 f c) c (WJ b R) c) a
def kf:=λb (c:za) f (R:VK) g (h:LK)=>
 opt (zi .eql 3 19 b 23) λd=>CD d (λa=>a [d] c)
 (λa=>opt (zi .eql 3 19 b 24) λi=>a [i] c)
 (λj e=>CD (nth j 0) (jJ f e R)
 (λk=>k [nth g 0] e)
 (λl m=>h [nth l 0] m))
def QB:=λb (a:za) (R:VK) (f:LK)=>
 zJ 42 b 4 3 a λc=>zL zz (fn 74) [c] a (λd e=>rv [d] e R)
def uC:=λa b (c:za) (R:VK) d (e:LK)=>
 opt (zi .eql 3 19 a 20) λf=>CD f (WK b c R)
 (kf a c b R d)
 (λg h=>e [nth g 0] h)
def WL:=λd (a:za) (R:VK) (g:LK)=>
 zJ 42 d 3 3 a λe=>opt (zi .eql 3 132 e 19) λb=>zf b false (zk zz 42 d 3) a (λf c=>zf b false (zd zz 3 f c) c (WI b R) c) a
def vF:=λa (c:za) d (R:VK) g (h:LK)=>
 opt (zi .eql 3 19 a 17) λe=>CD e (λb=>b [e] c)
 (λb=>opt (zi .eql 3 19 a 19) λi=>b [i] c)
 (λj f=>CD (nth j 0) (QB d f R)
 (uC a d f R g)
 (λk l=>h [nth k 0] l))
def kh:=λa (b:za) (R:VK) (g:LK)=>
 zJ 42 a 3 3 b λe=>opt (zi .eql 3 112 e 19) λc=>zf c false (zk zz 42 a 3) b (λf d=>zf c false (zd zz 3 f d) d (ke c a R) d) b
def wN:=λa b (c:za) (R:VK) d (e:LK)=>
 opt (zi .eql 3 19 a 12) λf=>CD f (WL b c R)
 (vF a c b R d)
 (λg h=>e [nth g 0] h)
def WM:=λd (a:za) (R:VK) (g:LK)=>
 zJ 42 d 3 3 a λe=>opt (zi .eql 3 102 e 3) λb=>zf b false (zk zz 42 d 3) a (λf c=>zf b false (zd zz 3 f c) c (WH b R) c) a
def yM:=λa b (c:za) (R:VK) d (e:LK)=>
 opt (zi .eql 3 19 a 11) λf=>CD f (kh b c R)
 (wN a b c R d)
 (λg h=>e [nth g 0] h)
def WN:=λd (a:za) (R:VK) (g:LK)=>
 zJ 42 d 3 3 a λe=>opt (zi .eql 3 92 e 1) λb=>zf b false (zk zz 42 d 3) a (λf c=>zf b false (zd zz 3 f c) c (WG b R) c) a
def yr:=λa b (c:za) (R:VK) d (e:LK)=>
 opt (zi .eql 3 19 a 10) λf=>CD f (WM b c R)
 (yM a b c R d)
 (λg h=>e [nth g 0] h)
def yf:=λa b (c:za) (R:VK) d (e:LK)=>
 opt (zi .eql 3 19 a 9) λf=>CD f (WN b c R)
 (yr a b c R d)
 (λg h=>e [nth g 0] h)
def dE:=λb (a:za) (R:VK) (f:LK)=>
 zJ 42 b 3 3 a λc=>zL zz (fn 73) [c] a (λd e=>rv [d] e R)
def yb:=λc a (b:za) (R:VK) d (e:LK)=>
 opt (zi .eql 3 19 c 8) λf=>CD f (λj=>zJ 42 a 3 3 b λg=>zL zz (fn 73) [g] b (QA a R))
 (yf c a b R d)
 (λh i=>e [nth h 0] i)
def ZW:=λa (b:za) d (R:VK) (f:LK)=>
 zJ 42 a 3 3 b λe=>opt (zi .geq 3 50 e 0) λc=>zf c true (zk zz 42 a 3) b (ZV c d a R) b
def zZ:=λa b (c:za) (R:VK) d (e:LK)=>
 opt (zi .eql 3 19 a 7) λf=>CD f (dE b c R)
 (yb a b c R d)
 (λg h=>e [nth g 0] h)
def QC:=λb (a:za) (R:VK) (f:LK)=>
 zJ 42 b 6 2 a λc=>zL zz (fn 72) [c] a (λd e=>rv [d] e R)
def zN:=λa b (c:za) d (R:VK) e (f:LK)=>
 opt (zi .eql 3 19 a 6) λg=>CD g (ZW b c d R)
 (zZ a b c R e)
 (λh i=>f [nth h 0] i)
def qw:=λa (b:za) (R:VK) (g:LK)=>
 zJ 42 a 3 3 b λe=>opt (zi .eql 3 24 e 1) λc=>zf c false (zk zz 42 a 3) b (λf d=>zf c false (zd zz 3 f d) d (kj c a R) d) b
def zK:=λa (c:za) d (R:VK) g h (i:LK)=>
 opt (zi .eql 3 19 a 5) λe=>CD e (λb=>b [e] c)
 (λb=>opt (zi .eql 3 19 a 16) λj=>b [j] c)
 (λk f=>CD (nth k 0) (QC d f R)
 (zN a d f g R h)
 (λl m=>i [nth l 0] m))
def zA:=λa (c:za) d (R:VK) g h (i:LK)=>
 opt (zi .eql 3 19 a 3) λe=>CD e (λb=>b [e] c)
 (λb=>opt (zi .eql 3 19 a 4) λj=>b [j] c)
 (λk f=>CD (nth k 0) (qw d f R)
 (zK a f d R g h)
 (λl m=>i [nth l 0] m))
def zl:=λa (R:VK) c d (b:za)=>
 zJ 42 a 0 3 b λe=>BK (zA e b a R c d)
 (λg f=>rv [.bool true] f R)
def Y6:=λa (R:VK) e f g (b:za)=>
 zf a false (r7 zz .not g) b (λh c=>opt (pk a (.bool true) h) λi=>CD i (λd=>rv [.bool false] c R)
 (λd=>d [.bool false] c)
 (zl e R f)) b
def WO:=λe c (R:VK) f g (a:za)=>
 opt (pk e (.bool true) g) λb=>zf b false (zd zz 42 c a) a (λh d=>GD b false (λi=>zL zz (fn 71) [h] d (λj k=>i j k)) (Y6 b R c f) d) a
def WQ:=λa c (R:VK) d e (b:za)=>
 zf a false (zi .gtr 3 10 e 26) b (WO a c R d) b
def sX:=λ(h:za) e f (R:VK)=>
 opt (nb [e] (some (Value.cells e).toList)) λg=>nw h g 42 λa b=>zJ 42 a 0 3 b λi=>opt (zi .lss 3 6 i 1) λc=>zf c false (zk zz 42 a 0) b (λj d=>zf c false (zd zz 3 j d) d (WQ c a R f) d) b
theorem Bj(hw:sX h t0 t1 R):DC zz 34 [t0,t1] h R:=xY (by kernel_rfl) hw
def xc:=λe a (R:VK) b (c:za)=>
 GD b false (λf=>f e c) (λg d=>zf a true (pk b (.bool true) g) d (λh i=>opt (pk a h (.bool false)) λj=>rv [j] i R) d) c
def xe:=λa d (R:VK) e (b:za)=>
 zf a true (zi .neq 3 62 e 4) b (λf c=>GD a true (λg=>g f c) (xc d a R) c) b
def xf:=λd e f (R:VK) g (c:za)=>
 opt (pk d g (.bool false)) λa=>zf a true (zk zz 42 e 2) c (λh b=>zf a true (zd zz 3 h b) b (xe a f R) b) c
def xg:=λa c d (R:VK) e (b:za)=>
 zf a true (zi .lss 3 57 e 16) b (xf a c d R) b
def xh:=λe a (R:VK) f (b:za)=>
 opt (pk e (.bool true) f) λg=>zJ 42 a 2 3 b λh=>opt (zi .geq 3 53 h 0) λc=>zf c true (zk zz 42 a 2) b (λi d=>zf c true (zd zz 3 i d) d (xg c a g R) d) b
def xi:=λa c (R:VK) d (b:za)=>
 zf a false (zi .eql 3 49 d 1) b (xh a c R) b
def xj:=λe c (R:VK) f (d:za)=>
 opt (pk e (.bool true) f) λa=>zf a false (zk zz 42 c 0) d (λg b=>zf a false (zd zz 3 g b) b (xi a c R) b) d
def xk:=λa c (R:VK) d (b:za)=>
 zf a false (zi .eql 3 44 d 5) b (xj a c R) b
def xo:=λe c (R:VK) f (d:za)=>
 opt (pk e (.bool true) f) λa=>zf a false (zk zz 42 c 0) d (λg b=>zf a false (zd zz 3 g b) b (xk a c R) b) d
def yL:=λa c (R:VK) d (b:za)=>
 zf a false (zi .eql 3 39 d 4) b (xo a c R) b
def yA:=λa (R:VK) (g:List aaa) (b:za)=>
 zJ 42 a 0 3 b λe=>opt (zi .eql 3 35 e 3) λc=>zf c false (zk zz 42 a 0) b (λf d=>zf c false (zd zz 3 f d) d (yL c a R) d) b
def u6:=λe (R:VK) f g h (a:za)=>
 opt (pk e h (.bool false)) λi=>CD i (λb=>rv [.bool false] a R)
 (λb=>b [.bool false] a)
 (λj c=>opt (r7 zz .not f) λk=>CD k (λd=>rv [.bool true] c R)
 (λd=>d [nth j 0] c)
 (yA g R))
def kI:=λa e b (R:VK) f g h (c:za)=>
 zf a false (pk e h (.bool false)) c (λi d=>zf b true (pk a (.bool true) i) d (u6 b R f g) d) c
def kJ:=λa c d (R:VK) e f g (b:za)=>
 zf a true (zi .eql 3 27 g 4) b (kI c a d R e f) b
def kK:=λc e f (R:VK) g a (d:za)=>
 zf a true (zk zz 42 c 1) d (λh b=>zf a true (zd zz 3 h b) b (kJ a e f R g c) b) d
def kM:=λb f g (R:VK) h i (c:za)=>
 GD b true (λj=>j i c) (λa d=>GD a false (λk=>k f d) (λl e=>GD a false (λm=>m l e) (kK g a b R h) e) d) c
def kN:=λa b e f (R:VK) g h (c:za)=>
 zf a false (zi .geq 3 20 h 16) c (λi d=>zf b true (pk a (.bool true) i) d (kM b e f R g) d) c
def kO:=λc e f (R:VK) g a (d:za)=>
 zf a false (zk zz 42 c 1) d (λh b=>zf a false (zd zz 3 h b) b (kN a e f c R g) b) d
def kP:=λa d e (R:VK) f g (b:za)=>
 zf a true (zi .lss 3 16 g 0) b (λh c=>GD a true (λi=>i h c) (kO d a e R f) c) b
def kQ:=λd (R:VK) a (e:za)=>
 opt (Jf a 0) λb=>opt (Jf a 1) λf=>opt (Jf a 2) λg=>zf b true (zk zz 42 d 1) e (λh c=>zf b true (zd zz 3 h c) c (kP b d g R f) c) e
def np:=λ(h:za) a (R:VK)=>
 opt (nb [a] (some (Value.cells a).toList)) λd=>nw h d 42 λb c=>opt (zd zz 42 b c) λe=>zL zz (fn 87) [e] c (kQ b R)
theorem sj(hw:np h t0 R):DC zz 71 [t0] h R:=xY (by kernel_rfl) hw
def uV:=λb (c:za) (e:LK)=>
 opt (zi .eql 3 6 b 7) λd=>CD d (λa=>a [d] c)
 (λa=>opt (zi .eql 3 6 b 10) λf=>a [f] c)
 (λg h=>e [nth g 0] h)
def uJ:=λa (b:za) (d:LK)=>
 opt (zi .eql 3 6 a 5) λc=>CD c (λe=>e [c] b)
 (uV a b)
 (λf g=>d [nth f 0] g)
def uq:=λa (b:za) (d:LK)=>
 opt (zi .eql 3 6 a 3) λc=>CD c (λe=>e [c] b)
 (uJ a b)
 (λf g=>d [nth f 0] g)
def YO:=λb (c:za) (e:LK)=>
 opt (zi .eql 3 6 b 12) λd=>CD d (λa=>a [d] c)
 (λa=>opt (zi .eql 3 6 b 17) λf=>a [f] c)
 (λg h=>e [nth g 0] h)
def ZX:=λa (b:za) (d:LK)=>
 opt (zi .eql 3 6 a 11) λc=>CD c (λe=>e [c] b)
 (YO a b)
 (λf g=>d [nth f 0] g)
def Za:=λa (b:za) (d:LK)=>
 opt (zi .eql 3 6 a 9) λc=>CD c (λe=>e [c] b)
 (ZX a b)
 (λf g=>d [nth f 0] g)
def jb:=λa (b:za) (d:LK)=>
 opt (zi .eql 3 6 a 8) λc=>CD c (λe=>e [c] b)
 (Za a b)
 (λf g=>d [nth f 0] g)
def qV:=λa (b:za) (d:LK)=>
 opt (zi .eql 3 6 a 6) λc=>CD c (λe=>e [c] b)
 (jb a b)
 (λf g=>d [nth f 0] g)
def gu:=λd (b:za) (R:VK) (e:LK)=>
 opt (zi .eql 3 6 d 14) λf=>CD f (λc=>rv [.bool false,.bool true,.bool false] b R)
 (λc=>c [.bool false,.bool false,.bool false] b)
 (λa g=>e [nth a 0,nth a 1,nth a 2] g)
def QL:=λb (c:za) (R:VK) (d:LK)=>
 opt (zi .eql 3 6 b 16) λe=>CD e (λg=>rv [.bool true,.bool false,.bool false] c R)
 (gu b c R)
 (λa f=>d [nth a 0,nth a 1,nth a 2] f)
def Xs:=λ(R:VK) c (d:LK) e (b:za)=>
 CD (nth e 0) (λg=>rv [.bool true,.bool true,.bool false] b R)
 (QL c b R)
 (λa f=>d [nth a 0,nth a 1,nth a 2] f)
def Xt:=λa (c:za) (R:VK) (e:LK)=>
 opt (zi .eql 3 6 a 4) λd=>CD d (λb=>b [d] c)
 (λb=>opt (zi .eql 3 6 a 15) λf=>b [f] c)
 (Xs R a e)
def uW:=λ(R:VK) c (d:LK) e (b:za)=>
 CD (nth e 0) (λg=>rv [.bool true,.bool false,.bool true] b R)
 (Xt c b R)
 (λa f=>d [nth a 0,nth a 1,nth a 2] f)
def uX:=λa (b:za) (R:VK) (d:LK)=>
 opt (zi .eql 3 6 a 2) λc=>CD c (λe=>e [c] b)
 (qV a b)
 (uW R a d)
def vd:=λ(R:VK) c (d:LK) e (b:za)=>
 CD (nth e 0) (λg=>rv [.bool true,.bool true,.bool true] b R)
 (uX c b R)
 (λa f=>d [nth a 0,nth a 1,nth a 2] f)
def ve:=λa (b:za) (R:VK) (d:LK)=>
 opt (zi .eql 3 6 a 1) λc=>CD c (λe=>e [c] b)
 (uq a b)
 (vd R a d)
def H2:=λ(h:za) a (R:VK)=>
 opt (nb [a] (some (Value.cells a).toList)) λc=>nw h c 42 λd b=>zJ 42 d 0 3 b λe=>BK (ve e b R)
 (λg f=>rv [.bool false,.bool false,.bool false] f R)
theorem F7(hw:H2 h t0 R):DC zz 87 [t0] h R:=xY (by kernel_rfl) hw
def NG:=λ(h:za) a (R:VK)=>
 zP (nb [a] (w9 zz 2 21 a h)) λb c=>zP (nb [b] (w9 zz 21 2 b c)) λd e=>opt (wZ .eql 2 3 6 a d) λf=>rv [f] e R
theorem LD(hw:NG h t0 R):DC zz 72 [t0] h R:=xY (by kernel_rfl) hw
def lS:=λb (h:za) (d:LK)=>
 opt (zi .eql 3 3 b 17) λc=>CD c (λa=>a [c] h)
 (λa=>opt (zi .eql 3 3 b 18) λe=>a [e] h)
 (λf g=>d [nth f 0] g)
def dP:=λa (h:za) (c:LK)=>
 opt (zi .eql 3 3 a 16) λb=>CD b (λd=>d [b] h)
 (lS a h)
 (λe f=>c [nth e 0] f)
def JS:=λa (h:za) (c:LK)=>
 opt (zi .eql 3 3 a 13) λb=>CD b (λd=>d [b] h)
 (dP a h)
 (λe f=>c [nth e 0] f)
def QE:=λa (h:za) (c:LK)=>
 opt (zi .eql 3 3 a 12) λb=>CD b (λd=>d [b] h)
 (JS a h)
 (λe f=>c [nth e 0] f)
def VX:=λa (h:za) (R:VK) (e:LK)=>
 opt (zi .eql 3 3 a 11) λb=>CD b (λf=>f [b] h)
 (QE a h)
 (λg c=>CD (nth g 0) (λd=>rv [.bool true] c R)
 (λd=>d [.bool false] c)
 (λi j=>e [nth i 0] j))
def TE:=λ(h:za) a (R:VK)=>
 BK (VX a h R)
 (λc b=>rv [.bool false] b R)
theorem NA(hw:TE h t0 R):DC zz 73 [t0] h R:=xY (by kernel_rfl) hw
def m9:=λ(h:za) b (R:VK)=>
 zL zz (fn 88) [b] h (λa c=>opt (Jf a 0) λe=>opt (Jf a 1) λd=>rv [d] c R)
theorem sg(hw:m9 h t0 R):DC zz 74 [t0] h R:=xY (by kernel_rfl) hw
def mR:=λc (h:za) (R:VK) (d:LK)=>
 opt (zi .eql 3 4 c 25) λe=>CD e (λa=>rv [pm 24,.bool true] h R)
 (λa=>a [pm 0,.bool false] h)
 (λb f=>d [nth b 0,nth b 1] f)
def dD:=λa (h:za) (R:VK) (c:LK)=>
 opt (zi .eql 3 4 a 24) λd=>CD d (λf=>rv [pm 25,.bool true] h R)
 (mR a h R)
 (λb e=>c [nth b 0,nth b 1] e)
def KV:=λa (h:za) (R:VK) (c:LK)=>
 opt (zi .eql 3 4 a 26) λd=>CD d (λf=>rv [pm 23,.bool true] h R)
 (dD a h R)
 (λb e=>c [nth b 0,nth b 1] e)
def UQ:=λa (h:za) (R:VK) (c:LK)=>
 opt (zi .eql 3 4 a 23) λd=>CD d (λf=>rv [pm 26,.bool true] h R)
 (KV a h R)
 (λb e=>c [nth b 0,nth b 1] e)
def Vb:=λa (h:za) (R:VK) (c:LK)=>
 opt (zi .eql 3 4 a 22) λd=>CD d (λf=>rv [pm 21,.bool true] h R)
 (UQ a h R)
 (λb e=>c [nth b 0,nth b 1] e)
def XW:=λa (h:za) (R:VK) (c:LK)=>
 opt (zi .eql 3 4 a 21) λd=>CD d (λf=>rv [pm 22,.bool true] h R)
 (Vb a h R)
 (λb e=>c [nth b 0,nth b 1] e)
def Nt:=λ(h:za) a (R:VK)=>
 BK (XW a h R)
 (λc b=>rv [pm 0,.bool false] b R)
theorem Lx(hw:Nt h t0 R):DC zz 88 [t0] h R:=xY (by kernel_rfl) hw
end Go.As
namespace Go.Ai
open Go.Ai Go.Proofs
theorem Ul:FcX 23 2:=λb o l c k i=>Z0 (e:=50) (by kernel_rfl) (by kernel_rfl)
theorem Um:FcX 48 7:=λb o l c k i=>Z0 (e:=42) (by kernel_rfl) (by kernel_rfl)
theorem Yu:FcE 23:=λr a n c h=>yN (by kernel_rfl)
theorem Yv:FcE 48:=λr a n c h=>yN (by kernel_rfl)
end Go.Ai
namespace Go.Rm
open Go.Ai Go.Proofs
end Go.Rm
namespace Go.Ai
open Go.Ai Go.Proofs
end Go.Ai
namespace Go.Rtl
open Go.Ai Go.Proofs
def yS(b:Bool)(v:aaa)(_:za):Prop:=v=.bool b
def Jv(n:Int)(v:aaa)(_:za):Prop:=v=.int .i64 n
theorem z8{f:FuncId}{args:List aaa}{h:za}{b:Bool}(d:DC pu f args h.lock (yS b)):vw pu f args h (.bool b):=vw.of rfl d
theorem x9{f:FuncId}{args:List aaa}{h:za}{n:Int}(d:DC pu f args h.lock (Jv n)):vw pu f args h (pm n):=vw.of rfl d
structure Old (h h':za):Prop where
 next:h.next<=h'.next
 ro:h'.ro=h.ro
 get:∀b,b<h.next->h'.get b=h.get b
theorem Old.trans{a b c:za}(x:Old a b)(y:Old b c):Old a c:=⟨aaU x.next y.next,y.ro.trans x.ro,λi hi=>(y.get i (aap hi x.next)).trans (x.get i hi)⟩
theorem Old.push(h:za)(o:wS):Old h (h.push o):=⟨abx _,rfl,λb hb=>yR hb⟩
def zv(h:za)(sv:aaa)(zs:List Int):Prop:=(sv=.slice none 0 0/\zs=[]) \/ ∃b off cp,sv=.slice (some ⟨b,off,none⟩) zs.length cp/\(zs≠[]->∃c t,b<h.next/\h.get b=some (.cells c t) /\ ∀(i:Nat) z,zs[i]? = some z->c[off+i]? = some (pm z))
section
variable {h h':za}{sv:aaa}{zs:List Int}
theorem zv.Kc(S:zv h sv zs):zR sv=false:=by
 rcases S with⟨rfl,_⟩|⟨b,off,cp,rfl,_⟩ <;> rfl
theorem zv.Au(S:zv h sv zs):xX sv=true:=by
 rcases S with⟨rfl,_⟩|⟨b,off,cp,rfl,_⟩ <;> rfl
theorem zv.old(S:zv h sv zs)(e:Old h h'):zv h' sv zs:=by
 rcases S with a|⟨b,off,cp,rfl,hc⟩
 ·exact .inl a
 ·refine .inr ⟨b,off,cp,rfl,λhz=>?_⟩;obtain⟨c,t,hb,hg,hat⟩:=hc hz;exact⟨c,t,aap hb e.next,by rw[e.get b hb];exact hg,hat⟩
theorem zv.lock(S:zv h sv zs):zv h.lock sv zs:=by
 rcases S with a|⟨b,off,cp,rfl,hc⟩
 ·exact .inl a
 ·refine .inr ⟨b,off,cp,rfl,λhz=>?_⟩;obtain⟨c,t,hb,hg,hat⟩:=hc hz;exact⟨c,t,hb,by rw[Qg];exact hg,hat⟩
end
theorem Uu{h:za}(w:qC h)(o:wS):qC (h.push o):=⟨λb x hb=>by
 rw[za.vJ]at hb;show b<h.next+1;split at hb
 ·rename_i e;omega
 ·have:=w.1 b x hb;omega,abN w.2⟩
theorem wf_set{h:za}(w:qC h){b:Nat}(hb:b<h.next)(o:Option wS):qC (h.set b o):=⟨λc x hc=>by
 rw[za.yq]at hc;split at hc
 ·rename_i e;subst e;exact hb
 ·exact w.1 c x hc,w.2⟩
theorem inc{i:Nat}(h:i<4611686018427387904):IntKind.wrap .i64 ((i:Int)+1)=((i+1:Nat):Int):=by
 simp only[IntKind.wrap,IntKind.bits,IntKind.signed];simp;omega
def zE(h:za)(sv:aaa)(n:Nat)(rows:List (List aaa)):Prop:=(sv=.slice none 0 0/\rows=[]) \/ ∃b off cp,sv=.slice (some ⟨b,off,none⟩) rows.length cp /\
 (rows≠[]->∃c t,b<h.next/\h.get b=some (.cells c t) /\ ∀(i:Nat) r,rows[i]? = some r->off+i*n+n<=c.length/\(c.drop (off+i*n)).take n=r)
section
variable {h h':za}{sv:aaa}{n:Nat}{rows:List (List aaa)}
theorem zE.Kc(S:zE h sv n rows):zR sv=false:=by
 rcases S with⟨rfl,_⟩|⟨b,off,cp,rfl,_⟩ <;> rfl
theorem zE.Au(S:zE h sv n rows):xX sv=true:=by
 rcases S with⟨rfl,_⟩|⟨b,off,cp,rfl,_⟩ <;> rfl
theorem zE.old(S:zE h sv n rows)(e:Old h h'):zE h' sv n rows:=by
 rcases S with a|⟨b,off,cp,rfl,hc⟩
 ·exact .inl a
 ·refine .inr ⟨b,off,cp,rfl,λhz=>?_⟩;obtain⟨c,t,hb,hg,hat⟩:=hc hz;exact⟨c,t,aap hb e.next,by rw[e.get b hb];exact hg,hat⟩
theorem zE.lock(S:zE h sv n rows):zE h.lock sv n rows:=by
 rcases S with a|⟨b,off,cp,rfl,hc⟩
 ·exact .inl a
 ·refine .inr ⟨b,off,cp,rfl,λhz=>?_⟩;obtain⟨c,t,hb,hg,hat⟩:=hc hz;exact⟨c,t,hb,by rw[Qg];exact hg,hat⟩
theorem zE.spot(S:zE h sv n rows){i:Nat}{r:List aaa}(hr:rows[i]? = some r)(hn:r.length=n):∃b o c t,(∃off cp,sv=.slice (some ⟨b,off,none⟩) rows.length cp/\o=off+i*n)/\i<rows.length/\b<h.next/\h.get b=some (.cells c t)/\o+n<=c.length/\(c.drop o).take n=r /\ ∀k,k<n->c[o+k]? = r[k]?:=by
 rcases S with⟨rfl,rfl⟩|⟨b,off,cp,rfl,hc⟩
 ·cases hr
 ·have hlt:i<rows.length:=by
   rcases aaI i rows.length with a|a
   ·exact a
   ·rw[aas a]at hr;cases hr
  obtain⟨c,t,hb,hg,hat⟩:=hc (by intro e;subst e;cases hr);obtain⟨h1,h2⟩:=hat i r hr;refine⟨b,off+i*n,c,t,⟨off,cp,rfl,rfl⟩,hlt,hb,hg,h1,h2,λk hk=>?_⟩
  ·rw[<- h2,aaW hk,aaQ]
end
def Gl{α:Type}(l:List α)(B:α->Bool)(k:Nat):Bool:=match l[k]? with
 |some x=>B x
 |none=>true
theorem Z1{α:Type}{l:List α}{B:α->Bool}(h:∀k,k<l.length->Gl l B k=true):l.all B=true:=by
 rw[aav];intro x hx;obtain⟨k,hk,rfl⟩:=abO hx;have:=h k hk;simpa only[Gl,aag hk] using this
theorem W2{α:Type}{l:List α}{B:α->Bool}{k:Nat}{x:α}(hx:l[k]? = some x)(hb:B x=false):l.all B=false:=by
 rw[List.all_eq_false];exact⟨x,aax hx,by simp[hb]⟩
theorem QW{α:Type}{l:List α}{B:α->Bool}{k:Nat}{x:α}(hx:l[k]? = some x):Gl l B k=B x:=by simp only[Gl,hx]
theorem get_some{α:Type}{l:List α}{k:Nat}(h:k<l.length):∃x,l[k]? = some x/\x∈l:=⟨l[k],aag h,abU h⟩
section
variable {h h':za}
theorem zE.lK{sv:aaa}{n:Nat}{rows:List (List aaa)}(S:zE h sv n rows):U3 sv=some rows.length:=by
 rcases S with⟨rfl,rfl⟩|⟨b,off,cp,rfl,hc⟩ <;> rfl
theorem Tl{c:List aaa}{off:Nat}{l:List aaa}(h:∀(i:Nat) v,l[i]? = some v->c[off+i]? = some v):(l=[]\/off+l.length<=c.length)/\(c.drop off).take l.length=l:=by
 have hle:l=[]\/off+l.length<=c.length:=by
  cases hl:l.length with
  |zero=>exact .inl (aa9.1 hl)
  |succ n=>
   have:=h n l[n] (aag (by omega));rcases aaI (off+n) c.length with q|q
   ·exact .inr (by omega)
   ·rw[aas q]at this;cases this
 refine⟨hle,abz λi=>?_⟩;rw[List.getElem?_take,aaQ];by_cases hi:i<l.length
 ·rw[aah hi,aag hi];exact h i _ (aag hi)
 ·rw[aae hi,aas (by omega)]
theorem fj{n:Nat}:∀{rows:List (List aaa)},(∀r,r∈rows->r.length=n)->∀{i:Nat} {r:List aaa} {k:Nat},rows[i]? = some r->k<n->rows.flatten[i*n+k]? = r[k]?
 |[],_,i,r,k,hr,_=>by cases hr
 |r0::rows,hn,0,r,k,hr,hk=>by
  simp only[aaC,aab]at hr;subst hr;rw[acb,aa2 (by rw[hn _ (by simp)];omega)];simp
 |r0::rows,hn,i+1,r,k,hr,hk=>by
  have h0:=hn r0 (by simp);rw[acb,aaZ (by rw[h0,acq];omega),h0,show(i+1)*n+k-n=i*n+k by rw[acq];omega];exact fj (λr hr=>hn r (by simp[hr])) (by simpa using hr) hk
theorem xU{n:Nat}:∀{rows:List (List aaa)},(∀r,r∈rows->r.length=n)->rows.flatten.length=rows.length*n
 |[],_=>by simp
 |r0::rows,hn=>by
  rw[acb,aaB,xU (λr hr=>hn r (by simp[hr])),hn r0 (by simp),abc,acq];omega
theorem pC{n:Nat}{rows:List (List aaa)}(hn:∀r,r∈rows->r.length=n){i:Nat}{r:List aaa}(hr:rows[i]? = some r):i*n+n<=rows.flatten.length/\(rows.flatten.drop (i*n)).take n=r:=by
 have hi:i<rows.length:=by
  rcases aaI i rows.length with a|a
  ·exact a
  ·rw[aas a]at hr;cases hr
 have hl:r.length=n:=hn r (aax hr)
 constructor
 ·rw[xU hn];have:=abJ n (Nat.succ_le_of_lt hi);rw[Nat.succ_mul]at this;exact this
 ·refine abz λk=>?_;rw[List.getElem?_take,aaQ];by_cases hk:k<n
  ·rw[aah hk];exact fj hn hr hk
  ·rw[aae hk,aas (by omega)]
theorem zE.first{sv:aaa}{n:Nat}{rows:List (List aaa)}(S:zE h sv n rows)(h0:0<n)(hn:∀r,r∈rows->r.length=n):qp h rows.length n sv=some rows.flatten:=by
 rcases S with⟨rfl,rfl⟩|⟨b,off,cp,rfl,hc⟩
 ·rfl
 ·cases rows with
  |nil=>unfold qp;simp only[abH,acx];rfl
  |cons r0 rows=>
   obtain⟨c,t,hb,hg,hat⟩:=hc (by simp)
   obtain⟨h1,h2⟩:=Tl (c:=c) (off:=off) (l:=(r0::rows).flatten) (λj v hv=>by
    have hj:j<(r0::rows).length*n:=by
     rcases aaI j ((r0::rows).flatten.length) with a|a
     ·rw[xU hn]at a;exact a
     ·rw[aas a]at hv;cases hv
    have hi:j/n<(r0::rows).length:=(Nat.div_lt_iff_lt_mul h0).2 hj;have hk:j%n<n:=Nat.mod_lt _ h0;have hr:(r0::rows)[j/n]? = some (r0::rows)[j/n]:=aag hi;have e:j=j/n*n+j%n:=by rw[Nat.mul_comm];exact(Nat.div_add_mod j n).symm
    rw[e,fj hn hr hk]at hv;obtain⟨_,h4⟩:=hat _ _ hr;rw[<- h4,List.getElem?_take,aah hk,aaQ]at hv;rw[e,<- abq];exact hv)
   have hl:=xU hn;rw[hl]at h1 h2;have hne:(r0::rows).length*n≠0:=by rw[abc];exact Nat.mul_ne_zero (by omega) (by omega)
   have h3:off+(r0::rows).length*n<=c.length:=by
    rcases h1 with e|e
    ·rw[e]at hl;exact absurd hl.symm hne
    ·exact e
   unfold qp;simp only[hg];rw[show Nat.beq ((r0::rows).length*n) 0=false by rw[<- ab4,acs];exact hne,aaH,ab6 h3,aaw,h2]
end
end Go.Rtl
namespace Go.Rm
open Go.Ai Go.Proofs Go.Mem
def isO(u:aaa)(v:aaa)(_:za):Prop:=v=u
theorem aG{f:FuncId}{args:List aaa}{h:za}{u:aaa}(hs:iz u=true)(d:DC pu f args h.lock (isO u)):vw pu f args h u:=vw.of hs d
open Go.Rtl (zv zE Old xU pC fj)
def j7(ty:TypeId)(n:Nat)(sv:aaa)(rows:List (List aaa)):HP:=λm=>
 (sv=.slice none 0 0/\rows=[] /\ ∀x,m x=none) \/ ∃b c cs,sv=.slice (some ⟨b,0,none⟩) rows.length c/\c≠0/\rows.length*n<=cs.length/\cs.take (rows.length*n)=rows.flatten/\pt b (.cells cs ty) m
section
variable {lo:yH}{h:za}{L:List HP}{ty:TypeId}{n:Nat}{sv:aaa}{rows:List (List aaa)}
theorem zS(s:Sat lo h (j7 ty n sv rows::L)):(sv=.slice none 0 0/\rows=[]/\Sat lo h L) \/ ∃b c cs,sv=.slice (some ⟨b,0,none⟩) rows.length c/\c≠0/\rows.length*n<=cs.length/\cs.take (rows.length*n)=rows.flatten/\Sat lo h (pt b (.cells cs ty)::L):=by
 obtain⟨a,ha,d,w,s⟩:=s;rcases ha with⟨e1,e2,e3⟩|⟨b,c,cs,e1,e2,e3,e4,e5⟩
 ·exact .inl ⟨e1,e2,by rw[yH.CB e3]at s;exact s⟩
 ·exact .inr ⟨b,c,cs,e1,e2,e3,e4,a,e5,d,w,s⟩
theorem xO(ty:TypeId)(n:Nat)(s:Sat lo h L):Sat lo h (j7 ty n (pp) []::L):=⟨λ_=>none,.inl ⟨rfl,rfl,λ_=>rfl⟩,λ_ _ e=>(by cases e),λ_ _ e=>(by cases e),by rw[yH.CB λ_=>rfl];exact s⟩
theorem JJ{b c:Nat}{cs:List aaa}(hc:c≠0)(hl:rows.length*n<=cs.length)(ht:cs.take (rows.length*n)=rows.flatten)(s:Sat lo h (pt b (.cells cs ty)::L)):Sat lo h (j7 ty n (.slice (some ⟨b,0,none⟩) rows.length c) rows::L):=by
 obtain⟨a,ha,d,w,s⟩:=s;exact⟨a,.inr ⟨b,c,cs,rfl,hc,hl,ht,ha⟩,d,w,s⟩
theorem yU{b c:Nat}{cs:List aaa}(hc:c≠0)(hn:∀r,r∈rows->r.length=n)(he:cs=rows.flatten)(s:Sat lo h (pt b (.cells cs ty)::L)):Sat lo h (j7 ty n (.slice (some ⟨b,0,none⟩) rows.length c) rows::L) :=
 JJ hc (by rw[he,xU hn];exact aaj _) (by rw[he,ab2 (by rw[xU hn];exact aaj _)]) s
theorem iD(s:Sat lo h (j7 ty n sv rows::L)):∃a c,sv=.slice a rows.length c:=by
 rcases zS s with⟨rfl,rfl,_⟩|⟨b,c,cs,rfl,_⟩ <;> exact⟨_,_,rfl⟩
theorem yG(s:Sat lo h (j7 ty n sv rows::L)):zR sv=false:=by obtain⟨_,_,rfl⟩:=iD s;rfl
theorem xx(s:Sat lo h (j7 ty n sv rows::L)):xX sv=true:=by obtain⟨_,_,rfl⟩:=iD s;rfl
theorem yx(s:Sat lo h (j7 ty n sv rows::L))(hn:∀r,r∈rows->r.length=n):zE h sv n rows:=by
 rcases zS s with⟨e1,e2,_⟩|⟨b,c,cs,rfl,hc,hl,hf,s⟩
 ·exact .inl ⟨e1,e2⟩
 ·refine .inr ⟨b,0,c,rfl,λ_=>⟨cs,ty,s.lt,s.get,λi r hr=>?_⟩⟩
  have hi:i<rows.length:=by
   rcases aaI i rows.length with a|a
   ·exact a
   ·rw[aas a]at hr;cases hr
  obtain⟨f1,f2⟩:=pC hn hr;have hm:=abJ n (Nat.succ_le_of_lt hi);rw[Nat.succ_mul]at hm;refine⟨by omega,?_⟩;rw[<- f2,<- hf,abf,List.drop_take,List.take_take]
  congr 1
  omega
theorem Z4(s:Sat lo h (j7 ty n sv rows::L))(hn:∀r,r∈rows->r.length=n)(row:List aaa)(hr:row.length=n)(h0n:0<n)(bz:Nat)(hb:(rows.length+1)*bz<=2^47) :
  ∃b' c' h',Jc h ty n bz 1 row sv=some (.slice (some ⟨b',0,none⟩) (rows.length+1) c',h')/\Sat lo h' (j7 ty n (.slice (some ⟨b',0,none⟩) (rows.length+1) c') (rows++[row])::L):=by
 have hn2:∀r,r∈rows++[row]->r.length=n:=λr q=>by
  rcases aaD.1 q with q|q
  ·exact hn r q
  ·simp only[aat]at q;subst q;exact hr
 have hlen:(rows++[row]).length=rows.length+1:=by simp
 rcases zS s with⟨rfl,rfl,s'⟩|⟨b,c,cs,rfl,hc,hl,hf,s⟩
 ·refine⟨h.next,1,h.push (.cells row ty),?_,yU (cs:=row) (rows:=[]++[row]) (c:=1) (by decide) hn2 (by simp) (s'.push (.cells row ty))⟩;simp only[Jc];rw[aae (by decide),aah (by simp at hb;omega)];rfl
 ·have hroom:roomFor c (rows.length+1) bz=true:=by
   unfold roomFor;cases Nat.beq c 2 <;> simp only[aaw,aaH,abS] <;> omega
  refine⟨h.next,vW c (rows.length+1),(h.set b none).push (.cells (((cs.drop 0).take (rows.length*n))++row) ty),?_,?_⟩
  ·simp only[Jc,s.get];rw[aae (by decide),aah ⟨hc,trivial,s.wr,by omega,hroom,by simp⟩]
  ·have q:=yU (rows:=rows++[row]) (c:=vW c (rows.length+1)) (Ji _ _) hn2 (by rw[abG,hf,List.flatten_append];simp) ((s.forget none).push (.cells (((cs.drop 0).take (rows.length*n))++row) ty));rw[hlen]at q;exact q
theorem yJ{α:Type}{f:α->List aaa}{n:Nat}(hf:∀a,(f a).length=n)(l:List α):∀r,r∈l.map f->r.length=n:=by
 intro r hr;simp only[aa0]at hr;obtain⟨y,_,rfl⟩:=hr;exact hf y
end
def zQ(z:Int):List aaa:=[pm z]
section
variable {g h:za}{F G:Nat->Prop}
end
section
variable {lo:yH}{h:za}{L:List HP}{m:Nat}{M:MM}
end
def Rd(lo:yH)(X:za->Prop):Prop := ∀h,lG lo h->X h
theorem Rd.mono{lo lo':yH}{X:za->Prop}(x:Rd lo X)(l:lo.Le lo'):Rd lo' X:=λh b=>x h (b.mono l)
theorem Rd.at{lo:yH}{X:za->Prop}{h:za}{L:List HP}(x:Rd lo X)(s:Sat lo h L):X h:=x h s.base
theorem Rd.of{lo:yH}{X:za->Prop}{h0:za}(hl:lo.Has h0)(x:X h0)(m:∀h,Old h0 h->X h):Rd lo X:=λh b=>m h (by obtain⟨a,c,d⟩:=hl.old b;exact⟨a,c,d⟩)
section
variable {lo:yH}{h:za}{L:List HP}{ty:TypeId}{n:Nat}{sv:aaa}{rows:List (List aaa)}
theorem qy(s:Sat lo h (j7 ty n sv rows::L))(hn:∀r,r∈rows->r.length=n):∃lo1,lo.Le lo1/\Rd lo1 (zE · sv n rows)/\Sat lo1 h L /\ ∀h' L',Sat lo1 h' L'->Sat lo h' (j7 ty n sv rows::L'):=by
 obtain⟨a,ha,d,w,s⟩:=s;refine⟨lo.un a,yH.lz d,λh1 b1=>?_,s,λh' L' s'=>⟨a,ha,d,w,s'⟩⟩;have:Sat lo h1 [j7 ty n sv rows]:=⟨a,ha,d,w,b1⟩;exact yx this hn
end
section
variable {lo:yH}{h:za}{L:List HP}{ty:TypeId}{n:Nat}{sv:aaa}{rows:List (List aaa)}
theorem vY(s:Sat lo h (j7 ty n sv rows::L))(hn:∀r,r∈rows->r.length=n)(rows2:List (List aaa))(hn2:∀r,r∈rows2->r.length=n)(bz:Nat)(hb:(rows.length+rows2.length)*bz<=2^47)(hne:rows2≠[]) :
  ∃b' c' h',Jc h ty n bz rows2.length rows2.flatten sv=some (.slice (some ⟨b',0,none⟩) (rows.length+rows2.length) c',h')/\Sat lo h' (j7 ty n (.slice (some ⟨b',0,none⟩) (rows.length+rows2.length) c') (rows++rows2)::L):=by
 have hn3:∀r,r∈rows++rows2->r.length=n:=λr q=>by
  rcases aaD.1 q with q|q
  ·exact hn r q
  ·exact hn2 r q
 have hlen:(rows++rows2).length=rows.length+rows2.length:=by simp
 have h0:¬rows2.length=0:=λe=>hne (aa9.1 e);rcases zS s with⟨rfl,rfl,s'⟩|⟨b,c,cs,rfl,hc,hl,hf,s⟩
 ·refine⟨h.next,1,h.push (.cells rows2.flatten ty),?_,?_⟩
  ·simp only[Jc];rw[aae h0,aah (by simp at hb;omega)];simp
  ·have q:=yU (cs:=rows2.flatten) (rows:=[]++rows2) (c:=1) (by decide) hn3 (by simp) (s'.push (.cells rows2.flatten ty));rw[hlen]at q;exact q
 ·have hroom:roomFor c (rows.length+rows2.length) bz=true:=by
   unfold roomFor;cases Nat.beq c 2 <;> simp only[aaw,aaH,abS] <;> omega
  refine⟨h.next,vW c (rows.length+rows2.length),(h.set b none).push (.cells (((cs.drop 0).take (rows.length*n))++rows2.flatten) ty),?_,?_⟩
  ·simp only[Jc,s.get];rw[aae h0,aah ⟨hc,trivial,s.wr,by omega,hroom,by simp⟩]
  ·have q:=yU (rows:=rows++rows2) (c:=vW c (rows.length+rows2.length)) (Ji _ _) hn3 (by rw[abG,hf,List.flatten_append]) ((s.forget none).push (.cells (((cs.drop 0).take (rows.length*n))++rows2.flatten) ty));rw[hlen]at q;exact q
end
section
variable {lo:yH}{h:za}{L:List HP}{b mb wb fb:Nat}{world:List Int}{ev lk gl cl kv wn:aaa}{fi:List Nat}{kept:Option (Int->Bool)}
end
def vb(v:V):Prop:=qU v.b
open Go.Rtl (inc)
section
variable {lo:yH}{h:za}{L:List HP}{wv:aaa}{world:List Int}
end
end Go.Rm
namespace Go.As
open Go.Ai Go.Proofs Go.Mem Go.Rm
open Go.Rtl (zv zE Old)
structure zo where
 op:Int
 r:Int
 m:Int
 sub:Int
 cc:Int
 l:Int
 k:Int
structure Fn where
 nm:ByteArray
 cv:aaa
 code:List zo
structure Pg where
 gv:aaa
 globals:List Int
 fv:aaa
 funcs:List Fn
 main:Int
 params:Int
abbrev zo.row(x:zo):List aaa:=[pm x.op,pm x.r,pm x.m,pm x.sub,pm x.cc,pm x.l,pm x.k]
abbrev zo.val(x:zo):aaa := .agg #[pm x.op,pm x.r,pm x.m,pm x.sub,pm x.cc,pm x.l,pm x.k]
abbrev Fn.row(f:Fn):List aaa:=[.string f.nm,f.cv]
abbrev Fn.val(f:Fn):aaa := .agg #[.string f.nm,f.cv]
abbrev Pg.row(p:Pg):List aaa:=[p.gv,p.fv,pm p.main,pm p.params]
abbrev Pg.val(p:Pg):aaa := .agg #[p.gv,p.fv,pm p.main,pm p.params]
structure Xn (h:za) (f:Fn):Prop where
 code:zE h f.cv 7 (f.code.map zo.row)
 Gu:f.code.length*56<=140737488351232
structure uQ (h:za) (p:Pg):Prop where
 globals:zv h p.gv p.globals
 OT:p.globals.length<=17592186043904
 funcs:zE h p.fv 2 (p.funcs.map Fn.row)
 Sa:p.funcs.length*24<=140737488351232
 fns:∀f,f∈p.funcs->Xn h f
section
variable {h h':za}{f:Fn}{p:Pg}
theorem Xn.old(S:Xn h f)(e:Old h h'):Xn h' f:=⟨S.code.old e,S.Gu⟩
theorem Xn.lock(S:Xn h f):Xn h.lock f:=⟨S.code.lock,S.Gu⟩
theorem uQ.old(S:uQ h p)(e:Old h h'):uQ h' p:=⟨S.globals.old e,S.OT,S.funcs.old e,S.Sa,λf hf=>(S.fns f hf).old e⟩
theorem uQ.lock(S:uQ h p):uQ h.lock p:=⟨S.globals.lock,S.OT,S.funcs.lock,S.Sa,λf hf=>(S.fns f hf).lock⟩
end
section
variable (p:Pg)(lim:Int)(world:List Int)(lab:Bool)(fuel:Int)
end
def Jo(k:Int):Bool:=decide (k=IntKind.wrap .i64 (IntKind.wrap .i32 k))
def fW(op:Int):Bool:=decide (op=1\/op=3\/op=5\/op=7\/op=10\/op=2\/op=6\/op=8\/op=9\/op=11\/op=12\/op=17\/op=4\/op=15\/op=16)
def KF(op:Int):Bool:=decide (op=1\/op=3\/op=5\/op=7\/op=10\/op=4\/op=15\/op=14)
def VA(op:Int):Bool:=decide (op=1\/op=3\/op=5\/op=7\/op=10\/op=2\/op=6\/op=8\/op=9\/op=11\/op=12\/op=17)
def u4(op:Int):Bool:=decide (op=3\/op=4\/op=5\/op=1)
def ZO(i:zo):Bool := !(fW i.op&&(decide (i.r<0)||(decide (16<=i.r)||(VA i.op&&decide (i.r=4)))))&&(!KF i.op||(decide (0<=i.m)&&(decide (i.m<16)&&(!decide (i.m=4)||u4 i.op))))
def ZI(n:Int):Bool:=decide (21<=n)&&decide (n<=26)
def kY(s:Int):Bool:=decide (s=11\/s=12\/s=13\/s=16\/s=17\/s=18)
def yn(gl:List Int)(i:zo):Bool :=
 if i.op=3\/i.op=4 then decide (i.sub=1\/i.sub=4\/i.sub=8)&&Jo i.k
 else if i.op=5\/i.op=16 then Jo i.k
 else if i.op=6 then decide (0<=i.sub)&&(decide (i.sub<gl.length)&&(decide (0<=i.k)&&decide (i.k<=gl.getD i.sub.toNat 0)))
 else if i.op=7 then kY i.sub
 else if i.op=8 then kY i.sub&&Jo i.k
 else if i.op=9 then decide (i.sub=1\/i.sub=2)
 else if i.op=10 then decide (i.sub=3\/i.sub=4)
 else if i.op=11 then decide (i.sub=19\/i.sub=20)&&(decide (0<=i.k)&&decide (i.k<=63))
 else if i.op=12 then decide (i.sub=19\/i.sub=20)
 else if i.op=17\/i.op=19 then ZI i.cc
 else if i.op=20 then decide (0<=i.l)&&decide (i.l<=10000000)
 else if i.op=23\/i.op=24 then decide (0<=i.k)&&decide (i.k<=65536)
 else true
def uH(gl:List Int)(i:zo):Bool:=decide (1<=i.op)&&(decide (i.op<=26)&&(ZO i&&yn gl i))
def hasB(m:List (Int×aaa))(l:Int):Bool:=match ZJ m l with
 |some (.bool b)=>b
 |_=>false
def j6(gl:List Int):List zo->List (Int×aaa)->Bool->Option (List (Int×aaa)×Bool)
 |[],m,some?=>some (m,some?)
 |x::xs,m,some?=>if uH gl x=false then none else if x.op=20 then (if hasB m x.l=true then none else j6 gl xs (ZN m x.l (.bool true)) some?) else j6 gl xs m true
def Vu(n:Nat)(m:List (Int×aaa))(x:zo):Bool := !(decide (x.op=18\/x.op=19) && !hasB m x.l) && !(decide (x.op=21)&&(decide (x.sub<0)||decide ((n:Int)<=x.sub)))
def lB(n:Nat)(code:List zo):Option (List (Int×aaa)×Bool)->Bool
 |none=>false
 |some r=>code.all (Vu n r.1)&&r.2
def sG(p:Pg)(f:Fn):Bool := !decide (100000<(f.code.length:Int))&&lB p.funcs.length f.code (j6 p.globals f.code [] false)
def uR(p:Pg):Bool := !decide (p.main<0)&&(!decide ((p.funcs.length:Int)<=p.main)&&(!decide ((100:Int)<p.funcs.length)&&(!decide ((200:Int)<p.globals.length)&&(!decide (p.params<0) && !decide (6<p.params)))))
def wL(p:Pg):Bool:=uR p&&(p.globals.all (λn => !decide (n<0) && !decide (65536<n))&&p.funcs.all (sG p))
open Go.Rtl (z8 yS)
theorem qg{u v w:aaa}{h:za}{R:aaa->za->Prop}(ha:zR u=false)(hb:zR v=false)(hc:zR w=false):rv [u,v,w] h R=R (.tuple #[u,v,w]) h:=by
 apply propext;simp only[rv,yk,ha,hb,hc,aaH,xV,true_and]
theorem L1(a b c:Bool):Jf (.tuple #[.bool a,.bool b,.bool c]) 0=some (.bool a):=rfl
theorem L2(a b c:Bool):Jf (.tuple #[.bool a,.bool b,.bool c]) 1=some (.bool b):=rfl
theorem L3(a b c:Bool):Jf (.tuple #[.bool a,.bool b,.bool c]) 2=some (.bool c):=rfl
theorem Q4(k:Int)(h:za):vw pu 72 [pm k] h (.bool (Jo k)):=by
 apply z8;apply LD;unfold NG Jo;by_cases hk:k=IntKind.wrap .i64 (IntKind.wrap .i32 k)
 ·simp only[EE,ma,mc];simp[yS]
 ·simp only[EE,ma,mc];simp[yS]
theorem Sd(n:Int)(h:za):DC pu 88 [pm n] h (λv h1=>(∃a,v=.tuple #[pm a,.bool (ZI n)])/\h1=h):=by
 apply Lx;unfold Nt;by_cases h21:n=21
 ·subst h21;simp only[EE,↓BK,XW];exact⟨_,rfl⟩
 by_cases h22:n=22
 ·subst h22;simp only[EE,↓BK,Int.reduceEq,Vb,XW];exact⟨_,rfl⟩
 by_cases h23:n=23
 ·subst h23;simp only[EE,↓BK,Int.reduceEq,UQ,Vb,XW];exact⟨_,rfl⟩
 by_cases h24:n=24
 ·subst h24;simp only[EE,↓BK,Int.reduceEq,dD,KV,UQ,Vb,XW];exact⟨_,rfl⟩
 by_cases h25:n=25
 ·subst h25;simp only[EE,↓BK,Int.reduceEq,mR,dD,KV,UQ,Vb,XW];exact⟨_,rfl⟩
 by_cases h26:n=26
 ·subst h26;simp only[EE,↓BK,Int.reduceEq,KV,UQ,Vb,XW];exact⟨_,rfl⟩
 simp only[EE,↓BK,mR,dD,KV,UQ,Vb,XW,h21,h22,h23,h24,h25,h26];have e:ZI n=false:=by unfold ZI;simp;omega
 rw[e];exact⟨_,rfl⟩
theorem pd(n:Int)(h:za):vw pu 74 [pm n] h (.bool (ZI n)):=by
 apply z8;apply sg;unfold m9;refine KI (Sd n _) ?_;rintro v h1 ⟨⟨a,rfl⟩,rfl⟩;simp only[EE];rfl
theorem D5(n:Int)(h:za):vw pu 73 [pm n] h (.bool (kY n)):=by
 apply z8;apply NA;unfold TE;by_cases h11:n=11
 ·subst h11;simp only[EE,nth,↓BK,VX];rfl
 by_cases h12:n=12
 ·subst h12;simp only[EE,nth,↓BK,Int.reduceEq,QE,VX];rfl
 by_cases h13:n=13
 ·subst h13;simp only[EE,nth,↓BK,Int.reduceEq,JS,QE,VX];rfl
 by_cases h16:n=16
 ·subst h16;simp only[EE,nth,↓BK,Int.reduceEq,dP,JS,QE,VX];rfl
 by_cases h17:n=17
 ·subst h17;simp only[EE,nth,↓BK,Int.reduceEq,lS,dP,JS,QE,VX];rfl
 by_cases h18:n=18
 ·subst h18;simp only[EE,nth,↓BK,Int.reduceEq,lS,dP,JS,QE,VX];rfl
 simp only[EE,nth,↓BK,lS,dP,JS,QE,VX,h11,h12,h13,h16,h17,h18];have e:kY n=false:=by unfold kY;simp;omega
 rw[e];rfl
theorem SF(x:zo)(h:za):vw pu 87 [x.val] h (.tuple #[.bool (fW x.op),.bool (KF x.op),.bool (VA x.op)]):=by
 apply aG rfl;apply F7;unfold H2;obtain⟨op,r,m,sub,cc,l,k⟩:=x;by_cases h1:op=1
 ·subst h1;simp only[EE,nth,↓nw,Value.cells,↓BK,zu,zg,zc,vd,ve,qg];rfl
 by_cases h3:op=3
 ·subst h3;simp only[EE,nth,↓nw,Value.cells,↓BK,Int.reduceEq,zu,zg,zc,uq,vd,ve,qg];rfl
 by_cases h5:op=5
 ·subst h5;simp only[EE,nth,↓nw,Value.cells,↓BK,Int.reduceEq,zu,zg,zc,uJ,uq,vd,ve,qg];rfl
 by_cases h7:op=7
 ·subst h7;simp only[EE,nth,↓nw,Value.cells,↓BK,Int.reduceEq,zu,zg,zc,uV,uJ,uq,vd,ve,qg];rfl
 by_cases h10:op=10
 ·subst h10;simp only[EE,nth,↓nw,Value.cells,↓BK,Int.reduceEq,zu,zg,zc,uV,uJ,uq,vd,ve,qg];rfl
 by_cases h2:op=2
 ·subst h2;simp only[EE,nth,↓nw,Value.cells,↓BK,Int.reduceEq,zu,zg,zc,uV,uJ,uq,uW,uX,vd,ve,qg];rfl
 by_cases h6:op=6
 ·subst h6;simp only[EE,nth,↓nw,Value.cells,↓BK,Int.reduceEq,zu,zg,zc,uV,uJ,uq,qV,uW,uX,vd,ve,qg];rfl
 by_cases h8:op=8
 ·subst h8;simp only[EE,nth,↓nw,Value.cells,↓BK,Int.reduceEq,zu,zg,zc,uV,uJ,uq,jb,qV,uW,uX,vd,ve,qg];rfl
 by_cases h9:op=9
 ·subst h9;simp only[EE,nth,↓nw,Value.cells,↓BK,Int.reduceEq,zu,zg,zc,uV,uJ,uq,Za,jb,qV,uW,uX,vd,ve,qg];rfl
 by_cases h11:op=11
 ·subst h11;simp only[EE,nth,↓nw,Value.cells,↓BK,Int.reduceEq,zu,zg,zc,uV,uJ,uq,ZX,Za,jb,qV,uW,uX,vd,ve,qg];rfl
 by_cases h12:op=12
 ·subst h12;simp only[EE,nth,↓nw,Value.cells,↓BK,Int.reduceEq,zu,zg,zc,uV,uJ,uq,YO,ZX,Za,jb,qV,uW,uX,vd,ve,qg];rfl
 by_cases h17:op=17
 ·subst h17;simp only[EE,nth,↓nw,Value.cells,↓BK,Int.reduceEq,zu,zg,zc,uV,uJ,uq,YO,ZX,Za,jb,qV,uW,uX,vd,ve,qg];rfl
 by_cases h4:op=4
 ·subst h4;simp only[EE,nth,↓nw,Value.cells,↓BK,Int.reduceEq,zu,zg,zc,uV,uJ,uq,YO,ZX,Za,jb,qV,Xs,Xt,uW,uX,vd,ve,qg];rfl
 by_cases h15:op=15
 ·subst h15;simp only[EE,nth,↓nw,Value.cells,↓BK,Int.reduceEq,zu,zg,zc,uV,uJ,uq,YO,ZX,Za,jb,qV,Xs,Xt,uW,uX,vd,ve,qg];rfl
 by_cases h16:op=16
 ·subst h16;simp only[EE,nth,↓nw,Value.cells,↓BK,Int.reduceEq,zu,zg,zc,uV,uJ,uq,YO,ZX,Za,jb,qV,QL,Xs,Xt,uW,uX,vd,ve,qg];rfl
 by_cases h14:op=14
 ·subst h14;simp only[EE,nth,↓nw,Value.cells,↓BK,Int.reduceEq,zu,zg,zc,uV,uJ,uq,YO,ZX,Za,jb,qV,gu,QL,Xs,Xt,uW,uX,vd,ve,qg];rfl
 simp only[EE,nth,↓nw,Value.cells,↓BK,zu,zg,zc,uV,uJ,uq,YO,ZX,Za,jb,qV,gu,QL,Xs,Xt,uW,uX,vd,ve,qg,h1,h3,h5,h7,h10,h2,h6,h8,h9,h11,h12,h17,h4,h15,h16,h14];have e1:fW op=false:=by unfold fW;simp;omega
 have e2:KF op=false:=by unfold KF;simp;omega
 have e3:VA op=false:=by unfold VA;simp;omega
 rw[e1,e2,e3];rfl
theorem zdy{x:zo}{H:za}{b1:Nat}{B:Bool}{vs:List aaa}(g:H.get b1=some (.cells x.row 42))(hB:B=(decide (0<=x.m)&&(decide (x.m<16)&&(!decide (x.m=4)||u4 x.op)))):yA (pi b1) (yS B) vs H:=by
 obtain⟨op,r,m,sub,cc,l,k⟩:=x;simp only at hB g;by_cases o3:op=3
 ·subst o3;by_cases m0:0<=m
  ·by_cases m1:m<16
   ·by_cases m4:m=4
    ·simp only[EE,Int.reduceLT,Int.reduceLE,zu,zg,zc,yP,xc,xe,xf,xg,xh,xi,xj,xk,xo,yL,yA,g,m4];rw[hB];simp[yS,m4,u4]
    ·simp only[EE,zu,zg,zc,yP,xc,xe,xf,xg,xh,xi,xj,xk,xo,yL,yA,g,m0,m1,m4];rw[hB];simp[yS,m0,m1,m4,u4]
   ·simp only[EE,zu,zg,zc,yP,xc,xe,xf,xg,xh,xi,xj,xk,xo,yL,yA,g,m0,m1];rw[hB];simp[yS,m0,m1,u4]
  ·simp only[EE,zu,zg,zc,yP,xc,xe,xf,xg,xh,xi,xj,xk,xo,yL,yA,g,m0];rw[hB];simp[yS,m0,u4]
 by_cases o4:op=4
 ·subst o4;by_cases m0:0<=m
  ·by_cases m1:m<16
   ·by_cases m4:m=4
    ·simp only[EE,seval,zu,zg,zc,yP,xc,xe,xf,xg,xh,xi,xj,xk,xo,yL,yA,g,m4];rw[hB];simp[yS,m4,u4]
    ·simp only[EE,Int.reduceEq,zu,zg,zc,yP,xc,xe,xf,xg,xh,xi,xj,xk,xo,yL,yA,g,m0,m1,m4];rw[hB];simp[yS,m0,m1,m4,u4]
   ·simp only[EE,Int.reduceEq,zu,zg,zc,yP,xc,xe,xf,xg,xh,xi,xj,xk,xo,yL,yA,g,m0,m1];rw[hB];simp[yS,m0,m1,u4]
  ·simp only[EE,Int.reduceEq,zu,zg,zc,yP,xc,xe,xf,xg,xh,xi,xj,xk,xo,yL,yA,g,m0];rw[hB];simp[yS,m0,u4]
 by_cases o5:op=5
 ·subst o5;by_cases m0:0<=m
  ·by_cases m1:m<16
   ·by_cases m4:m=4
    ·simp only[EE,seval,zu,zg,zc,yP,xc,xe,xf,xg,xh,xi,xj,xk,xo,yL,yA,g,m4];rw[hB];simp[yS,m4,u4]
    ·simp only[EE,Int.reduceEq,zu,zg,zc,yP,xc,xe,xf,xg,xh,xi,xj,xk,xo,yL,yA,g,m0,m1,m4];rw[hB];simp[yS,m0,m1,m4,u4]
   ·simp only[EE,Int.reduceEq,zu,zg,zc,yP,xc,xe,xf,xg,xh,xi,xj,xk,xo,yL,yA,g,m0,m1];rw[hB];simp[yS,m0,m1,u4]
  ·simp only[EE,Int.reduceEq,zu,zg,zc,yP,xc,xe,xf,xg,xh,xi,xj,xk,xo,yL,yA,g,m0];rw[hB];simp[yS,m0,u4]
 by_cases o1:op=1
 ·subst o1;by_cases m0:0<=m
  ·by_cases m1:m<16
   ·by_cases m4:m=4
    ·simp only[EE,seval,zu,zg,zc,yP,xc,xe,xf,xg,xh,xi,xj,xk,xo,yL,yA,g,m4];rw[hB];simp[yS,m4,u4]
    ·simp only[EE,Int.reduceEq,zu,zg,zc,yP,xc,xe,xf,xg,xh,xi,xj,xk,xo,yL,yA,g,m0,m1,m4];rw[hB];simp[yS,m0,m1,m4,u4]
   ·simp only[EE,Int.reduceEq,zu,zg,zc,yP,xc,xe,xf,xg,xh,xi,xj,xk,xo,yL,yA,g,m0,m1];rw[hB];simp[yS,m0,m1,u4]
  ·simp only[EE,Int.reduceEq,zu,zg,zc,yP,xc,xe,xf,xg,xh,xi,xj,xk,xo,yL,yA,g,m0];rw[hB];simp[yS,m0,u4]
 have ef:u4 op=false:=by unfold u4;simp[o3,o4,o5,o1]
 by_cases m0:0<=m
 ·by_cases m1:m<16
  ·by_cases m4:m=4
   ·simp only[EE,Int.reduceLT,Int.reduceLE,zu,zg,zc,yP,xc,xe,xf,xg,xh,xi,xj,xk,xo,yL,yA,g,m4,o3,o4,o5,o1];rw[hB];simp[yS,m4,ef]
   ·simp only[EE,zu,zg,zc,yP,xc,xe,xf,xg,xh,xi,xj,xk,xo,yL,yA,g,m0,m1,m4,o3,o4,o5,o1];rw[hB];simp[yS,m0,m1,m4,ef]
  ·simp only[EE,zu,zg,zc,yP,xc,xe,xf,xg,xh,xi,xj,xk,xo,yL,yA,g,m0,m1,o3,o4,o5,o1];rw[hB];simp[yS,m0,m1,ef]
 ·simp only[EE,zu,zg,zc,yP,xc,xe,xf,xg,xh,xi,xj,xk,xo,yL,yA,g,m0,o3,o4,o5,o1];rw[hB];simp[yS,m0,ef]
theorem zcC{x:zo}{H:za}{b1:Nat}{B:Bool}{bad:Bool}{t10:Bool}(g:H.get b1=some (.cells x.row 42))(hb:(t10&&bad)=false)(hB:B=(!KF x.op||(decide (0<=x.m)&&(decide (x.m<16)&&(!decide (x.m=4)||u4 x.op)))))(v:aaa)(hv:t10=true->v=.bool bad)(h0:t10=false->True):u6 (.bool t10) (yS B) (.bool (KF x.op)) (pi b1) v H:=by
 have fin:∀vs,yA (pi b1) (yS B) vs H\/KF x.op=false:=λvs=>by
  cases hm:KF x.op with
  |false=>exact .inr rfl
  |true=>exact .inl (zdy g (by rw[hB,hm];rfl))
 cases t10 with
 |false=>
  cases hm:KF x.op with
  |false=>simp only[EE,u6];rw[hB,hm];rfl
  |true=>simp only[EE,nth,u6];rcases fin [.bool false] with q|q;exact q;rw[hm]at q;cases q
 |true=>
  have hbad:bad=false:=by simpa using hb
  subst hbad;rw[hv rfl];cases hm:KF x.op with
  |false=>simp only[EE,u6];rw[hB,hm];rfl
  |true=>simp only[EE,nth,u6];rcases fin [.bool false] with q|q;exact q;rw[hm]at q;cases q
theorem GS(x:zo)(h:za):vw pu 71 [x.val] h (.bool (ZO x)):=by
 apply z8;generalize h.lock=L;apply sj;unfold np;simp only[EE,↓nw,Value.cells,Nat.reduceAdd,jY,vu];refine VM (SF x _) ?_;have g:(L.push (.cells x.row 42)).get L.next=some (.cells x.row 42):=wQ;generalize L.push (.cells x.row 42)=H at g ⊢;obtain⟨op,r,m,sub,cc,l,k⟩:=x;simp only at g ⊢;cases hr:fW op with
 |false=>
  have hB:ZO ⟨op,r,m,sub,cc,l,k⟩=(!KF op||(decide (0<=m)&&(decide (m<16)&&(!decide (m=4)||u4 op)))):=by unfold ZO;simp only[hr,Bool.false_and,acj,abr]
  simp only[EE,kI,kJ,kK,kM,kN,kO,kP,kQ,L1,L2,L3];exact zcC (x:=⟨op,r,m,sub,cc,l,k⟩) (t10:=false) (bad:=false) g rfl hB _ (λq=>by cases q) (λ_=>trivial)
 |true=>
  have bad:∀{v},v=.bool true->ZO ⟨op,r,m,sub,cc,l,k⟩=false->u6 (.bool true) (yS (ZO ⟨op,r,m,sub,cc,l,k⟩)) (.bool (KF op)) (pi L.next) v H:=by
   rintro v rfl hf;rw[hf];simp only[EE,u6];rfl
  have good:∀{v},v=.bool false->(decide (r<0)||(decide (16<=r)||(VA op&&decide (r=4))))=false->u6 (.bool true) (yS (ZO ⟨op,r,m,sub,cc,l,k⟩)) (.bool (KF op)) (pi L.next) v H:=by
   rintro v rfl hf;have hB:ZO ⟨op,r,m,sub,cc,l,k⟩=(!KF op||(decide (0<=m)&&(decide (m<16)&&(!decide (m=4)||u4 op)))):=by unfold ZO;simp only[hr,hf,Bool.and_false,acj,abr]
   exact zcC (x:=⟨op,r,m,sub,cc,l,k⟩) (t10:=true) (bad:=false) g rfl hB _ (λ_=>rfl) (λq=>by cases q)
  by_cases r0:r<0
  ·simp only[EE,zu,zg,yy,kI,kJ,kK,kM,kN,kO,kP,kQ,g,L1,L2,L3,r0];exact bad rfl (by unfold ZO;simp[hr,r0])
  by_cases r1:r ≥ 16
  ·simp only[EE,zu,zg,yy,kI,kJ,kK,kM,kN,kO,kP,kQ,g,L1,L2,L3,r0,r1];exact bad rfl (by have r1:16<=r:=r1;unfold ZO;simp[hr,r1])
  have r1':¬16<=r:=r1;cases hw:VA op with
  |false=>
   simp only[EE,zu,zg,yy,kI,kJ,kK,kM,kN,kO,kP,kQ,g,L1,L2,L3,r0,r1];exact good rfl (by simp[r0,r1',hw])
  |true=>
   by_cases r4:r=4
   ·subst r4;simp only[EE,zu,zg,yy,kI,kJ,kK,kM,kN,kO,kP,kQ,g,L1,L2,L3,r0,r1];exact bad rfl (by unfold ZO;simp[hr,hw])
   ·simp only[EE,zu,zg,yy,kI,kJ,kK,kM,kN,kO,kP,kQ,g,L1,L2,L3,r0,r1,r4];exact good rfl (by simp[r0,r1',r4])
theorem vq{h:za}{sv:aaa}{zs:List Int}(S:zv h sv zs)(r:TypeId)(h':za):zF pu .len [22] r [sv] h'=some (pm zs.length,h'):=by
 rcases S with⟨rfl,rfl⟩|⟨b,off,cp,rfl,_⟩
 ·simp only[B8,abH]
 ·simp only[B8]
theorem qu{h:za}{sv:aaa}{zs:List Int}(S:zv h sv zs){i:Nat}{z:Int}(hz:zs[i]? = some z):∃b o c t,vG pu 22 sv (pm i)=some (.pointer (some ⟨b,o,none⟩))/\b<h.next/\h.get b=some (.cells c t)/\c[o]? = some (pm z):=by
 have hi:i<zs.length:=by
  rcases aaI i zs.length with q|q
  ·exact q
  ·rw[aas q]at hz;cases hz
 rcases S with⟨rfl,rfl⟩|⟨b,off,cp,rfl,hc⟩
 ·cases hz
 ·obtain⟨c,t,hb,hg,hat⟩:=hc (by intro e;subst e;cases hz);have h0:(0:Int)<=i:=by omega
  have h1:(i:Int)<(zs.length:Int):=by omega
  exact⟨b,off+i,c,t,by simp only[Wi,h0,h1,abZ,and_self,abI,abb],hb,hg,hat i z hz⟩
section
variable {gl:List Int}{gv:aaa}{H:za}{b:Nat}{B:Bool}{vs:List aaa}{x:zo}
theorem zdr{r m sub cc l k:Int}(g:H.get b=some (.cells (zo.row ⟨3,r,m,sub,cc,l,k⟩) 42))(S:zv H gv gl)(hB:B=yn gl ⟨3,r,m,sub,cc,l,k⟩):zl (pi b) (yS B) gv vs H:=by
 by_cases s1:sub=1
 ·subst s1;simp only[EE,nth,↓BK,zu,xP,zg,zc,zn,zC,qY,q9,kg,ki,kj,qw,zA,zl,g];refine VM (Q4 k _) ?_;simp only[EE];rw[hB];simp[yS,yn]
 by_cases s4:sub=4
 ·subst s4;simp only[EE,nth,↓BK,zu,xP,zg,zc,zn,zC,qY,q9,kg,ki,kj,qw,zA,zl,g,s1];refine VM (Q4 k _) ?_;simp only[EE];rw[hB];simp[yS,yn,s1]
 by_cases s8:sub=8
 ·subst s8;simp only[EE,nth,↓BK,zu,xP,zg,zc,zn,zC,qY,q9,kg,ki,kj,qw,zA,zl,g,s1,s4];refine VM (Q4 k _) ?_;simp only[EE];rw[hB];simp[yS,yn,s1,s4]
 simp only[EE,nth,↓BK,zu,zg,zc,zn,qY,q9,kg,ki,kj,qw,zA,zl,g,s1,s4,s8];rw[hB];simp[yS,yn,s1,s4,s8]
theorem zds{r m sub cc l k:Int}(g:H.get b=some (.cells (zo.row ⟨4,r,m,sub,cc,l,k⟩) 42))(S:zv H gv gl)(hB:B=yn gl ⟨4,r,m,sub,cc,l,k⟩):zl (pi b) (yS B) gv vs H:=by
 by_cases s1:sub=1
 ·subst s1;simp only[EE,nth,↓BK,Int.reduceEq,zu,xP,zg,zc,zn,zC,qY,q9,kg,ki,kj,qw,zA,zl,g];refine VM (Q4 k _) ?_;simp only[EE];rw[hB];simp[yS,yn]
 by_cases s4:sub=4
 ·subst s4;simp only[EE,nth,↓BK,Int.reduceEq,zu,xP,zg,zc,zn,zC,qY,q9,kg,ki,kj,qw,zA,zl,g,s1];refine VM (Q4 k _) ?_;simp only[EE];rw[hB];simp[yS,yn,s1]
 by_cases s8:sub=8
 ·subst s8;simp only[EE,nth,↓BK,Int.reduceEq,zu,xP,zg,zc,zn,zC,qY,q9,kg,ki,kj,qw,zA,zl,g,s1,s4];refine VM (Q4 k _) ?_;simp only[EE];rw[hB];simp[yS,yn,s1,s4]
 simp only[EE,nth,↓BK,Int.reduceEq,zu,zg,zc,zn,qY,q9,kg,ki,kj,qw,zA,zl,g,s1,s4,s8];rw[hB];simp[yS,yn,s1,s4,s8]
theorem zdt{r m sub cc l k:Int}(g:H.get b=some (.cells (zo.row ⟨5,r,m,sub,cc,l,k⟩) 42))(S:zv H gv gl)(hB:B=yn gl ⟨5,r,m,sub,cc,l,k⟩):zl (pi b) (yS B) gv vs H:=by
 simp only[EE,nth,↓BK,Int.reduceEq,zu,xP,zg,zc,zC,QC,zK,zA,zl,g];refine VM (Q4 k _) ?_;simp only[EE];rw[hB];simp[yS,yn]
theorem zcw{r m sub cc l k:Int}(g:H.get b=some (.cells (zo.row ⟨16,r,m,sub,cc,l,k⟩) 42))(S:zv H gv gl)(hB:B=yn gl ⟨16,r,m,sub,cc,l,k⟩):zl (pi b) (yS B) gv vs H:=by
 simp only[EE,nth,↓BK,Int.reduceEq,zu,xP,zg,zc,zC,QC,zK,zA,zl,g];refine VM (Q4 k _) ?_;simp only[EE];rw[hB];simp[yS,yn]
theorem zdu{r m sub cc l k:Int}(g:H.get b=some (.cells (zo.row ⟨6,r,m,sub,cc,l,k⟩) 42))(S:zv H gv gl)(hB:B=yn gl ⟨6,r,m,sub,cc,l,k⟩):zl (pi b) (yS B) gv vs H:=by
 have nl:=S.Kc;have hl:=vq S 3;by_cases s0:0<=sub
 ·by_cases s1:sub<(gl.length:Int)
  ·by_cases k0:0<=k
   ·obtain⟨z,hz⟩:∃z,gl[sub.toNat]? = some z:=⟨_,aag (by omega)⟩;obtain⟨bb,oo,c,t,ha,hbb,hgt,hat⟩:=qu S hz;rw[acf s0]at ha;have hd:gl.getD sub.toNat 0=z:=by rw[abd,hz];rfl
    by_cases k1:k<=z
    ·simp only[EE,nth,↓BK,Int.reduceEq,zu,xP,zg,zc,zn,zC,Yx,Yy,Yz,YA,ZS,ZT,ZU,ZV,ZW,zN,zK,zA,zl,g,nl,hl,s0,s1,k0,ha,hgt,hat,k1];rw[hB];simp only[yn,hd];simp[yS,s0,s1,k0,k1]
    ·simp only[EE,nth,↓BK,Int.reduceEq,zu,xP,zg,zc,zn,zC,Yx,Yy,Yz,YA,ZS,ZT,ZU,ZV,ZW,zN,zK,zA,zl,g,nl,hl,s0,s1,k0,ha,hgt,hat,k1];rw[hB];simp only[yn,hd];simp[yS,s0,s1,k0,k1]
   ·simp only[EE,nth,↓BK,Int.reduceEq,zu,xP,zg,zc,zn,zC,Yx,Yy,Yz,YA,ZS,ZT,ZU,ZV,ZW,zN,zK,zA,zl,g,nl,hl,s0,s1,k0];rw[hB];simp[yS,yn,s0,s1,k0]
  ·simp only[EE,nth,↓BK,Int.reduceEq,zu,zg,zc,zn,Yx,Yy,Yz,YA,ZS,ZT,ZU,ZV,ZW,zN,zK,zA,zl,g,nl,hl,s0,s1];rw[hB];simp[yS,yn,s0,s1]
 ·simp only[EE,nth,↓BK,Int.reduceEq,zu,zg,zc,zn,Yx,Yy,Yz,YA,ZS,ZT,ZU,ZV,ZW,zN,zK,zA,zl,g,s0];rw[hB];simp[yS,yn,s0]
theorem zdv{r m sub cc l k:Int}(g:H.get b=some (.cells (zo.row ⟨7,r,m,sub,cc,l,k⟩) 42))(S:zv H gv gl)(hB:B=yn gl ⟨7,r,m,sub,cc,l,k⟩):zl (pi b) (yS B) gv vs H:=by
 simp only[EE,nth,↓BK,Int.reduceEq,zu,zg,zc,zn,dE,zZ,zN,zK,zA,zl,g];refine VM (D5 sub _) ?_;simp only[EE];rw[hB];simp[yS,yn]
theorem zdw{r m sub cc l k:Int}(g:H.get b=some (.cells (zo.row ⟨8,r,m,sub,cc,l,k⟩) 42))(S:zv H gv gl)(hB:B=yn gl ⟨8,r,m,sub,cc,l,k⟩):zl (pi b) (yS B) gv vs H:=by
 simp only[EE,nth,↓BK,Int.reduceEq,zu,zg,zc,zn,yb,zZ,zN,zK,zA,zl,g];refine VM (D5 sub _) ?_;cases ha:kY sub with
 |false=>
  simp only[EE,Qz,QA];rw[hB];simp[yS,yn,ha]
 |true=>
  simp only[EE,zu,xP,zC,Qz,QA,g];refine VM (Q4 k _) ?_;simp only[EE];rw[hB];simp[yS,yn,ha]
theorem zdx{r m sub cc l k:Int}(g:H.get b=some (.cells (zo.row ⟨9,r,m,sub,cc,l,k⟩) 42))(S:zv H gv gl)(hB:B=yn gl ⟨9,r,m,sub,cc,l,k⟩):zl (pi b) (yS B) gv vs H:=by
 by_cases s1:sub=1
 ·subst s1;simp only[EE,nth,↓BK,Int.reduceEq,zu,zg,zc,zn,WG,WN,yf,yb,zZ,zN,zK,zA,zl,g];rw[hB];simp[yS,yn]
 by_cases s2:sub=2
 ·subst s2;simp only[EE,nth,↓BK,Int.reduceEq,zu,zg,zc,zn,WG,WN,yf,yb,zZ,zN,zK,zA,zl,g,s1];rw[hB];simp[yS,yn,s1]
 simp only[EE,nth,↓BK,Int.reduceEq,zu,zg,zc,zn,WG,WN,yf,yb,zZ,zN,zK,zA,zl,g,s1,s2];rw[hB];simp[yS,yn,s1,s2]
theorem zct{r m sub cc l k:Int}(g:H.get b=some (.cells (zo.row ⟨10,r,m,sub,cc,l,k⟩) 42))(S:zv H gv gl)(hB:B=yn gl ⟨10,r,m,sub,cc,l,k⟩):zl (pi b) (yS B) gv vs H:=by
 by_cases s3:sub=3
 ·subst s3;simp only[EE,nth,↓BK,Int.reduceEq,zu,zg,zc,zn,WH,WM,yr,yf,yb,zZ,zN,zK,zA,zl,g];rw[hB];simp[yS,yn]
 by_cases s4:sub=4
 ·subst s4;simp only[EE,nth,↓BK,Int.reduceEq,zu,zg,zc,zn,WH,WM,yr,yf,yb,zZ,zN,zK,zA,zl,g,s3];rw[hB];simp[yS,yn,s3]
 simp only[EE,nth,↓BK,Int.reduceEq,zu,zg,zc,zn,WH,WM,yr,yf,yb,zZ,zN,zK,zA,zl,g,s3,s4];rw[hB];simp[yS,yn,s3,s4]
theorem zcv{r m sub cc l k:Int}(g:H.get b=some (.cells (zo.row ⟨12,r,m,sub,cc,l,k⟩) 42))(S:zv H gv gl)(hB:B=yn gl ⟨12,r,m,sub,cc,l,k⟩):zl (pi b) (yS B) gv vs H:=by
 by_cases s19:sub=19
 ·subst s19;simp only[EE,nth,↓BK,Int.reduceEq,zu,zg,zc,zn,WI,WL,wN,yM,yr,yf,yb,zZ,zN,zK,zA,zl,g];rw[hB];simp[yS,yn]
 by_cases s20:sub=20
 ·subst s20;simp only[EE,nth,↓BK,Int.reduceEq,zu,zg,zc,zn,WI,WL,wN,yM,yr,yf,yb,zZ,zN,zK,zA,zl,g,s19];rw[hB];simp[yS,yn,s19]
 simp only[EE,nth,↓BK,Int.reduceEq,zu,zg,zc,zn,WI,WL,wN,yM,yr,yf,yb,zZ,zN,zK,zA,zl,g,s19,s20];rw[hB];simp[yS,yn,s19,s20]
theorem zcu{r m sub cc l k:Int}(g:H.get b=some (.cells (zo.row ⟨11,r,m,sub,cc,l,k⟩) 42))(S:zv H gv gl)(hB:B=yn gl ⟨11,r,m,sub,cc,l,k⟩):zl (pi b) (yS B) gv vs H:=by
 by_cases s19:sub=19
 ·subst s19;by_cases k0:0<=k
  ·by_cases k1:k<=63
   ·simp only[EE,nth,↓BK,Int.reduceEq,zu,xP,zg,zc,zn,zC,qZ,q8,ka,kd,ke,kh,yM,yr,yf,yb,zZ,zN,zK,zA,zl,g,k0,k1];rw[hB];simp[yS,yn,k0,k1]
   ·simp only[EE,nth,↓BK,Int.reduceEq,zu,xP,zg,zc,zn,zC,qZ,q8,ka,kd,ke,kh,yM,yr,yf,yb,zZ,zN,zK,zA,zl,g,k0,k1];rw[hB];simp[yS,yn,k0,k1]
  ·simp only[EE,nth,↓BK,Int.reduceEq,zu,xP,zg,zc,zn,zC,qZ,q8,ka,kd,ke,kh,yM,yr,yf,yb,zZ,zN,zK,zA,zl,g,k0];rw[hB];simp[yS,yn,k0]
 by_cases s20:sub=20
 ·subst s20;by_cases k0:0<=k
  ·by_cases k1:k<=63
   ·simp only[EE,nth,↓BK,Int.reduceEq,zu,xP,zg,zc,zn,zC,qZ,q8,ka,kd,ke,kh,yM,yr,yf,yb,zZ,zN,zK,zA,zl,g,s19,k0,k1];rw[hB];simp[yS,yn,s19,k0,k1]
   ·simp only[EE,nth,↓BK,Int.reduceEq,zu,xP,zg,zc,zn,zC,qZ,q8,ka,kd,ke,kh,yM,yr,yf,yb,zZ,zN,zK,zA,zl,g,s19,k0,k1];rw[hB];simp[yS,yn,s19,k0,k1]
  ·simp only[EE,nth,↓BK,Int.reduceEq,zu,xP,zg,zc,zn,zC,qZ,q8,ka,kd,ke,kh,yM,yr,yf,yb,zZ,zN,zK,zA,zl,g,s19,k0];rw[hB];simp[yS,yn,s19,k0]
 simp only[EE,nth,↓BK,Int.reduceEq,zu,zg,zc,zn,qZ,q8,ka,kd,ke,kh,yM,yr,yf,yb,zZ,zN,zK,zA,zl,g,s19,s20];rw[hB];simp[yS,yn,s19,s20]
theorem zcx{r m sub cc l k:Int}(g:H.get b=some (.cells (zo.row ⟨17,r,m,sub,cc,l,k⟩) 42))(S:zv H gv gl)(hB:B=yn gl ⟨17,r,m,sub,cc,l,k⟩):zl (pi b) (yS B) gv vs H:=by
 simp only[EE,nth,↓BK,Int.reduceEq,zu,zg,zc,aj,QB,vF,wN,yM,yr,yf,yb,zZ,zN,zK,zA,zl,g];refine VM (pd cc _) ?_;simp only[EE];rw[hB];simp[yS,yn]
theorem zcy{r m sub cc l k:Int}(g:H.get b=some (.cells (zo.row ⟨19,r,m,sub,cc,l,k⟩) 42))(S:zv H gv gl)(hB:B=yn gl ⟨19,r,m,sub,cc,l,k⟩):zl (pi b) (yS B) gv vs H:=by
 simp only[EE,nth,↓BK,Int.reduceEq,zu,zg,zc,aj,QB,vF,wN,yM,yr,yf,yb,zZ,zN,zK,zA,zl,g];refine VM (pd cc _) ?_;simp only[EE];rw[hB];simp[yS,yn]
theorem zcz{r m sub cc l k:Int}(g:H.get b=some (.cells (zo.row ⟨20,r,m,sub,cc,l,k⟩) 42))(S:zv H gv gl)(hB:B=yn gl ⟨20,r,m,sub,cc,l,k⟩):zl (pi b) (yS B) gv vs H:=by
 by_cases k0:0<=l
 ·by_cases k1:l<=10000000
  ·simp only[EE,nth,↓BK,Int.reduceEq,zu,zg,zc,xw,WJ,WK,uC,vF,wN,yM,yr,yf,yb,zZ,zN,zK,zA,zl,g,k0,k1];rw[hB];simp[yS,yn,k0,k1]
  ·simp only[EE,nth,↓BK,Int.reduceEq,zu,zg,zc,xw,WJ,WK,uC,vF,wN,yM,yr,yf,yb,zZ,zN,zK,zA,zl,g,k0,k1];rw[hB];simp[yS,yn,k0,k1]
 ·simp only[EE,nth,↓BK,Int.reduceEq,zu,zg,zc,xw,WJ,WK,uC,vF,wN,yM,yr,yf,yb,zZ,zN,zK,zA,zl,g,k0];rw[hB];simp[yS,yn,k0]
theorem zcA{r m sub cc l k:Int}(g:H.get b=some (.cells (zo.row ⟨23,r,m,sub,cc,l,k⟩) 42))(S:zv H gv gl)(hB:B=yn gl ⟨23,r,m,sub,cc,l,k⟩):zl (pi b) (yS B) gv vs H:=by
 by_cases k0:0<=k
 ·by_cases k1:k<=65536
  ·simp only[EE,nth,↓BK,Int.reduceEq,zu,xP,zg,zc,zC,jI,jJ,kf,uC,vF,wN,yM,yr,yf,yb,zZ,zN,zK,zA,zl,g,k0,k1];rw[hB];simp[yS,yn,k0,k1]
  ·simp only[EE,nth,↓BK,Int.reduceEq,zu,xP,zg,zc,zC,jI,jJ,kf,uC,vF,wN,yM,yr,yf,yb,zZ,zN,zK,zA,zl,g,k0,k1];rw[hB];simp[yS,yn,k0,k1]
 ·simp only[EE,nth,↓BK,Int.reduceEq,zu,xP,zg,zc,zC,jI,jJ,kf,uC,vF,wN,yM,yr,yf,yb,zZ,zN,zK,zA,zl,g,k0];rw[hB];simp[yS,yn,k0]
theorem zcB{r m sub cc l k:Int}(g:H.get b=some (.cells (zo.row ⟨24,r,m,sub,cc,l,k⟩) 42))(S:zv H gv gl)(hB:B=yn gl ⟨24,r,m,sub,cc,l,k⟩):zl (pi b) (yS B) gv vs H:=by
 by_cases k0:0<=k
 ·by_cases k1:k<=65536
  ·simp only[EE,nth,↓BK,Int.reduceEq,zu,xP,zg,zc,zC,jI,jJ,kf,uC,vF,wN,yM,yr,yf,yb,zZ,zN,zK,zA,zl,g,k0,k1];rw[hB];simp[yS,yn,k0,k1]
  ·simp only[EE,nth,↓BK,Int.reduceEq,zu,xP,zg,zc,zC,jI,jJ,kf,uC,vF,wN,yM,yr,yf,yb,zZ,zN,zK,zA,zl,g,k0,k1];rw[hB];simp[yS,yn,k0,k1]
 ·simp only[EE,nth,↓BK,Int.reduceEq,zu,xP,zg,zc,zC,jI,jJ,kf,uC,vF,wN,yM,yr,yf,yb,zZ,zN,zK,zA,zl,g,k0];rw[hB];simp[yS,yn,k0]
theorem zaN(g:H.get b=some (.cells x.row 42))(S:zv H gv gl)(hB:B=yn gl x):zl (pi b) (yS B) gv vs H:=by
 obtain⟨op,r,m,sub,cc,l,k⟩:=x;by_cases o3:op=3
 ·subst o3;exact zdr g S hB
 by_cases o4:op=4
 ·subst o4;exact zds g S hB
 by_cases o5:op=5
 ·subst o5;exact zdt g S hB
 by_cases o16:op=16
 ·subst o16;exact zcw g S hB
 by_cases o6:op=6
 ·subst o6;exact zdu g S hB
 by_cases o7:op=7
 ·subst o7;exact zdv g S hB
 by_cases o8:op=8
 ·subst o8;exact zdw g S hB
 by_cases o9:op=9
 ·subst o9;exact zdx g S hB
 by_cases o10:op=10
 ·subst o10;exact zct g S hB
 by_cases o11:op=11
 ·subst o11;exact zcu g S hB
 by_cases o12:op=12
 ·subst o12;exact zcv g S hB
 by_cases o17:op=17
 ·subst o17;exact zcx g S hB
 by_cases o19:op=19
 ·subst o19;exact zcy g S hB
 by_cases o20:op=20
 ·subst o20;exact zcz g S hB
 by_cases o23:op=23
 ·subst o23;exact zcA g S hB
 by_cases o24:op=24
 ·subst o24;exact zcB g S hB
 simp only[EE,nth,↓BK,zu,zg,zc,kf,uC,vF,wN,yM,yr,yf,yb,zZ,zN,zK,zA,zl,g,o3,o4,o5,o16,o6,o7,o8,o9,o10,o11,o12,o17,o19,o20,o23,o24];rw[hB];simp[yS,yn,o3,o4,o5,o16,o6,o7,o8,o9,o10,o11,o12,o17,o19,o20,o23,o24]
theorem ib(S:zv H gv gl):vw pu 34 [x.val,gv] H (.bool (uH gl x)):=by
 apply z8;replace S:=S.lock;generalize H.lock=L at S;apply Bj;unfold sX;have nl:=S.Kc;simp only[EE,↓nw,Value.cells,zu,zg,zc];have S2:=S.old (Old.push L (.cells x.row 42));have g:(L.push (.cells x.row 42)).get L.next=some (.cells x.row 42):=wQ;generalize L.push (.cells x.row 42)=G at g S2 ⊢;obtain⟨op,r,m,sub,cc,l,k⟩:=x;simp only at g ⊢;by_cases o1:op<1
 ·have e:uH gl ⟨op,r,m,sub,cc,l,k⟩=false:=by have q:¬1<=op:=by omega
                                             unfold uH;simp[q]
  simp only[EE,Y6,WO,WQ,o1];rw[e];rfl
 by_cases o2:op>26
 ·have e:uH gl ⟨op,r,m,sub,cc,l,k⟩=false:=by have q:¬op<=26:=by omega
                                             unfold uH;simp[q]
  simp only[EE,zu,zg,zc,Y6,WO,WQ,g,o1,o2];rw[e];rfl
 simp only[EE,Nat.reduceAdd,jY,zu,zg,vu,zc,WO,WQ,g,o1,o2];refine VM (GS ⟨op,r,m,sub,cc,l,k⟩ G) ?_
 have e:uH gl ⟨op,r,m,sub,cc,l,k⟩=(ZO ⟨op,r,m,sub,cc,l,k⟩&&yn gl ⟨op,r,m,sub,cc,l,k⟩):=by
  have q1:1<=op:=by omega
  have q2:op<=26:=by omega
  unfold uH;simp only[q1,q2,decide_true,abr]
 cases hr:ZO ⟨op,r,m,sub,cc,l,k⟩ with
 |false=>
  simp only[EE,Y6];rw[e,hr];rfl
 |true=>
  simp only[EE,Y6];exact zaN (x:=⟨op,r,m,sub,cc,l,k⟩) g S2 (by rw[e,hr];rfl)
end
open Go.Rtl (inc Gl Z1 W2 QW get_some)
section
variable {h:za}{sv:aaa}{rows:List (List aaa)}
theorem vp(S:zE h sv 7 rows){i:Nat}{r:List aaa}(hr:rows[i]? = some r)(hn:r.length=7):∃b o c t,vG pu 48 sv (pm i)=some (.pointer (some ⟨b,o,none⟩))/\b<h.next/\h.get b=some (.cells c t)/\o+7<=c.length/\(c.drop o).take 7=r /\ ∀k,k<7->c[o+k]? = r[k]?:=by
 obtain⟨b,o,c,t,⟨off,cp,rfl,rfl⟩,hi,hb,hg,hl,ht,hk⟩:=S.spot hr hn;have h1:0<=(i:Int)/\(i:Int)<(rows.length:Int):=by omega
 exact⟨b,off+i*7,c,t,by simp only[Um,h1,abb,and_self,abZ],hb,hg,hl,ht,hk⟩
theorem We(S:zE h sv 2 rows){i:Nat}{r:List aaa}(hr:rows[i]? = some r)(hn:r.length=2):∃b o c t,vG pu 23 sv (pm i)=some (.pointer (some ⟨b,o,none⟩))/\b<h.next/\h.get b=some (.cells c t)/\o+2<=c.length/\(c.drop o).take 2=r /\ ∀k,k<2->c[o+k]? = r[k]?:=by
 obtain⟨b,o,c,t,⟨off,cp,rfl,rfl⟩,hi,hb,hg,hl,ht,hk⟩:=S.spot hr hn;have h1:0<=(i:Int)/\(i:Int)<(rows.length:Int):=by omega
 exact⟨b,off+i*2,c,t,by simp only[Ul,h1,abb,and_self,abZ],hb,hg,hl,ht,hk⟩
theorem x8{l:List zo}{n:Nat}(S:zE h sv n (l.map zo.row))(r:TypeId)(h':za):zF pu .len [48] r [sv] h'=some (pm l.length,h'):=by
 rcases S with⟨rfl,e⟩|⟨b,off,cp,rfl,_⟩
 ·have:l=[]:=by simpa using e
  subst this;simp only[Yv,abH]
 ·simp only[Yv,aaq]
theorem kU{l:List Fn}{n:Nat}(S:zE h sv n (l.map Fn.row))(r:TypeId)(h':za):zF pu .len [23] r [sv] h'=some (pm l.length,h'):=by
 rcases S with⟨rfl,e⟩|⟨b,off,cp,rfl,_⟩
 ·have:l=[]:=by simpa using e
  subst this;simp only[Yu,abH]
 ·simp only[Yu,aaq]
end
theorem mk1(h:za):(wV h).1=.map (some h.next):=rfl
theorem mk2(h:za):(wV h).2=h.push (Yh []):=rfl
theorem kt3:yd pu (underlying 3)=some (.int .i64):=by kernel_rfl
theorem ktB:yd pu (underlying 115)=some (.map 3 4):=by kernel_rfl
theorem zrB:kX pu 4=some (.bool false):=by kernel_rfl
def oV(m:List (Int×aaa)):Prop := ∀k v,ZJ m k=some v->v=.bool true
theorem zcN{h:za}{b:Nat}{m:List (Int×aaa)}(hb:oV m)(g:h.get b=some (Yh m))(k:Int):Zg pu 115 (.map (some b)) (pm k) false h=some (.bool (hasB m k)):=by
 rw[E2 ktB kt3 zrB g k false];unfold hasB;cases e:ZJ m k with
 |none=>rfl
 |some v=>rw[hb k v e];rfl
theorem L7{m:List (Int×aaa)}(hb:oV m)(k:Int):oV (ZN m k (.bool true)):=by
 intro k' v e;rw[Js]at e;by_cases q:k=k'
 ·rw[aah q]at e;exact(abg e).symm
 ·rw[aae q]at e;exact hb k' v e
theorem fQ(gl:List Int):∀(xs ys:List zo) (m:List (Int×aaa)) (s:Bool),j6 gl (xs++ys) m s=(j6 gl xs m s).bind λr=>j6 gl ys r.1 r.2
 |[],ys,m,s=>rfl
 |x::xs,ys,m,s=>by
  show(if uH gl x=false then none else if x.op=20 then (if hasB m x.l=true then none else j6 gl (xs++ys) _ s) else j6 gl (xs++ys) m true)=Option.bind (if uH gl x=false then none else if x.op=20 then (if hasB m x.l=true then none else j6 gl xs _ s) else j6 gl xs m true) _;rw[fQ gl xs,fQ gl xs]
  repeat' split
  all_goals rfl
theorem Kn(gl:List Int):∀(xs:List zo) (m:List (Int×aaa)) (s:Bool) {r:List (Int×aaa)×Bool},oV m->j6 gl xs m s=some r->oV r.1
 |[],m,s,r,hb,e=>by cases e;exact hb
 |x::xs,m,s,r,hb,e=>by
  have e:(if uH gl x=false then none else if x.op=20 then (if hasB m x.l=true then none else j6 gl xs _ s) else j6 gl xs m true)=some r:=e;split at e
  ·cases e
  split at e
  ·split at e
   ·cases e
   ·exact Kn gl xs _ _ (L7 hb _) e
  ·exact Kn gl xs _ _ hb e
section
variable {h:za}{p:Pg}{f:Fn}
theorem GR(P:uQ h p)(hf:f∈p.funcs):vw pu 46 [p.val,f.val] h (.bool (sG p f)):=by
 apply z8;replace P:=P.lock;generalize h.lock=L at P;apply UP;intro wf;apply si;unfold nn;have F:=P.fns f hf;have s0:Sat (.of L) L []:=Sat.self wf.2;have RP:Rd (.of L) (uQ · p):=Rd.of (yH.Wx L) P λh' o=>P.old o;have gvn:=P.globals.Kc;have fvn:=P.funcs.Kc;have cvn:=F.code.Kc;have cvc:=F.code.Au;have gvc:=P.globals.Au;have fvc:=P.funcs.Au;have cl:=λH=>x8 F.code 3 H;have fl:=λH=>kU P.funcs 3 H;simp only[EE,Value.cells];refine vR s0 λb2 h2 s2=>?_;simp only[];refine vR s2 λb3 h4 s4=>?_;have g3:=s4.get;simp only[EE,zu,qd,wP,cvn,g3,cl];by_cases c1:(f.code.length:Int)>100000
 ·simp only[EE,c1];have:sG p f=false:=by unfold sG;simp[show(100000:Int)<f.code.length from c1]
  rw[this];rfl
 have c1':¬(100000:Int)<f.code.length:=c1;have hB:sG p f=lB p.funcs.length f.code (j6 p.globals f.code [] false):=by unfold sG;rw[aaT c1'];rfl
 simp only[EE,zu,qd,wP,bp,c1];have sm:=s4.push (Yh []);have gm3:=(sm.p 1).get;simp only[EE,nth,↓zB,mk2,gm3,cvn,cl];generalize hmb:h4.next=mb at sm gm3 ⊢;generalize h4.push (Yh [])=h5 at sm gm3 ⊢
 have bad:∀n m s,j6 p.globals (f.code.take n) m s=none->j6 p.globals f.code m s=none:=λn m s e=>by
  rw[<- abl n f.code,fQ,e];rfl
 refine kW (λn vs h'=>∃(i:Nat) (m:List (Int×aaa)) (more:Bool) (v0:aaa),i<=f.code.length/\n=f.code.length-i/\vs=[v0,.bool more,pm (i:Nat)]/\j6 p.globals (f.code.take i) [] false=some (m,more)/\Sat (.of L) h' [pt mb (Yh m),pt b3 (.cells f.row 50),pt b2 (.cells p.row 25)])
  f.code.length ⟨0,[],false,.bool false,aaS _,rfl,rfl,rfl,sm⟩ ?_
 rintro n vs h' ⟨i,m,more,v0,hi,rfl,rfl,hscan,s⟩;unfold dX;by_cases hc:(i:Int)<(f.code.length:Int)
 ·obtain⟨x,hx,hxm⟩:=get_some (l:=f.code) (k:=i) (by omega);have F2:=(RP.at s).fns f hf;obtain⟨bi,oi,ci,ti,ha,hbi,hgi,hle,htk,_⟩:=vp F2.code (i:=i) (r:=x.row) (by rw[aay,hx];rfl) rfl;have et:f.code.take (i+1)=f.code.take i++[x]:=by rw[abw,hx];rfl
  have hsn:=fQ p.globals (f.code.take i) [x] [] false;rw[<- et,hscan]at hsn;have hsn:j6 p.globals (f.code.take (i+1)) [] false=if uH p.globals x=false then none else if x.op=20 then (if hasB m x.l=true then none else some (ZN m x.l (.bool true),more)) else some (m,true):=hsn;have no:j6 p.globals (f.code.take (i+1)) [] false=none->sG p f=false:=λe=>by rw[hB,bad _ _ _ e];rfl
  simp only[EE,nth,Value.cells,↓zB,jY,vu,uM,dW,hc,ha,hgi,hle,htk];refine vR s λb8 h6 s6=>?_;simp only[EE,Nat.reduceAdd,yV];refine zY s6 (by simp) rfl λh7 s7=>?_;have g8:=s7.get;have g2:=(s7.p 3).get;simp only[EE,zt,Nat.reduceAdd,jY,zu,wi,vu,xp,g8,g2];refine gZ (by simp only[yk,gvn,aaH];rfl) (ib (x:=x) (RP.at s7).globals) ?_;cases hI:uH p.globals x with
  |false=>
   simp only[EE];rw[no (by rw[hsn,aah hI])];rfl
  |true=>
   rw[aae (by rw[hI];simp)]at hsn;simp only[EE,zt,Nat.reduceAdd,zu,zg,zc,dV,g8];by_cases o20:x.op=20
   ·rw[aah o20]at hsn;have lk:=zcN (Kn p.globals _ _ _ (λk v e=>by cases e) hscan) (s7.p 1).get x.l;simp only[EE,zt,Nat.reduceAdd,zu,zg,xw,dU,g8,o20,mk1,hmb,lk];cases hl:hasB m x.l with
    |true=>
     simp only[EE];rw[no (by rw[hsn,aah hl])];rfl
    |false=>
     rw[aae (by rw[hl];simp)]at hsn;have up:=rX (v := .bool true) ktB kt3 (s7.p 1).get (s7.p 1).wr x.l;simp only[EE,nth,zt,Nat.reduceAdd,zu,zg,xw,dS,QK,g8,mk1,hmb,up,inc (show i<4611686018427387904 by have:=F.Gu;omega)];exact⟨f.code.length-(i+1),by omega,i+1,_,_,_,by omega,rfl,rfl,hsn,((s7.p 1).set _).k [0,2,3]⟩
   ·rw[aae o20]at hsn;simp only[EE,nth,QK,o20,inc (show i<4611686018427387904 by have:=F.Gu;omega)];exact⟨f.code.length-(i+1),by omega,i+1,_,_,_,by omega,rfl,rfl,hsn,s7.k [1,2,3]⟩
 ·have hi9:i=f.code.length:=by omega
  subst hi9;rw[abD]at hscan;rw[hscan]at hB;have hB:sG p f=(f.code.all (Vu p.funcs.length m)&&more):=hB;have g3:=(s.p 1).get;simp only[EE,nth,hc];simp only[EE,nth,↓zB,zu,qd,wP,bm,g3,cvn,cl];have hbm:=Kn p.globals _ _ _ (λk v e=>by cases e) hscan
  refine kW (λn vs h'=>∃(i:Nat) (v0:aaa),i<=f.code.length/\n=f.code.length-i/\vs=[v0,pm (i:Nat)]/\(∀k,k<i->Gl f.code (Vu p.funcs.length m) k=true)/\Sat (.of L) h' [pt mb (Yh m),pt b3 (.cells f.row 50),pt b2 (.cells p.row 25)])
   f.code.length ⟨0,v0,aaS _,rfl,rfl,λk hk=>by omega,s⟩ ?_
  rintro n vs h' ⟨i,v0,hi,rfl,rfl,hall,s⟩;unfold bk;by_cases hc:(i:Int)<(f.code.length:Int)
  ·obtain⟨x,hx,hxm⟩:=get_some (l:=f.code) (k:=i) (by omega);have F2:=(RP.at s).fns f hf;obtain⟨bi,oi,ci,ti,ha,hbi,hgi,hle,htk,_⟩:=vp F2.code (i:=i) (r:=x.row) (by rw[aay,hx];rfl) rfl;have no:Vu p.funcs.length m x=false->sG p f=false:=λe=>by rw[hB,W2 hx e];rfl
   have go:Vu p.funcs.length m x=true->∀k,k<i+1->Gl f.code (Vu p.funcs.length m) k=true:=λe k hk=>by
    by_cases q:k=i
    ·subst q;rw[QW hx];exact e
    ·exact hall k (by omega)
   have hin:=inc (show i<4611686018427387904 by have:=F.Gu;omega);simp only[EE,nth,Value.cells,↓zB,jY,vu,uM,bj,hc,ha,hgi,hle,htk];refine vR s λb10 h6 s6=>?_;simp only[EE,Nat.reduceAdd,yV];refine zY s6 (by simp) rfl λh7 s7=>?_;have sJ:=s7.get;have g2:=(s7.p 3).get;have lk:=zcN hbm (s7.p 1).get x.l
   have fin:(∀v,Vu p.funcs.length m x=true->∃m1,m1<f.code.length-i /\ ∃(i':Nat) (v0:aaa),i'<=f.code.length/\m1=f.code.length-i' /\ [v,pm ((i+1:Nat):Int)]=[v0,Value.int .i64 (i':Nat)]/\(∀k,k<i'->Gl f.code (Vu p.funcs.length m) k=true)/\Sat (.of L) h7 [pt mb (Yh m),pt b3 (.cells f.row 50),pt b2 (.cells p.row 25)]) :=
    λv e=>⟨f.code.length-(i+1),by omega,i+1,v,by omega,rfl,rfl,go e,s7.k [1,2,3]⟩
   by_cases o18:x.op=18
   ·have hh:Vu p.funcs.length m x=hasB m x.l:=(by unfold Vu;simp[o18]);simp only[EE,↓zB,zt,Nat.reduceAdd,zu,zg,zc,xw,kD,kE,kF,kG,kH,sJ,o18,mk1,hmb,lk];cases hl:hasB m x.l with
    |false=>simp only[EE];rw[no (by rw[hh,hl])];rfl
    |true=>
     simp only[EE,nth,zt,Nat.reduceAdd,Int.reduceEq,zu,zg,zc,jP,jQ,jR,kx,kA,kB,kC,Ya,sJ,o18,hin];exact fin _ (by rw[hh,hl])
   by_cases o19:x.op=19
   ·have hh:Vu p.funcs.length m x=hasB m x.l:=(by unfold Vu;simp[o19]);simp only[EE,↓zB,zt,Nat.reduceAdd,Int.reduceEq,zu,zg,zc,xw,kD,kE,kF,kG,kH,sJ,o19,mk1,hmb,lk];cases hl:hasB m x.l with
    |false=>simp only[EE];rw[no (by rw[hh,hl])];rfl
    |true=>
     simp only[EE,nth,zt,Nat.reduceAdd,Int.reduceEq,zu,zg,zc,jP,jQ,jR,kx,kA,kB,kC,Ya,sJ,o19,hin];exact fin _ (by rw[hh,hl])
   by_cases o21:x.op=21
   ·by_cases s0:x.sub<0
    ·simp only[EE,↓zB,zt,Nat.reduceAdd,Int.reduceEq,zu,zg,zc,zn,jP,jQ,jR,kx,kA,kB,kC,kD,kE,kF,kG,kH,sJ,o21,s0];rw[no (by unfold Vu;simp[o21,s0])];rfl
    by_cases s1:x.sub ≥ (p.funcs.length:Int)
    ·simp only[EE,↓zB,zt,Nat.reduceAdd,Int.reduceEq,zu,vI,zg,yO,zc,zn,jP,jQ,jR,kx,kA,kB,kC,kD,kE,kF,kG,kH,sJ,g2,fvn,fl,o21,s0,s1];rw[no (by have s1:(p.funcs.length:Int)<=x.sub:=s1;unfold Vu;simp[o21,s1])];rfl
    simp only[EE,nth,↓zB,zt,Nat.reduceAdd,Int.reduceEq,zu,vI,zg,yO,zc,zn,jP,jQ,jR,kx,kA,kB,kC,kD,kE,kF,kG,kH,Ya,sJ,g2,fvn,fl,o21,s0,s1,hin];exact fin _ (by have s1:¬(p.funcs.length:Int)<=x.sub:=s1;unfold Vu;simp[o21,s0,s1])
   simp only[EE,nth,↓zB,zt,Nat.reduceAdd,zu,zg,zc,jP,jQ,jR,kx,kA,kB,kC,kD,kE,kF,kG,kH,Ya,sJ,o18,o19,o21,hin];exact fin _ (by unfold Vu;simp[o18,o19,o21])
  ·have hi9:i=f.code.length:=by omega
   subst hi9;simp only[EE,nth,hc];rw[hB,Z1 hall];simp[yS]
end
def BX(n:Int):Bool := !decide (n<0) && !decide (65536<n)
section
variable {p:Pg}
theorem zdp{lo:yH}{H:za}{b1:Nat}{vs:List aaa}(RP:Rd lo (uQ · p))(s:Sat lo H [pt b1 (.cells p.row 25)]){B:Bool}(hB:B=p.funcs.all (sG p)):fY (pi b1) (yS B) vs H:=by
 have P:=RP.at s;have g1:=s.get;have fvn:=P.funcs.Kc;have fl:=λh'=>kU P.funcs 3 h';unfold fY;simp only[EE,↓zB,zu,vI,yO,g1,fvn,fl]
 refine kW (λn vs h'=>∃(i:Nat) (v0:aaa),i<=p.funcs.length/\n=p.funcs.length-i/\vs=[v0,pm (i:Nat)]/\(∀k,k<i->Gl p.funcs (sG p) k=true)/\Sat lo h' [pt b1 (.cells p.row 25)])
  p.funcs.length ⟨0,nth vs 0,aaS _,rfl,rfl,λk hk=>by omega,s⟩ ?_
 rintro n vs h' ⟨i,v0,hi,rfl,rfl,hall,s⟩;unfold CW;by_cases hc:(i:Int)<(p.funcs.length:Int)
 ·obtain⟨f,hf,hfm⟩:=get_some (l:=p.funcs) (k:=i) (by omega);obtain⟨bi,oi,ci,ti,ha,hbi,hgi,hle,htk,_⟩:=We (RP.at s).funcs (i:=i) (r:=f.row) (by rw[aay,hf];rfl) rfl;have cvn:=(P.fns f hfm).code.Kc;have cvc:=(P.fns f hfm).code.Au;have gvn:=P.globals.Kc;simp only[EE,nth,Value.cells,↓zB,jY,Zf,Wf,CU,hc,ha,hgi,hle,htk];refine vR s λb6 h6 s6=>?_;simp only[EE,Nat.reduceAdd,Wd];refine zY s6 (by simp) (by simp[cvc];rfl) λh7 s7=>?_;have g6:=s7.get;have g1:=(s7.p 1).get;simp only[EE,zt,Nat.reduceAdd,jY,YT,Zf,g6,g1];refine gZ (by simp only[yk];rfl) (GR (RP.at s7) hfm) ?_;cases hF:sG p f with
  |false=>
   simp only[EE,mS];rw[hB,W2 hf hF];rfl
  |true=>
   simp only[EE,nth,mS,CV,inc (show i<4611686018427387904 by have:=P.Sa;omega)]
   exact⟨p.funcs.length-(i+1),by omega,i+1,_,by omega,rfl,rfl,λk hk=>(by
    by_cases q:k=i
    ·subst q;rw[QW hf];exact hF
    ·exact hall k (by omega)),s7.k [1]⟩
 ·have hi9:i=p.funcs.length:=by omega
  subst hi9;simp only[EE,nth,hc];rw[hB,Z1 hall];rfl
theorem zdq{lo:yH}{H:za}{b1:Nat}{vs:List aaa}(RP:Rd lo (uQ · p))(s:Sat lo H [pt b1 (.cells p.row 25)]){B:Bool}(hB:B=(p.globals.all BX&&p.funcs.all (sG p))):fZ (pi b1) (yS B) vs H:=by
 have P:=RP.at s;have g1:=s.get;have gvn:=P.globals.Kc;have gl:=λh'=>vq P.globals 3 h';unfold fZ;simp only[EE,↓zB,zu,wi,xp,g1,gvn,gl]
 refine kW (λn vs h'=>∃(i:Nat) (v0:aaa),i<=p.globals.length/\n=p.globals.length-i/\vs=[v0,pm (i:Nat)]/\(∀k,k<i->Gl p.globals BX k=true)/\Sat lo h' [pt b1 (.cells p.row 25)])
  p.globals.length ⟨0,nth vs 0,aaS _,rfl,rfl,λk hk=>by omega,s⟩ ?_
 rintro n vs h' ⟨i,v0,hi,rfl,rfl,hall,s⟩;unfold CT;by_cases hc:(i:Int)<(p.globals.length:Int)
 ·obtain⟨z,hz,hzm⟩:=get_some (l:=p.globals) (k:=i) (by omega);obtain⟨bi,oi,ci,ti,ha,hbi,hgi,hat⟩:=qu (RP.at s).globals hz;have no:BX z=false->B=false:=λe=>by rw[hB,W2 hz e];rfl
  by_cases z0:z<0
  ·simp only[EE,nth,↓zB,zu,zg,dF,dG,dH,hc,ha,hgi,hat,z0];rw[no (by unfold BX;simp[z0])];rfl
  by_cases z1:z>65536
  ·simp only[EE,nth,↓zB,zu,zg,dF,dG,dH,hc,ha,hgi,hat,z0,z1];rw[no (by have z1:65536<z:=z1;unfold BX;simp[z1])];rfl
  simp only[EE,nth,↓zB,zu,zg,dF,dG,dH,CS,hc,ha,hgi,hat,z0,z1,inc (show i<4611686018427387904 by have:=P.OT;omega)]
  exact⟨p.globals.length-(i+1),by omega,i+1,_,by omega,rfl,rfl,λk hk=>(by
   by_cases q:k=i
   ·subst q;rw[QW hz];have z1:¬65536<z:=z1;unfold BX;simp[z0,z1]
   ·exact hall k (by omega)),s⟩
 ·have hi9:i=p.globals.length:=by omega
  subst hi9;simp only[EE,nth,hc];exact zdp RP s (by rw[hB,Z1 hall];rfl)
theorem zaP{h:za}(P:uQ h p):vw pu 23 [p.val] h (.bool (wL p)):=by
 apply z8;replace P:=P.lock;generalize h.lock=L at P;apply UP;intro wf;apply Ly;unfold Nu;have s0:Sat (.of L) L []:=Sat.self wf.2;have RP:Rd (.of L) (uQ · p):=Rd.of (yH.Wx L) P λh' o=>P.old o;have gvn:=P.globals.Kc;have fvn:=P.funcs.Kc;have fl:=λh'=>kU P.funcs 3 h';have gl:=λh'=>vq P.globals 3 h';simp only[EE,Value.cells];refine vR s0 λb1 h2 s2=>?_;have g1:=s2.get;have no:uR p=false->wL p=false:=λe=>by unfold wL;rw[e];rfl
 by_cases c1:p.main<0
 ·simp only[EE,zu,zg,vZ,YB,YC,YD,YE,YF,YG,YH,YI,YJ,YK,YL,g1,c1];rw[no (by unfold uR;simp[c1])];rfl
 by_cases c2:p.main ≥ (p.funcs.length:Int)
 ·simp only[EE,zu,vI,zg,yO,vZ,YB,YC,YD,YE,YF,YG,YH,YI,YJ,YK,YL,g1,fvn,fl,c1,c2];rw[no (by have c2:(p.funcs.length:Int)<=p.main:=c2;unfold uR;simp[c2])];rfl
 by_cases c3:(p.funcs.length:Int)>100
 ·simp only[EE,zu,vI,zg,yO,vZ,YB,YC,YD,YE,YF,YG,YH,YI,YJ,YK,YL,g1,fvn,fl,c1,c2,c3];rw[no (by have c3:(100:Int)<p.funcs.length:=c3;unfold uR;simp[c3])];rfl
 by_cases c4:(p.globals.length:Int)>200
 ·simp only[EE,zu,wi,vI,zg,xp,yO,vZ,YB,YC,YD,YE,YF,YG,YH,YI,YJ,YK,YL,g1,fvn,fl,gvn,gl,c1,c2,c3,c4];rw[no (by have c4:(200:Int)<p.globals.length:=c4;unfold uR;simp[c4])];rfl
 by_cases c5:p.params<0
 ·simp only[EE,zu,wi,vI,zg,xp,yO,vZ,qx,YB,YC,YD,YE,YF,YG,YH,YI,YJ,YK,YL,g1,fvn,fl,gvn,gl,c1,c2,c3,c4,c5];rw[no (by unfold uR;simp[c5])];rfl
 by_cases c6:p.params>6
 ·simp only[EE,zu,wi,vI,zg,xp,yO,vZ,qx,YB,YC,YD,YE,YF,YG,YH,YI,YJ,YK,YL,g1,fvn,fl,gvn,gl,c1,c2,c3,c4,c5,c6];rw[no (by have c6:6<p.params:=c6;unfold uR;simp[c6])];rfl
 simp only[EE,zu,wi,vI,zg,xp,yO,vZ,qx,YB,YC,YD,YE,YF,YG,YH,YI,YJ,YK,YL,g1,fvn,fl,gvn,gl,c1,c2,c3,c4,c5,c6];refine zdq RP s2 ?_
 have hs:uR p=true:=by
  have c2:¬(p.funcs.length:Int)<=p.main:=c2;have c3:¬(100:Int)<p.funcs.length:=c3;have c4:¬(200:Int)<p.globals.length:=c4;have c6:¬6<p.params:=c6;unfold uR;simp[c1,c2,c3,c4,c5,c6]
 unfold wL;rw[hs];rfl
end
end Go.As
