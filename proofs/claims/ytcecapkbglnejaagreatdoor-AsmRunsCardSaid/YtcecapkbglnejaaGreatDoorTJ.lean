import Derived.Test.YtcecapkbglnejaaGreatDoorTI
set_option linter.unusedVariables false
set_option linter.unusedSimpArgs false
set_option maxRecDepth 100000
namespace Go.Dm
open Go.Ai Go.Proofs Go.Proofs.Tryz
noncomputable abbrev zz:=prog
abbrev VK:=aaa->za->Prop
abbrev LK:=List aaa->za->Prop
abbrev ci(n:Int):Operand := .const (pm n)
abbrev fn(n:Nat):aaa := .func (.func n) #[] #[]
variable {h:za}{t0 t1 t2 t3 t4 t5 t6:aaa}{R:VK}
def qs:FuncId->Nat:=λg=>([(15,2),(24,2),(30,2),(40,2),(43,2),(45,2),(46,2),(68,2),(69,2),(70,2),(71,2),(72,2),(97,2),(98,2)].lookup g).getD 0
theorem mixed:prog.follows .mixedOrders=true:=ab4 Tryz.checked
theorem zT{f:FuncId}{args:List aaa}{X:Prop}(e:Rx zz (bJ zz qs) 200 f args h R=X)(hw:X):DC zz f args h R:=VQ mixed (q:=qs) (n:=200) (Eq.mpr e hw)
def Ci:=λb a (c:LK) (j:List aaa) (d:za)=>
 BK (λe=>opt (zJ zz 22 b (nth a 0)) λf=>opt (yn 3 f (pm (-1)) d) λg=>e [] g)
 (λk h=>opt (zh .add 3 25 (nth a 0) 1) λi=>c [i] h)
def nC:=λd (e:LK) f a (b:za) (g:LK)=>
 opt (yz .lss 3 22 23 (nth a 0) d) λh=>CD h (λc=>c [] b)
 (λc=>e [] b)
 (Ci f a g)
def Cj:=λa b (R:VK) (n:List aaa) (c:za)=>
 xD 62 a 0 59 c λd=>opt (nb [b] (yd zz 110 [(0,b)])) λe=>yp (nb [e] (zZ zz 59 1 [(0,e)] c)) λf h=>yp (nb [d,f] (zP zz .append [59,59] 59 [d,f] h)) λi j=>kG 62 a 0 59 i j λg=>xD 62 a 0 59 g λk=>yp (v8 59 k g) λl m=>rv [l,pm 0] m R
def nD:=λb (R:VK) a c (d:za)=>
 xD 62 b 0 59 d λh=>yp (v8 59 h d) λi e=>opt (zh .geq 3 18 i 100000) λj=>CD j (λf=>rv [pm 0,pm 2] e R)
 (λf=>f [nth c 0,nth c 1] e)
 (λn k=>yp (UJ zz 22 a a k) λg l=>BK (λm=>LP (nC a m g)
 [pm 0] l)
 (Cj b g R))
def KP:=λc (R:VK) d e f (a:za)=>
 opt (pk c (.bool true) f) λg=>CD g (λb=>rv [pm 0,pm 1] a R)
 (λb=>b [pm 0,pm 0] a)
 (nD d R e)
def KQ:=λa (R:VK) c d e (b:za)=>
 zg a false (zh .gtr 3 11 e 65536) b (KP a R c d) b
def MJ:=λ(h:za) c a (R:VK)=>
 opt (zh .lss 3 8 a 0) λb=>GD b false (λd=>d a h) (KQ b R c a) h
theorem IF(hw:MJ h t0 t1 R):DC zz 22 [t0,t1] h R:=zT (by kernel_rfl) hw
def nJ:=λa (R:VK) d (b:za)=>
 zg a true (zd zz 4 d b) b (λe c=>zg a true (Vx zz .not e) c (λf g=>opt (pk a f (.bool false)) λh=>rv [h] g R) c) b
def nK:=λa d (R:VK) e (b:za)=>
 zg a true (zJ zz 59 d e) b (λf c=>zg a true (ze zz 110 f 1) c (nJ a R) c) b
def nL:=λa c (R:VK) d (b:za)=>
 zg a true (zh .sub 3 21 d 1) b (nK a c R) b
def nM:=λa e (R:VK) f (c:za)=>
 zg a true (ze zz 62 f 0) c (λg b=>zg a true (zd zz 59 g b) b (λh d=>GD a true (λi=>i e d) (nL a h R) d) b) c
def nN:=λd e f (R:VK) g (b:za)=>
 opt (pk d g (.bool false)) λa=>GD a true (λh=>h e b) (λi c=>zg a true (vy i) c (nM a f R) c) b
def nO:=λa e f g (R:VK) h (c:za)=>
 GD a true (λi=>yp (v8 59 h c) λb j=>i b j) (λb d=>zg a true (yz .leq 3 8 13 e b) d (nN a f g R) d) c
def nP:=λa d e f (R:VK) g (c:za)=>
 zg a true (ze zz 62 g 0) c (λh b=>zg a true (zd zz 59 h b) b (nO a d e f R) b) c
def zfR:=λ(h:za) c b (R:VK)=>
 opt (zh .geq 3 5 b 1) λa=>GD a true (λf=>f b h) (λg d=>GD a true (λi=>i c d) (λj e=>zg a true (vy j) e (nP a g c b R) e) d) h
theorem zbn(hw:zfR h t0 t1 R):DC zz 40 [t0,t1] h R:=zT (by kernel_rfl) hw
def FQ:=λb c (R:VK) (h:List aaa) (a:za)=>
 xD 62 b 0 59 a λd=>opt (zh .sub 3 13 c 1) λe=>opt (zJ zz 59 d e) λf=>UF 110 f 1 4 (.bool true) a λg=>rv [.bool true] g R
def R8:=λ(h:za) a b (R:VK)=>
 zq zz (fn 40) [a,b] h (λe c=>opt (Vx zz .not e) λf=>CD f (λd=>rv [.bool false] c R)
 (λd=>d [.bool false] c)
 (FQ a b R))
theorem OZ(hw:R8 h t0 t1 R):DC zz 73 [t0,t1] h R:=zT (by kernel_rfl) hw
def Gj:=λb a (c:LK) (j:List aaa) (d:za)=>
 BK (λe=>opt (zJ zz 22 b (nth a 0)) λf=>opt (yn 3 f (pm 0) d) λg=>e [] g)
 (λk h=>opt (zh .add 3 24 (nth a 0) 1) λi=>c [i] h)
def tu:=λa (e:LK) b (f:za) (g:LK)=>
 yp (v8 22 a f) λh c=>opt (yz .lss 3 20 22 (nth b 0) h) λi=>CD i (λd=>d [] c)
 (λd=>e [] c)
 (Gj a b g)
def Gk:=λb c (R:VK) (j:List aaa) (a:za)=>
 xD 62 b 0 59 a λd=>opt (zh .sub 3 15 c 1) λe=>opt (zJ zz 59 d e) λf=>zt 110 f 0 22 a λg=>BK (λh=>LP (tu g h)
 [pm 0] a)
 (λk i=>rv [.bool true] i R)
def Sg:=λ(h:za) a b (R:VK)=>
 zq zz (fn 40) [a,b] h (λe c=>opt (Vx zz .not e) λf=>CD f (λd=>rv [.bool false] c R)
 (λd=>d [.bool false] c)
 (Gk a b R))
theorem Pa(hw:Sg h t0 t1 R):DC zz 23 [t0,t1] h R:=zT (by kernel_rfl) hw
def W2:=λa (R:VK) c (b:za)=>
 zg a true (zh .eql 2 59 c 0) b (λd e=>opt (pk a d (.bool false)) λf=>rv [f] e R) b
def W4:=λa d (R:VK) e (b:za)=>
 GD a true (λf=>f d b) (λg c=>zg a true (yz .rem 2 57 58 e g) c (W2 a R) c) b
def W5:=λd e f (R:VK) g (c:za)=>
 opt (pk d g (.bool false)) λa=>zg a true (ze zz 64 e 1) c (λh b=>zg a true (zd zz 2 h b) b (W4 a f R) b) c
def W6:=λa d e f g (R:VK) h (b:za)=>
 zg a true (yz .sub 3 50 51 d h) b (λi c=>zg a true (yz .leq 2 39 52 e i) c (W5 a f g R) c) b
def W7:=λa d f g (R:VK) h (b:za)=>
 GD a true (λi=>yp (v8 22 h b) λc _=>i c b) (λc e=>GD a true (λj=>j d e) (W6 a c f g d R) e) b
def W8:=λa d e f (R:VK) g (c:za)=>
 zg a true (ze zz 110 g 0) c (λh b=>zg a true (zd zz 22 h b) b (W7 a d e f R) b) c
def W9:=λa d e f g (R:VK) h (b:za)=>
 zg a true (zh .sub 3 45 h 1) b (λi c=>zg a true (zJ zz 59 d i) c (W8 a e f g R) c) b
def Va:=λa c e f (R:VK) g (d:za)=>
 zg a true (ze zz 64 c 2) d (λh b=>zg a true (zd zz 3 h b) b (W9 a g e f c R) b) d
def Vb:=λa d e f (R:VK) g (c:za)=>
 zg a true (ze zz 62 g 0) c (λh b=>zg a true (zd zz 59 h b) b (Va a d e f R) b) c
def XE:=λa e f g (R:VK) h (b:za)=>
 zg a true (zd zz 2 h b) b (λi c=>GD a true (λj=>j e c) (λk d=>zg a true (vy k) d (Vb a f g i R) d) c) b
def XF:=λa d e (R:VK) (g:List aaa) (b:za)=>
 zt 64 a 1 2 b λf=>opt (zh .geq 2 35 f 0) λc=>zg c true (ze zz 64 a 1) b (XE c d a e R) b
def jh:=λa (R:VK) e f g h (b:za)=>
 zg a false (Vx zz .not h) b (λi c=>opt (pk a (.bool true) i) λj=>CD j (λd=>rv [.bool false] c R)
 (λd=>d [.bool false] c)
 (XF e f g R)) b
def XG:=λa d (R:VK) e f g h (b:za)=>
 zg a false (zd zz 3 h b) b (λi c=>GD a false (λj=>zq zz (fn 40) [d,i] c (λk l=>j k l)) (jh a R e f g) c) b
def XH:=λf b c (R:VK) g h (d:za)=>
 opt (pk f (.bool true) h) λa=>GD a false (λi=>i b d) (λj e=>zg a false (ze zz 64 c 2) e (XG a j R c b g) e) d
def XI:=λa c d (R:VK) e f (b:za)=>
 zg a false (zh .neq 3 24 f 2) b (XH a c d R e) b
def XJ:=λe c f (R:VK) g h (d:za)=>
 opt (pk e (.bool true) h) λa=>zg a false (ze zz 64 c 0) d (λi b=>zg a false (zd zz 3 i b) b (XI a f c R g) b) d
def W3:=λa e f (R:VK) g h (c:za)=>
 GD a false (λi=>zq zz (fn 69) [h] c (λb j=>i b j)) (λb d=>zg a false (Vx zz .not b) d (XJ a e f R g) d) c
def XK:=λb c f (R:VK) g h (d:za)=>
 zg b true (zh .neq 3 14 h 8) d (λi a=>opt (pk b i (.bool false)) λe=>zg e false (zd zz 64 c a) a (W3 e c f R g) a) d
def XL:=λa b f g (R:VK) h (c:za)=>
 zg a true (zh .neq 3 10 h 4) c (λi d=>opt (pk a i (.bool false)) λe=>GD e true (λj=>j b d) (XK e f g R b) d) c
def MP:=λ(h:za) e a b (R:VK)=>
 opt (nb [b] (some (Value.cells b).toList)) λf=>nw h f 64 λg c=>opt (zh .neq 3 7 a 1) λd=>GD d true (λi=>i a c) (XL d a g e R) c
theorem IK(hw:MP h t0 t1 t2 R):DC zz 97 [t0,t1,t2] h R:=zT (by kernel_rfl) hw
def FX:=λa (c:za) (R:VK) (f:LK)=>
 opt (nb [] (yd zz 64 [])) λd=>opt (yn 64 a d c) λb=>opt (zd zz 64 a b) λe=>rv [e,.bool false] b R
def bV:=λe f a (g:LK) h i (b:za)=>
 opt (pk e i (.bool false)) λj=>vx 22 f (nth a 3) 3 b λk=>opt (zh .and 3 89 k 255) λc=>yp (nb [c] (vY zz 3 168 c b)) λl m=>opt (nb [pm 8,nth a 3] (zS zz .mul 3 (.const (pm 8)) (.tmp 92) (pm 8) (nth a 3))) λd=>yp (nb [d] (vY zz 3 141 d m)) λn o=>opt (yz .shl 168 91 94 l n) λp=>opt (yz .or 168 85 95 (nth a 0) p) λq=>g [q,h,j] o
def bW:=λa c d (e:LK) f g (b:za)=>
 zg a true (zh .eql 3 82 g 0) b (bV a c d e f) b
def bX:=λa c d (e:LK) f g (b:za)=>
 zg a true (zh .rem 3 81 g 8) b (bW a c d e f) b
def bY:=λa d e (f:LK) g h (c:za)=>
 zg a true (zJ zz 22 h (pm 0)) c (λi b=>zg a true (zd zz 3 i b) b (bX a d e f g) b) c
def bZ:=λa f b g (h:LK) i j (c:za)=>
 zg a true (yz .eql 3 70 75 f j) c (λk d=>opt (pk a k (.bool false)) λe=>GD e true (λl=>l b d) (bY e b g h i) d) c
def cA:=λa b e f (g:LK) h i (c:za)=>
 GD a true (λj=>j (nth b 3) c) (λk d=>zg a true (yz .add 3 73 74 i k) d (bZ a e f b g h) d) c
def cB:=λa d e f (g:LK) h i (c:za)=>
 zg a true (zJ zz 22 i (pm 0)) c (λj b=>zg a true (zd zz 3 j b) b (cA a d e f g h) b) c
def cC:=λa c e (f:LK) g h (b:za)=>
 zg a true (zd zz 3 h b) b (λi d=>GD a true (λj=>j c d) (cB a e i c f g) d) b
def KS:=λa b e (f:LK) g h (c:za)=>
 GD a true (λi=>i (nth b 3) c) (λj d=>zg a true (zJ zz 22 h j) d (cC a e b f g) d) c
def KT:=λa b (f:LK) g h (c:za)=>
 zg (nth a 2) true (zh .geq 3 63 h 1000) c (λi d=>opt (pk (nth a 2) i (.bool false)) λe=>GD e true (λj=>j b d) (KS e a b f g) d) c
def KU:=λa d e (f:LK) g h (c:za)=>
 zg (nth a 2) true (zJ zz 22 d h) c (λi b=>zg (nth a 2) true (zd zz 3 i b) b (KT a e f g) b) c
def KV:=λe a b (f:LK) g (c:za)=>
 opt (pk e g (.bool false)) λh=>GD (nth a 2) true (λi=>i b c) (λj d=>GD (nth a 2) true (λk=>k (nth a 3) d) (KU a j b f h) d) c
def KW:=λa c d (e:LK) f (b:za)=>
 zg a true (zh .lss 3 55 f 256) b (KV a c d e) b
def KX:=λa d e f (g:LK) h (c:za)=>
 zg a true (zJ zz 22 d h) c (λi b=>zg a true (zd zz 3 i b) b (KW a e f g) b) c
def KY:=λa c (f:LK) g (d:za)=>
 opt (pk (nth a 1) g (.bool false)) λb=>GD b true (λh=>h c d) (λi e=>GD b true (λj=>j (nth a 3) e) (KX b i a c f) e) d
def KZ:=λa c (d:LK) e (b:za)=>
 zg (nth a 1) true (zh .geq 3 48 e 0) b (KY a c d) b
def K0:=λa d e (f:LK) g (c:za)=>
 zg (nth a 1) true (zJ zz 22 d g) c (λh b=>zg (nth a 1) true (zd zz 3 h b) b (KZ a e f) b) c
def K1:=λb (c:LK) a (d:za)=>
 opt (zh .add 3 41 (nth b 3) 1) λe=>c [nth a 0,nth a 1,nth a 2,e] d
def K3:=λa b (e:LK) (j:List aaa) (c:za)=>
 BK (λf=>GD (nth a 1) true (λg=>g b c) (λh d=>GD (nth a 1) true (λi=>i (nth a 3) d) (K0 a h b f) d) c)
 (K1 a e)
def Yj:=λd (e:LK) f a (b:za) (g:LK)=>
 opt (yz .lss 3 38 39 (nth a 3) d) λh=>CD h (λc=>c [] b)
 (λc=>e [nth a 0,nth a 1,nth a 2] b)
 (K3 a f g)
def nQ:=λa (R:VK) c (d:za)=>
 zq zz (fn 24) [c] d (λe f=>opt (yn 64 a e f) λb=>opt (zd zz 64 a b) λg=>rv [g,.bool true] b R)
def nR:=λa (d:za) b e (R:VK) (j:LK)=>
 yp (nb [nth a 0] (vY zz 168 2 (nth a 0) d)) λf g=>opt (nb [pm 8,b] (zS zz .mul 3 (.const (pm 8)) (.tmp 102) (pm 8) b)) λc=>yp (nb [c] (vY zz 3 141 c g)) λh i=>zq zz (fn 72) [f,h] i (nQ e R)
def Cy:=λa b (R:VK) (j:List aaa) (d:za)=>
 yp (nb [nth a 0] (vY zz 168 2 (nth a 0) d)) λe f=>zq zz (fn 24) [e] f (λg h=>opt (yn 64 b g h) λc=>opt (zd zz 64 b c) λi=>rv [i,.bool true] c R)
def eM:=λa b (c:za) d (R:VK) e (h:LK)=>
 opt (zh .lss 3 98 a 8) λf=>CD f (nR b c a d R)
 (λg=>g [nth e 0] c)
 (Cy b d R)
def Cz:=λd (a:za) e b (R:VK) (l:LK)=>
 xD 62 d 1 60 a λf=>vx 22 e (pm 0) 3 a λg=>opt (zh .sub 3 117 g 1000) λh=>opt (zh .quo 3 118 h 8) λi=>vx 60 f i 64 a λj=>opt (yn 64 b j a) λc=>opt (zd zz 64 b c) λk=>rv [k,.bool true] c R
def CA:=λa (R:VK) (f:List aaa) (c:za)=>
 opt (nb [] (yd zz 64 [])) λd=>opt (yn 64 a d c) λb=>opt (zd zz 64 a b) λe=>rv [e,.bool true] b R
def U4:=λf a (R:VK) c g h b (d:za)=>
 CD (nth b 1) (eM f b d a R c)
 (λi=>i [nth c 0] d)
 (λj e=>CD (nth b 2) (Cz g e h a R)
 (λk=>k [nth j 0] e)
 (CA a R))
def CB:=λd c b i (R:VK) j (a:za)=>
 xD 62 d 0 59 a λk=>zt 64 c 2 3 a λl=>opt (zh .sub 3 24 l 1) λm=>opt (zJ zz 59 k m) λn=>zt 110 n 0 22 a λe=>zt 64 c 1 2 a λf=>zt 64 c 1 2 a λo=>opt (yz .add 2 32 33 o b) λg=>opt (nb [e] (cond (HX (some f)&&HX (some g)) (B7 zz 22 e (some f) (some g) a) none)) λh=>opt (zh .eql 3 36 b 8) λp=>BK (λq=>LP (Yj b q h)
 [.int .u64 0,.bool true,p,pm 0] a)
 (U4 b i R j d h)
def Sa:=λ(h:za) a b c (R:VK)=>
 opt (nb [c] (some (Value.cells c).toList)) λi=>nw h i 64 λd j=>qa 64 j λe f=>opt (zd zz 64 d f) λk=>zq zz (fn 97) [a,b,k] f (λl g=>opt (Vx zz .not l) λm=>CD m (FX e g R)
 (λn=>n [.bool false] g)
 (CB a d b e R))
theorem O5(hw:Sa h t0 t1 t2 R):DC zz 68 [t0,t1,t2] h R:=zT (by kernel_rfl) hw
def eS:=λb (a:za) f (g:LK)=>
 xD 62 b 1 60 a λc=>opt (zd zz 64 f a) λd=>yp (nb [d] (zZ zz 60 1 [(0,d)] a)) λe h=>yp (nb [c,e] (zP zz .append [60,60] 60 [c,e] h)) λi j=>kG 62 b 1 60 i j λk=>g [] k
def eT:=λd (b:za) a e (f:LK)=>
 zt 64 d 1 2 b λg=>opt (nb [pm 8,nth a 0] (zS zz .mul 3 (.const (pm 8)) (.tmp 92) (pm 8) (nth a 0))) λc=>yp (nb [c] (vY zz 3 141 c b)) λh i=>opt (yz .shr 2 91 94 g h) λj=>opt (zh .and 2 95 j 255) λk=>opt (zJ zz 22 e (nth a 0)) λl=>opt (yn 3 l k i) λm=>f [] m
def U5:=λa d e f (g:LK) h (b:za)=>
 zg a true (zh .eql 3 85 h 1) b (λi c=>opt (pk a i (.bool false)) λj=>CD j (eT d c e f)
 (λk=>k [] c)
 (λm l=>g [] l)) b
def U6:=λc e f (g:LK) a (d:za)=>
 zg a true (ze zz 64 c 0) d (λh b=>zg a true (zd zz 3 h b) b (U5 a c e f g) b) d
def eU:=λe (a:za) b f (g:LK)=>
 xD 62 e 1 60 a λh=>yp (v8 60 h a) λi j=>opt (zh .sub 3 74 i 1) λc=>opt (nb [pm 8,c] (zS zz .mul 3 (.const (pm 8)) (.tmp 75) (pm 8) c)) λd=>opt (nb [pm 1000,d] (zS zz .add 3 (.const (pm 1000)) (.tmp 76) (pm 1000) d)) λk=>opt (yz .add 3 77 78 k (nth b 0)) λl=>opt (zJ zz 22 f (nth b 0)) λm=>opt (yn 3 m l j) λn=>g [] n
def eV:=λa b (e:za) f g d (h:LK)=>
 opt (zJ zz 22 a (nth b 0)) λi=>opt (yn 3 i (pm (-1)) e) λc=>CD f (eU g c b a)
 (λj=>opt (zd zz 64 d c) λk=>zq zz (fn 69) [k] c (U6 d b a j))
 (λm l=>h [] l)
def eW:=λb a c d e (f:LK) (j:List aaa) (g:za)=>
 BK (eV b a g c d e)
 (λk h=>opt (zh .add 3 62 (nth a 0) 1) λi=>f [i] h)
def U7:=λd (e:LK) f g h i a (b:za) (j:LK)=>
 opt (yz .lss 3 59 60 (nth a 0) d) λk=>CD k (λc=>c [] b)
 (λc=>e [] b)
 (eW f a g h i j)
def K4:=λb c d e f (R:VK) (t:List aaa) (a:za)=>
 xD 62 b 0 59 a λj=>zt 64 c 2 3 a λk=>opt (zh .sub 3 36 k 1) λl=>opt (zJ zz 59 j l) λm=>zt 110 m 0 22 a λg=>zt 64 c 1 2 a λh=>zt 64 c 1 2 a λn=>opt (yz .add 2 44 45 n d) λi=>opt (nb [g] (cond (HX (some h)&&HX (some i)) (B7 zz 22 g (some h) (some i) a) none)) λo=>CD e (eS b a f)
 (λp=>p [] a)
 (λu q=>BK (λr=>LP (U7 d r o e b f)
 [pm 0] q)
 (λv s=>rv [.bool true] s R))
def XM:=λa e (R:VK) f g h i j k (b:za)=>
 zg a false (pk e k (.bool false)) b (λl c=>opt (pk a (.bool true) l) λm=>CD m (λd=>rv [.bool false] c R)
 (λd=>d [.bool false] c)
 (K4 f g h i j R)) b
def XN:=λa c (R:VK) d e f g h i (b:za)=>
 zg a true (zh .neq 3 27 i 8) b (XM c a R d e f g h) b
def YI:=λb c (R:VK) h i j k (d:za)=>
 opt (Vx zz .not k) λa=>GD a false (λl=>l b d) (λm e=>GD a false (λn=>n m e) (λf g=>GD f true (λo=>o c g) (XN f a R h i c b j) g) e) d
def Vc:=λe a b c (R:VK) f g (d:za)=>
 opt (pk e g (.bool false)) λh=>opt (zd zz 64 a d) λi=>zq zz (fn 97) [b,c,i] d (YI h c R b a f)
def Vd:=λa c d e (R:VK) f g (b:za)=>
 zg a true (zh .eql 3 16 g 2) b (Vc a c d e R f) b
def Ve:=λc e f g (R:VK) a (d:za)=>
 zg a true (ze zz 64 c 0) d (λh b=>zg a true (zd zz 3 h b) b (Vd a e f g R c) b) d
def MY:=λ(h:za) e f a b (R:VK)=>
 opt (nb [a] (some (Value.cells a).toList)) λg=>nw h g 64 λi j=>opt (nb [b] (some (Value.cells b).toList)) λk=>nw j k 64 λc d=>opt (zd zz 64 c d) λl=>zq zz (fn 69) [l] d (Ve c i e f R)
theorem IM(hw:MY h t0 t1 t2 t3 R):DC zz 67 [t0,t1,t2,t3] h R:=zT (by kernel_rfl) hw
def nE:=λa (R:VK) c (b:za)=>
 zg a true (zh .eql 3 12 c 0) b (λd e=>opt (pk a d (.bool false)) λf=>rv [f] e R) b
def Co:=λb (a:za) (R:VK) (e:LK)=>
 zt 64 b 2 3 a λc=>opt (zh .geq 3 23 c 1) λd=>rv [d] a R
def Cp:=λb (a:za) (R:VK) (e:LK)=>
 zt 64 b 2 3 a λc=>opt (zh .eql 3 18 c 0) λd=>rv [d] a R
def nF:=λb c (a:za) (R:VK) (d:LK)=>
 opt (zh .eql 3 4 b 2) λe=>CD e (Co c a R)
 (λf=>f [.bool false] a)
 (λg h=>d [nth g 0] h)
def nG:=λd (a:za) (R:VK) (g:LK)=>
 zt 64 d 1 2 a λe=>opt (zh .eql 2 8 e 0) λb=>zg b true (ze zz 64 d 2) a (λf c=>zg b true (zd zz 3 f c) c (nE b R) c) a
def eL:=λa b (c:za) (R:VK) (d:LK)=>
 opt (zh .eql 3 4 a 1) λe=>CD e (Cp b c R)
 (nF a b c R)
 (λf g=>d [nth f 0] g)
def U3:=λa b (c:za) (R:VK) (d:LK)=>
 opt (zh .eql 3 4 a 0) λe=>CD e (nG b c R)
 (eL a b c R)
 (λf g=>d [nth f 0] g)
def MK:=λ(h:za) a (R:VK)=>
 opt (nb [a] (some (Value.cells a).toList)) λd=>nw h d 64 λb c=>zt 64 b 0 3 c λe=>BK (U3 e b c R)
 (λg f=>rv [.bool false] f R)
theorem IG(hw:MK h t0 R):DC zz 69 [t0] h R:=zT (by kernel_rfl) hw
def zfS:=λ(h:za) a (R:VK)=>
 qa 64 h λb d=>opt (nb [pm 1,a] (yd zz 64 [(0,(pm 1)),(1,a)])) λe=>opt (yn 64 b e d) λc=>opt (zd zz 64 b c) λf=>rv [f] c R
theorem zbo(hw:zfS h t0 R):DC zz 24 [t0] h R:=zT (by kernel_rfl) hw
def R4:=λa b c (R:VK) (h:List aaa) (e:za)=>
 opt (nb [pm 2,a,b] (yd zz 64 [(0,(pm 2)),(2,a),(1,b)])) λf=>opt (yn 64 c f e) λd=>opt (zd zz 64 c d) λg=>rv [g] d R
def zfQ:=λ(h:za) b f (R:VK)=>
 qa 64 h λa c=>opt (zh .lss 3 5 b 1) λg=>CD g (λd=>opt (nb [] (yd zz 64 [])) λi=>opt (yn 64 a i c) λe=>opt (zd zz 64 a e) λj=>rv [j] e R)
 (λd=>d [] c)
 (R4 b f a R)
theorem zbm(hw:zfQ h t0 t1 R):DC zz 45 [t0,t1] h R:=zT (by kernel_rfl) hw
def D4:=λa b (h:za) (R:VK) (e:LK)=>
 opt (nb [pm 1,a] (zS zz .shl 2 (ci 1) (.tmp 17) (pm 1) a)) λc=>opt (yz .sub 2 16 18 b c) λd=>rv [d] h R
def R6:=λ(h:za) d a (R:VK)=>
 opt (nb [pm 1,a] (zS zz .shl 2 (ci 1) (.tmp 7) (pm 1) a)) λe=>opt (zh .sub 2 8 e 1) λf=>opt (yz .and 2 6 9 d f) λb=>opt (nb [a,.int .u64 1] (zS zz .sub 141 (.tmp 12) (.const (.int .u64 1)) a (.int .u64 1))) λc=>opt (nb [pm 1,c] (zS zz .shl 2 (ci 1) (.tmp 13) (pm 1) c)) λg=>opt (yz .geq 2 11 14 b g) λi=>CD i (D4 a b h R)
 (λj=>j [pm 0] h)
 (λl k=>rv [b] k R)
theorem FP(hw:R6 h t0 t1 R):DC zz 72 [t0,t1] h R:=zT (by kernel_rfl) hw
def nT:=λa (c:za) (R:VK) (f:LK)=>
 opt (nb [] (yd zz 64 [])) λd=>opt (yn 64 a d c) λb=>opt (zd zz 64 a b) λe=>rv [e,.bool false] b R
def tk:=λa (R:VK) c (d:za)=>
 zq zz (fn 24) [c] d (λe f=>opt (yn 64 a e f) λb=>opt (zd zz 64 a b) λg=>rv [g,.bool true] b R)
def tn:=λa (R:VK) c (d:za)=>
 zq zz (fn 24) [c] d (λe f=>opt (yn 64 a e f) λb=>opt (zd zz 64 a b) λg=>rv [g,.bool true] b R)
def nU:=λb (a:za) c (R:VK) (e:LK)=>
 zt 64 b 1 2 a λd=>zq zz (fn 72) [d,.int .u64 32] a (tn c R)
def tp:=λb (a:za) c (R:VK) (e:LK)=>
 zt 64 b 1 2 a λd=>zq zz (fn 72) [d,.int .u64 8] a (tk c R)
def cQ:=λb c (a:za) d (R:VK) e (f:LK)=>
 opt (zh .eql 3 15 b 4) λg=>CD g (nU c a d R)
 (λh=>h [nth e 0] a)
 (λi j=>f [nth i 0] j)
def tt:=λe (a:za) b (R:VK) (j:LK)=>
 zt 64 e 1 2 a λc=>opt (nb [pm (-1),c] (zS zz .sub 2 (.const (pm (-1))) (.tmp 26) (pm (-1)) c)) λf=>zq zz (fn 24) [f] a (λg h=>opt (yn 64 b g h) λd=>opt (zd zz 64 b d) λi=>rv [i,.bool true] d R)
def KF:=λa b (c:za) d (R:VK) e (f:LK)=>
 opt (zh .eql 3 15 a 3) λg=>CD g (tp b c d R)
 (cQ a b c d R e)
 (λh i=>f [nth h 0] i)
def JO:=λd (a:za) b (R:VK) (k:LK)=>
 zt 64 d 1 2 a λe=>opt (Vx zz .xor e) λf=>opt (zh .add 2 20 f 1) λg=>zq zz (fn 24) [g] a (λh i=>opt (yn 64 b h i) λc=>opt (zd zz 64 b c) λj=>rv [j,.bool true] c R)
def Q5:=λa b (c:za) d (R:VK) e (f:LK)=>
 opt (zh .eql 3 15 a 2) λg=>CD g (tt b c d R)
 (KF a b c d R e)
 (λh i=>f [nth h 0] i)
def eX:=λa b (c:za) d (R:VK) e (f:LK)=>
 opt (zh .eql 3 15 a 1) λg=>CD g (JO b c d R)
 (Q5 a b c d R e)
 (λh i=>f [nth h 0] i)
def MZ:=λa (R:VK) (f:List aaa) (c:za)=>
 opt (nb [] (yd zz 64 [])) λd=>opt (yn 64 a d c) λb=>opt (zd zz 64 a b) λe=>rv [e,.bool false] b R
def Q6:=λc a (R:VK) d e f (b:za)=>
 opt (pk c (.bool true) f) λg=>CD g (nT a b R)
 (λh=>h [.bool false] b)
 (λi j=>BK (eX d e j a R i)
 (MZ a R))
def Q7:=λa c (R:VK) d e f (b:za)=>
 zg a false (zh .neq 3 11 f 1) b (Q6 a c R d e) b
def Q8:=λc e (R:VK) f g (d:za)=>
 opt (Vx zz .not g) λa=>zg a false (ze zz 64 c 0) d (λh b=>zg a false (zd zz 3 h b) b (Q7 a e R f c) b) d
def Sf:=λ(h:za) d a (R:VK)=>
 opt (nb [a] (some (Value.cells a).toList)) λe=>nw h e 64 λb f=>qa 64 f λg c=>opt (zd zz 64 b c) λi=>zq zz (fn 69) [i] c (Q8 b g R d)
theorem D7(hw:Sf h t0 t1 R):DC zz 46 [t0,t1] h R:=zT (by kernel_rfl) hw
def VS:=λa (R:VK) b (c:za)=>
 yp (nb [nth a 0] (vY zz 168 2 (nth a 0) c)) λd e=>yp (nb [nth b 0] (vY zz 168 2 (nth b 0) e)) λf g=>rv [d,f,.bool true] g R
def VT:=λd b (R:VK) e (c:za)=>
 opt (zh .lss 2 48 d 0) λf=>CD f (λa=>opt (Vx zz .neg b) λg=>a [g] c)
 (λa=>a [b] c)
 (VS e R)
def VU:=λc d g (R:VK) e (f:za)=>
 opt (yz .quo 168 33 34 (nth c 0) (nth e 0)) λa=>opt (yz .mul 168 37 38 a (nth e 0)) λh=>opt (yz .sub 168 36 39 (nth c 0) h) λi=>opt (zh .lss 2 41 d 0) λj=>opt (zh .lss 2 43 g 0) λk=>opt (yz .neq 4 42 44 j k) λl=>CD l (λb=>opt (Vx zz .neg a) λm=>b [m] f)
 (λb=>b [a] f)
 (VT d i R)
def VV:=λb c e (R:VK) f (d:za)=>
 opt (zh .lss 2 29 b 0) λg=>CD g (λa=>opt (Vx zz .neg c) λh=>a [h] d)
 (λa=>a [c] d)
 (VU f e b R)
def X0:=λa b (R:VK) (k:List aaa) (f:za)=>
 yp (nb [a] (vY zz 2 168 a f)) λd g=>yp (nb [b] (vY zz 2 168 b g)) λh e=>opt (zh .lss 2 25 a 0) λi=>CD i (λc=>opt (Vx zz .neg d) λj=>c [j] e)
 (λc=>c [d] e)
 (VV b h a R)
def VW:=λc (R:VK) d e f (a:za)=>
 opt (pk c (.bool true) f) λg=>CD g (λb=>rv [pm 0,pm 0,.bool false] a R)
 (λb=>b [pm 0,pm 0,.bool false] a)
 (X0 d e R)
def VX:=λa b (R:VK) e f g (c:za)=>
 zg a true (zh .eql 2 17 g (-1)) c (λh d=>zg b false (pk a h (.bool false)) d (VW b R e f) d) c
def VY:=λa b (R:VK) g h (c:za)=>
 zg a false (zh .eql 2 14 h (-9223372036854775808)) c (λi d=>GD a false (λj=>j i d) (λe f=>GD e true (λk=>k b f) (VX e a R g b) f) d) c
def Cn:=λ(h:za) a b (R:VK)=>
 opt (zh .eql 2 11 b 0) λc=>GD c false (λd=>d a h) (VY c b R a) h
theorem D3(hw:Cn h t0 t1 R):DC zz 98 [t0,t1] h R:=zT (by kernel_rfl) hw
def M4:=λ(c:za) a (R:VK) (g:LK)=>
 zq zz (fn 24) [pm 1] c (λd e=>opt (yn 64 a d e) λb=>opt (zd zz 64 a b) λf=>rv [f] b R)
def M5:=λa (R:VK) (g:List aaa) (c:za)=>
 zq zz (fn 24) [pm 0] c (λd e=>opt (yn 64 a d e) λb=>opt (zd zz 64 a b) λf=>rv [f] b R)
def zcO:=λ(h:za) c (R:VK)=>
 qa 64 h λa b=>CD c (M4 b a R)
 (λd=>d [] b)
 (M5 a R)
theorem Sj(hw:zcO h t0 R):DC zz 71 [t0] h R:=zT (by kernel_rfl) hw
def WI:=λa (c:za) (R:VK) (f:LK)=>
 opt (nb [] (yd zz 64 [])) λd=>opt (yn 64 a d c) λb=>opt (zd zz 64 a b) λe=>rv [e,.bool false] b R
def QA:=λa (R:VK) c (d:za)=>
 zq zz (fn 24) [nth c 0] d (λe f=>opt (yn 64 a e f) λb=>opt (zd zz 64 a b) λg=>rv [g,.bool true] b R)
def QB:=λc d e f (R:VK) (h:List aaa) (b:za)=>
 opt (zh .eql 3 44 c 15) λg=>CD g (λa=>a [d] b)
 (λa=>a [e] b)
 (QA f R)
def YY:=λa (c:za) (R:VK) (f:LK)=>
 opt (nb [] (yd zz 64 [])) λd=>opt (yn 64 a d c) λb=>opt (zd zz 64 a b) λe=>rv [e,.bool false] b R
def Yb:=λa (b:za) (c:LK)=>
 opt (zh .and 2 92 (nth a 0) 1) λd=>opt (yz .sub 2 91 93 (nth a 0) d) λe=>opt (zh .quo 2 94 e 2) λf=>c [f] b
def Zl:=λc a (b:za) (d:LK)=>
 opt (zh .eql 3 86 c 19) λe=>CD e (λf=>opt (yz .add 2 88 89 (nth a 0) (nth a 0)) λg=>f [g] b)
 (Yb a b)
 (λh i=>d [nth h 0] i)
def Zm:=λa (b:LK) c (d:za)=>
 opt (zh .add 2 84 (nth a 1) 1) λe=>b [nth c 0,e] d
def YZ:=λd (e:LK) f a (b:za) (g:LK)=>
 opt (yz .lss 2 81 82 (nth a 1) d) λh=>CD h (λc=>c [] b)
 (λc=>e [nth a 0] b)
 (λj i=>BK (Zl f a i)
 (Zm a g))
def Jc:=λa (R:VK) c (d:za)=>
 zq zz (fn 24) [nth c 0] d (λe f=>opt (yn 64 a e f) λb=>opt (zd zz 64 a b) λg=>rv [g,.bool true] b R)
def Yk:=λc a (R:VK) d e f g (b:za)=>
 opt (pk c (.bool true) g) λh=>CD h (YY a b R)
 (λi=>i [.bool false] b)
 (λl j=>BK (λk=>LP (YZ d k e)
 [f,pm 0] j)
 (Jc a R))
def Zj:=λa c (R:VK) d e f g (b:za)=>
 zg a false (zh .gtr 2 77 g 63) b (Yk a c R d e f) b
def Yl:=λc d (e:za) a (R:VK) (j:LK)=>
 opt (yz .geq 2 130 131 c d) λf=>zq zz (fn 71) [f] e (λg h=>opt (yn 64 a g h) λb=>opt (zd zz 64 a b) λi=>rv [i,.bool true] b R)
def Jb:=λc d (e:za) a (R:VK) (j:LK)=>
 opt (yz .gtr 2 124 125 c d) λf=>zq zz (fn 71) [f] e (λg h=>opt (yn 64 a g h) λb=>opt (zd zz 64 a b) λi=>rv [i,.bool true] b R)
def U9:=λb c d (a:za) e (R:VK) (f:LK)=>
 opt (zh .eql 3 19 b 26) λg=>CD g (Yl c d a e R)
 (λh=>h [.bool false] a)
 (λi j=>f [nth i 0] j)
def Qa:=λc d (e:za) a (R:VK) (j:LK)=>
 opt (yz .leq 2 118 119 c d) λf=>zq zz (fn 71) [f] e (λg h=>opt (yn 64 a g h) λb=>opt (zd zz 64 a b) λi=>rv [i,.bool true] b R)
def Vj:=λa b c (d:za) e (R:VK) (f:LK)=>
 opt (zh .eql 3 19 a 25) λg=>CD g (Jb b c d e R)
 (U9 a b c d e R)
 (λh i=>f [nth h 0] i)
def Vk:=λc d (e:za) a (R:VK) (j:LK)=>
 opt (yz .lss 2 112 113 c d) λf=>zq zz (fn 71) [f] e (λg h=>opt (yn 64 a g h) λb=>opt (zd zz 64 a b) λi=>rv [i,.bool true] b R)
def Wh:=λa b c (d:za) e (R:VK) (f:LK)=>
 opt (zh .eql 3 19 a 24) λg=>CD g (Qa b c d e R)
 (Vj a b c d e R)
 (λh i=>f [nth h 0] i)
def Wi:=λc d (e:za) a (R:VK) (j:LK)=>
 opt (yz .neq 2 106 107 c d) λf=>zq zz (fn 71) [f] e (λg h=>opt (yn 64 a g h) λb=>opt (zd zz 64 a b) λi=>rv [i,.bool true] b R)
def Xj:=λa b c (d:za) e (R:VK) (f:LK)=>
 opt (zh .eql 3 19 a 23) λg=>CD g (Vk b c d e R)
 (Wh a b c d e R)
 (λh i=>f [nth h 0] i)
def Xk:=λc d (e:za) a (R:VK) (j:LK)=>
 opt (yz .eql 2 100 101 c d) λf=>zq zz (fn 71) [f] e (λg h=>opt (yn 64 a g h) λb=>opt (zd zz 64 a b) λi=>rv [i,.bool true] b R)
def Ym:=λa b c (d:za) e (R:VK) (f:LK)=>
 opt (zh .eql 3 19 a 22) λg=>CD g (Wi b c d e R)
 (Xj a b c d e R)
 (λh i=>f [nth h 0] i)
def qH:=λa (b:za) d (R:VK) e f (h:LK)=>
 opt (zh .lss 2 74 a 0) λc=>GD c false (λg=>g a b) (Zj c d R a e f) b
def qt:=λa b c (d:za) e (R:VK) (f:LK)=>
 opt (zh .eql 3 19 a 21) λg=>CD g (Xk b c d e R)
 (Ym a b c d e R)
 (λh i=>f [nth h 0] i)
def Zk:=λa b (e:za) c (R:VK) (l:LK)=>
 opt (yz .or 2 63 64 a b) λf=>opt (yz .and 2 66 67 a b) λg=>opt (yz .sub 2 65 68 f g) λh=>zq zz (fn 24) [h] e (λi j=>opt (yn 64 c i j) λd=>opt (zd zz 64 c d) λk=>rv [k,.bool true] d R)
def uX:=λa (c:za) d e (R:VK) f (i:LK)=>
 opt (zh .eql 3 19 a 19) λg=>CD g (λb=>b [g] c)
 (λb=>opt (zh .eql 3 19 a 20) λj=>b [j] c)
 (λk h=>CD (nth k 0) (qH d h e R a f)
 (qt a f d h e R)
 (λl m=>i [nth l 0] m))
def uY:=λc d (e:za) a (R:VK) (j:LK)=>
 opt (yz .or 2 57 58 c d) λf=>zq zz (fn 24) [f] e (λg h=>opt (yn 64 a g h) λb=>opt (zd zz 64 a b) λi=>rv [i,.bool true] b R)
def uk:=λa b c (d:za) e (R:VK) (f:LK)=>
 opt (zh .eql 3 19 a 18) λg=>CD g (Zk b c d e R)
 (uX a d c e R b)
 (λh i=>f [nth h 0] i)
def um:=λc d (e:za) a (R:VK) (j:LK)=>
 opt (yz .and 2 51 52 c d) λf=>zq zz (fn 24) [f] e (λg h=>opt (yn 64 a g h) λb=>opt (zd zz 64 a b) λi=>rv [i,.bool true] b R)
def vS:=λa b c (d:za) e (R:VK) (f:LK)=>
 opt (zh .eql 3 19 a 17) λg=>CD g (uY b c d e R)
 (uk a b c d e R)
 (λh i=>f [nth h 0] i)
def yS:=λa b c (d:za) e (R:VK) (f:LK)=>
 opt (zh .eql 3 19 a 16) λg=>CD g (um b c d e R)
 (vS a b c d e R)
 (λh i=>f [nth h 0] i)
def y8:=λd a (R:VK) c e f g h (i:LK) j (b:za)=>
 CD (nth j 0) (λo=>opt (Vx zz .not d) λk=>CD k (WI a b R)
 (λl=>l [.bool false] b)
 (QB c e f a R))
 (yS c g h b a R)
 (λm n=>i [nth m 0] n)
def vG:=λc d (e:za) a (R:VK) (j:LK)=>
 opt (yz .mul 2 34 35 c d) λf=>zq zz (fn 24) [f] e (λg h=>opt (yn 64 a g h) λb=>opt (zd zz 64 a b) λi=>rv [i,.bool true] b R)
def wE:=λa (c:za) e f (R:VK) g h i j (k:LK)=>
 opt (zh .eql 3 19 a 14) λd=>CD d (λb=>b [d] c)
 (λb=>opt (zh .eql 3 19 a 15) λl=>b [l] c)
 (y8 e f R a g h i j k)
def xJ:=λc d (e:za) a (R:VK) (j:LK)=>
 opt (yz .sub 2 28 29 c d) λf=>zq zz (fn 24) [f] e (λg h=>opt (yn 64 a g h) λb=>opt (zd zz 64 a b) λi=>rv [i,.bool true] b R)
def wz:=λa b c (d:za) e (R:VK) f g h (i:LK)=>
 opt (zh .eql 3 19 a 13) λj=>CD j (vG b c d e R)
 (wE a d f e R g h b c)
 (λk l=>i [nth k 0] l)
def xF:=λc d (e:za) a (R:VK) (j:LK)=>
 opt (yz .add 2 22 23 c d) λf=>zq zz (fn 24) [f] e (λg h=>opt (yn 64 a g h) λb=>opt (zd zz 64 a b) λi=>rv [i,.bool true] b R)
def wg:=λa b c (d:za) e (R:VK) f g h (i:LK)=>
 opt (zh .eql 3 19 a 12) λj=>CD j (xJ b c d e R)
 (wz a b c d e R f g h)
 (λk l=>i [nth k 0] l)
def zV:=λa b c (d:za) e (R:VK) f g h (i:LK)=>
 opt (zh .eql 3 19 a 11) λj=>CD j (xF b c d e R)
 (wg a b c d e R f g h)
 (λk l=>i [nth k 0] l)
def z7:=λa (R:VK) (f:List aaa) (c:za)=>
 opt (nb [] (yd zz 64 [])) λd=>opt (yn 64 a d c) λb=>opt (zd zz 64 a b) λe=>rv [e,.bool false] b R
def tU:=λ(h:za) e b c (R:VK)=>
 qa 64 h λd f=>zq zz (fn 98) [b,c] f (λa g=>opt (kV a 0) λi=>opt (kV a 1) λj=>opt (kV a 2) λk=>BK (zV e b c g d R k j i)
 (z7 d R))
theorem od(hw:tU h t0 t1 t2 R):DC zz 70 [t0,t1,t2] h R:=zT (by kernel_rfl) hw
def ZO:=λa (c:za) (R:VK) (f:LK)=>
 opt (nb [] (yd zz 64 [])) λd=>opt (yn 64 a d c) λb=>opt (zd zz 64 a b) λe=>rv [e,.bool false] b R
def qA:=λa (R:VK) b (d:za)=>
 opt (kV b 0) λe=>opt (kV b 1) λf=>opt (yn 64 a e d) λc=>opt (zd zz 64 a c) λg=>rv [g,f] c R
def eI:=λb (a:za) c d e (R:VK) (h:LK)=>
 zt 64 b 1 2 a λf=>zt 64 c 1 2 a λg=>zq zz (fn 70) [d,f,g] a (qA e R)
def eJ:=λb (a:za) e c (R:VK) (m:LK)=>
 zt 64 b 2 3 a λf=>zt 64 b 1 2 a λg=>zt 64 e 1 2 a λh=>opt (yz .add 2 53 55 g h) λi=>zq zz (fn 45) [f,i] a (λj k=>opt (yn 64 c j k) λd=>opt (zd zz 64 c d) λl=>rv [l,.bool true] d R)
def JH:=λb (a:za) e c (R:VK) (m:LK)=>
 zt 64 b 2 3 a λf=>zt 64 e 1 2 a λg=>zt 64 b 1 2 a λh=>opt (yz .add 2 68 70 g h) λi=>zq zz (fn 45) [f,i] a (λj k=>opt (yn 64 c j k) λd=>opt (zd zz 64 c d) λl=>rv [l,.bool true] d R)
def eK:=λb (a:za) e c (R:VK) (m:LK)=>
 zt 64 b 2 3 a λf=>zt 64 b 1 2 a λg=>zt 64 e 1 2 a λh=>opt (yz .sub 2 83 85 g h) λi=>zq zz (fn 45) [f,i] a (λj k=>opt (yn 64 c j k) λd=>opt (zd zz 64 c d) λl=>rv [l,.bool true] d R)
def Yv:=λa (c:za) (R:VK) (f:LK)=>
 opt (nb [] (yd zz 64 [])) λd=>opt (yn 64 a d c) λb=>opt (zd zz 64 a b) λe=>rv [e,.bool false] b R
def JI:=λd (a:za) e f b (R:VK) (o:LK)=>
 opt (zd zz 64 d a) λg=>opt (zd zz 64 e a) λh=>opt (yz .eql 64 103 104 g h) λi=>opt (zh .eql 3 106 f 21) λj=>opt (yz .eql 4 105 107 i j) λk=>zq zz (fn 71) [k] a (λl m=>opt (yn 64 b l m) λc=>opt (zd zz 64 b c) λn=>rv [n,.bool true] c R)
def VI:=λa (c:za) (R:VK) (f:LK)=>
 opt (nb [] (yd zz 64 [])) λd=>opt (yn 64 a d c) λb=>opt (zd zz 64 a b) λe=>rv [e,.bool false] b R
def WG:=λc a (R:VK) (i:List aaa) (d:za)=>
 opt (zh .eql 3 129 c 22) λe=>zq zz (fn 71) [e] d (λf g=>opt (yn 64 a f g) λb=>opt (zd zz 64 a b) λh=>rv [h,.bool true] b R)
def jc:=λa e b (R:VK) f g h (c:za)=>
 zg a false (pk e h (.bool false)) c (λi d=>opt (pk a (.bool true) i) λj=>CD j (VI b d R)
 (λk=>k [nth f 0] d)
 (WG g b R)) c
def jd:=λa c d (R:VK) e f g (b:za)=>
 zg a true (zh .neq 2 124 g 0) b (jc c a d R e f) b
def jy:=λd e f (R:VK) g h a (c:za)=>
 zg a true (ze zz 64 d 1) c (λi b=>zg a true (zd zz 2 i b) b (jd a e f R g h) b) c
def jf:=λa d e (R:VK) f g h (b:za)=>
 zg a false (zh .eql 3 120 h 1) b (λi c=>GD a false (λj=>j i c) (jy d a e R f g) c) b
def kM:=λe c f (R:VK) g h i (d:za)=>
 opt (pk e i (.bool false)) λa=>zg a false (ze zz 64 c 0) d (λj b=>zg a false (zd zz 3 j b) b (jf a c f R g h) b) d
def jg:=λa c d (R:VK) e f g (b:za)=>
 zg a true (zh .neq 2 115 g 0) b (kM a c d R e f) b
def qC:=λd e f (R:VK) g h (a:za)=>
 zt 64 d 0 3 a λi=>opt (zh .eql 3 111 i 1) λb=>zg b true (ze zz 64 d 1) a (λj c=>zg b true (zd zz 2 j c) c (jg b e f R h g) c) a
def qW:=λa b c d e (R:VK) h i (f:za)=>
 zg a true (zh .eql 3 100 i 2) f (λj g=>opt (pk a j (.bool false)) λk=>CD k (JI b g c d e R)
 (λl=>l [nth h 0] g)
 (qC b c e R d)) f
def wj:=λd e f g (R:VK) h (a:za)=>
 zt 64 d 0 3 a λi=>opt (zh .eql 3 96 i 2) λb=>zg b true (ze zz 64 e 0) a (λj c=>zg b true (zd zz 3 j c) c (qW b d e f g R h) c) a
def vX:=λa b (R:VK) e f g h i (c:za)=>
 zg a true (zh .neq 3 91 i 22) c (λj d=>opt (pk a j (.bool false)) λk=>CD k (Yv b d R)
 (λl=>l [nth e 0] d)
 (wj f g h b R)) c
def uy:=λa d (R:VK) e f g (b:za)=>
 opt (zh .neq 3 88 a 21) λc=>GD c true (λh=>h a b) (vX c d R g e f a) b
def qD:=λa b c d (R:VK) g h i (e:za)=>
 zg a true (zh .eql 3 77 i 1) e (λj f=>opt (pk a j (.bool false)) λk=>CD k (eK b f c d R)
 (λl=>l [nth g 0] f)
 (uy h d R b c)) e
def qE:=λc d f g (R:VK) h (e:za)=>
 opt (zh .eql 3 73 c 12) λa=>zg a true (ze zz 64 d 0) e (λi b=>zg a true (zd zz 3 i b) b (qD a f d g R h c) b) e
def qd:=λa b c d (R:VK) g h i (e:za)=>
 zg a true (zh .eql 3 62 i 1) e (λj f=>opt (pk a j (.bool false)) λk=>CD k (JH b f c d R)
 (λl=>l [nth g 0] f)
 (qE h b c d R)) e
def qe:=λc d f g (R:VK) h (e:za)=>
 opt (zh .eql 3 58 c 11) λa=>zg a true (ze zz 64 d 0) e (λi b=>zg a true (zd zz 3 i b) b (qd a f d g R h c) b) e
def uG:=λa b c d (R:VK) g h i (e:za)=>
 zg a true (zh .eql 3 47 i 1) e (λj f=>opt (pk a j (.bool false)) λk=>CD k (eJ b f c d R)
 (λl=>l [nth g 0] f)
 (qe h b c d R)) e
def uH:=λc d f g (R:VK) h (e:za)=>
 opt (zh .eql 3 43 c 11) λa=>zg a true (ze zz 64 d 0) e (λi b=>zg a true (zd zz 3 i b) b (uG a f d g R h c) b) e
def uz:=λa b c d e (R:VK) h i (f:za)=>
 zg a true (zh .eql 3 32 i 1) f (λj g=>opt (pk a j (.bool false)) λk=>CD k (eI b g c d e R)
 (λl=>l [nth h 0] g)
 (uH d c b e R)) f
def uA:=λd e f g (R:VK) h (a:za)=>
 zt 64 d 0 3 a λi=>opt (zh .eql 3 28 i 1) λb=>zg b true (ze zz 64 e 0) a (λj c=>zg b true (zd zz 3 j c) c (uz b d e f g R h) c) a
def wT:=λa b (R:VK) e f g h (c:za)=>
 zg a false (zh .eql 3 23 h 0) c (λi d=>opt (pk a (.bool true) i) λj=>CD j (ZO b d R)
 (λk=>k [.bool false] d)
 (uA e f g b R)) c
def wU:=λe c f (R:VK) g h i (d:za)=>
 opt (pk e (.bool true) i) λa=>zg a false (ze zz 64 c 0) d (λj b=>zg a false (zd zz 3 j b) b (wT a f R g c h) b) d
def wV:=λa c d (R:VK) e f g (b:za)=>
 zg a false (zh .eql 3 18 g 0) b (wU a c d R e f) b
def wW:=λe c f g (R:VK) h i (d:za)=>
 opt (pk e (.bool true) i) λa=>zg a false (ze zz 64 c 0) d (λj b=>zg a false (zd zz 3 j b) b (wV a f g R c h) b) d
def sw:=λa e f g (R:VK) h i (c:za)=>
 GD a false (λj=>zq zz (fn 69) [i] c (λb k=>j b k)) (λb d=>zg a false (Vx zz .not b) d (wW a e f g R h) d) c
def FG:=λ(h:za) i b c (R:VK)=>
 opt (nb [b] (some (Value.cells b).toList)) λj=>nw h j 64 λd k=>opt (nb [c] (some (Value.cells c).toList)) λl=>nw k l 64 λe m=>qa 64 m λn f=>opt (zd zz 64 d f) λo=>zq zz (fn 69) [o] f (λp a=>opt (Vx zz .not p) λg=>zg g false (zd zz 64 e a) a (sw g d e n R i) a)
theorem sy(hw:FG h t0 t1 t2 R):DC zz 43 [t0,t1,t2] h R:=zT (by kernel_rfl) hw
end Go.Dm
namespace Go.Ai
open Go.Ai Go.Proofs
theorem Wp:rG 59:=wG (by kernel_rfl)
theorem GR:rG 60:=wG (by kernel_rfl)
theorem zf2:Ry 59 110 2 32:=λr v x n w h h1 h2 h3 h4=>jw (e:=110) (e2:=110) (by kernel_rfl) (by kernel_rfl) (by kernel_rfl) (by kernel_rfl) (by decide) h1 h2 h3 h4
theorem SV:Ry 60 64 3 24:=λr v x n w h h1 h2 h3 h4=>jw (e:=64) (e2:=64) (by kernel_rfl) (by kernel_rfl) (by kernel_rfl) (by kernel_rfl) (by decide) h1 h2 h3 h4
theorem zf7:RG 59:=λb o _ _ _ h=>uc (by kernel_rfl) b o _ h rfl
theorem Ta:RG 60:=λb o _ _ _ h=>uc (by kernel_rfl) b o _ h rfl
theorem Te(v0:Option Addr)(v0l v0c:Nat):yd pu 110 [(0,(.slice v0 v0l v0c))]=some (.agg #[(.slice v0 v0l v0c),(.bool false)]):=zG (by kernel_rfl)
theorem G9(v0:Int)(v2:Int)(v1:Int):yd pu 64 [(0,(pm v0)),(2,(pm v2)),(1,(pm v1))]=some (.agg #[(pm v0),(pm v1),(pm v2)]):=zG (by kernel_rfl)
theorem PA(v00:Option Addr)(v00l v00c:Nat)(v01:Bool)(h:za):zZ pu 59 1 [(0,(.agg #[(.slice v00 v00l v00c),(.bool v01)]))] h=some (.slice (some ⟨h.next,0,none⟩) 1 3,h.push (.cells [(.slice v00 v00l v00c),(.bool v01)] 110)):=zG (by kernel_rfl)
theorem oH(v00:Int)(v01:Int)(v02:Int)(h:za):zZ pu 60 1 [(0,(.agg #[(pm v00),(pm v01),(pm v02)]))] h=some (.slice (some ⟨h.next,0,none⟩) 1 3,h.push (.cells [(pm v00),(pm v01),(pm v02)] 64)):=zG (by kernel_rfl)
theorem zc3:Program.cellsOf pu 64=3:=zG (by kernel_rfl)
theorem mm(n:Int)(h:za):vY pu 2 168 (pm n) h=some (.int .u64 (IntKind.wrap .u64 n),h):=zG (by kernel_rfl)
theorem WM(n:Int)(h:za):vY pu 3 141 (pm n) h=some (.int .u64 (IntKind.wrap .u64 n),h):=zG (by kernel_rfl)
theorem mq(n:Int)(h:za):vY pu 3 168 (pm n) h=some (.int .u64 (IntKind.wrap .u64 n),h):=zG (by kernel_rfl)
theorem Y7:Iy 110 0:=λb o=>zG (by kernel_rfl)
theorem mG:WX 110 1 1:=λb o=>zG (by kernel_rfl)
theorem kA:Iy 62 0:=λb o=>zG (by kernel_rfl)
theorem mK:WX 62 1 1:=λb o=>zG (by kernel_rfl)
theorem QQ:Mx 59 2:=λb o l c k i=>vA (e:=110) (by kernel_rfl) (by kernel_rfl)
theorem zgE:Mx 60 3:=λb o l c k i=>vA (e:=64) (by kernel_rfl) (by kernel_rfl)
theorem T5:Rz 59:=λr a n c h=>zG (by kernel_rfl)
theorem T6:Rz 60:=λr a n c h=>zG (by kernel_rfl)
theorem zgP(k k2:IntKind)(l c:Int)(h:za)(h0:0<=l)(h1:l<=c)(h2:c<2^31):UJ pu 22 (.int k l) (.int k2 c) h=some (.slice (some ⟨h.next,0,none⟩) l.toNat (c.toNat+2),h.push (.cells (Zu [(pm 0)] (c.toNat*1)) 3)):=GV (e:=3) (z:=(pm 0)) (n:=1) (bytes:=8) (by kernel_rfl) (by kernel_rfl) (by kernel_rfl) rfl (by decide) (by decide) rfl h0 h1 h2
theorem Og(x y:Operand)(a b:Bool):zS pu .neq 4 x y (.bool a) (.bool b)=some (.bool (!(a == b))):=zG (by kernel_rfl)
theorem za1(c:Nat)(lo hi:Option aaa)(h:za):B7 pu 22 (.slice none 0 c) lo hi h=(vV hi 0 0).bind λhh=>(vV lo 0 hh).bind λl=>some (pp):=zbv (e:=3) (n:=1) (by kernel_rfl) (by kernel_rfl)
theorem za3(b off len c:Nat)(lo hi:Option aaa)(h:za):B7 pu 22 (.slice (some ⟨b,off,none⟩) len c) lo hi h=(vV hi len len).bind λhh=>(vV lo 0 hh).bind λl=>some (.slice (some ⟨b,off+l*1,none⟩) (hh-l) (cond (wide pu h b 1) (aC c l) 0)):=oE (e:=3) (by kernel_rfl) (by kernel_rfl)
end Go.Ai
namespace Go.Dm
open Go.Ai Go.Proofs Go.Mem Go.Rm
theorem fK(v:V)(h:za):xC pu 69 [vv v] h (.bool (kW v)):=by
 apply vC rfl;obtain⟨k,n,b⟩:=v;apply IG;unfold MK kW;by_cases h0:k=0
 ·subst h0;by_cases hn:n=0
  ·simp only[EE,↓nw,Value.cells,↓BK,Int.reduceEq,zo,abt,nE,nG,U3,hn];rfl
  ·simp only[EE,↓nw,Value.cells,↓BK,Int.reduceEq,zo,nE,nG,U3,hn];simp[WS,hn]
 ·by_cases h1:k=1
  ·subst h1;simp only[EE,↓nw,Value.cells,↓BK,zo,Cp,eL,U3,h0];rfl
  ·by_cases h2:k=2
   ·subst h2;simp only[EE,↓nw,Value.cells,↓BK,zo,abt,Co,nF,eL,U3,h0,h1];rfl
   ·simp only[EE,↓nw,Value.cells,↓BK,zo,nF,eL,U3,h0,h1,h2];simp[WS,h2]
theorem ZN(n:Int)(h:za):xC pu 24 [pm n] h (vv (wB n)):=by
 apply vC rfl;apply zbo;unfold zfS;simp only[EE,↓nw,Value.cells,zb,Nat.reduceAdd,xw,zN,De];rfl
theorem G2(b n:Int)(h:za):xC pu 45 [pm b,pm n] h (vv (iQ b n)):=by
 apply vC rfl;apply zbm;unfold zfQ iQ;by_cases h1:b<1
 ·simp only[EE,↓nw,Value.cells,zb,Nat.reduceAdd,xw,zN,h1];rfl
 ·simp only[EE,↓nw,Value.cells,zb,Nat.reduceAdd,xw,zN,G9,R4,h1];rfl
theorem bG(b:Bool)(h:za):xC pu 71 [.bool b] h (vv (kL b)):=by
 apply vC rfl;apply Sj;unfold zcO kL;cases b with
 |true=>
  simp only[EE,↓nw,Value.cells,M4];refine xU (ZN 1 _) ?_;simp only[EE,zb,Nat.reduceAdd,xw,zN];rfl
 |false=>
  simp only[EE,↓nw,Value.cells,M5];refine xU (ZN 0 _) ?_;simp only[EE,zb,Nat.reduceAdd,xw,zN];rfl
theorem vD{a b c:aaa}{h:za}{R:aaa->za->Prop}(ha:yu a=false)(hb:yu b=false)(hc:yu c=false):rv [a,b,c] h R=R (.tuple #[a,b,c]) h:=by
 apply propext;simp only[rv,yy,ha,hb,hc,aaI,Zh,ab1]
theorem dz{a b c:aaa}(ha:yu a=false)(hb:yu b=false)(hc:yu c=false):kV (.tuple #[a,b,c]) 0=some a:=(dE (by simp only[yy,ha,hb,hc,aaI])).trans rfl
theorem dC{a b c:aaa}(ha:yu a=false)(hb:yu b=false)(hc:yu c=false):kV (.tuple #[a,b,c]) 1=some b:=(dE (by simp only[yy,ha,hb,hc,aaI])).trans rfl
theorem dD{a b c:aaa}(ha:yu a=false)(hb:yu b=false)(hc:yu c=false):kV (.tuple #[a,b,c]) 2=some c:=(dE (by simp only[yy,ha,hb,hc,aaI])).trans rfl
theorem TI(a:Int)(h:za):xC pu 72 [pm a,.int .u64 8] h (pm (Go.Rm.vF (IntKind.wrap .i8 a))):=by
 apply vC rfl;apply FP;unfold R6;have e:IntKind.wrap .i64 (BitVec.ofInt (IntKind.bits .i64) a &&& BitVec.ofInt (IntKind.bits .i64) 255).toNat=a%256:=me a 8 (by decide);have w1:IntKind.wrap .i64 (1*2^(min 8 (IntKind.bits .i64)))=256:=by decide
 have w2:IntKind.wrap .i64 255=255:=by decide
 have w3:IntKind.wrap .u64 7=7:=by decide
 have w4:IntKind.wrap .i64 (1*2^(min 7 (IntKind.bits .i64)))=128:=by decide
 have x:(if a%256 ≥ 128 then a%256-256 else a%256)=Go.Rm.vF (IntKind.wrap .i8 a):=zbM a;simp only[EE,seval,w1,w2,w3,w4,e];by_cases c:a%256 ≥ 128
 ·have w5:IntKind.wrap .i64 (a%256-256)=a%256-256:=BN ⟨by omega,by omega⟩;simp only[EE,Int.reduceLE,Int.reduceToNat,D4,c,w1,w5];rw[aai c]at x;rw[<- x];rfl
 ·simp only[EE,c];rw[aae c]at x;rw[<- x];rfl
theorem NS(a:Int)(h:za):xC pu 72 [pm a,.int .u64 32] h (pm (Go.Rm.vF (IntKind.wrap .i32 a))):=by
 apply vC rfl;apply FP;unfold R6;have e:IntKind.wrap .i64 (BitVec.ofInt (IntKind.bits .i64) a &&& BitVec.ofInt (IntKind.bits .i64) 4294967295).toNat=a%4294967296:=me a 32 (by decide);have w1:IntKind.wrap .i64 (1*2^(min 32 (IntKind.bits .i64)))=4294967296:=by decide
 have w2:IntKind.wrap .i64 4294967295=4294967295:=by decide
 have w3:IntKind.wrap .u64 31=31:=by decide
 have w4:IntKind.wrap .i64 (1*2^(min 31 (IntKind.bits .i64)))=2147483648:=by decide
 have x:(if a%4294967296 ≥ 2147483648 then a%4294967296-4294967296 else a%4294967296)=Go.Rm.vF (IntKind.wrap .i32 a):=TH a;simp only[EE,seval,w1,w2,w3,w4,e];by_cases c:a%4294967296 ≥ 2147483648
 ·have w5:IntKind.wrap .i64 (a%4294967296-4294967296)=a%4294967296-4294967296:=BN ⟨by omega,by omega⟩;simp only[EE,Int.reduceLE,Int.reduceToNat,D4,c,w1,w5];rw[aai c]at x;rw[<- x];rfl
 ·simp only[EE,c];rw[aae c]at x;rw[<- x];rfl
theorem zbb(a:Int):Vx pu .neg (.int .u64 a)=some (.int .u64 (wu (0-a))):=rfl
theorem zcE(n:Int):Go.Rm.vF (wu n)=Go.Rm.vF n:=by
 rw[BM,BM,BO]
 congr 1
 apply BitVec.eq_of_toNat_eq;simp only[BitVec.toNat_ofInt];omega
theorem Fs{a:Int}(h:wH a)(n:a<0):wu (0-wu a) = -a:=by
 obtain⟨h1,h2⟩:=h;rw[BO,BO];omega
theorem OL{a:Int}(h:wH a)(n:¬a<0):wu a=a:=by
 obtain⟨h1,h2⟩:=h;rw[BO];omega
theorem sd{x y:Int}(h0:0<=x)(hx:x<=9223372036854775808)(hy:0<y):¬y=0/\wu (x.tdiv y)=x.tdiv y/\wu (x.tdiv y*y)=x.tdiv y*y/\wu (x-x.tdiv y*y)=x.tmod y/\0<=x.tmod y/\x.tmod y<y:=by
 rw[acn h0,abr h0];have e:=Int.mul_ediv_add_emod x y;rw[Int.mul_comm]at e;have m0:=Int.emod_nonneg x (show y≠0 by omega);have m1:=Int.emod_lt_of_pos x hy;have d0:0<=x/y:=Int.ediv_nonneg h0 (by omega);have d1:x/y<=x:=Int.ediv_le_self y h0;have d2:0<=x/y*y:=Int.mul_nonneg d0 (by omega);generalize x/y*y=z at e d2 ⊢;refine⟨by omega,?_,?_,?_,m0,m1⟩ <;> rw[BO] <;> omega
def Lr(a b:Int):Prop:=b=0\/(a = -9223372036854775808/\b = -1)
instance (a b:Int):Decidable (Lr a b):=by unfold Lr;infer_instance
def Ls(a b:Int):aaa:=if Lr a b then .tuple #[pm 0,pm 0,.bool false] else .tuple #[pm (Go.Rm.vF (a.tdiv b)),pm (a.tmod b),.bool true]
theorem bt:(true == false)=false:=rfl
theorem bf:(false == true)=false:=rfl
theorem PD{a b:Int}(ha:wH a)(hb:wH b)(h:za):xC pu 98 [pm a,pm b] h (Ls a b):=by
 apply vC (by unfold Ls;split <;> rfl);apply D3;unfold Cn;by_cases b0:b=0
 ·have e:Ls a b=.tuple #[pm 0,pm 0,.bool false]:=aai (.inl b0);rw[e];simp only[EE,VW,VX,VY,b0,vD];rfl
 by_cases am:a = -9223372036854775808/\b = -1
 ·have e:Ls a b=.tuple #[pm 0,pm 0,.bool false]:=aai (.inr am);obtain⟨am,b1⟩:=am;rw[e];simp only[EE,Int.reduceEq,Int.reduceNeg,VW,VX,VY,am,b1,vD];rfl
 have e:Ls a b=.tuple #[pm (Go.Rm.vF (a.tdiv b)),pm (a.tmod b),.bool true]:=aae (by unfold Lr;omega);rw[e]
 have go:X0 (pm a) (pm b) (WS (.tuple #[pm (Go.Rm.vF (a.tdiv b)),pm (a.tmod b),.bool true])) [pm 0,pm 0,.bool false] h.lock:=by
  have ha1:=ha.1;have ha2:=ha.2;have hb1:=hb.1;have hb2:=hb.2;by_cases an:a<0 <;> by_cases bn:b<0
  ·obtain⟨q0,r0,q1,q2,q3,q4⟩:=sd (x := -a) (y := -b) (by omega) (by omega) (by omega);have t1:a.tdiv b=(-a).tdiv (-b):=by rw[Int.neg_tdiv,Int.tdiv_neg,Int.neg_neg]
   have t2:a.tmod b = - ((-a).tmod (-b)):=by rw[Int.neg_tmod,Int.tmod_neg,Int.neg_neg]
   simp only[EE,nth,abt,jO,mm,Og,VS,VT,VU,VV,X0,an,bn,Fs ha an,Fs hb bn,q0,r0,q1,q2,vD];have z:IntKind.wrap .i64 (IntKind.wrap .u64 (0-(-a).tmod (-b)))=Go.Rm.vF (0-(-a).tmod (-b)):=zcE _;rw[BN (n:=0-_) ⟨by omega,by omega⟩]at z;rw[t1,t2,z,Int.zero_sub];rfl
  ·obtain⟨q0,r0,q1,q2,q3,q4⟩:=sd (x := -a) (y:=b) (by omega) (by omega) (by omega);have t1:a.tdiv b=0-(-a).tdiv b:=by rw[Int.neg_tdiv];omega
   have t2:a.tmod b = - ((-a).tmod b):=by rw[Int.neg_tmod,Int.neg_neg]
   simp only[EE,nth,jO,mm,Og,VS,VT,VU,VV,X0,an,bn,Fs ha an,OL hb bn,q0,r0,q1,q2,vD,bt];have z:IntKind.wrap .i64 (IntKind.wrap .u64 (0-(-a).tmod b))=Go.Rm.vF (0-(-a).tmod b):=zcE _;have z2:IntKind.wrap .i64 (IntKind.wrap .u64 (0-(-a).tdiv b))=Go.Rm.vF (0-(-a).tdiv b):=zcE _;rw[BN (n:=0-_) ⟨by omega,by omega⟩]at z;rw[t1,t2,z,z2,Int.zero_sub,Int.zero_sub];rfl
  ·obtain⟨q0,r0,q1,q2,q3,q4⟩:=sd (x:=a) (y := -b) (by omega) (by omega) (by omega);have t1:a.tdiv b=0-a.tdiv (-b):=by rw[Int.tdiv_neg];omega
   have t2:a.tmod b=a.tmod (-b):=by rw[Int.tmod_neg]
   simp only[EE,nth,jO,mm,Og,VS,VT,VU,VV,X0,an,bn,OL ha an,Fs hb bn,q0,r0,q1,q2,vD,bf];have z:IntKind.wrap .i64 (a.tmod (-b))=_:=BN (n:=a.tmod (-b)) ⟨by omega,by omega⟩;have z2:IntKind.wrap .i64 (IntKind.wrap .u64 (0-a.tdiv (-b)))=Go.Rm.vF (0-a.tdiv (-b)):=zcE _;rw[t1,t2,z,z2];rfl
  ·obtain⟨q0,r0,q1,q2,q3,q4⟩:=sd (x:=a) (y:=b) (by omega) (by omega) (by omega);simp only[EE,nth,abt,jO,mm,Og,VS,VT,VU,VV,X0,an,bn,OL ha an,OL hb bn,q0,r0,q1,q2,vD];have z:IntKind.wrap .i64 (a.tmod b)=_:=BN (n:=a.tmod b) ⟨by omega,by omega⟩;rw[z];rfl
 by_cases am2:a = -9223372036854775808
 ·have b1:¬b = -1:=λe=>am ⟨am2,e⟩;simp only[EE,Int.reduceNeg,VW,VX,VY,b0,am2,b1];rw[am2]at go;exact go
 ·simp only[EE,Int.reduceNeg,VW,VX,VY,b0,am2];exact go
theorem Lt(a b:Int):∃q r ok,Ls a b=.tuple #[pm q,pm r,.bool ok]/\(if Lr a b then ok=false else q=Go.Rm.vF (a.tdiv b)/\r=a.tmod b/\ok=true):=by
 unfold Ls;split
 ·exact⟨_,_,_,rfl,rfl⟩
 ·exact⟨_,_,_,rfl,rfl,rfl,rfl⟩
theorem zb1{op a b:Int}(ha:wH a)(hb:wH b)(h:za):xC pu 70 [pm op,pm a,pm b] h (qc (uE op a b)):=by
 apply vC rfl;apply od;unfold tU;obtain⟨q,r,ok,e,hq⟩:=Lt a b;simp only[EE,↓nw,Value.cells];refine xU (by have:=PD ha hb (h.lock.push (.cells [pm 0,pm 0,pm 0] 64));rw[e]at this;exact this) ?_;simp only[EE,↓BK,dz,dC,dD];by_cases o11:op=11
 ·subst o11;simp only[EE,xF,zV];refine xU (ZN (Go.Rm.vF (a+b)) _) ?_;simp only[EE,zb,Nat.reduceAdd,xw,zN];rfl
 by_cases o12:op=12
 ·subst o12;simp only[EE,Int.reduceEq,xJ,wg,zV];refine xU (ZN (Go.Rm.vF (a-b)) _) ?_;simp only[EE,zb,Nat.reduceAdd,xw,zN];rfl
 by_cases o13:op=13
 ·subst o13;simp only[EE,Int.reduceEq,vG,wz,wg,zV];refine xU (ZN (Go.Rm.vF (a*b)) _) ?_;simp only[EE,zb,Nat.reduceAdd,xw,zN];rfl
 by_cases o14:op=14
 ·subst o14;by_cases c:Lr a b
  ·rw[aai c]at hq;subst hq;simp only[EE,nth,zb,Nat.reduceAdd,Int.reduceEq,xw,zN,WI,y8,wE,wz,wg,zV,z7];have:uE 14 a b=none:=by unfold uE;rw[aae (by decide),aae (by decide),aae (by decide),aai (.inl rfl),aai (show b=0\/(a = -9223372036854775808/\b = -1) from c)]
   rw[this];rfl
  ·rw[aae c]at hq;obtain⟨rfl,rfl,rfl⟩:=hq;simp only[EE,nth,zb,Nat.reduceAdd,Int.reduceEq,xw,QA,QB,y8,wE,wz,wg,zV,z7];refine xU (ZN _ _) ?_;simp only[EE,zb,Nat.reduceAdd,xw,zN];have:uE 14 a b=some (wB (Go.Rm.vF (a.tdiv b))):=by unfold uE;rw[aae (by decide),aae (by decide),aae (by decide),aai (.inl rfl),aae (show ¬(b=0\/(a = -9223372036854775808/\b = -1)) from c),aai rfl]
   rw[this];rfl
 by_cases o15:op=15
 ·subst o15;by_cases c:Lr a b
  ·rw[aai c]at hq;subst hq;simp only[EE,nth,zb,Nat.reduceAdd,Int.reduceEq,xw,zN,WI,y8,wE,wz,wg,zV,z7];have:uE 15 a b=none:=by unfold uE;rw[aae (by decide),aae (by decide),aae (by decide),aai (.inr rfl),aai (show b=0\/(a = -9223372036854775808/\b = -1) from c)]
   rw[this];rfl
  ·rw[aae c]at hq;obtain⟨rfl,rfl,rfl⟩:=hq;simp only[EE,nth,zb,Nat.reduceAdd,Int.reduceEq,xw,QA,QB,y8,wE,wz,wg,zV,z7];refine xU (ZN _ _) ?_;simp only[EE,zb,Nat.reduceAdd,xw,zN];have:uE 15 a b=some (wB (a.tmod b)):=by unfold uE;rw[aae (by decide),aae (by decide),aae (by decide),aai (.inr rfl),aae (show ¬(b=0\/(a = -9223372036854775808/\b = -1)) from c),aae (by decide)]
   rw[this];rfl
 by_cases o16:op=16
 ·subst o16;simp only[EE,nth,zb,Nat.reduceAdd,Int.reduceEq,xw,um,yS,y8,wE,wz,wg,zV,z7];refine xU (ZN (kN (· &&& ·) a b) _) ?_;simp only[EE,zb,Nat.reduceAdd,xw,zN];rfl
 by_cases o17:op=17
 ·subst o17;simp only[EE,nth,zb,Nat.reduceAdd,Int.reduceEq,xw,uY,vS,yS,y8,wE,wz,wg,zV,z7];refine xU (ZN (kN (· ||| ·) a b) _) ?_;simp only[EE,zb,Nat.reduceAdd,xw,zN];rfl
 by_cases o18:op=18
 ·subst o18;have x:IntKind.wrap .i64 (IntKind.wrap .i64 (BitVec.ofInt (IntKind.bits .i64) a ||| BitVec.ofInt (IntKind.bits .i64) b).toNat-IntKind.wrap .i64 (BitVec.ofInt (IntKind.bits .i64) a &&& BitVec.ofInt (IntKind.bits .i64) b).toNat)=kN (· ^^^ ·) a b:=xor_eq a b;simp only[EE,nth,zb,Nat.reduceAdd,Int.reduceEq,xw,Zk,uk,vS,yS,y8,wE,wz,wg,zV,z7,x];refine xU (ZN (kN (· ^^^ ·) a b) _) ?_;simp only[EE,zb,Nat.reduceAdd,xw,zN];rfl
 by_cases o21:op=21
 ·subst o21;simp only[EE,nth,zb,Nat.reduceAdd,Int.reduceEq,xw,Xk,qt,uX,uk,vS,yS,y8,wE,wz,wg,zV,z7];refine xU (bG (decide (a=b)) _) ?_;simp only[EE,zb,Nat.reduceAdd,xw,zN];rfl
 by_cases o22:op=22
 ·subst o22;simp only[EE,nth,zb,Nat.reduceAdd,Int.reduceEq,xw,Wi,Ym,qt,uX,uk,vS,yS,y8,wE,wz,wg,zV,z7];refine xU (bG (!decide (a=b)) _) ?_;simp only[EE,zb,Nat.reduceAdd,xw,zN];rfl
 by_cases o23:op=23
 ·subst o23;simp only[EE,nth,zb,Nat.reduceAdd,Int.reduceEq,xw,Vk,Xj,Ym,qt,uX,uk,vS,yS,y8,wE,wz,wg,zV,z7];refine xU (bG (decide (a<b)) _) ?_;simp only[EE,zb,Nat.reduceAdd,xw,zN];rfl
 by_cases o24:op=24
 ·subst o24;simp only[EE,nth,zb,Nat.reduceAdd,Int.reduceEq,xw,Qa,Wh,Xj,Ym,qt,uX,uk,vS,yS,y8,wE,wz,wg,zV,z7];refine xU (bG (decide (a<=b)) _) ?_;simp only[EE,zb,Nat.reduceAdd,xw,zN];rfl
 by_cases o25:op=25
 ·subst o25;simp only[EE,nth,zb,Nat.reduceAdd,Int.reduceEq,xw,Jb,Vj,Wh,Xj,Ym,qt,uX,uk,vS,yS,y8,wE,wz,wg,zV,z7];refine xU (bG (decide (b<a)) _) ?_;simp only[EE,zb,Nat.reduceAdd,xw,zN];rfl
 by_cases o26:op=26
 ·subst o26;simp only[EE,nth,zb,Nat.reduceAdd,Int.reduceEq,xw,Yl,U9,Vj,Wh,Xj,Ym,qt,uX,uk,vS,yS,y8,wE,wz,wg,zV,z7];refine xU (bG (decide (b<=a)) _) ?_;simp only[EE,zb,Nat.reduceAdd,xw,zN];rfl
 by_cases o19:op=19
 ·subst o19;have is:uE 19 a b=if b<0\/63<b then none else some (wB (Go.Rm.vF (a*2^b.toNat))):=rfl;by_cases b0:b<0
  ·rw[is,aai (.inl b0)];simp only[EE,nth,zb,Nat.reduceAdd,Int.reduceEq,xw,zN,YY,Yk,Zj,qH,uX,uk,vS,yS,y8,wE,wz,wg,zV,z7,b0];rfl
  by_cases b1:63<b
  ·rw[is,aai (.inr b1)];simp only[EE,nth,zb,Nat.reduceAdd,Int.reduceEq,xw,zN,YY,Yk,Zj,qH,uX,uk,vS,yS,y8,wE,wz,wg,zV,z7,b0,b1];rfl
  rw[is,aae (by omega)];simp only[EE,nth,↓BK,zb,Nat.reduceAdd,Int.reduceEq,xw,Yk,Zj,qH,uX,uk,vS,yS,y8,wE,wz,wg,zV,z7,b0,b1];refine qQ (λm vs h'=>∃k:Nat,k<=b.toNat/\m=b.toNat-k/\vs=[pm (Go.Rm.vF (a*2^k)),pm k]/\h'=h.lock.push (.cells [pm 0,pm 0,pm 0] 64)) b.toNat ⟨0,aaX _,rfl,by simp[BN ha],rfl⟩ ?_;rintro m vs h' ⟨k,hk,rfl,rfl,rfl⟩;by_cases c:(k:Int)<b
  ·have e:IntKind.wrap .i64 (IntKind.wrap .i64 (a*2^k)+IntKind.wrap .i64 (a*2^k))=Go.Rm.vF (a*2^(k+1)):=zaX k;have e2:IntKind.wrap .i64 ((k:Int)+1)=((k+1:Nat):Int):=Go.Mem.vF (by omega) (by omega);simp only[EE,nth,↓BK,Zl,Zm,YZ,c,e,e2];exact⟨b.toNat-(k+1),by omega,k+1,by omega,rfl,rfl⟩
  ·have:k=b.toNat:=by omega
   subst this;simp only[EE,nth,YZ,Jc,c];refine xU (ZN _ _) ?_;simp only[EE,zb,Nat.reduceAdd,xw,zN];rfl
 by_cases o20:op=20
 ·subst o20;have is:uE 20 a b=if b<0\/63<b then none else some (wB (a.fdiv (2^b.toNat))):=rfl;by_cases b0:b<0
  ·rw[is,aai (.inl b0)];simp only[EE,nth,zb,Nat.reduceAdd,Int.reduceEq,xw,zN,YY,Yk,Zj,qH,uX,uk,vS,yS,y8,wE,wz,wg,zV,z7,b0];rfl
  by_cases b1:63<b
  ·rw[is,aai (.inr b1)];simp only[EE,nth,zb,Nat.reduceAdd,Int.reduceEq,xw,zN,YY,Yk,Zj,qH,uX,uk,vS,yS,y8,wE,wz,wg,zV,z7,b0,b1];rfl
  rw[is,aae (by omega)];simp only[EE,nth,↓BK,zb,Nat.reduceAdd,Int.reduceEq,xw,Yk,Zj,qH,uX,uk,vS,yS,y8,wE,wz,wg,zV,z7,b0,b1];refine qQ (λm vs h'=>∃k:Nat,k<=b.toNat/\m=b.toNat-k/\vs=[pm (a.fdiv (2^k)),pm k]/\h'=h.lock.push (.cells [pm 0,pm 0,pm 0] 64)) b.toNat ⟨0,aaX _,rfl,by simp[Int.fdiv_one],rfl⟩ ?_;rintro m vs h' ⟨k,hk,rfl,rfl,rfl⟩;by_cases c:(k:Int)<b
  ·have e:IntKind.wrap .i64 ((IntKind.wrap .i64 (a.fdiv (2^k)-IntKind.wrap .i64 (BitVec.ofInt (IntKind.bits .i64) (a.fdiv (2^k)) &&& BitVec.ofInt (IntKind.bits .i64) 1).toNat)).tdiv 2)=a.fdiv (2^(k+1)):=(zaZ (ER ha k)).trans (PJ a k);have e2:IntKind.wrap .i64 ((k:Int)+1)=((k+1:Nat):Int):=Go.Mem.vF (by omega) (by omega);simp only[EE,nth,↓BK,Int.reduceEq,Yb,Zl,Zm,YZ,c,e,e2];exact⟨b.toNat-(k+1),by omega,k+1,by omega,rfl,rfl⟩
  ·have:k=b.toNat:=by omega
   subst this;simp only[EE,nth,YZ,Jc,c];refine xU (ZN _ _) ?_;simp only[EE,zb,Nat.reduceAdd,xw,zN];rfl
 simp only[EE,nth,zb,Nat.reduceAdd,xw,zN,U9,Vj,Wh,Xj,Ym,qt,uX,uk,vS,yS,y8,wE,wz,wg,zV,z7,o11,o12,o13,o14,o15,o16,o17,o18,o19,o20,o21,o22,o23,o24,o25,o26]
 have:uE op a b=none:=by
  unfold uE;rw[aae o11,aae o12,aae o13,aae (by omega),aae o16,aae o17,aae o18,aae (by omega),aae o21,aae o22,aae o23,aae o24,aae o25,aae o26]
 rw[this];rfl
theorem zdF(op:Int)(a:V)(h:za):xC pu 46 [pm op,vv a] h (qc (bO op a)):=by
 apply vC rfl;apply D7;unfold Sf;simp only[EE,↓nw,Value.cells,Nat.reduceAdd,zN];refine xU (fK a _) ?_
 have g3:((h.lock.push (.cells [pm a.k,pm a.n,pm a.b] 64)).push (.cells [pm 0,pm 0,pm 0] 64)).get h.next=some (.cells [pm a.k,pm a.n,pm a.b] 64):=by
  rw[zD (by show h.next<h.next+1;omega)];exact zv
 have g4:((h.lock.push (.cells [pm a.k,pm a.n,pm a.b] 64)).push (.cells [pm 0,pm 0,pm 0] 64)).get (h.next+1)=some (.cells [pm 0,pm 0,pm 0] 64):=zv;have r4:((h.lock.push (.cells [pm a.k,pm a.n,pm a.b] 64)).push (.cells [pm 0,pm 0,pm 0] 64)).ro<=h.next+1:=by show h.next<=h.next+1;omega
 generalize ((h.lock.push (.cells [pm a.k,pm a.n,pm a.b] 64)).push (.cells [pm 0,pm 0,pm 0] 64))=H at g3 g4 r4 ⊢;have hi:isInt a=(decide (a.k=1)&&kW a):=rfl;cases hg:kW a with
 |false=>
  have:bO op a=none:=by unfold bO;rw[aae (by rw[hi,hg];simp)]
  rw[this];simp only[EE,zb,Nat.reduceAdd,xw,zN,nT,Q6,Q7,Q8,g4,r4];rfl
 |true=>
  by_cases k1:a.k=1
  ·have e:bO op a=(if op=1 then some (wB (Go.Rm.vF (0-a.n))) else if op=2 then some (wB (Go.Rm.notM a.n)) else if op=3 then some (wB (Go.Rm.vF (IntKind.wrap .i8 a.n))) else if op=4 then some (wB (Go.Rm.vF (IntKind.wrap .i32 a.n))) else none):=by
    unfold bO;rw[aai (by rw[hi,hg,k1];rfl)]
   rw[e];simp only[EE];by_cases o1:op=1
   ·subst o1;have z:IntKind.wrap .i64 (Go.Rm.notM a.n+1)=Go.Rm.vF (0-a.n):=neg_eq a.n;simp only[EE,↓BK,zo,JO,eX,Q6,Q7,Q8,g3,k1,zdE,z];refine xU (ZN (Go.Rm.vF (0-a.n)) _) ?_;simp only[EE,zb,Nat.reduceAdd,Int.reduceEq,xw,zN,g4,r4];rfl
   by_cases o2:op=2
   ·subst o2;have z:IntKind.wrap .i64 (-1-a.n)=Go.Rm.notM a.n:=not_eq a.n;simp only[EE,↓BK,Int.reduceEq,Int.reduceNeg,zo,tt,Q5,eX,Q6,Q7,Q8,g3,k1,z];refine xU (ZN (Go.Rm.notM a.n) _) ?_;simp only[EE,zb,Nat.reduceAdd,Int.reduceEq,xw,zN,g4,r4];rfl
   by_cases o3:op=3
   ·subst o3;simp only[EE,↓BK,Int.reduceEq,zo,tp,KF,Q5,eX,Q6,Q7,Q8,g3,k1];refine xU (TI a.n _) ?_;simp only[tk];refine xU (ZN _ _) ?_;simp only[EE,zb,Nat.reduceAdd,Int.reduceEq,xw,zN,g4,r4];rfl
   by_cases o4:op=4
   ·subst o4;simp only[EE,↓BK,Int.reduceEq,zo,nU,cQ,KF,Q5,eX,Q6,Q7,Q8,g3,k1];refine xU (NS a.n _) ?_;simp only[tn];refine xU (ZN _ _) ?_;simp only[EE,zb,Nat.reduceAdd,Int.reduceEq,xw,zN,g4,r4];rfl
   rw[aae o1,aae o2,aae o3,aae o4];simp only[EE,↓BK,zb,Nat.reduceAdd,xw,zN,zo,cQ,KF,Q5,eX,MZ,Q6,Q7,Q8,g3,g4,r4,k1,o1,o2,o3,o4];rfl
  ·have:bO op a=none:=by unfold bO;rw[aae (by rw[hi];simp[k1])]
   rw[this];simp only[EE,zb,Nat.reduceAdd,xw,zN,zo,nT,Q6,Q7,Q8,g3,g4,r4,k1];rfl
theorem N9{a:V}(h:kW a=true):a.k=0\/(a.k=1/\a.b=0)\/(a.k=2/\1<=a.b):=by
 unfold kW at h;split at h
 ·exact .inl (by assumption)
 split at h
 ·simp at h;exact .inr (.inl ⟨by assumption,h⟩)
 ·simp at h;exact .inr (.inr h)
theorem yL{a:V}:(isInt a=true ↔ a.k=1/\kW a=true)/\(wX a=true ↔ a.k=2/\kW a=true):=by
 unfold isInt wX;simp
theorem Ha{op:Int}{a b:V}(h:(isInt a=false/\wX a=false)\/(isInt b=false/\wX b=false)):zH op a b=none:=by
 have z:kW (wB 0)=true:=rfl;unfold zH vd;rcases h with⟨x,y⟩|⟨x,y⟩
 ·have:¬a=wB 0:=λe=>by rw[e]at x;cases x
  simp[x,y,this]
 ·have:¬b=wB 0:=λe=>by rw[e]at x;cases x
  simp[x,y,this]
theorem UE{op:Int}{a b:V}(ha:wH a.n)(hb:wH b.n)(h:za):xC pu 43 [pm op,vv a,vv b] h (qc (zH op a b)):=by
 apply vC rfl;apply sy;unfold FG;simp only[EE,↓nw,Value.cells,Nat.reduceAdd,zN];refine xU (fK a _) ?_
 have g4:(((h.lock.push (.cells [pm a.k,pm a.n,pm a.b] 64)).push (.cells [pm b.k,pm b.n,pm b.b] 64)).push (.cells [pm 0,pm 0,pm 0] 64)).get h.next=some (.cells [pm a.k,pm a.n,pm a.b] 64):=by
  rw[zD (by show h.next<h.next+1+1;omega),zD (by show h.next<h.next+1;omega)];exact zv
 have g5:(((h.lock.push (.cells [pm a.k,pm a.n,pm a.b] 64)).push (.cells [pm b.k,pm b.n,pm b.b] 64)).push (.cells [pm 0,pm 0,pm 0] 64)).get (h.next+1)=some (.cells [pm b.k,pm b.n,pm b.b] 64):=by
  rw[zD (by show h.next+1<h.next+1+1;omega)];exact zv
 have g6:(((h.lock.push (.cells [pm a.k,pm a.n,pm a.b] 64)).push (.cells [pm b.k,pm b.n,pm b.b] 64)).push (.cells [pm 0,pm 0,pm 0] 64)).get (h.next+1+1)=some (.cells [pm 0,pm 0,pm 0] 64):=zv;have r6:(((h.lock.push (.cells [pm a.k,pm a.n,pm a.b] 64)).push (.cells [pm b.k,pm b.n,pm b.b] 64)).push (.cells [pm 0,pm 0,pm 0] 64)).ro<=h.next+1+1:=by show h.next<=h.next+1+1;omega
 generalize (((h.lock.push (.cells [pm a.k,pm a.n,pm a.b] 64)).push (.cells [pm b.k,pm b.n,pm b.b] 64)).push (.cells [pm 0,pm 0,pm 0] 64))=H at g4 g5 g6 r6 ⊢;have noA:kW a=false\/a.k=0->zH op a b=none:=λq=>Ha (.inl (by unfold isInt wX;rcases q with q|q <;> simp[q]));have noB:kW b=false\/b.k=0->zH op a b=none:=λq=>Ha (.inr (by unfold isInt wX;rcases q with q|q <;> simp[q]));cases ga:kW a with
 |false=>
  rw[noA (.inl ga)];simp only[EE,zb,Nat.reduceAdd,xw,zN,ZO,wT,wU,wV,wW,sw,g6,r6];rfl
 |true=>
 simp only[EE,Nat.reduceAdd,zN,sw,g5];refine xU (fK b _) ?_;cases gb:kW b with
 |false=>
  rw[noB (.inl gb)];simp only[EE,zb,Nat.reduceAdd,xw,zN,ZO,wT,wU,wV,wW,g6,r6];rfl
 |true=>
 rcases N9 ga with ka|⟨ka,kab⟩|⟨ka,kab⟩
 ·rw[noA (.inr ka)];simp only[EE,zb,Nat.reduceAdd,xw,zN,zo,ZO,wT,wU,wV,wW,g4,g6,r6,ka];rfl
 ·have ia:isInt a=true:=yL.1.2 ⟨ka,ga⟩;have pa:wX a=false:=by unfold wX;rw[ka];rfl
  rcases N9 gb with kb|⟨kb,kbb⟩|⟨kb,kbb⟩
  ·rw[noB (.inr kb)];simp only[EE,zb,Nat.reduceAdd,Int.reduceEq,xw,zN,zo,ZO,wT,wU,wV,wW,g4,g5,g6,r6,ka,kb];rfl
  ·have ib:isInt b=true:=yL.1.2 ⟨kb,gb⟩;have e:zH op a b=uE op a.n b.n:=by unfold zH;rw[aai (by rw[ia,ib];rfl)]
   rw[e];simp only[EE,Int.reduceEq,zo,eI,uz,uA,wT,wU,wV,wW,g4,g5,ka,kb];refine xU (zb1 ha hb H) ?_;simp only[yx,EE,zb,Nat.reduceAdd,xw,zN,qA,g6,r6];rfl
  ·have ib:isInt b=false:=by unfold isInt;rw[kb];rfl
   have pb:wX b=true:=yL.2.2 ⟨kb,gb⟩;by_cases o11:op=11
   ·subst o11;have e:zH 11 a b=some (iQ b.b (Go.Rm.vF (a.n+b.n))):=by simp[zH,ia,ib,pa,pb]
    rw[e];simp only[EE,Int.reduceEq,zo,JH,qd,qe,uG,uH,uz,uA,wT,wU,wV,wW,g4,g5,ka,kb];refine xU (G2 b.b (Go.Rm.vF (a.n+b.n)) H) ?_;simp only[EE,zb,Nat.reduceAdd,xw,zN,g6,r6];rfl
   by_cases o21:op=21
   ·subst o21;by_cases n0:a.n=0
    ·have e:zH 21 a b=some (kL false):=by
      have z:a=wB 0:=(by obtain⟨x,y,z⟩:=a;dsimp only at ka n0 kab;subst ka n0 kab;rfl);have z2:¬wB 0=b:=λq=>by rw[<- q]at pb;cases pb
      simp[zH,vd,ia,ib,pa,pb];rw[<- z];simp;rw[z];simp[z2]
     rw[e];simp only[EE,Int.reduceEq,zo,WG,jc,jd,jy,jf,kM,jg,qC,qW,wj,vX,uy,qD,qE,qd,qe,uG,uH,uz,uA,wT,wU,wV,wW,g4,g5,ka,kb,n0];refine xU (bG false H) ?_;simp only[EE,zb,Nat.reduceAdd,xw,zN,g6,r6];rfl
    ·have e:zH 21 a b=none:=by
      have z:¬a=wB 0:=λq=>by rw[q]at n0;exact n0 rfl
      simp[zH,vd,ia,ib,pa,pb,z]
     rw[e];simp only[EE,zb,Nat.reduceAdd,Int.reduceEq,xw,zN,zo,VI,jc,jd,jy,jf,kM,jg,qC,qW,wj,vX,uy,qD,qE,qd,qe,uG,uH,uz,uA,wT,wU,wV,wW,g4,g5,g6,r6,ka,kb,n0];rfl
   by_cases o22:op=22
   ·subst o22;by_cases n0:a.n=0
    ·have e:zH 22 a b=some (kL true):=by
      have z:a=wB 0:=(by obtain⟨x,y,z⟩:=a;dsimp only at ka n0 kab;subst ka n0 kab;rfl);have z2:¬wB 0=b:=λq=>by rw[<- q]at pb;cases pb
      simp[zH,vd,ia,ib,pa,pb];rw[<- z];simp;rw[z];simp[z2]
     rw[e];simp only[EE,Int.reduceEq,zo,WG,jc,jd,jy,jf,kM,jg,qC,qW,wj,vX,uy,qD,qE,qd,qe,uG,uH,uz,uA,wT,wU,wV,wW,g4,g5,ka,kb,n0];refine xU (bG true H) ?_;simp only[EE,zb,Nat.reduceAdd,xw,zN,g6,r6];rfl
    ·have e:zH 22 a b=none:=by
      have z:¬a=wB 0:=λq=>by rw[q]at n0;exact n0 rfl
      simp[zH,vd,ia,ib,pa,pb,z]
     rw[e];simp only[EE,zb,Nat.reduceAdd,Int.reduceEq,xw,zN,zo,VI,jc,jd,jy,jf,kM,jg,qC,qW,wj,vX,uy,qD,qE,qd,qe,uG,uH,uz,uA,wT,wU,wV,wW,g4,g5,g6,r6,ka,kb,n0];rfl
   have e:zH op a b=none:=by simp[zH,ia,ib,pa,pb,o11,o21,o22]
   rw[e];by_cases o12:op=12
   ·simp only[EE,zb,Nat.reduceAdd,Int.reduceEq,xw,zN,zo,Yv,vX,uy,qD,qE,qd,qe,uG,uH,uz,uA,wT,wU,wV,wW,g4,g5,g6,r6,ka,kb,o12];rfl
   ·simp only[EE,zb,Nat.reduceAdd,Int.reduceEq,xw,zN,zo,Yv,vX,uy,qD,qE,qd,qe,uG,uH,uz,uA,wT,wU,wV,wW,g4,g5,g6,r6,ka,kb,o11,o12,o21,o22];rfl
 ·have ia:isInt a=false:=by unfold isInt;rw[ka];rfl
  have pa:wX a=true:=yL.2.2 ⟨ka,ga⟩;rcases N9 gb with kb|⟨kb,kbb⟩|⟨kb,kbb⟩
  ·rw[noB (.inr kb)];simp only[EE,zb,Nat.reduceAdd,Int.reduceEq,xw,zN,zo,ZO,wT,wU,wV,wW,g4,g5,g6,r6,ka,kb];rfl
  ·have ib:isInt b=true:=yL.1.2 ⟨kb,gb⟩;have pb:wX b=false:=by unfold wX;rw[kb];rfl
   by_cases o11:op=11
   ·subst o11;have e:zH 11 a b=some (iQ a.b (Go.Rm.vF (a.n+b.n))):=by simp[zH,ia,ib,pa]
    rw[e];simp only[EE,Int.reduceEq,zo,eJ,uG,uH,uz,uA,wT,wU,wV,wW,g4,g5,ka,kb];refine xU (G2 a.b (Go.Rm.vF (a.n+b.n)) H) ?_;simp only[EE,zb,Nat.reduceAdd,xw,zN,g6,r6];rfl
   by_cases o12:op=12
   ·subst o12;have e:zH 12 a b=some (iQ a.b (Go.Rm.vF (a.n-b.n))):=by simp[zH,ia,ib,pa,pb]
    rw[e];simp only[EE,Int.reduceEq,zo,eK,qD,qE,qd,qe,uG,uH,uz,uA,wT,wU,wV,wW,g4,g5,ka,kb];refine xU (G2 a.b (Go.Rm.vF (a.n-b.n)) H) ?_;simp only[EE,zb,Nat.reduceAdd,xw,zN,g6,r6];rfl
   by_cases o21:op=21
   ·subst o21;by_cases n0:b.n=0
    ·have e:zH 21 a b=some (kL false):=by
      have z:b=wB 0:=(by obtain⟨x,y,z⟩:=b;dsimp only at kb n0 kbb;subst kb n0 kbb;rfl);have z2:¬a=wB 0:=λq=>by rw[q]at pa;cases pa
      simp[zH,vd,ia,ib,pa,pb];rw[<- z];simp;rw[z];simp[z2]
     rw[e];simp only[EE,Int.reduceEq,zo,WG,jc,jd,jy,jf,kM,jg,qC,qW,wj,vX,uy,qD,qE,qd,qe,uG,uH,uz,uA,wT,wU,wV,wW,g4,g5,ka,kb,n0];refine xU (bG false H) ?_;simp only[EE,zb,Nat.reduceAdd,xw,zN,g6,r6];rfl
    ·have e:zH 21 a b=none:=by
      have z:¬b=wB 0:=λq=>by rw[q]at n0;exact n0 rfl
      simp[zH,vd,ia,ib,pa,pb,z]
     rw[e];simp only[EE,zb,Nat.reduceAdd,Int.reduceEq,xw,zN,zo,VI,jc,jd,jy,jf,kM,jg,qC,qW,wj,vX,uy,qD,qE,qd,qe,uG,uH,uz,uA,wT,wU,wV,wW,g4,g5,g6,r6,ka,kb,n0];rfl
   by_cases o22:op=22
   ·subst o22;by_cases n0:b.n=0
    ·have e:zH 22 a b=some (kL true):=by
      have z:b=wB 0:=(by obtain⟨x,y,z⟩:=b;dsimp only at kb n0 kbb;subst kb n0 kbb;rfl);have z2:¬a=wB 0:=λq=>by rw[q]at pa;cases pa
      simp[zH,vd,ia,ib,pa,pb];rw[<- z];simp;rw[z];simp[z2]
     rw[e];simp only[EE,Int.reduceEq,zo,WG,jc,jd,jy,jf,kM,jg,qC,qW,wj,vX,uy,qD,qE,qd,qe,uG,uH,uz,uA,wT,wU,wV,wW,g4,g5,ka,kb,n0];refine xU (bG true H) ?_;simp only[EE,zb,Nat.reduceAdd,xw,zN,g6,r6];rfl
    ·have e:zH 22 a b=none:=by
      have z:¬b=wB 0:=λq=>by rw[q]at n0;exact n0 rfl
      simp[zH,vd,ia,ib,pa,pb,z]
     rw[e];simp only[EE,zb,Nat.reduceAdd,Int.reduceEq,xw,zN,zo,VI,jc,jd,jy,jf,kM,jg,qC,qW,wj,vX,uy,qD,qE,qd,qe,uG,uH,uz,uA,wT,wU,wV,wW,g4,g5,g6,r6,ka,kb,n0];rfl
   have e:zH op a b=none:=by simp[zH,ia,ib,pa,pb,o11,o12,o21,o22]
   rw[e];simp only[EE,zb,Nat.reduceAdd,Int.reduceEq,xw,zN,zo,Yv,vX,uy,qD,qE,qd,qe,uG,uH,uz,uA,wT,wU,wV,wW,g4,g5,g6,r6,ka,kb,o11,o12,o21,o22];rfl
  ·have ib:isInt b=false:=by unfold isInt;rw[kb];rfl
   have pb:wX b=true:=yL.2.2 ⟨kb,gb⟩
   have ev:(a.n == b.n&&a.b == b.b)=decide (a=b):=by
    rw[<- veq a b,ka,kb];simp
   by_cases o21:op=21
   ·subst o21;have e:zH 21 a b=some (kL (decide (a=b) == true)):=by simp[zH,vd,ia,ib,pa,pb]
    rw[e];simp only[EE,Nat.reduceAdd,Int.reduceEq,zN,zo,abt,TE,QL,JI,qW,wj,vX,uy,qD,qE,qd,qe,uG,uH,uz,uA,wT,wU,wV,wW,g4,g5,ka,kb];rw[ev];refine xU (bG _ H) ?_;simp only[EE,zb,Nat.reduceAdd,xw,zN,g6,r6];rfl
   by_cases o22:op=22
   ·subst o22;have e:zH 22 a b=some (kL (decide (a=b) == false)):=by simp[zH,vd,ia,ib,pa,pb]
    rw[e];simp only[EE,Nat.reduceAdd,Int.reduceEq,zN,zo,abt,TE,QL,JI,qW,wj,vX,uy,qD,qE,qd,qe,uG,uH,uz,uA,wT,wU,wV,wW,g4,g5,ka,kb];rw[ev];refine xU (bG _ H) ?_;simp only[EE,zb,Nat.reduceAdd,xw,zN,g6,r6];rfl
   have e:zH op a b=none:=by simp[zH,ia,ib,pa,pb,o21,o22]
   rw[e];by_cases o11:op=11
   ·simp only[EE,zb,Nat.reduceAdd,Int.reduceEq,xw,zN,zo,Yv,vX,uy,qD,qE,qd,qe,uG,uH,uz,uA,wT,wU,wV,wW,g4,g5,g6,r6,ka,kb,o11];rfl
   by_cases o12:op=12
   ·simp only[EE,zb,Nat.reduceAdd,Int.reduceEq,xw,zN,zo,Yv,vX,uy,qD,qE,qd,qe,uG,uH,uz,uA,wT,wU,wV,wW,g4,g5,g6,r6,ka,kb,o12];rfl
   ·simp only[EE,zb,Nat.reduceAdd,Int.reduceEq,xw,zN,zo,Yv,vX,uy,qD,qE,qd,qe,uG,uH,uz,uA,wT,wU,wV,wW,g4,g5,g6,r6,ka,kb,o11,o12,o21,o22];rfl
end Go.Dm
namespace Go.Rm
open Go.Ai Go.Proofs Go.Mem
open Go.Rtl (zl zE Old yM wD UZ)
def w7(ty:TypeId)(n:Nat)(sv:aaa)(rows:List (List aaa)):HP:=λm=>
 (sv=.slice none 0 0/\rows=[] /\ ∀x,m x=none) \/ ∃b c cs,sv=.slice (some ⟨b,0,none⟩) rows.length c/\c≠0/\rows.length*n<=cs.length/\cs.take (rows.length*n)=rows.flatten/\pt b (.cells cs ty) m
section
variable {lo:yE}{h:za}{L:List HP}{ty:TypeId}{n:Nat}{sv:aaa}{rows:List (List aaa)}
theorem Xp(s:Sat lo h (w7 ty n sv rows::L)):(sv=.slice none 0 0/\rows=[]/\Sat lo h L) \/ ∃b c cs,sv=.slice (some ⟨b,0,none⟩) rows.length c/\c≠0/\rows.length*n<=cs.length/\cs.take (rows.length*n)=rows.flatten/\Sat lo h (pt b (.cells cs ty)::L):=by
 obtain⟨a,ha,d,w,s⟩:=s;rcases ha with⟨e1,e2,e3⟩|⟨b,c,cs,e1,e2,e3,e4,e5⟩
 ·exact .inl ⟨e1,e2,by rw[yE.py e3]at s;exact s⟩
 ·exact .inr ⟨b,c,cs,e1,e2,e3,e4,a,e5,d,w,s⟩
theorem qB(ty:TypeId)(n:Nat)(s:Sat lo h L):Sat lo h (w7 ty n (pp) []::L):=⟨λ_=>none,.inl ⟨rfl,rfl,λ_=>rfl⟩,λ_ _ e=>(by cases e),λ_ _ e=>(by cases e),by rw[yE.py λ_=>rfl];exact s⟩
theorem Fm{b c:Nat}{cs:List aaa}(hc:c≠0)(hl:rows.length*n<=cs.length)(ht:cs.take (rows.length*n)=rows.flatten)(s:Sat lo h (pt b (.cells cs ty)::L)):Sat lo h (w7 ty n (.slice (some ⟨b,0,none⟩) rows.length c) rows::L):=by
 obtain⟨a,ha,d,w,s⟩:=s;exact⟨a,.inr ⟨b,c,cs,rfl,hc,hl,ht,ha⟩,d,w,s⟩
theorem WU{b c:Nat}{cs:List aaa}(hc:c≠0)(hn:∀r,r∈rows->r.length=n)(he:cs=rows.flatten)(s:Sat lo h (pt b (.cells cs ty)::L)):Sat lo h (w7 ty n (.slice (some ⟨b,0,none⟩) rows.length c) rows::L) :=
 Fm hc (by rw[he,yM hn];exact aam _) (by rw[he,acm (by rw[yM hn];exact aam _)]) s
theorem pw(s:Sat lo h (w7 ty n sv rows::L)):∃a c,sv=.slice a rows.length c:=by
 rcases Xp s with⟨rfl,rfl,_⟩|⟨b,c,cs,rfl,_⟩ <;> exact⟨_,_,rfl⟩
theorem wL(s:Sat lo h (w7 ty n sv rows::L)):yu sv=false:=by obtain⟨_,_,rfl⟩:=pw s;rfl
theorem qV(s:Sat lo h (w7 ty n sv rows::L)):wI sv=true:=by obtain⟨_,_,rfl⟩:=pw s;rfl
theorem ua(s:Sat lo h (w7 ty n sv rows::L))(hn:∀r,r∈rows->r.length=n):zE h sv n rows:=by
 rcases Xp s with⟨e1,e2,_⟩|⟨b,c,cs,rfl,hc,hl,hf,s⟩
 ·exact .inl ⟨e1,e2⟩
 ·refine .inr ⟨b,0,c,rfl,λ_=>⟨cs,ty,s.lt,s.get,λi r hr=>?_⟩⟩
  have hi:i<rows.length:=by
   rcases aax i rows.length with a|a
   ·exact a
   ·rw[aak a]at hr;cases hr
  obtain⟨f1,f2⟩:=wD hn hr;have hm:=abV n (Nat.succ_le_of_lt hi);rw[Nat.succ_mul]at hm;refine⟨by omega,?_⟩;rw[<- f2,<- hf,aay,List.drop_take,List.take_take]
  congr 1
  omega
theorem YD(s:Sat lo h (w7 ty n sv rows::L))(hn:∀r,r∈rows->r.length=n)(row:List aaa)(hr:row.length=n)(h0n:0<n)(bz:Nat)(hb:(rows.length+1)*bz<=2^47) :
  ∃b' c' h',QG h ty n bz 1 row sv=some (.slice (some ⟨b',0,none⟩) (rows.length+1) c',h')/\Sat lo h' (w7 ty n (.slice (some ⟨b',0,none⟩) (rows.length+1) c') (rows++[row])::L):=by
 have hn2:∀r,r∈rows++[row]->r.length=n:=λr q=>by
  rcases aa2.1 q with q|q
  ·exact hn r q
  ·simp only[abp]at q;subst q;exact hr
 have hlen:(rows++[row]).length=rows.length+1:=by simp
 rcases Xp s with⟨rfl,rfl,s'⟩|⟨b,c,cs,rfl,hc,hl,hf,s⟩
 ·refine⟨h.next,1,h.push (.cells row ty),?_,WU (cs:=row) (rows:=[]++[row]) (c:=1) (by decide) hn2 (by simp) (s'.push (.cells row ty))⟩;simp only[QG];rw[aae (by decide),aai (by simp at hb;omega)];rfl
 ·have hroom:roomFor c (rows.length+1) bz=true:=by
   unfold roomFor;cases Nat.beq c 2 <;> simp only[aaB,aaI,ach] <;> omega
  refine⟨h.next,qh c (rows.length+1),(h.set b none).push (.cells (((cs.drop 0).take (rows.length*n))++row) ty),?_,?_⟩
  ·simp only[QG,s.get];rw[aae (by decide),aai ⟨hc,trivial,s.wr,by omega,hroom,by simp⟩]
  ·have q:=WU (rows:=rows++[row]) (c:=qh c (rows.length+1)) (oJ _ _) hn2 (by rw[aby,hf,List.flatten_append];simp) ((s.forget none).push (.cells (((cs.drop 0).take (rows.length*n))++row) ty));rw[hlen]at q;exact q
theorem Ij{cs:List aaa}{i:Nat}{row:List aaa}(hi:i<rows.length)(hn:∀r,r∈rows->r.length=n)(hr:row.length=n)(hl:rows.length*n<=cs.length)(ht:cs.take (rows.length*n)=rows.flatten) :
  (zb cs (i*n) row).take (rows.length*n)=(rows.set i row).flatten:=by
 have hn2:∀r,r∈rows.set i row->r.length=n:=λr q=>by
  rcases ab6 q with q|rfl
  ·exact hn r q
  ·exact hr
 have hm:i*n+n<=cs.length:=by
  have:=abV n (Nat.succ_le_of_lt hi);rw[Nat.succ_mul]at this;omega
 apply abw;intro j;by_cases hj:j<rows.length*n
 ·rw[aa7 hj,Us _ _ _ _ (by rw[hr];exact hm),hr];have e0:=congrArg (λl=>l[j]?) ht;simp only[aa7 hj]at e0
  have h0:0<n:=by rcases ab2 n with q|q; · subst q;simp at hj
                  ·exact q
  have hq:j/n<rows.length:=Nat.div_lt_of_lt_mul (by rw[Nat.mul_comm];exact hj);have hj3:j/n*n+j%n=j:=by rw[Nat.mul_comm];exact Nat.div_add_mod j n
  have hmn:j%n<n:=Nat.mod_lt _ h0
  have get:∀(m:List (List aaa)),(∀r,r∈m->r.length=n)->∀x,m[j/n]? = some x->m.flatten[j]? = x[j%n]?:=λm hm x hx=>by
   have:=UZ hm hx hmn
   rwa [hj3]at this
  rw[e0,get _ hn _ (aac hq)];by_cases e:i=j/n
  ·rw[get _ hn2 row (by rw[e,aaU hq]),aai (by rw[e];omega),e]
   congr 1;omega
  ·rw[get _ hn2 _ (by rw[abj e,aac hq]),aae];rintro⟨a,b⟩;apply e;exact(Nat.div_eq_of_lt_le a (by rw[Nat.succ_mul];exact b)).symm
 ·rw[aak (by simp;omega),aak (by rw[yM hn2];simp;omega)]
theorem aZ(s:Sat lo h (w7 ty n sv rows::L))(hn:∀r,r∈rows->r.length=n){i:Nat}(hi:i<rows.length) :
  ∃b c cs,sv=.slice (some ⟨b,0,none⟩) rows.length c/\h.get b=some (.cells cs ty)/\h.ro<=b/\i*n+n<=cs.length /\ ∀row,row.length=n->Sat lo (h.set b (some (.cells (zb cs (i*n) row) ty))) (w7 ty n sv (rows.set i row)::L):=by
 rcases Xp s with⟨rfl,rfl,_⟩|⟨b,c,cs,rfl,hc,hl,hf,s⟩
 ·cases hi
 ·refine⟨b,c,cs,rfl,s.get,s.wr,?_,λrow hr=>?_⟩
  ·have:=abV n (Nat.succ_le_of_lt hi);rw[Nat.succ_mul]at this;omega
  ·have q:=Fm (n:=n) (rows:=rows.set i row) (c:=c) hc (by rw[abd,Zq];exact hl) (by rw[abd];exact Ij hi hn hr hl hf) (s.set (.cells (zb cs (i*n) row) ty))
   rwa [abd]at q
theorem ni{b i:Nat}{cs row:List aaa}{K:za->Prop}(gb:h.get b=some (.cells cs ty))(wb:h.ro<=b)(lb:i*n+n<=cs.length)(s3:∀row,row.length=n->Sat lo (h.set b (some (.cells (zb cs (i*n) row) ty))) (w7 ty n sv (rows.set i row)::L))
  (hr:row.length=n) (hc:row.all wI=true) (k:∀h',Sat lo h' (w7 ty n sv (rows.set i row)::L)->K h'):opt (xw h b (i*n) row) K:=by
 rw[Fo gb,aai ⟨by omega,wb,hc⟩];exact k _ (s3 row hr)
theorem uF{α:Type}{f:α->List aaa}{n:Nat}(hf:∀a,(f a).length=n)(l:List α):∀r,r∈l.map f->r.length=n:=by
 intro r hr;simp only[abL]at hr;obtain⟨y,_,rfl⟩:=hr;exact hf y
end
def qG(e:Int×Int):List aaa:=[pm e.1,pm e.2]
def vQ(e:Int×Int×Int):List aaa:=[pm e.1,pm e.2.1,pm e.2.2]
def xG(b:Nat):aaa := pi b
def yA(z:Int):List aaa:=[pm z]
theorem BL(l:List V):∀r,r∈l.map V.ke->r.length=3:=uF (f:=V.ke) (λ_=>rfl) l
section
variable {g h:za}{F G:Nat->Prop}
theorem zbR{q:Nat}{gs:List (Option Nat)}{B:MB}(x:VR g q gs B F)(e:∀b o,F b->g.get b=some o->h.get b=some o/\G b):VR h q gs B G :=
 ⟨x.hl,(e q _ x.fq x.hq).2,(e q _ x.fq x.hq).1,λj p hj=>by
  obtain⟨a,cs,c1,c2,c3⟩:=x.hg j p hj;exact⟨(e p _ a c1).2,cs,(e p _ a c1).1,c2,c3⟩,x.hn,x.hd,x.ht⟩
theorem zd9{p:Nat}{B:MB}(x:sk g p B F)(e:∀b o,F b->g.get b=some o->h.get b=some o/\G b):sk h p B G:=by
 obtain⟨pg,a,b,c⟩:=x;refine⟨pg,(e p _ b a).1,(e p _ b a).2,?_⟩;cases c with
 |empty a b=>exact .empty a b
 |full q c gs a x=>exact .full q c gs a (zbR x e)
def zeJ(m:Nat)(M:MM)(h:za)(F:Nat->Prop):Prop:=DX h m M F
theorem aO(m:Nat)(M:MM):Mv (zeJ m M):=by
 rintro g h F G ⟨bs,ps,fs,x⟩ e ok;refine⟨bs,ps,λi b=>fs i b /\ ∃o,g.get b=some o,(e m _ x.fm x.hm).1,(e m _ x.fm x.hm).2,x.len,?_,λi q=>x.nm i q.1,λi p B hp hB=>?_,λi j b p q=>x.RE i j b p.1 q.1,λi b q=>?_,ok⟩
 ·rcases x.hb with a|⟨bb,c,a1,a2,a3,a4,a5⟩
  ·exact .inl a
  ·exact .inr ⟨bb,c,a1,a2,(e bb _ a3 a4).2,(e bb _ a3 a4).1,λi q=>a5 i q.1⟩
 ·exact zd9 (x.qX i p B hp hB) λb o hb hg=>⟨(e b o (x.sub i b hb) hg).1,hb,o,hg⟩
 ·obtain⟨q1,o,q2⟩:=q;exact(e b o (x.sub i b q1) q2).2
end
def WT(m:Nat)(M:MM):HP:=own (zeJ m M)
section
variable {lo:yE}{h:za}{L:List HP}{m:Nat}{M:MM}
theorem mZ{F:Nat->Prop}{M':MM}{h1:za}(c:∀h1 F' X',Mv X'->h.next<=h1.next->h1.ro=h.ro->(∀b,¬F b->b<h.next->h1.get b=h.get b)->X' h1 F'->(∀b,F' b->F b\/h.next<=b)->(∀b,F' b->h1.ro<=b/\b<h1.next)->Sat lo h1 (own X'::L))(x:FC h m M' F h1):Sat lo h1 (WT m M'::L):=by
 obtain⟨F',mh,Up,sub⟩:=x;obtain⟨bs,ps,fs,mo⟩:=mh;exact c h1 F' (zeJ m M') (aO m M') Up.next Up.ro (λb hb hlt=>Up.get b hb hlt) ⟨bs,ps,fs,mo⟩ sub mo.ok
theorem Nr(s:Sat lo h (WT m M::L))(n:Int):DC pu 62 [xG m,pm n] h (λv h1=>v=.tuple #[pm (yJ M n).2.1,pm (yJ M n).2.2]/\Sat lo h1 (WT m (yJ M n).1::L)):=by
 obtain⟨F,⟨bs,ps,fs,x⟩,_,c⟩:=Sat.dY (aO m M) s;exact(SO x n).mono λv h1 ⟨e,mu⟩=>⟨e,mZ c mu⟩
theorem zeo(s:Sat lo h (WT m M::L))(hL:M.length<=100000){n:Int}(hn:n<9223372036854775808):DC pu 114 [xG m,pm n] h (λv h1=>v=.bool (Yw M n).isSome/\Sat lo h1 (WT m ((Yw M n).getD M)::L)):=by
 obtain⟨F,⟨bs,ps,fs,x⟩,_,c⟩:=Sat.dY (aO m M) s;refine(zbQ x hL hn).mono λv h1 r=>?_;unfold My at r;cases e:Yw M n with
 |none=>rw[e]at r;obtain⟨r1,rfl⟩:=r;exact⟨r1,s⟩
 |some M'=>rw[e]at r;exact⟨r.1,mZ c r.2⟩
theorem zfy(s:Sat lo h (WT m M::L))(hs:small M){n:Int}(hn:n<9223372036854775808):DC pu 63 [xG m,pm n] h (λv h1=>v=.bool (Xu M n).isSome/\Sat lo h1 (WT m ((Xu M n).getD M)::L)):=by
 obtain⟨F,⟨bs,ps,fs,x⟩,_,c⟩:=Sat.dY (aO m M) s;refine(zcF x hs hn).mono λv h1 r=>?_;unfold Nm at r;cases e:Xu M n with
 |none=>rw[e]at r;obtain⟨r1,rfl⟩:=r;exact⟨r1,s⟩
 |some M'=>rw[e]at r;exact⟨r.1,mZ c r.2⟩
theorem zeD(s:Sat lo h (WT m M::L))(hs:small M){c:Int}{p:V}(hc:wH c)(hp:p.ok):DC pu 108 [xG m,pm c,vv p] h.lock (λv h1=>v=qc (Wx M c p)/\Sat (.of h.lock) h1 []):=by
 obtain⟨F,⟨bs,ps,fs,x⟩,_,_⟩:=Sat.dY (aO m M) s;have s0:Sat (.of h.lock) h.lock []:=Sat.self (aam _);have y:BR h.lock m bs ps fs M F:=⟨x.hm,x.fm,x.len,x.hb,x.nm,λi p B hp hB=>(x.qX i p B hp hB).zG λb hb=>rfl,x.RE,x.sub,λb hb=>⟨trivial,(x.ok b hb).2⟩⟩;refine(zb6 y hs hc hp).mono λv h1 ⟨e,r⟩=>⟨?_,s0.zeC e.next e.ro λb hb=>e.get b (λq=>q) hb⟩;unfold Cg at r;cases e:Wx M c p with
 |none=>rw[e]at r;exact r
 |some a=>rw[e]at r;exact r
theorem zcu(s:Sat lo h (WT m M::L))(hs:small M){c:Int}{p v:V}(hc:wH c)(hp:p.ok):DC pu 107 [xG m,pm c,vv p,vv v] h (λr h1=>r=.bool (kd M c p v).isSome/\Sat lo h1 (WT m ((kd M c p v).getD M)::L)):=by
 obtain⟨F,⟨bs,ps,fs,x⟩,_,cl⟩:=Sat.dY (aO m M) s;refine(za9 x hs hc hp).mono λr h1 q=>?_;unfold gH at q;cases e:kd M c p v with
 |none=>rw[e]at q;exact⟨q.1,mZ cl q.2⟩
 |some M'=>rw[e]at q;exact⟨q.1,mZ cl q.2⟩
theorem zeL(s:Sat lo h L):DC pu 60 [] h (λv h1=>∃m,v=xG m/\Sat lo h1 (WT m []::L)):=by
 refine(zeP h).mono λv h1 ⟨e,x,Up⟩=>⟨h.next,e,?_⟩;obtain⟨bs,ps,fs,mo⟩:=x;exact s.zcf (aO h.next []) Up.next Up.ro (λb hb=>Up.get b (λq=>q) hb) ⟨bs,ps,fs,mo⟩ λb hb=>⟨by rw[hb];exact aam _,(mo.ok b hb).2⟩
end
def Rd(lo:yE)(X:za->Prop):Prop := ∀h,rm lo h->X h
theorem Rd.mono{lo lo':yE}{X:za->Prop}(x:Rd lo X)(l:lo.Le lo'):Rd lo' X:=λh b=>x h (b.mono l)
theorem Rd.at{lo:yE}{X:za->Prop}{h:za}{L:List HP}(x:Rd lo X)(s:Sat lo h L):X h:=x h s.base
theorem Rd.of{lo:yE}{X:za->Prop}{h0:za}(hl:lo.Has h0)(x:X h0)(m:∀h,Old h0 h->X h):Rd lo X:=λh b=>m h (by obtain⟨a,c,d⟩:=hl.old b;exact⟨a,c,d⟩)
section
variable {lo:yE}{h:za}{L:List HP}{ty:TypeId}{n:Nat}{sv:aaa}{rows:List (List aaa)}
theorem Mk(s:Sat lo h (w7 ty n sv rows::L))(hn:∀r,r∈rows->r.length=n):∃lo1,lo.Le lo1/\Rd lo1 (zE · sv n rows)/\Sat lo1 h L /\ ∀h' L',Sat lo1 h' L'->Sat lo h' (w7 ty n sv rows::L'):=by
 obtain⟨a,ha,d,w,s⟩:=s;refine⟨lo.un a,yE.bM d,λh1 b1=>?_,s,λh' L' s'=>⟨a,ha,d,w,s'⟩⟩;have:Sat lo h1 [w7 ty n sv rows]:=⟨a,ha,d,w,b1⟩;exact ua this hn
end
section
variable {lo:yE}{h:za}{L:List HP}{ty:TypeId}{n:Nat}{sv:aaa}{rows:List (List aaa)}
theorem za5(s:Sat lo h (w7 ty n sv rows::L))(hn:∀r,r∈rows->r.length=n)(rows2:List (List aaa))(hn2:∀r,r∈rows2->r.length=n)(bz:Nat)(hb:(rows.length+rows2.length)*bz<=2^47)(hne:rows2≠[]) :
  ∃b' c' h',QG h ty n bz rows2.length rows2.flatten sv=some (.slice (some ⟨b',0,none⟩) (rows.length+rows2.length) c',h')/\Sat lo h' (w7 ty n (.slice (some ⟨b',0,none⟩) (rows.length+rows2.length) c') (rows++rows2)::L):=by
 have hn3:∀r,r∈rows++rows2->r.length=n:=λr q=>by
  rcases aa2.1 q with q|q
  ·exact hn r q
  ·exact hn2 r q
 have hlen:(rows++rows2).length=rows.length+rows2.length:=by simp
 have h0:¬rows2.length=0:=λe=>hne (abF.1 e);rcases Xp s with⟨rfl,rfl,s'⟩|⟨b,c,cs,rfl,hc,hl,hf,s⟩
 ·refine⟨h.next,1,h.push (.cells rows2.flatten ty),?_,?_⟩
  ·simp only[QG];rw[aae h0,aai (by simp at hb;omega)];simp
  ·have q:=WU (cs:=rows2.flatten) (rows:=[]++rows2) (c:=1) (by decide) hn3 (by simp) (s'.push (.cells rows2.flatten ty));rw[hlen]at q;exact q
 ·have hroom:roomFor c (rows.length+rows2.length) bz=true:=by
   unfold roomFor;cases Nat.beq c 2 <;> simp only[aaB,aaI,ach] <;> omega
  refine⟨h.next,qh c (rows.length+rows2.length),(h.set b none).push (.cells (((cs.drop 0).take (rows.length*n))++rows2.flatten) ty),?_,?_⟩
  ·simp only[QG,s.get];rw[aae h0,aai ⟨hc,trivial,s.wr,by omega,hroom,by simp⟩]
  ·have q:=WU (rows:=rows++rows2) (c:=qh c (rows.length+rows2.length)) (oJ _ _) hn3 (by rw[aby,hf,List.flatten_append]) ((s.forget none).push (.cells (((cs.drop 0).take (rows.length*n))++rows2.flatten) ty));rw[hlen]at q;exact q
end
theorem za6{h:za}{sv:aaa}{zs:List Int}(S:zl h sv zs):zE h sv 1 (zs.map yA):=by
 rcases S with⟨e,e2⟩|⟨b,off,cp,rfl,hc⟩
 ·exact .inl ⟨e,by rw[e2];rfl⟩
 ·refine .inr ⟨b,off,cp,by rw[aav],λhz=>?_⟩;obtain⟨c,t,hb,hg,hat⟩:=hc (by simpa using hz);refine⟨c,t,hb,hg,λi r hr=>?_⟩;rw[aau]at hr;cases hz:zs[i]? with
  |none=>rw[hz]at hr;cases hr
  |some z=>
   rw[hz]at hr;cases hr;have:=hat i z hz
   have hlt:off+i<c.length:=by
    rcases aax (off+i) c.length with q|q
    ·exact q
    ·rw[aak q]at this;cases this
   refine⟨by omega,?_⟩;rw[abA,List.drop_eq_getElem_cons hlt];rw[aac hlt]at this;rw[abP this];rfl
section
variable {lo:yE}{h:za}{L:List HP}{b mb wb fb:Nat}{world:List Int}{ev lk gl cl kv wn:aaa}{fi:List Nat}{kept:Option (Int->Bool)}
theorem zeQ{used:Int}(s:Sat lo h [pt wb (.cells [wn,pm used] 151),w7 2 1 wn (world.map yA)])(h0:0<=used)(h1:used<4611686018427387904)(hl:world.length<4611686018427387904) :
  DC pu 95 [xG wb] h (λv h'=>v=.int .i64 (qj world used)/\Sat lo h' [pt wb (.cells [wn,pm (used+1)] 151),w7 2 1 wn (world.map yA)]):=by
 apply O6;unfold Sb xG;have gw:=s.get;have hinc:IntKind.wrap .i64 (used+1)=used+1:=Go.Mem.vF (by omega) (by omega);have hdec:IntKind.wrap .i64 (used+1-1)=used:=by rw[show used+1-1=used by omega];exact Go.Mem.vF (by omega) (by omega)
 simp only[EE,zo,AG,gw,hinc];refine z9 s (by simp) rfl λh2 s2=>?_;have g2:=s2.get;have SR:=ua (s2.p 1) (uF (f:=yA) (λ_=>rfl) world);have ws:=SR.kY
 have hlen:∀h',zP pu .len [26] 3 [wn] h'=some (pm world.length,h'):=λh'=>by
  rcases SR with⟨rfl,e⟩|⟨_,_,_,rfl,_⟩
  ·have:world=[]:=by simpa using e
   subst this;simp only[E1,aaC]
  ·simp only[E1,aav]
 by_cases hc:(world.length:Int)<used+1
 ·have hc':used+1>(world.length:Int):=hc;simp only[EE,zb,zo,No,Hw,AG,g2,ws,hlen,hc];refine⟨?_,s2⟩;unfold qj;rw[aae (by omega),aaF,aak (by omega)];rfl
 ·obtain⟨z,hz⟩:∃z,world[used.toNat]? = some z:=⟨_,aac (by omega)⟩;obtain⟨bb,o,cs,t,⟨off,cp,rfl,rfl⟩,hi,hb,hgt,hle,htk,hat⟩:=SR.spot (i:=used.toNat) (r:=yA z) (by rw[aau,hz];rfl) rfl;have hat0:cs[off+used.toNat*1]? = some (pm z):=hat 0 (by decide);rw[abA]at hat0;have hu:used<(world.length:Int):=by omega
  rw[aav]at *
  simp only[EE,zb,zo,No,Hw,AG,zdb,FY,g2,ws,hlen,hc,hdec,h0,hu,hgt,hat0,abA];refine⟨?_,s2⟩;unfold qj;rw[aae (by omega),aaF,hz];rfl
end
open Go.Rtl (inc)
section
variable {lo:yE}{h:za}{L:List HP}{wv:aaa}{world:List Int}
theorem zbF(hw:zl h wv world)(hl:world.length*8<=2^47)(s:Sat lo h L):DC pu 81 [wv] h (λv h'=>yu v=false/\wI v=true/\Sat lo h' (w7 2 1 v (world.map yA)::L)):=by
 apply D1;unfold Cm;have SR:=za6 hw;rcases hw with⟨rfl,rfl⟩|⟨b,off,cp,rfl,hc⟩
 ·simp only[EE,zbK];exact qB _ _ s
 ·simp only[EE,Tm,zek];have s1:=s.push (.cells [] 2);have s2:Sat lo (h.push (.cells [] 2)) (w7 2 1 (.slice (some ⟨h.next,0,none⟩) 0 2) []::L):=WU (rows:=[]) (c:=2) (by decide) (by simp) (by simp) s1
  have hap:∀r,zP pu .append [26,26] r [.slice (some ⟨h.next,0,none⟩) 0 2,.slice (some ⟨b,off,none⟩) world.length cp] (h.push (.cells [] 2))=QG (h.push (.cells [] 2)) 2 1 8 world.length (world.map yA).flatten (.slice (some ⟨h.next,0,none⟩) 0 2):=λr=>by
   have f:=(SR.old (Old.push h (.cells [] 2))).first (by decide) (uF (f:=yA) (λ_=>rfl) world);rw[aav]at f;exact zf0 r _ _ world.length _ _ rfl f (by simp[yA,List.all_flatten];exact λ_ _=>rfl) (by rw[Go.Rtl.yM (uF (f:=yA) (λ_=>rfl) world),aav])
  by_cases h0:world=[]
  ·subst h0;have:QG (h.push (.cells [] 2)) 2 1 8 ([]:List Int).length (([]:List Int).map yA).flatten (.slice (some ⟨h.next,0,none⟩) 0 2)=some (.slice (some ⟨h.next,0,none⟩) 0 2,h.push (.cells [] 2)):=rfl;simp only[EE]
   first|exact s2|exact⟨rfl,rfl,s2⟩|exact⟨rfl,rfl,rfl,s2⟩
  ·obtain⟨b',c',h3,a1,s3⟩:=za5 s2 (by simp) (world.map yA) (uF (f:=yA) (λ_=>rfl) world) 8 (by simp;omega) (by simpa using h0);rw[aav]at a1 s3;simp only[EE,hap,a1];rw[aaC,aay,ack]at s3
   first|exact s3|exact⟨rfl,rfl,s3⟩
theorem zfo(hw:zl h wv world)(hl:world.length*8<=2^47)(s:Sat lo h L):DC pu 61 [wv] h (λv h'=>∃wb wn,v=xG wb/\Sat lo h' (pt wb (.cells [wn,pm 0] 151)::w7 2 1 wn (world.map yA)::L)):=by
 apply Pf;unfold Ss;refine EC (by simp only[yy,hw.kY,aaI]) (zbF hw hl s) ?_;rintro v h1 ⟨n1,c1,s1⟩;obtain⟨a,c,rfl⟩:=pw s1;rw[aav]at s1;simp only[EE,Value.cells,Tg];refine w8 s1 λwb h2 s2=>?_;simp only[EE];exact⟨wb,_,rfl,s2⟩
end
end Go.Rm
namespace Go.Dm
open Go.Ai Go.Proofs Go.Mem Go.Rm
open Go.Rtl (zl zE)
theorem zhN{h:za}{sv:aaa}{l:List V}(S:zE h sv 3 (l.map V.ke))(r:TypeId)(h':za):zP pu .len [60] r [sv] h'=some (pm l.length,h'):=by
 rcases S with⟨rfl,e⟩|⟨b,off,cp,rfl,_⟩
 ·have:l=[]:=by simpa using e
  subst this;simp only[WK,w9,jr,Wp,GR,WY,SV,Lf,Ta,oH,zc3,WM,Y7,kA,mK,uC,qU,u6,Ku,QQ,T6,za1,za3,eS,eT,U5,U6,eU,eV,eW,U7,K4,XM,XN,YI,Vc,Vd,Ve,aaC]
 ·simp only[WK,w9,jr,Wp,GR,WY,SV,Lf,Ta,oH,zc3,WM,Y7,kA,mK,uC,qU,u6,Ku,QQ,T6,za1,za3,eS,eT,U5,U6,eU,eV,eW,U7,K4,XM,XN,YI,Vc,Vd,Ve,aav]
open Go.Rtl (Old)
abbrev DB:=List Int×Bool
def pC(ps:List V)(j i:Nat)(z:Int)(c:Cl):Prop :=
 (z = -1/\c=pz)\/(0<=z/\z<=255/\c=⟨1,z,v0⟩)\/(z=1000+8*j+i/\c.k=2/\c.n=i/\ps[j]? = some c.p)
def Qm(ps:List V)(bs:List Int)(f:Nat->Cl):Prop := ∃js:Nat->Nat,∀(a:Nat) z,bs[a]? = some z->pC ps (js (a/8)) (a%8) z (f a)
structure DR (bl:List DB) (ps:List V) (M:MM):Prop where
 len:bl.length=M.length
 qX:∀(i:Nat) b B,bl[i]? = some b->M[i]? = some B->b.2=B.qy/\B.size=b.1.length/\(B.qy=false->Qm ps b.1 B.byte)
theorem pC.more{ps:List V}{j i:Nat}{z:Int}{c:Cl}(x:pC ps j i z c)(v:V):pC (ps++[v]) j i z c:=by
 rcases x with x|x|⟨x,y,z,w⟩
 ·exact .inl x
 ·exact .inr (.inl x)
 ·refine .inr (.inr ⟨x,y,z,?_⟩);rw[aa4]
  ·exact w
  ·rcases aax j ps.length with q|q
   ·exact q
   ·rw[aak q]at w;cases w
theorem Qm.more{ps:List V}{bs:List Int}{f:Nat->Cl}(x:Qm ps bs f)(v:V):Qm (ps++[v]) bs f:=by
 obtain⟨js,x⟩:=x;exact⟨js,λa z hz=>(x a z hz).more v⟩
theorem DR.more{bl:List DB}{ps:List V}{M:MM}(x:DR bl ps M)(v:V):DR bl (ps++[v]) M :=
 ⟨x.len,λi b B hb hB=>⟨(x.qX i b B hb hB).1,(x.qX i b B hb hB).2.1,λq=>((x.qX i b B hb hB).2.2 q).more v⟩⟩
theorem DR.get{bl:List DB}{ps:List V}{M:MM}(x:DR bl ps M){i:Nat}{B:MB}(hB:M[i]? = some B):∃b,bl[i]? = some b/\b.2=B.qy/\B.size=b.1.length/\(B.qy=false->Qm ps b.1 B.byte):=by
 have hi:i<M.length:=by
  rcases aax i M.length with q|q
  ·exact q
  ·rw[aak q]at hB;cases hB
 have hb:bl[i]? = some (bl[i]'(by rw[x.len];exact hi)):=aac _;exact⟨_,hb,x.qX i _ B hb hB⟩
theorem DR.set{bl:List DB}{ps:List V}{M:MM}(x:DR bl ps M){i:Nat}{b:DB}{B:MB}(hb:b.2=B.qy)(hs:B.size=b.1.length)(hr:B.qy=false->Qm ps b.1 B.byte):DR (bl.set i b) ps (M.set i B):=by
 refine⟨by rw[abd,abd];exact x.len,λj c C hc hC=>?_⟩;by_cases e:i=j
 ·subst e
  have h1:i<bl.length:=by
   rcases aax i bl.length with q|q
   ·exact q
   ·rw[aak (by simpa using q)]at hc;cases hc
  have h2:i<M.length:=by rw[<- x.len];exact h1
  rw[aaU h1]at hc;rw[aaU h2]at hC;cases hc;cases hC;exact⟨hb,hs,hr⟩
 ·rw[abj e]at hc hC;exact x.qX j c C hc hC
theorem DR.app{bl:List DB}{ps:List V}{M:MM}(x:DR bl ps M){b:DB}{B:MB}(hb:b.2=B.qy)(hs:B.size=b.1.length)(hr:B.qy=false->Qm ps b.1 B.byte):DR (bl++[b]) ps (M++[B]):=by
 refine⟨by simp[x.len],λj c C hc hC=>?_⟩;have e:=x.len;rcases aax j bl.length with q|q
 ·rw[aa4 q]at hc;rw[aa4 (by omega)]at hC;exact x.qX j c C hc hC
 ·rw[abk q]at hc;rw[abk (by omega),<- e]at hC;cases hj:j-bl.length with
  |zero=>rw[hj]at hc hC;cases hc;cases hC;exact⟨hb,hs,hr⟩
  |succ k=>rw[hj]at hc;cases hc
def Hb(bv:aaa)(b:DB):List aaa:=[bv,.bool b.2]
def kF:List aaa->List DB->List (List aaa)
 |bv::bvs,b::bl=>Hb bv b::kF bvs bl
 |_,_=>[]
def Ew:List aaa->List DB->List HP
 |bv::bvs,b::bl=>w7 3 1 bv (b.1.map yA)::Ew bvs bl
 |_,_=>[]
structure DMO (lo:yE) (h:za) (m:Nat) (lv pv:aaa) (bvs:List aaa) (bl:List DB) (ps:List V) (L:List HP):Prop where
 s:Sat lo h (pt m (.cells [lv,pv] 62)::w7 110 2 lv (kF bvs bl)::w7 64 3 pv (ps.map V.ke)::(Ew bvs bl++L))
 len:bvs.length=bl.length
def VA(m:Nat)(M:MM)(n:Nat):HP:=ex λlv=>ex λpv=>ex λbvs=>ex λbl=>ex λps=>Q0 (fact (DR bl ps M/\ps.length<=n/\bvs.length=bl.length)::pt m (.cells [lv,pv] 62)::w7 110 2 lv (kF bvs bl)::w7 64 3 pv (ps.map V.ke)::Ew bvs bl)
section
variable {lo:yE}{h:za}{L:List HP}{m n:Nat}{M:MM}{lv pv:aaa}{bvs:List aaa}{bl:List DB}{ps:List V}
theorem Qj(s:Sat lo h (VA m M n::L)):∃lv pv bvs bl ps,DR bl ps M/\ps.length<=n/\DMO lo h m lv pv bvs bl ps L:=by
 obtain⟨lv,s⟩:=s.zbc;obtain⟨pv,s⟩:=s.zbc;obtain⟨bvs,s⟩:=s.zbc;obtain⟨bl,s⟩:=s.zbc;obtain⟨ps,s⟩:=s.zbc;obtain⟨⟨a,b,c⟩,s⟩:=Sat.HA.1 s.open;exact⟨lv,pv,bvs,bl,ps,a,b,s,c⟩
theorem VB(x:DR bl ps M)(hn:ps.length<=n)(D:DMO lo h m lv pv bvs bl ps L):Sat lo h (VA m M n::L) :=
 Sat.zai lv (Sat.zai pv (Sat.zai bvs (Sat.zai bl (Sat.zai ps (Sat.close (Sat.HA.2 ⟨⟨x,hn,D.len⟩,D.s⟩))))))
theorem jk:∀{bvs:List aaa} {bl:List DB},bvs.length=bl.length->(kF bvs bl).length=bl.length
 |[],[],_=>rfl
 |_::bvs,_::bl,e=>by simp only[kF,aaE,jk (bvs:=bvs) (bl:=bl) (by simpa using e)]
theorem J9:∀{bvs:List aaa} {bl:List DB} {i:Nat} {bv:aaa} {b:DB},bvs[i]? = some bv->bl[i]? = some b->(kF bvs bl)[i]? = some (Hb bv b)
 |_::bvs,_::bl,0,bv,b,e1,e2=>by simp at e1 e2;subst e1 e2;rfl
 |_::bvs,_::bl,i+1,bv,b,e1,e2=>by simp at e1 e2;simpa only[kF,aal] using J9 e1 e2
theorem QI(bvs:List aaa)(bl:List DB):∀r,r∈kF bvs bl->r.length=2:=by
 induction bvs generalizing bl with
 |nil=>intro r hr;cases hr
 |cons bv bvs ih=>
  cases bl with
  |nil=>intro r hr;cases hr
  |cons b bl=>
   intro r hr;rcases abm.1 hr with rfl|hr
   ·rfl
   ·exact ih bl r hr
theorem aA:∀{bvs:List aaa} {bl:List DB} {i:Nat} {bv:aaa} {b:DB},bvs[i]? = some bv->kF bvs (bl.set i b)=(kF bvs bl).set i (Hb bv b)
 |[],bl,i,bv,b,e=>by simp at e
 |_::bvs,[],i,bv,b,e=>by simp[kF]
 |_::bvs,_::bl,0,bv,b,e=>by simp at e;subst e;rfl
 |_::bvs,_::bl,i+1,bv,b,e=>by simp at e;simp only[aa0,kF,aA e]
theorem Ah:∀{bvs:List aaa} {bl:List DB} {bv:aaa} {b:DB},bvs.length=bl.length->kF (bvs++[bv]) (bl++[b])=kF bvs bl++[Hb bv b]
 |[],[],_,_,_=>rfl
 |_::bvs,_::bl,_,_,e=>by simp only[acL,kF,Ah (by simpa using e)]
theorem Hd:∀{bvs:List aaa} {bl:List DB} {bv:aaa} {b:DB},bvs.length=bl.length->Ew (bvs++[bv]) (bl++[b])=Ew bvs bl++[w7 3 1 bv (b.1.map yA)]
 |[],[],_,_,_=>rfl
 |_::bvs,_::bl,_,_,e=>by simp only[acL,Ew,Hd (by simpa using e)]
theorem rR:∀{bvs:List aaa} {bl:List DB} {i:Nat} {bv:aaa} {b:DB},bvs[i]? = some bv->bl[i]? = some b->∃R,(Ew bvs bl).Perm (w7 3 1 bv (b.1.map yA)::R) /\ ∀b':DB,(Ew bvs (bl.set i b')).Perm (w7 3 1 bv (b'.1.map yA)::R)
 |_::bvs,_::bl,0,bv,b,e1,e2=>by
  simp at e1 e2;subst e1 e2;exact⟨_,List.Perm.refl _,λb'=>List.Perm.refl _⟩
 |v::bvs,c::bl,i+1,bv,b,e1,e2=>by
  simp at e1 e2;obtain⟨R,p,q⟩:=rR e1 e2;exact⟨w7 3 1 v (c.1.map yA)::R,(p.cons _).trans (List.Perm.swap _ _ _),λb'=>((q b').cons _).trans (List.Perm.swap _ _ _)⟩
theorem Kq(l:List Int):∀r,r∈l.map yA->r.length=1:=uF (f:=yA) (λ_=>rfl) l
structure DV (h:za) (m:Nat) (lv pv:aaa) (bvs:List aaa) (bl:List DB) (ps:List V):Prop where
 gm:h.get m=some (.cells [lv,pv] 62)
 lt:m<h.next
 rows:zE h lv 2 (kF bvs bl)
 ze4:zE h pv 3 (ps.map V.ke)
 byt:∀(i:Nat) bv b,bvs[i]? = some bv->bl[i]? = some b->zE h bv 1 (b.1.map yA)
 len:bvs.length=bl.length
theorem DMO.dv(D:DMO lo h m lv pv bvs bl ps L):DV h m lv pv bvs bl ps:=by
 refine⟨D.s.get,D.s.lt,ua (D.s.p 1) (QI _ _),ua (D.s.p 2) (BL _),λi bv b e1 e2=>?_,D.len⟩;obtain⟨R,p,_⟩:=rR e1 e2;have s:=(((D.s.drop).drop).drop).perm (p.append_right L);exact ua s (Kq _)
theorem DV.old{h':za}(x:DV h m lv pv bvs bl ps)(e:Old h h'):DV h' m lv pv bvs bl ps :=
 ⟨by rw[e.get m x.lt];exact x.gm,aan x.lt e.next,x.rows.old e,x.ze4.old e,λi bv b e1 e2=>(x.byt i bv b e1 e2).old e,x.len⟩
theorem DV.lock(x:DV h m lv pv bvs bl ps):DV h.lock m lv pv bvs bl ps:=⟨x.gm,x.lt,x.rows.lock,x.ze4.lock,λi bv b e1 e2=>(x.byt i bv b e1 e2).lock,x.len⟩
theorem T2{sv:aaa}{rows:List (List aaa)}(S:zE h sv 2 rows)(r:TypeId)(h':za):zP pu .len [59] r [sv] h'=some (pm rows.length,h'):=by
 rcases S with⟨rfl,rfl⟩|⟨b,off,cp,rfl,_⟩
 ·simp only[ow,Wp,mG,kA,QQ,T5,nJ,nK,nL,nM,nN,nO,nP,aaC]
 ·simp only[ow,Wp,mG,kA,QQ,T5,nJ,nK,nL,nM,nN,nO,nP]
theorem zdc{sv:aaa}{rows:List (List aaa)}(S:zE h sv 1 rows)(r:TypeId)(h':za):zP pu .len [22] r [sv] h'=some (pm rows.length,h'):=by
 rcases S with⟨rfl,rfl⟩|⟨b,off,cp,rfl,_⟩
 ·simp only[WK,w9,jr,Wp,WY,Y7,kA,uC,qU,u6,QQ,E0,W2,W4,W5,W6,W7,W8,W9,Va,Vb,XE,XF,jh,XG,XH,XI,XJ,W3,XK,XL,aaC]
 ·simp only[WK,w9,jr,Wp,WY,Y7,kA,uC,qU,u6,QQ,E0,W2,W4,W5,W6,W7,W8,W9,Va,Vb,XE,XF,jh,XG,XH,XI,XJ,W3,XK,XL]
end
section
variable {h:za}{m n:Nat}{M:MM}{lv pv:aaa}{bvs:List aaa}{bl:List DB}{ps:List V}
theorem DV.qX(D:DV h m lv pv bvs bl ps)(x:DR bl ps M){i:Nat}{B:MB}(hB:M[i]? = some B):∃bv b q c t off cp,bvs[i]? = some bv/\bl[i]? = some b/\lv=.slice (some ⟨q,off,none⟩) bl.length cp/\b.2=B.qy/\B.size=b.1.length/\(B.qy=false->Qm ps b.1 B.byte)/\q<h.next/\h.get q=some (.cells c t)/\off+i*2+2<=c.length/\c[off+i*2]? = some bv/\c[off+i*2+1]? = some (.bool b.2):=by
 obtain⟨b,hb,h1,h2,h3⟩:=x.get hB
 have hi:i<bl.length:=by
  rcases aax i bl.length with q|q
  ·exact q
  ·rw[aak q]at hb;cases hb
 have hbv:bvs[i]? = some (bvs[i]'(by rw[D.len];exact hi)):=aac _;obtain⟨q,o,c,t,⟨off,cp,e1,rfl⟩,hi2,hq,hg,hl,ht,hk⟩:=D.rows.spot (i:=i) (r:=Hb _ b) (J9 hbv hb) rfl;rw[jk D.len]at e1 hi2;exact⟨_,b,q,c,t,off,cp,hbv,hb,e1,h1,h2,h3,hq,hg,hl,(hk 0 (by decide)).trans rfl,(hk 1 (by decide)).trans rfl⟩
theorem zev(D:DV h m lv pv bvs bl ps)(x:DR bl ps M)(hM:M.length<=100000)(z:Int):xC pu 40 [xG m,pm z] h (.bool (idx M z).isSome):=by
 apply vC rfl;apply zbn;unfold zfR xG;have gm:=D.gm;have gl:h.lock.get m=some (.cells [lv,pv] 62):=D.gm;have ln:=D.rows.kY;have ll:=T2 D.rows 3;rw[jk D.len,x.len]at ll;by_cases h1:z ≥ 1
 ·by_cases h2:z<=(M.length:Int)
  ·obtain⟨B,hB⟩:∃B,M[z.toNat-1]? = some B:=⟨_,aac (by omega)⟩;obtain⟨bv,b,q,c,t,off,cp,hbv,hb,rfl,e1,e2,e3,hq,hg,hl,k0,k1⟩:=D.qX x hB;have hg':h.lock.get q=some (.cells c t):=hg;have hw:IntKind.wrap .i64 (z-1)=z-1:=Go.Mem.vF (by omega) (by omega);have h3:(0:Int)<=z-1:=by omega
   have h4:z-1<(bl.length:Int):=by have:=x.len;omega
   have h5:(z-1).toNat=z.toNat-1:=by omega
   have k1':=k1;simp only[EE,zo,ow,Wp,mG,kA,QQ,nJ,nK,nL,nM,nN,nO,nP,h1,h2,gl,ln,ll,hw,h3,h4,h5,hg',k1]
   have:idx M z=if B.qy=true then none else some (z.toNat-1):=by
    unfold idx;rw[aai ⟨h1,h2⟩,hB]
   rw[this,e1];cases B.qy <;> rfl
  ·simp only[EE,zo,Wp,kA,nJ,nK,nL,nM,nN,nO,nP,h1,h2,gl,ln,ll];have:idx M z=none:=by unfold idx;rw[aae (λq=>h2 q.2)]
   rw[this];rfl
 ·simp only[EE,nJ,nK,nL,nM,nN,nO,nP,h1];have:idx M z=none:=by unfold idx;rw[aae (λq=>h1 q.1)]
  rw[this];rfl
theorem nf(D:DV h m lv pv bvs bl ps)(x:DR bl ps M)(hM:M.length<=100000)(hs:small M){c:Int}{p:V}(hc:wH c)(hp:p.ok):xC pu 97 [xG m,pm c,vv p] h (.bool (right M c p).isSome):=by
 apply vC rfl;apply IK;unfold MP xG;obtain⟨hp1,hp2,hp3⟩:=hp;have gm:∀o,(h.lock.push o).get m=some (.cells [lv,pv] 62):=λo=>(zD D.lt).trans D.gm;have ln:=D.rows.kY;by_cases hcc:c=1\/c=4\/c=8
 ·have c0:¬c=0:=by omega
  have go:W3 (.bool false) (pi h.next) (pi m) (WS (.bool (right M c p).isSome)) (pm c) (.agg #[pm p.k,pm p.n,pm p.b]) (h.lock.push (.cells [pm p.k,pm p.n,pm p.b] 64)):=by
   simp only[EE,W3];refine xU (fK p _) ?_;cases gp:kW p with
   |false=>
    have e:right M c p=none:=by
     unfold right;by_cases k2:p.k=2
     ·rw[aai ⟨k2,hcc⟩]
      have:idx M p.b=none:=by
       unfold idx;rw[aae];intro q;unfold kW at gp;rw[k2]at gp;simp at gp;omega
      rw[this]
     ·rw[aae λq=>k2 q.1]
    rw[e];simp only[EE,jh,XG,XH,XI,XJ];rfl
   |true=>
   by_cases k2:¬p.k=2
   ·have e:right M c p=none:=(by unfold right;rw[aae λq=>k2 q.1]);rw[e];simp only[EE,zo,jh,XG,XH,XI,XJ,k2];rfl
   have k2:p.k=2:=acJ.1 k2;simp only[EE,zo,XG,XH,XI,XJ,k2];refine xU (zev (D.lock.old (Old.push _ _)) x hM p.b) ?_;cases hi:idx M p.b with
   |none=>
    have e:right M c p=none:=(by unfold right;rw[aai ⟨k2,hcc⟩,hi]);rw[e];simp only[EE,jh,abB];rfl
   |some i=>
   obtain⟨hpb,B,hB,hf⟩:=Ut hi
   have e:right M c p=if 0<=p.n/\p.n<=B.size-c/\p.n.tmod c=0 then some i else none:=by
    unfold right;rw[aai ⟨k2,hcc⟩,hi];simp only[hB]
   rw[e];have hsz:=hs i B hB;by_cases n0:¬p.n ≥ 0
   ·rw[aae (by omega)];simp only[EE,zo,W2,W4,W5,W6,W7,W8,W9,Va,Vb,XE,XF,jh,aa1,n0];rfl
   have n0:p.n ≥ 0:=acJ.1 n0;obtain⟨bv,b,q,cs,t,off,cp,hbv,hb,rfl,e1,e2,e3,hq,hg,hl,k0,k1⟩:=D.qX x hB;have hg':∀o,(h.lock.push o).get q=some (.cells cs t):=λo=>(zD hq).trans hg;have hxl:=x.len
   have hil:i<bl.length:=by
    rcases aax i bl.length with z|z
    ·exact z
    ·rw[aak z]at hb;cases hb
   have hw:IntKind.wrap .i64 (p.b-1)=p.b-1:=Go.Mem.vF (by omega) (by omega);have h3:(0:Int)<=p.b-1:=by omega
   have h4:p.b-1<(bl.length:Int):=by omega
   have h5:(p.b-1).toNat=i:=by omega
   have SB:=D.byt i bv b hbv hb;have bn:=SB.kY;have bll:=zdc SB 3;rw[aav]at bll;have hw2:IntKind.wrap .i64 ((b.1.length:Int)-c)=(b.1.length:Int)-c:=Go.Mem.vF (by omega) (by omega);by_cases n1:¬p.n<=(b.1.length:Int)-c
   ·rw[aae (by rw[e2];exact λz=>n1 z.2.1)];simp only[EE,zo,w9,Wp,Y7,kA,QQ,W2,W4,W5,W6,W7,W8,W9,Va,Vb,XE,XF,jh,aa1,n0,gm,hw,h3,h4,h5,hg',k0,bn,bll,hw2,n1];rfl
   have n1:p.n<=(b.1.length:Int)-c:=acJ.1 n1;by_cases n2:p.n.tmod c=0
   ·rw[aai ⟨n0,by rw[e2];exact n1,n2⟩];simp only[EE,zo,w9,Wp,Y7,kA,QQ,W2,W4,W5,W6,W7,W8,W9,Va,Vb,XE,XF,jh,aa1,n0,gm,hw,h3,h4,h5,hg',k0,bn,bll,hw2,n1,c0,n2];rfl
   ·rw[aae λz=>n2 z.2.2];simp only[EE,zo,w9,Wp,Y7,kA,QQ,W2,W4,W5,W6,W7,W8,W9,Va,Vb,XE,XF,jh,aa1,n0,gm,hw,h3,h4,h5,hg',k0,bn,bll,hw2,n1,c0,n2];rfl
  rcases hcc with rfl|rfl|rfl
  ·simp only[EE,↓nw,Value.cells,Nat.reduceAdd,zN,XK,XL];exact go
  ·simp only[EE,↓nw,Value.cells,Nat.reduceAdd,Int.reduceEq,zN,XK,XL];exact go
  ·simp only[EE,↓nw,Value.cells,Nat.reduceAdd,Int.reduceEq,zN,XK,XL];exact go
 ·have e:right M c p=none:=by unfold right;rw[aae λq=>hcc q.2]
  rw[e];have c1:¬c=1:=λq=>hcc (.inl q);have c4:¬c=4:=λq=>hcc (.inr (.inl q));have c8:¬c=8:=λq=>hcc (.inr (.inr q));simp only[EE,↓nw,Value.cells,jh,XG,XH,XI,XJ,W3,XK,XL,c1,c4,c8];rfl
end
theorem zh4(n:Int):IntKind.wrap .i8 (IntKind.wrap .i64 n)=IntKind.wrap .i8 n:=by
 simp only[IntKind.wrap,IntKind.bits,IntKind.signed];simp;split <;> split <;> omega
theorem zhn(n:Int):IntKind.wrap .i32 (IntKind.wrap .i64 n)=IntKind.wrap .i32 n:=by
 simp only[IntKind.wrap,IntKind.bits,IntKind.signed];simp;split <;> split <;> omega
theorem zgJ{z:Int}(h0:0<=z)(h1:z<=255):IntKind.wrap .i64 (BitVec.ofInt (IntKind.bits .i64) z &&& BitVec.ofInt (IntKind.bits .i64) 255).toNat=z:=by
 have:IntKind.wrap .i64 (BitVec.ofInt (IntKind.bits .i64) z &&& BitVec.ofInt (IntKind.bits .i64) 255).toNat=z%256:=me z 8 (by decide);rw[this];omega
theorem zea{h:za}{bv:aaa}{bs:List Int}(S:zE h bv 1 (bs.map yA)){a:Nat}{z:Int}(hz:bs[a]? = some z):∃q off cp cs t,bv=.slice (some ⟨q,off,none⟩) bs.length cp/\q<h.next/\h.get q=some (.cells cs t) /\ ∀(k:Nat) y,bs[k]? = some y->cs[off+k]? = some (pm y):=by
 rcases S with⟨_,e⟩|⟨q,off,cp,e,hc⟩
 ·have:bs=[]:=by simpa using e
  subst this;cases hz
 ·obtain⟨cs,t,hq,hg,hk⟩:=hc (by intro q;have:bs=[]:=by simpa using q
                                subst this;cases hz)
  refine⟨q,off,cp,cs,t,by rw[e,aav],hq,hg,λk y hy=>?_⟩;obtain⟨h1,h2⟩:=hk k (yA y) (by rw[aau,hy];rfl);rw[abA]at h1 h2;have:=congrArg (λl=>l[0]?) h2;simp only[acE,aaW,ab8]at this;simpa [yA] using this
theorem zg0{f:Nat->Cl}{n k:Nat}{z:Int}(hk:k<8)(e:(f (n+k)).n=z):IntKind.wrap .u64 (BitVec.ofInt (IntKind.bits .u64) (Bn f n k) ||| BitVec.ofInt (IntKind.bits .u64) (IntKind.wrap .u64 (IntKind.wrap .u64 z*2^min (8*k) (IntKind.bits .u64)))).toNat=Bn f n (k+1):=by
 rw[show min (8*k) (IntKind.bits .u64)=8*k from Nat.min_eq_left (by show 8*k<=64;omega),<- e];rfl
theorem Mc{f:Nat->Cl}{n:Nat}{c:Int}:∀{k:Nat},kJ f n c k=true->c=8
 |0,h=>by simpa [kJ] using h
 |k+1,h=>by
  unfold kJ at h;simp only[aah]at h;exact Mc h.1.1.1
theorem Mb{f:Nat->Cl}{n:Nat}{c:Int}:∀{k:Nat},kJ f n c k=true->0<k->(f (n+0)).k=2
 |0,h,q=>by omega
 |k+1,h,_=>by
  unfold kJ at h;simp only[aah,aaR]at h;rcases ab2 k with q|q
  ·subst q;exact h.1.1.2
  ·exact Mb h.1.1.1 q
theorem Nt{b o len cp:Nat}{lo hi:Int}{h:za}(h0:0<=lo)(h1:lo<=hi)(h2:hi<=len):∃X,B7 pu 22 (.slice (some ⟨b,o,none⟩) len cp) (some (pm lo)) (some (pm hi)) h=some (.slice (some ⟨b,o+lo.toNat,none⟩) (hi-lo).toNat X):=by
 rw[za3,Y3,aai ⟨by omega,h2⟩,aaK,Y3,aai ⟨h0,by omega⟩,aaK,abA,show hi.toNat-lo.toNat=(hi-lo).toNat by omega];exact⟨_,rfl⟩
section
variable {h:za}{m n:Nat}{M:MM}{lv pv:aaa}{bvs:List aaa}{bl:List DB}{ps:List V}
theorem zeE(D:DV h m lv pv bvs bl ps)(x:DR bl ps M)(hM:M.length<=100000)(hs:small M)(hps:ps.length<=100000000){c:Int}{p:V}(hc:wH c)(hp:p.ok):xC pu 68 [xG m,pm c,vv p] h (qc (Wx M c p)):=by
 apply vC rfl;apply O5;unfold Sa xG;simp only[EE,↓nw,Value.cells,Nat.reduceAdd,zN];have e2:∀a b,Old h.lock ((h.lock.push a).push b):=λa b=>(Old.push _ _).trans (Old.push _ _);have D2:=D.lock.old (e2 (.cells [pm p.k,pm p.n,pm p.b] 64) (.cells [pm 0,pm 0,pm 0] 64))
 have g5:((h.lock.push (.cells [pm p.k,pm p.n,pm p.b] 64)).push (.cells [pm 0,pm 0,pm 0] 64)).get h.next=some (.cells [pm p.k,pm p.n,pm p.b] 64):=by
  rw[zD (by show h.next<h.next+1;omega)];exact zv
 have g6:((h.lock.push (.cells [pm p.k,pm p.n,pm p.b] 64)).push (.cells [pm 0,pm 0,pm 0] 64)).get (h.next+1)=some (.cells [pm 0,pm 0,pm 0] 64):=zv;have r6:((h.lock.push (.cells [pm p.k,pm p.n,pm p.b] 64)).push (.cells [pm 0,pm 0,pm 0] 64)).ro<=h.next+1:=by show h.next<=h.next+1;omega
 refine xU (nf D2 x hM hs hc hp) ?_;generalize ((h.lock.push (.cells [pm p.k,pm p.n,pm p.b] 64)).push (.cells [pm 0,pm 0,pm 0] 64))=H at D2 g5 g6 r6 ⊢;cases hr:right M c p with
 |none=>
  have e:Wx M c p=none:=by unfold Wx;rw[hr]
  rw[e];simp only[EE,zb,Nat.reduceAdd,xw,zN,FX,g6,r6,abB];rfl
 |some i=>
 obtain⟨k2,hcc,hi,B,hB,hn0,hn1,hn2⟩:=aS hr;obtain⟨hpb,B',hB',hf⟩:=Ut hi;rw[hB]at hB';cases hB';have e:Wx M c p=some (bN B.byte p.n.toNat c):=by unfold Wx;rw[hr];simp only[hB,abn]
 rw[e];have hsz:=hs i B hB;have gm:=D2.gm;have ln:=D2.rows.kY;obtain⟨bv,b,q,cs,t,off,cp,hbv,hb,rfl,e1,e2',e3,hq,hg,hl,k0,k1⟩:=D2.qX x hB;obtain⟨js,hjs⟩:=e3 hf;have hxl:=x.len
 have hil:i<bl.length:=by
  rcases aax i bl.length with z|z
  ·exact z
  ·rw[aak z]at hb;cases hb
 have hw:IntKind.wrap .i64 (p.b-1)=p.b-1:=Go.Mem.vF (by omega) (by omega);have h3:(0:Int)<=p.b-1:=by omega
 have h4:p.b-1<(bl.length:Int):=by omega
 have h5:(p.b-1).toNat=i:=by omega
 have hw2:IntKind.wrap .i64 (p.n+c)=p.n+c:=Go.Mem.vF (by omega) (by omega);have hlt:∀k:Nat,(k:Int)<c->p.n.toNat+k<b.1.length:=λk hk=>by omega
 have at_:∀k:Nat,(k:Int)<c->∃z,b.1[p.n.toNat+k]? = some z:=λk hk=>⟨_,aac (hlt k hk)⟩;obtain⟨z0,hz0⟩:=at_ 0 (by omega);obtain⟨qb,ob,cb,cbs,tb,rfl,hqb,hgb,hkb⟩:=zea (D2.byt i bv b hbv hb) hz0;obtain⟨X,hX⟩:=Nt (b:=qb) (o:=ob) (cp:=cb) (h:=H) hn0 (show p.n<=p.n+c by omega) (show p.n+c<=(b.1.length:Int) by omega);have hpc:(p.n+c-p.n).toNat=c.toNat:=by omega
 rw[hpc]at hX;simp only[EE,↓BK,zo,w9,Wp,Y7,kA,QQ,CB,aa1,gm,g5,hw,h3,h4,h5,hg,k0,hw2,hX]
 have P8:∀k:Nat,(k:Int)<c->c=8->(p.n.toNat+k)/8=p.n.toNat/8/\(p.n.toNat+k)%8=k:=λk hk h8=>by
  subst h8;rw[abr hn0]at hn2;omega
 refine qQ (λr vs h'=>∃(k:Nat) (y:Int),(k:Int)<=c/\r=c.toNat-k/\vs=[.int .u64 y,.bool (YB B.byte p.n.toNat k),.bool (kJ B.byte p.n.toNat c k),pm k]/\(YB B.byte p.n.toNat k=true->y=Bn B.byte p.n.toNat k)/\h'=H) c.toNat ⟨0,0,by omega,rfl,rfl,λ_=>rfl,rfl⟩ ?_;rintro r vs h' ⟨k,y,hk,rfl,rfl,hy,rfl⟩;have hkb':∀(j:Nat) w,b.1[p.n.toNat+j]? = some w->cbs[ob+p.n.toNat+j]? = some (pm w):=λj w hw=>by rw[acs];exact hkb _ _ hw
 by_cases hkc:(k:Int)<c
 ·obtain⟨z,hz⟩:=at_ k hkc;have gz:=hkb' k z hz;have gz0:cbs[ob+p.n.toNat]? = some (pm z0):=hkb' 0 z0 hz0;have code:=hjs _ _ hz;have code0:=hjs _ _ hz0;have q1:(0:Int)<=k:=by omega
  have q2:(k:Int)<(c.toNat:Int):=by omega
  have q3:IntKind.wrap .i64 ((k:Int)+1)=((k+1:Nat):Int):=Go.Mem.vF (by omega) (by omega);have q4:IntKind.wrap .i64 (8*(k:Int))=((8*k:Nat):Int):=(Go.Mem.vF (by omega) (by omega)).trans (by omega);have q5:IntKind.wrap .u64 ((8*k:Nat):Int)=((8*k:Nat):Int):=by rw[show IntKind.wrap .u64 ((8*k:Nat):Int)=wu ((8*k:Nat):Int) from rfl,BO];omega
  have q6:(0:Int)<=((8*k:Nat):Int):=by omega
  have q7:(0:Int)<(c.toNat:Int):=by omega
  have nx:∀(y':Int) (a' b':Bool),a'=YB B.byte p.n.toNat (k+1)->b'=kJ B.byte p.n.toNat c (k+1)->(a'=true->y'=Bn B.byte p.n.toNat (k+1))->∃r',r'<c.toNat-k /\ ∃(k':Nat) (y2:Int),(k':Int)<=c/\r'=c.toNat-k' /\ [Value.int .u64 y',.bool a',.bool b',pm ((k+1:Nat):Int)]=[.int .u64 y2,.bool (YB B.byte p.n.toNat k'),.bool (kJ B.byte p.n.toNat c k'),pm k']/\(YB B.byte p.n.toNat k'=true->y2=Bn B.byte p.n.toNat k'):=by
   rintro y' a' b' rfl rfl hq;exact⟨c.toNat-(k+1),by omega,k+1,y',by omega,rfl,rfl,hq⟩
  have hkc8:k<8:=by omega
  have sA:YB B.byte p.n.toNat (k+1)=(YB B.byte p.n.toNat k&&decide ((B.byte (p.n.toNat+k)).k=1)):=rfl;have sP:kJ B.byte p.n.toNat c (k+1)=(kJ B.byte p.n.toNat c k&&decide ((B.byte (p.n.toNat+k)).k=2)&&decide (IntKind.wrap .i64 (B.byte (p.n.toNat+k)).n=k)&&decide ((B.byte (p.n.toNat+k)).p=(B.byte p.n.toNat).p)):=rfl;generalize hA:YB B.byte p.n.toNat k=A at hy sA ⊢;generalize hP:kJ B.byte p.n.toNat c k=Q at sP ⊢;rcases code with⟨ez,ec⟩|⟨ez1,ez2,ec⟩|⟨ez,ec1,ec2,ec3⟩
  ·have f1:¬z ≥ 0:=by omega
   have f2:¬z ≥ 1000:=by omega
   rw[ec]at sA sP;cases A <;> cases Q <;> (simp only[EE,nth,↓BK,zo,WM,mq,Ku,bV,bW,bX,bY,bZ,cA,cB,cC,KS,KT,KU,KV,KW,KX,KY,KZ,K0,K1,K3,Yj,hkc,f1,f2,q1,q2,q3,q4,q5,q6,hgb,gz,aaw,abA];refine nx _ _ _ (by rw[sA];rfl) (by rw[sP];rfl) (λq=>?_);cases q)
  ·have f1:z ≥ 0:=ez1;have f3:z<256:=by omega
   have f2:¬z ≥ 1000:=by omega
   have f4:=zgJ ez1 ez2;rw[ec]at sA sP;cases A <;> cases Q <;> (simp only[EE,nth,↓BK,zo,WM,mq,Ku,bV,bW,bX,bY,bZ,cA,cB,cC,KS,KT,KU,KV,KW,KX,KY,KZ,K0,K1,K3,Yj,hkc,f1,f2,f3,f4,q1,q2,q3,q4,q5,q6,hgb,gz,aaw,abA];refine nx _ _ _ (by rw[sA];rfl) (by rw[sP];first|rfl|(simp;done)) (λq=>?_);first|(cases q;done)|(rw[hy rfl,zg0 hkc8 (by rw[ec])]))
  ·have f1:z ≥ 0:=by omega
   have f3:¬z<256:=by omega
   have f2:z ≥ 1000:=by omega
   cases Q with
   |false=>
    cases A <;> (simp only[EE,nth,↓BK,zo,WM,mq,Ku,bV,bW,bX,bY,bZ,cA,cB,cC,KS,KT,KU,KV,KW,KX,KY,KZ,K0,K1,K3,Yj,hkc,f1,f3,q1,q2,q3,q4,q5,q6,hgb,gz,aaw,abA];refine nx _ _ _ (by rw[sA,ec1];rfl) (by rw[sP];rfl) (λq=>?_);cases q)
   |true=>
    have c8:=Mc hP;obtain⟨pk1,pk2⟩:=P8 k hkc c8;obtain⟨pk3,pk4⟩:=P8 0 (by omega) c8
    have fk:(B.byte (p.n.toNat+0)).k=2:=by
     rcases ab2 k with q|q
     ·subst q;exact ec1
     ·exact Mb hP q
    rcases code0 with⟨_,w⟩|⟨_,_,w⟩|⟨w1,_,_,w4⟩
    ·rw[w]at fk;cases fk
    ·rw[w]at fk;cases fk
    rw[pk3,pk4]at w1;rw[pk1,pk2]at ez;rw[pk2]at ec2;rw[pk1]at ec3;rw[pk3]at w4
    have hj:js (p.n.toNat/8)<ps.length:=by
     rcases aax (js (p.n.toNat/8)) ps.length with q|q
     ·exact q
     ·rw[aak q]at w4;cases w4
    have f5:IntKind.wrap .i64 (z0+k)=z:=(Go.Mem.vF (by omega) (by omega)).trans (by omega);have f6:z0.tmod 8=0:=by rw[abr (by omega)];omega
    have f7:kJ B.byte p.n.toNat c (k+1)=true:=by
     have ep:(B.byte (p.n.toNat+k)).p=(B.byte p.n.toNat).p:=abP (ec3.symm.trans w4);have ew:IntKind.wrap .i64 ((k:Nat):Int)=k:=Go.Mem.vF (by omega) (by omega);rw[sP,ec1,ec2,ew,ep];simp
    cases A <;> (simp only[EE,nth,↓BK,seval,zo,WM,mq,Ku,bV,bW,bX,bY,bZ,cA,cB,cC,KS,KT,KU,KV,KW,KX,KY,KZ,K0,K1,K3,Yj,hkc,f1,f2,f3,f5,f6,q1,q2,q3,q4,q5,q6,q7,hgb,gz,gz0,aaw,abA];refine nx _ _ _ (by rw[sA,ec1];rfl) f7.symm (λq=>?_);cases q)
 ·have hkc2:k=c.toNat:=by omega
  subst hkc2;unfold bN;cases hA:YB B.byte p.n.toNat c.toNat with
  |true=>
   have hy:=hy hA;rw[aai rfl,<- hy];rcases hcc with c1|c1|c1
   ·have z1:c<8:=(by omega);have z2:IntKind.wrap .u64 (IntKind.wrap .i64 (8*c))=8:=(by rw[c1];rfl);simp only[EE,nth,jO,WM,Yj,nR,eM,U4,hkc,z1,z2];refine xU (TI _ _) ?_;simp only[nQ];refine xU (ZN _ _) ?_;simp only[EE,zb,Nat.reduceAdd,xw,zN,g6,r6,zh4];rw[aae (by omega),aae (by omega)];rfl
   ·have z1:c<8:=(by omega);have z2:IntKind.wrap .u64 (IntKind.wrap .i64 (8*c))=32:=(by rw[c1];rfl);simp only[EE,nth,jO,WM,Yj,nR,eM,U4,hkc,z1,z2];refine xU (NS _ _) ?_;simp only[nQ];refine xU (ZN _ _) ?_;simp only[EE,zb,Nat.reduceAdd,xw,zN,g6,r6,zhn];rw[aae (by omega),aai c1];rfl
   ·have z1:¬c<8:=(by omega);simp only[EE,nth,jO,Yj,Cy,eM,U4,hkc,z1];refine xU (ZN _ _) ?_;simp only[EE,zb,Nat.reduceAdd,xw,zN,g6,r6];rw[aai c1];rfl
  |false=>
   rw[aae (by simp)];cases hP:kJ B.byte p.n.toNat c c.toNat with
   |false=>
    rw[aae (by simp)];simp only[EE,nth,zb,Nat.reduceAdd,xw,zN,Yj,CA,U4,hkc,g6,r6];rfl
   |true=>
    rw[aai rfl];have c8:=Mc hP;have fk:=Mb hP (by omega);obtain⟨pk3,pk4⟩:=P8 0 (by omega) c8;rcases hjs _ _ hz0 with⟨_,w⟩|⟨_,_,w⟩|⟨w1,_,_,w4⟩
    ·rw[w]at fk;cases fk
    ·rw[w]at fk;cases fk
    rw[pk3,pk4]at w1;rw[pk3]at w4
    have hj:js (p.n.toNat/8)<ps.length:=by
     rcases aax (js (p.n.toNat/8)) ps.length with q|q
     ·exact q
     ·rw[aak q]at w4;cases w4
    have gz0:cbs[ob+p.n.toNat]? = some (pm z0):=hkb' 0 z0 hz0;have q7:(0:Int)<(c.toNat:Int):=by omega
    have f5:IntKind.wrap .i64 (z0-1000)=z0-1000:=Go.Mem.vF (by omega) (by omega)
    have f6:IntKind.wrap .i64 ((z0-1000).tdiv 8)=((js (p.n.toNat/8):Nat):Int):=by
     rw[acn (by omega)];exact(Go.Mem.vF (by omega) (by omega)).trans (by omega)
    obtain⟨b9,o9,c9,t9,⟨off9,cp9,rfl,rfl⟩,hi9,hb9,hg9,hl9,ht9,_⟩:=D2.ze4.spot (i:=js (p.n.toNat/8)) (r:=((B.byte p.n.toNat).p).ke) (by rw[aau,w4];rfl) rfl;have q8:(0:Int)<=((js (p.n.toNat/8):Nat):Int):=by omega
    have q9:((js (p.n.toNat/8):Nat):Int)<(ps.length:Int):=(by omega);have ht9':(c9.drop (off9+js (p.n.toNat/8)*3)).take 3=[pm (B.byte p.n.toNat).p.k,pm (B.byte p.n.toNat).p.n,pm (B.byte p.n.toNat).p.b]:=ht9;rw[aav]at *
    simp only[EE,nth,zb,seval,xw,zN,zo,GR,mK,Ku,zgE,Yj,Cz,U4,hkc,gm,g6,r6,f5,f6,q7,q8,q9,hgb,gz0,hg9,hl9,ht9',aaw,abA];rfl
end
open Go.Rtl (inc UZ yM)
def VH(bs:List Int)(n:Nat)(code:Nat->Int):Nat->List Int
 |0=>bs
 |k+1=>(VH bs n code k).set (n+k) (code k)
theorem jl(bs:List Int)(n:Nat)(code:Nat->Int):∀k,(VH bs n code k).length=bs.length
 |0=>rfl
 |k+1=>by simp only[VH,abd,jl bs n code k]
theorem na(bs:List Int)(n:Nat)(code:Nat->Int)(a:Nat)(ha:a<bs.length):∀k,(VH bs n code k)[a]? = if n<=a/\a<n+k then some (code (a-n)) else bs[a]?
 |0=>by rw[aae (by omega)];rfl
 |k+1=>by
  simp only[VH];by_cases e:n+k=a
  ·subst e;rw[aaU (by rw[jl];exact ha),aai (by omega)]
   congr 2;omega
  ·rw[abj e,na bs n code a ha k];by_cases q:n<=a/\a<n+k
   ·rw[aai q,aai (by omega)]
   ·rw[aae q,aae (by omega)]
theorem zh7(z:List aaa)(hz:0<z.length)(k:Nat):Zu z (k*z.length)=(List.replicate k z).flatten:=by
 have hr:∀r,r∈List.replicate k z->r.length=z.length:=λr hr=>by rw[(List.mem_replicate.1 hr).2]
 apply abw;intro j;unfold Zu;rw[aau];by_cases hj:j<k*z.length
 ·rw[List.getElem?_range hj];have hq:j/z.length<k:=Nat.div_lt_of_lt_mul (by rw[Nat.mul_comm];exact hj);have hm:j%z.length<z.length:=Nat.mod_lt _ hz;have:=UZ hr (i:=j/z.length) (r:=z) (k:=j%z.length) (by rw[List.getElem?_replicate,aai hq]) hm;rw[Nat.mul_comm,Nat.div_add_mod]at this;rw[this,aac hm];simp only[abn,aac hm,abH]
 ·rw[aak (by simp;omega),aak (by rw[yM hr];simp;omega)];rfl
section
variable {lo:yE}{h:za}{L:List HP}{m n:Nat}{M:MM}
theorem Nq(s:Sat lo h (VA m M n::L))(z:Int):DC pu 22 [xG m,pm z] h (λv h1=>v=.tuple #[pm (yJ M z).2.1,pm (yJ M z).2.2]/\Sat lo h1 (VA m (yJ M z).1 n::L)):=by
 apply IF;unfold MJ xG;by_cases z0:z<0
 ·have e:yJ M z=(M,0,1):=by unfold yJ;rw[aai (.inl z0)]
  rw[e];simp only[EE,KP,KQ,z0];exact s
 by_cases z1:z>65536
 ·have e:yJ M z=(M,0,1):=by unfold yJ;rw[aai (.inr z1)]
  rw[e];simp only[EE,KP,KQ,z0,z1];exact s
 obtain⟨lv,pv,bvs,bl,ps,x,hn,D⟩:=Qj s;have gm:=D.s.get;have SL:=ua (D.s.p 1) (QI _ _);have ln:=SL.kY;have ll:=T2 SL 3;rw[jk D.len,x.len]at ll;by_cases hf:(M.length:Int) ≥ 100000
 ·have e:yJ M z=(M,0,2):=by unfold yJ;rw[aae (by omega),aai (by omega)]
  rw[e];simp only[EE,zo,Wp,kA,nD,KP,KQ,z0,z1,gm,ln,ll,hf];exact s
 have e:yJ M z=(M++[fresh z],(M.length:Int)+1,0):=by unfold yJ;rw[aae (by omega),aae (by omega)]
 rw[e];have mk:=zgP .i64 .i64 z z h (by omega) (acu _) (by omega)
 have hz:Zu [(pm 0:aaa)] (z.toNat*1)=((List.replicate z.toNat (0:Int)).map yA).flatten:=by
  rw[List.map_replicate];exact zh7 [(pm 0:aaa)] (by decide) z.toNat
 simp only[EE,↓xg,zo,Wp,kA,nD,KP,KQ,z0,z1,gm,ln,ll,hf,mk];rw[hz];have s1:=WU (n:=1) (c:=z.toNat+2) (ty:=3) (by omega) (Kq _) rfl (D.s.push (.cells ((List.replicate z.toNat (0:Int)).map yA).flatten 3));rw[aav,abM]at s1;generalize h.push (.cells ((List.replicate z.toNat (0:Int)).map yA).flatten 3)=H at s1 ⊢;generalize hb:h.next=b0 at s1 ⊢;clear hb;refine qQ (λr vs h'=>∃k:Nat,(k:Int)<=z/\r=z.toNat-k/\vs=[pm k]/\Sat lo h' (w7 3 1 (.slice (some ⟨b0,0,none⟩) z.toNat (z.toNat+2)) ((VH (List.replicate z.toNat 0) 0 (λ_ => -1) k).map yA)::pt m (.cells [lv,pv] 62)::w7 110 2 lv (kF bvs bl)::w7 64 3 pv (ps.map V.ke)::(Ew bvs bl++L))) z.toNat ⟨0,by omega,rfl,rfl,s1⟩ ?_;rintro r vs h' ⟨k,hk,rfl,rfl,s2⟩;by_cases hkz:(k:Int)<z
 ·obtain⟨b,c,cs,hsv,gb,wb,lb,s3⟩:=aZ s2 (Kq _) (i:=k) (by rw[aav,jl,abM];omega);rw[aav,jl,abM]at hsv;simp only[abu,aab,abJ,aba,ab1]at hsv;obtain⟨rfl,rfl⟩:=hsv;have q1:(0:Int)<=k:=by omega
  have q2:(k:Int)<(z.toNat:Int):=by omega
  simp only[EE,nth,↓xg,Int.reduceNeg,Ku,Ci,nC,hkz,q1,q2,aaw];refine ni gb wb lb s3 rfl rfl λh3 s4=>?_;simp only[EE,nth,Int.reduceNeg,inc (show k<4611686018427387904 by omega)];refine⟨z.toNat-(k+1),by omega,k+1,by omega,rfl,rfl,?_⟩
  have:((VH (List.replicate z.toNat 0) 0 (λ_ => -1) k).map yA).set k [pm (-1)]=(VH (List.replicate z.toNat 0) 0 (λ_ => -1) (k+1)).map yA:=by
   simp only[VH,aay,acF];rfl
  rw[<- this];exact s4
 ·have hkz2:k=z.toNat:=by omega
  subst hkz2;obtain⟨bs,hbs⟩:∃bs,bs=VH (List.replicate z.toNat 0) 0 (λ_ => -1) z.toNat:=⟨_,rfl⟩;rw[<- hbs]at s2;have hbl:bs.length=z.toNat:=by rw[hbs,jl,abM]
  have hR:Qm ps bs (λ_=>pz):=⟨λ_=>0,λa y hy=>by
   have ha:a<z.toNat:=by
    rcases aax a z.toNat with q|q
    ·exact q
    ·rw[aak (by rw[hbl];exact q)]at hy;cases hy
   rw[hbs,na _ _ _ _ (by rw[abM];exact ha),aai ⟨aaX _,by omega⟩]at hy;exact .inl ⟨(abP hy).symm,rfl⟩⟩
  clear hbs;have gm2:=(s2.p 1).get;have s3:=s2.push (.cells [.slice (some ⟨b0,0,none⟩) z.toNat (z.toNat+2),.bool false] 110);obtain⟨b',c',h2,a1,s4⟩:=YD (s3.p 3) (QI _ _) [.slice (some ⟨b0,0,none⟩) z.toNat (z.toNat+2),.bool false] rfl (by decide) 32 (by rw[jk D.len,x.len];omega);rw[jk D.len,x.len]at a1 s4
  have ha:∀r,zP pu .append [59,59] r [lv,.slice (some ⟨h'.next,0,none⟩) 1 3] (h'.push (.cells [.slice (some ⟨b0,0,none⟩) z.toNat (z.toNat+2),.bool false] 110))=some (.slice (some ⟨b',0,none⟩) (M.length+1) c',h2):=λr=>by
   rw[zf2 r _ _ 1 [.slice (some ⟨b0,0,none⟩) z.toNat (z.toNat+2),.bool false] _ rfl (by simp only[vW,zv];rfl) rfl rfl];exact a1
  simp only[EE,nth,zo,Wp,zf7,Te,PA,kA,nC,Cj,hkz,gm2,ln,ha];refine z9 (s4.p 3) (by simp) rfl λh3 s5=>?_;have g5:=s5.get
  have ll2:=T2 (ua (s5.p 1) (by
   intro r hr;rcases aa2.1 hr with q|q
   ·exact QI _ _ r q
   ·simp only[abp]at q;subst q;rfl)) 3
  rw[acb,List.length_singleton,jk D.len,x.len]at ll2;simp only[EE,zb,zo,Wp,kA,g5,ll2];have s6:=(s5.p 2).drop;refine⟨by rw[Int.natCast_add];rfl,VB (pv:=pv) (lv := .slice (some ⟨b',0,none⟩) (M.length+1) c') (bvs:=bvs++[.slice (some ⟨b0,0,none⟩) z.toNat (z.toNat+2)]) (bl:=bl++[(bs,false)]) (x.app (b:=(bs,false)) (B:=fresh z) rfl hbl.symm λ_=>hR) hn ⟨?_,by simp[D.len]⟩⟩;rw[Ah D.len,Hd D.len,List.append_assoc];exact s6.perm (((((List.Perm.swap _ _ _).trans (List.perm_middle.symm.cons _)).cons _).cons _))
theorem DMO.focus{lv pv:aaa}{bvs:List aaa}{bl:List DB}{ps:List V}(D:DMO lo h m lv pv bvs bl ps L){i:Nat}{bv:aaa}{b:DB}(h1:bvs[i]? = some bv)(h2:bl[i]? = some b) :
  ∃R,Sat lo h (w7 3 1 bv (b.1.map yA)::pt m (.cells [lv,pv] 62)::w7 110 2 lv (kF bvs bl)::w7 64 3 pv (ps.map V.ke)::R) /\
   ∀(h':za) (b':DB) lv' pv' ps' rows',rows'=kF bvs (bl.set i b')->Sat lo h' (w7 3 1 bv (b'.1.map yA)::pt m (.cells [lv',pv'] 62)::w7 110 2 lv' rows'::w7 64 3 pv' (ps'.map V.ke)::R)->DMO lo h' m lv' pv' bvs (bl.set i b') ps' L:=by
 obtain⟨R,p,q⟩:=rR h1 h2;refine⟨R++L,?_,λh' b' lv' pv' ps' rows' e s=>⟨?_,by rw[abd];exact D.len⟩⟩
 ·refine D.s.perm ?_;have p2:=p.append_right L;exact((((p2.cons _).trans (List.Perm.swap _ _ _)).cons _).trans (List.Perm.swap _ _ _)).cons _ |>.trans (List.Perm.swap _ _ _)
 ·subst e;refine s.perm ?_;have p2:=(q b').append_right L
  have:∀A B C E:HP,∀X Y:List HP,Y.Perm (A::X)->(A::B::C::E::X).Perm (B::C::E::Y):=λA B C E X Y z=>
   (List.Perm.swap _ _ _).trans ((((List.Perm.swap _ _ _).trans (((List.Perm.swap _ _ _).trans (z.symm.cons _)).cons _))).cons _)
  exact this _ _ _ _ _ _ p2
theorem zen(s:Sat lo h (VA m M n::L))(hM:M.length<=100000)(z:Int):DC pu 73 [xG m,pm z] h (λv h1=>v=.bool (Yw M z).isSome/\Sat lo h1 (VA m ((Yw M z).getD M) n::L)):=by
 apply OZ;unfold R8 xG;obtain⟨lv,pv,bvs,bl,ps,x,hn,D⟩:=Qj s;simp only[];refine xU (zev D.dv x hM z) ?_;cases hi:idx M z with
 |none=>
  have e:Yw M z=none:=by unfold Yw;rw[hi];rfl
  rw[e];simp only[EE,abB];exact s
 |some i=>
  obtain⟨hz,B,hB,hf⟩:=Ut hi;have e:Yw M z=some (M.set i (gone B)):=by unfold Yw;rw[hi];simp[hB]
  rw[e];obtain⟨bv,b,q,cs,t,off,cp,hbv,hb,e0,e1,e2,e3,hq,hg,hl,k0,k1⟩:=D.dv.qX x hB;have gm:=D.s.get;have ln:=D.dv.rows.kY
  have hil:i<bl.length:=by
   rcases aax i bl.length with w|w
   ·exact w
   ·rw[aak w]at hb;cases hb
  have hxl:=x.len;obtain⟨q2,c2,cs2,hsv,gb,wb,lb,s3⟩:=aZ (D.s.p 1) (QI _ _) (i:=i) (by rw[jk D.len];exact hil);rw[jk D.len]at hsv;subst hsv;simp only[abu,aab,abJ,aba,ab1]at e0;obtain⟨⟨rfl,rfl⟩,rfl⟩:=e0;have hcs:cs=cs2/\t=110:=by rw[gb]at hg;simp at hg;exact⟨hg.1.symm,hg.2.symm⟩
  obtain⟨rfl,rfl⟩:=hcs;have hw:IntKind.wrap .i64 (z-1)=z-1:=Go.Mem.vF (by omega) (by omega);have h3:(0:Int)<=z-1:=by omega
  have h4:z-1<(bl.length:Int):=by omega
  have h5:(z-1).toNat=i:=by omega
  have hm:zb cs (i*2+1) [.bool true]=zb cs (i*2) [bv,.bool true]:=by
   rw[aay]at k0;show cs.set (i*2+1) _=(cs.set (i*2) bv).set (i*2+1) _
   congr 1
   apply abw;intro j;by_cases q:i*2=j
   ·subst q;rw[aaU (by omega),k0]
   ·rw[abj q]
  simp only[EE,zo,Wp,Es,mG,kA,QQ,FQ,aa1,gm,hw,h3,h4,h5];rw[Fo gb,aai ⟨by simp;omega,wb,rfl⟩,hm];have s4:=(s3 [bv,.bool true] rfl).p 1;simp only[EE,zb];refine⟨rfl,VB (lv := .slice (some ⟨q2,0,none⟩) bl.length c2) (pv:=pv) (bvs:=bvs) (bl:=bl.set i (b.1,true)) (ps:=ps) (x.set (b:=(b.1,true)) (B:=gone B) rfl e2 λq=>by cases q) hn ⟨?_,by rw[abd];exact D.len⟩⟩;rw[aA hbv];obtain⟨R,p,q⟩:=rR hbv hb;exact s4.perm ((((p.trans (q (b.1,true)).symm).append_right L).cons _).cons _ |>.cons _)
theorem zc4{ps:List V}{j i:Nat}{z:Int}(h0:0<=z)(h1:z<=255):pC ps j i z ⟨1,z,v0⟩ := .inr (.inl ⟨h0,h1,rfl⟩)
theorem zfx(s:Sat lo h (VA m M n::L))(hM:M.length<=100000)(hs:small M)(z:Int):DC pu 23 [xG m,pm z] h (λv h1=>v=.bool (Xu M z).isSome/\Sat lo h1 (VA m ((Xu M z).getD M) n::L)):=by
 apply Pa;unfold Sg xG;obtain⟨lv,pv,bvs,bl,ps,x,hn,D⟩:=Qj s;simp only[];refine xU (zev D.dv x hM z) ?_;cases hi:idx M z with
 |none=>
  have e:Xu M z=none:=by unfold Xu;rw[hi];rfl
  rw[e];simp only[EE,abB];exact s
 |some i=>
  obtain⟨hz,B,hB,hf⟩:=Ut hi;have e:Xu M z=some (M.set i (Uy B B.size)):=by unfold Xu;rw[hi];simp[hB]
  rw[e];obtain⟨bv,b,q,cs,t,off,cp,hbv,hb,e0,e1,e2,e3,hq,hg,hl,k0,k1⟩:=D.dv.qX x hB;subst e0;have gm:=D.s.get;have hxl:=x.len;have hsz:=hs i B hB
  have hil:i<bl.length:=by
   rcases aax i bl.length with w|w
   ·exact w
   ·rw[aak w]at hb;cases hb
  have hw:IntKind.wrap .i64 (z-1)=z-1:=Go.Mem.vF (by omega) (by omega);have h3:(0:Int)<=z-1:=by omega
  have h4:z-1<(bl.length:Int):=by omega
  have h5:(z-1).toNat=i:=by omega
  have bn:=(D.dv.byt i bv b hbv hb).kY;obtain⟨R,s1,back⟩:=D.focus hbv hb;simp only[EE,↓xg,zo,w9,Wp,Y7,kA,QQ,Gk,aa1,gm,hw,h3,h4,h5,hg,k0];refine qQ (λr vs h'=>∃k:Nat,k<=b.1.length/\r=b.1.length-k/\vs=[pm k]/\Sat lo h' (w7 3 1 bv ((VH b.1 0 (λ_=>0) k).map yA)::pt m (.cells [.slice (some ⟨q,off,none⟩) bl.length cp,pv] 62)::w7 110 2 (.slice (some ⟨q,off,none⟩) bl.length cp) (kF bvs bl)::w7 64 3 pv (ps.map V.ke)::R)) b.1.length ⟨0,by omega,rfl,rfl,s1⟩ ?_;rintro r vs h' ⟨k,hk,rfl,rfl,s2⟩;have bll:=zdc (ua s2 (Kq _)) 3;rw[aav,jl]at bll;by_cases hkz:(k:Int)<(b.1.length:Int)
  ·obtain⟨bq,c,cs',hsv,gb,wb,lb,s3⟩:=aZ s2 (Kq _) (i:=k) (by rw[aav,jl];omega);rw[aav,jl]at hsv;subst hsv;have q1:(0:Int)<=k:=by omega
   simp only[EE,nth,↓xg,Ku,Gj,tu,hkz,q1,bll,aaw];refine ni gb wb lb s3 rfl rfl λh3 s4=>?_;simp only[EE,nth,inc (show k<4611686018427387904 by omega)];refine⟨b.1.length-(k+1),by omega,k+1,by omega,rfl,rfl,?_⟩
   have:((VH b.1 0 (λ_=>0) k).map yA).set k [pm 0]=(VH b.1 0 (λ_=>0) (k+1)).map yA:=by
    simp only[VH,aay,acF];rfl
   rw[<- this];exact s4
  ·have hkz2:k=b.1.length:=by omega
   subst hkz2;simp only[EE,nth,tu,hkz,bn,bll];refine⟨rfl,VB (ps:=ps) (x.set (b:=(VH b.1 0 (λ_=>0) b.1.length,b.2)) (B:=Uy B B.size) e1 (by rw[jl];exact e2) λ_=>⟨λ_=>0,λa y hy=>?_⟩) hn (back h' (VH b.1 0 (λ_=>0) b.1.length,b.2) _ _ ps _ ?_ s2)⟩
   ·have ha:a<b.1.length:=by
     rcases aax a b.1.length with w|w
     ·exact w
     ·rw[aak (by rw[jl];exact w)]at hy;cases hy
    rw[na _ _ _ _ ha,aai ⟨aaX _,by omega⟩]at hy;cases hy;show pC ps 0 (a%8) 0 (if a<B.size then zc else B.byte a);rw[aai (by omega)];exact zc4 (by decide) (by decide)
   ·rw[aA hbv];apply abw;intro j;by_cases w:i=j
    ·subst w;rw[aaU (by rw[jk D.len];exact hil),J9 hbv hb];rfl
    ·rw[abj w]
end
end Go.Dm
