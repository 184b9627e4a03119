import Derived.Test.YtpjjmindjodknaaGreatTG
import Derived.Test.YtpjjmindjodknaaGreatTH
import Derived.Test.YtpjjmindjodknaaGreatTE
set_option linter.unusedVariables false
set_option linter.unusedSimpArgs false
set_option maxRecDepth 100000
namespace Go.Eg
open Go.Ai Go.Proofs Go.Proofs.Tryz
noncomputable abbrev zz:=prog
abbrev VK:=aaa->za->Prop
abbrev LK:=List aaa->za->Prop
abbrev ci(n:Int):Operand := .const (.int .i64 n)
abbrev fn(n:Nat):aaa := .func (.func n) #[] #[]
variable {h:za}{t0 t1 t2 t3 t4 t5 t6:aaa}{R:VK}
def qs:FuncId->Nat:=λg=>([(42,2)].lookup g).getD 0
theorem mixed:prog.follows .mixedOrders=true:=aci Tryz.checked
theorem xY{f:FuncId}{args:List aaa}{X:Prop}(e:Rz zz (bC zz qs) 200 f args h R=X)(hw:X):DC zz f args h R:=UO mixed (q:=qs) (n:=200) (Eq.mpr e hw)
def Bh:=λa (R:VK) e (c:za)=>
 GD a true (λf=>zL zz (fn 19) [e] c (λb g=>f b g)) (λb d=>zf a true (r7 zz .not b) d (λh i=>opt (pk a h (.bool false)) λj=>rv [j] i R) d) c
def Bi:=λc d (a:za) (R:VK) (e:LK)=>
 opt (zi .eql 32 33 c 7) λb=>zf b true (zd zz 25 d a) a (Bh b R) a
def dr:=λb d (R:VK) e (c:za)=>
 GD b true (λf=>zL zz (fn 13) [d,e] c (λa g=>f a g)) (λa h=>opt (pk b a (.bool false)) λi=>rv [i] h R) c
def dt:=λa d (R:VK) e (c:za)=>
 zf a true (zk zz 31 d 1) c (λf b=>zf a true (zd zz 22 f b) b (dr a e R) b) c
def du:=λd e f (R:VK) g (c:za)=>
 opt (pk d g (.bool false)) λa=>zf a true (zk zz 31 e 1) c (λh b=>zf a true (zd zz 22 h b) b (dt a f R) b) c
def dv:=λa f g h (R:VK) c (d:za)=>
 GD a true (λi=>zP (nb [c] (w9 zz 29 9 c d)) λb j=>i b j) (λb e=>zf a true (wZ .eql 9 50 53 f b) e (du a g h R) e) d
def dw:=λa c e (R:VK) f (d:za)=>
 zf a true (zk zz 31 c 0) d (λg b=>zf a true (zd zz 29 g b) b (dv a f e c R) b) d
def dx:=λa e f (R:VK) g (b:za)=>
 zf a true (zd zz 29 g b) b (λc d=>GD a true (λh=>zP (nb [c] (w9 zz 29 9 c d)) λi j=>h i j) (dw a e f R) d) b
def dy:=λe (R:VK) b (f:za)=>
 opt (Jf b 0) λg=>opt (Jf b 1) λh=>qO 31 f λa i=>opt (wa 31 a g i) λc=>opt (zi .eql 32 45 h 0) λd=>zf d true (zk zz 31 a 0) c (dx d e a R) c
def aS:=λf (R:VK) g h a (i:za)=>
 opt (Jf a 0) λj=>opt (Jf a 1) λb=>qO 25 i λc k=>opt (wa 25 c j k) λd=>opt (zi .neq 32 31 b 0) λl=>CD l (Bi b f d R)
 (λm=>m [nth g 0] d)
 (λo e=>opt (zd zz 25 c e) λn=>zL zz (fn 10) [n] e (dy h R))
def aT:=λ(R:VK) f g b (h:za)=>
 opt (Jf b 0) λi=>opt (Jf b 1) λj=>qO 31 h λa k=>opt (wa 31 a i k) λc=>opt (zi .neq 32 24 j 0) λl=>CD l (λd=>rv [.bool false] c R)
 (λd=>d [nth f 0] c)
 (λm e=>opt (zd zz 31 a e) λn=>zL zz (fn 18) [n] e (aS g R m a))
def XN:=λe (R:VK) f a g (b:za)=>
 opt (pk e (.bool true) g) λh=>CD h (λc=>rv [.bool true] b R)
 (λc=>c [nth f 0] b)
 (λi d=>opt (zd zz 25 a d) λj=>zL zz (fn 10) [j] d (aT R i a))
def Uw:=λa (R:VK) e f g (c:za)=>
 GD a false (λh=>zL zz (fn 11) [g] c (λb i=>h b i)) (λb d=>zf a false (r7 zz .not b) d (XN a R e f) d) c
def aU:=λa (R:VK) e (c:za)=>
 opt (zd zz 25 a c) λf=>zL zz (fn 8) [f] c (λg b=>opt (r7 zz .not g) λd=>zf d false (zd zz 25 a b) b (Uw d R e a) b)
def mM:=λ(h:za) a (R:VK)=>
 opt (nb [a] (some (Value.cells a).toList)) λd=>nw h d 25 λe f=>zL zz (fn 7) [] f (λg b=>opt (r7 zz .not g) λi=>CD i (λc=>rv [.bool false] b R)
 (λc=>c [.bool false] b)
 (aU e R))
theorem sd(hw:mM h t0 R):DC zz 6 [t0] h R:=xY (by kernel_rfl) hw
def Nw:=λa (c:za) (R:VK) (f:LK)=>
 opt (nb [] (yo zz 25 [])) λd=>opt (wa 25 a d c) λb=>opt (zd zz 25 a b) λe=>rv [e,.int .i64 7] b R
def Nx:=λa (c:za) (R:VK) (f:LK)=>
 opt (nb [] (yo zz 25 [])) λd=>opt (wa 25 a d c) λb=>opt (zd zz 25 a b) λe=>rv [e,.int .i64 7] b R
def mU:=λa d e (R:VK) f (g:LK) h (b:za)=>
 zf a false (wZ .geq 3 48 53 d h) b (λi c=>opt (pk a (.bool true) i) λj=>CD j (Nx e c R)
 (λk=>k [nth f 0] c)
 (λl m=>g [nth l 0] m)) b
def mV:=λa d e f (R:VK) g (h:LK) i (c:za)=>
 zf a false (vG zz 22 d i) c (λj b=>zf a false (zd zz 3 j b) b (mU a e f R g h) b) c
def mW:=λa c d e (R:VK) f (g:LK) h (b:za)=>
 zf a false (zi .add 3 50 h 1) b (mV a c d e R f g) b
def mX:=λf g h b i (R:VK) (j:LK) k (c:za)=>
 opt (pk f k (.bool false)) λa=>GD a false (λl=>l g c) (λm d=>GD a false (λn=>n h d) (λo e=>GD a false (λp=>p (nth b 1) e) (mW a o m i R b j) e) d) c
def mY:=λa c d e f (R:VK) (g:LK) h (b:za)=>
 zf a true (zi .neq 3 44 h 0) b (mX a c d e f R g) b
def mZ:=λe a (b:za) f g (R:VK) (h:LK)=>
 Z8 22 e (nth a 1) 3 b λc=>opt (zi .eql 3 41 (nth a 1) 0) λd=>GD d true (λi=>i c b) (mY d c f a g R h) b
def m5:=λa (b:LK) c (d:za)=>
 opt (zi .add 3 36 (nth a 1) 1) λe=>b [nth c 0,e] d
def sY:=λd (e:LK) f g h (R:VK) a (b:za) (i:LK)=>
 opt (wZ .lss 3 36 35 (nth a 1) d) λj=>CD j (λc=>c [] b)
 (λc=>e [nth a 0] b)
 (λl k=>BK (mZ f a k g h R)
 (m5 a i))
def Lz:=λa (c:za) (R:VK) (f:LK)=>
 opt (nb [] (yo zz 25 [])) λd=>opt (wa 25 a d c) λb=>opt (zd zz 25 a b) λe=>rv [e,.int .i64 7] b R
def sZ:=λa (g:za) b h (i:LK) j c=>
 opt (nb [.string ⟨#[102]⟩,c] (zT zz .add 9 (.const (.string ⟨#[102]⟩)) (.tmp 92) (.string ⟨#[102]⟩) c)) λd=>opt (nb [d,a] (yo zz 50 [(0,d),(1,a)])) λe=>zP (nb [e] (zj zz 23 1 [(0,e)] g)) λf k=>zP (nb [b,f] (zF zz .append [23,23] 23 [b,f] k)) λl m=>YZ 25 h 1 23 l m λn=>i [nth j 0] n
def ta:=λf (R:VK) b c (g:LK) d (e:za)=>
 opt (Jf d 0) λh=>opt (Jf d 1) λi=>opt (r7 zz .not i) λj=>CD j (Lz f e R)
 (λk=>k [nth b 0] e)
 (λl a=>zJ 25 c 1 23 a λm=>U8 zz 42 [nth b 1] a (sZ h a m c g l))
def td:=λc b (a:za) d e f (R:VK) g (h:LK)=>
 Z8 22 c (nth b 1) 3 a λi=>opt (zd zz 31 d a) λj=>opt (zi .add 3 79 (nth b 1) 1) λk=>Z8 22 e k 3 a λl=>bB zz 41 [j,i,l] a (ta f R b g h)
def tg:=λa (b:LK) c (d:za)=>
 opt (zi .add 3 70 (nth a 1) 1) λe=>b [nth c 0,e] d
def th:=λd (e:LK) f g h i (R:VK) j a (b:za) (k:LK)=>
 opt (wZ .lss 3 70 69 (nth a 1) d) λl=>CD l (λc=>c [] b)
 (λc=>e [nth a 0] b)
 (λn m=>BK (td f a m g h i R j)
 (tg a k))
def tj:=λd a (R:VK) (g:List aaa) (b:za)=>
 opt (zd zz 25 d b) λe=>opt (wa 25 a e b) λc=>opt (zd zz 25 a c) λf=>rv [f,.int .i64 0] c R
def tl:=λb (e c:za) l f (R:VK) m g (a:za)=>
 opt (zk zz 31 b 3) λn=>opt (zd zz 3 n (cut (cut a e.next c.next) c.next a.next)) λh=>opt (zk zz 31 b 4) λo=>opt (zd zz 3 o (cut (cut a e.next c.next) c.next a.next)) λi=>opt (nb [g,h,i] (yo zz 25 [(0,g),(2,h),(3,i)])) λp=>qO 25 a λd q=>opt (wa 25 d p q) λj=>zJ 31 b 1 22 j λk=>zP (qo 22 k j) λr s=>BK (λt=>LP (th r t k b l f R d)
 [nth m 0,.int .i64 0] s)
 (tj d f R)
def tn:=λc d e (R:VK) f (b:za)=>
 zP (nb [] (zj zz 22 0 [] b)) λg a=>opt (zk zz 31 c 2) λh=>opt (zd zz 22 h (cut a b.next a.next)) λi=>oI zz [22,22] 22 [g,i] (some (b.next,a.next)) a a (tl c b a d e R f)
def tq:=λc (d b:za) e (R:VK) m f (a:za)=>
 opt (zk zz 31 c 0) λn=>opt (zd zz 29 n (cut (cut a d.next b.next) b.next a.next)) λg=>zP (nb [g] (zF zz .len [29] 3 [g] (cut (cut a d.next b.next) b.next a.next))) λh _=>zP (nb [h] (zj zz 22 1 [(0,h)] a)) λi o=>zP (nb [f,i] (zF zz .append [22,22] 22 [f,i] o)) λj k=>zJ 31 c 1 22 k λl=>zP (qo 22 l k) λp q=>BK (λr=>LP (sY p r l j e R)
 [nth m 0,.int .i64 0] q)
 (tn c j e R)
def tt:=λc d (R:VK) e (b:za)=>
 zP (nb [] (zj zz 22 0 [] b)) λf a=>opt (zk zz 31 c 1) λg=>opt (zd zz 22 g (cut a b.next a.next)) λh=>oI zz [22,22] 22 [f,h] (some (b.next,a.next)) a a (tq c b a d R e)
def tu:=λa e b (R:VK) f g (c:za)=>
 zf a false (wZ .geq 3 17 20 e g) c (λh d=>opt (pk a (.bool true) h) λi=>CD i (Nw b d R)
 (λj=>j [.int .i64 0] d)
 (tt f b R)) c
def tA:=λa d e (R:VK) f g (b:za)=>
 zf a false (zd zz 22 g b) b (λh c=>GD a false (λi=>zP (qo 22 h c) λj k=>i j k) (tu a d e R f) c) b
def tB:=λa c e (R:VK) f (b:za)=>
 zf a false (zd zz 3 f b) b (λg d=>zf a false (zk zz 31 c 1) d (tA a g e R c) d) b
def Nv:=λ(h:za) c (R:VK)=>
 opt (nb [c] (some (Value.cells c).toList)) λe=>nw h e 31 λa f=>qO 25 f λg b=>zJ 31 a 3 3 b λi=>opt (zi .lss 3 13 i 0) λd=>zf d false (zk zz 31 a 3) b (tB d a g R) b
theorem LA(hw:Nv h t0 R):DC zz 18 [t0] h R:=j9 mixed (q:=qs) (n:=200) (Eq.mpr (by kernel_rfl) hw)
def gi:=λd (a:za) e (f:LK)=>
 opt (zd zz 115 d a) λb=>zJ 42 e 5 3 a λc=>opt (nb [b,c,.bool true] (qI zz 115 b c (.bool true) a)) λg=>f [] g
def J1:=λe l f g (m:LK) (t:List aaa) (a:za)=>
 opt (zd zz 48 e a) λb=>opt (zd zz 42 l a) λh=>zP (nb [h] (zj zz 48 1 [(0,h)] a)) λi c=>zP (nb [b,i] (zF zz .append [48,48] 48 [b,i] c)) λn d=>opt (zd zz 22 f (cut (cut (cut d a.next c.next) c.next d.next) (gV b) (gW b))) λj=>zP (nb [g] (zj zz 22 1 [(0,g)] d)) λk o=>zP (nb [j,k] (zF zz .append [22,22] 22 [j,k] o)) λp q=>opt (wa 48 e n q) λr=>opt (wa 22 f p r) λs=>m [] s
def J2:=λa e b f g h (i:LK) j (c:za)=>
 zf a false (zi .eql 3 30 j 19) c (λk d=>opt (pk a (.bool true) k) λl=>CD l (gi e d b)
 (λm=>m [] d)
 (J1 f b g h i)) c
def tM:=λa (b:za) e f g h (i:LK)=>
 zJ 42 a 0 3 b λj=>opt (zi .eql 3 26 j 18) λc=>zf c false (zk zz 42 a 0) b (λk d=>zf c false (zd zz 3 k d) d (J2 c e a f g h i) d) b
def nF:=λb c d e f (l m n o p q r s t u v w x:aaa) (L:Nat) (h:za) (K:VK)=>
 qO 42 h λa g=>opt (wa 42 a b g) λi=>RA L i (λj=>BK (tM a j c d e f)
 (λy k=>Fin L K .normal k))
def tN:=λb e a c f g h i j (k:za) l (m:za) (R:VK) (d:LK)=>
 RF zz b (wR zz 41 0).1 (wR zz 41 0).2.1 (wR zz 41 0).2.2 (aN 84 [(0,e),(1,a),(2,c),(3,f),(6,(.slice none 0 0)),(7,(.bool false)),(8,g),(9,h),(10,i),(11,j),(17,(wV k).1),(18,a),(19,l),(20,a),(21,c),(22,b)]) m (λn=>d [] n) (λo=>rv [.slice none 0 0,.bool false] o R) (λp q=>cond (Nat.beq p 0) (d [] q) (False))
def tO:=λa (g:za) b h (i:LK)=>
 opt (nb [.int .i64 20,a] (yo zz 42 [(0,(.int .i64 20)),(5,a)])) λc=>zP (nb [c] (zj zz 48 1 [(0,c)] g)) λd j=>zP (nb [nth b 0,d] (zF zz .append [48,48] 48 [nth b 0,d] j)) λk e=>opt (zd zz 115 h e) λf=>zP (nb [f,a] (zF zz .delete [115,3] 0 [f,a] e)) λm l=>i [k] l
def tP:=λe (a:za) f b (g:LK)=>
 opt (zd zz 48 e a) λh=>Z8 48 h (nth f 1) 42 a λc=>zP (nb [c] (zj zz 48 1 [(0,c)] a)) λd i=>zP (nb [nth b 0,d] (zF zz .append [48,48] 48 [nth b 0,d] i)) λj k=>g [j] k
def gq:=λa b (f:LK) c (d:za)=>
 opt (zd zz 48 a d) λg=>zP (qo 48 g d) λh e=>opt (wZ .lss 3 68 70 (nth b 1) h) λi=>CD i (tP a e b c)
 (λj=>j [nth c 0] e)
 (λk l=>f [nth k 0] l)
def cm:=λf b (a:za) d g (h:LK)=>
 Z8 22 f (nth b 1) 3 a λc=>opt (zd zz 115 d a) λe=>opt (nb [e,c] (Zg zz 115 e c false a)) λi=>CD i (tO c a b d)
 (λj=>j [nth b 0] a)
 (gq g b h)
def Vf:=λa (b:LK) c (d:za)=>
 opt (zi .add 3 53 (nth a 1) 1) λe=>b [nth c 0,e] d
def nC:=λd (e:LK) f g h a (b:za) (i:LK)=>
 opt (wZ .lss 3 53 52 (nth a 1) d) λj=>CD j (λc=>c [] b)
 (λc=>e [nth a 0] b)
 (λl k=>BK (cm f a k g h)
 (Vf a i))
def nD:=λb (R:VK) c (a:za)=>
 opt (zd zz 115 b a) λd=>zP (qo 115 d a) λe f=>opt (zi .eql 3 82 e 0) λg=>rv [nth c 0,g] f R
def cq:=λa b c i (R:VK) (p:List aaa) (d:za)=>
 opt (zd zz 22 a d) λe=>zP (nb [b] (zj zz 22 1 [(0,b)] d)) λf j=>zP (nb [e,f] (zF zz .append [22,22] 22 [e,f] j)) λk l=>opt (wa 22 a k l) λg=>opt (zd zz 22 a g) λh=>zP (qo 22 h g) λm n=>BK (λo=>LP (nC m o h c i)
 [.slice none 0 0,.int .i64 0] n)
 (nD c R)
def nE:=λd b (R:VK) e f g (j:List aaa) (a:za)=>
 opt (zd zz 3 d a) λh=>opt (wZ .neq 3 44 45 h b) λi=>CD i (λc=>rv [.slice none 0 0,.bool false] a R)
 (λc=>c [.slice none 0 0,.bool false] a)
 (cq e b f g R)
theorem sk(t24 t10 t8 t9 t23 t0 t1 t2 t3 t6 t7 t11 t17 t18 t19 t20 t21 t22:aaa)(L:Nat)(h:za)(K:VK):zao zz (EB zz qs) 150 14080 0 L (wR zz 41 0).2.1 (wR zz 41 0).2.2 (aN 84 [(0,t0),(1,t1),(2,t2),(3,t3),(6,t6),(7,t7),(8,t8),(9,t9),(10,t10),(11,t11),(17,t17),(18,t18),(19,t19),(20,t20),(21,t21),(22,t22),(23,t23),(24,t24)]) h K=nF t24 t10 t8 t9 t23 t0 t1 t2 t3 t6 t7 t11 t17 t18 t19 t20 t21 t22 L h K:=by kernel_rfl
def H0:=λ(h:za) c d e (R:VK)=>
 opt (nb [c] (some (Value.cells c).toList)) λm=>nw h m 31 λg n=>qO 48 n λi o=>qO 22 o λj a=>opt (kX zz 115) λp=>nw (wV a).2 (Value.cells p).toList 115 λf q=>opt (nb [(wV a).1] (vH zz 115 f (wV a).1 q)) λr=>qO 3 r λb s=>opt (wa 3 b d s) λk=>opt (zd zz 31 g k) λl=>zL zz (fn 45) [l,d,e,b] k (λt u=>BK (tN t c d e g i j f b a l u R)
 (nE b e R j f i))
theorem F6(hw:H0 h t0 t1 t2 R):DC zz 41 [t0,t1,t2] h R:=j9 mixed (q:=qs) (n:=200) (Eq.mpr (by kernel_rfl) hw)
def NO:=λ(h:za) a b c d (R:VK)=>
 opt (nb [a] (some (Value.cells a).toList)) λj=>nw h j 31 λe k=>opt (nb [b] (some (Value.cells b).toList)) λl=>nw k l 3 λf m=>opt (nb [c] (some (Value.cells c).toList)) λn=>nw m n 3 λg o=>opt (nb [d] (some (Value.cells d).toList)) λp=>nw o p 95 λi q=>opt (nb ([]++[f,g,e,i]) (some (Value.func (.func 82) [].toArray [f,g,e,i].toArray))) λr=>rv [r] q R
theorem LJ(hw:NO h t0 t1 t2 t3 R):DC zz 45 [t0,t1,t2,t3] h R:=xY (by kernel_rfl) hw
def tZ:=λc d e (f:LK) (j:List aaa) (a:za)=>
 opt (wZ .add 3 37 38 (nth c 0) d) λb=>opt (zd zz 95 e a) λg=>opt (Pt g) λh=>opt (wa 3 h b a) λi=>f [b] i
def J4:=λa (R:VK) e f g (h:LK) i (b:za)=>
 zf a false (r7 zz .not i) b (λj c=>opt (pk a (.bool true) j) λk=>CD k (λd=>rv [] c R)
 (λd=>d [] c)
 (tZ e f g h)) b
def J5:=λa d e (R:VK) f g h (i:LK) j (b:za)=>
 zf a false (zd zz 42 d b) b (λk c=>GD a false (λl=>zL zz e [j,k] c (λm n=>l m n)) (J4 a R f g h i) c) b
def J6:=λe f b g (R:VK) h i (j:LK) k (c:za)=>
 opt (pk e (.bool true) k) λa=>GD a false (λl=>l f c) (λm d=>GD a false (λn=>n (nth b 0) d) (J5 a g m R b h i j) d) c
def J7:=λa c d e f (R:VK) g h (i:LK) j (b:za)=>
 zf a false (wZ .gtr 3 24 27 c j) b (J6 a d e f R g h i) b
def J8:=λa c d e f g (R:VK) h i (j:LK) k (b:za)=>
 zf a false (wZ .sub 3 25 26 c k) b (J7 a d e f g R h i j) b
def J9:=λa e c f g (R:VK) h i (j:LK) k (b:za)=>
 zf a false (zd zz 3 e b) b (λl d=>GD a false (λm=>m (nth c 0) d) (J8 a l k f c g R h i j) d) b
def W5:=λf g h (R:VK) i (j:LK) a (k:za)=>
 opt (Jf a 0) λl=>opt (Jf a 1) λb=>opt (Jf a 2) λm=>qO 42 k λc n=>opt (wa 42 c l n) λd=>opt (zi .neq 32 21 m 0) λe=>GD e false (λo=>o b d) (J9 e f g h c R b i j) d
def Aa:=λc a d e (R:VK) f (g:LK) (l:List aaa) (b:za)=>
 BK (λh=>opt (zd zz 31 c b) λi=>zL zz (fn 16) [i,nth a 0] b (W5 d a e R f h))
 (λj k=>g [nth j 0] k)
def oj:=λb (e:LK) f g (R:VK) h c (a:za) (i:LK)=>
 opt (zd zz 3 b a) λj=>opt (wZ .lss 3 11 12 (nth c 0) j) λk=>CD k (λd=>d [] a)
 (λd=>e [] a)
 (Aa f c b g R h i)
def H6:=λ(h:za) a b c d e (R:VK)=>
 opt (zd zz 3 b h) λf=>BK (λg=>LP (oj c g d a R e)
 [f] h)
 (λj i=>rv [] i R)
theorem Gb(hw:H6 h t0 t1 t2 t3 t4 R):DC zz 82 [t0,t1,t2,t3,t4] h R:=xY (by kernel_rfl) hw
def HG:=λa (h:za) (R:VK) (g:LK)=>
 opt (nb [.int .i64 48,a] (zT zz .add 3 (.const (.int .i64 48)) (.tmp 5) (.int .i64 48) a)) λb=>zP (nb [b] (w9 zz 3 21 b h)) λc d=>zP (nb [c] (w9 zz 21 9 c d)) λe f=>rv [e] f R
def RD:=λa (R:VK) b (c:za)=>
 opt (zi .rem 3 12 a 10) λd=>zL zz (fn 42) [d] c (λe f=>opt (wZ .add 9 11 14 b e) λg=>rv [g] f R)
def RE:=λa (R:VK) (d:List aaa) (b:za)=>
 opt (zi .quo 3 9 a 10) λc=>zL zz (fn 42) [c] b (RD a R)
def TG:=λ(h:za) a (R:VK)=>
 opt (zi .lss 3 3 a 10) λb=>CD b (HG a h R)
 (λc=>c [.string ⟨#[]⟩] h)
 (RE a R)
theorem ND(hw:TG h t0 R):DC zz 42 [t0] h R:=xY (by kernel_rfl) hw
end Go.Eg
namespace Go.Ai
open Go.Ai Go.Proofs
theorem oD:Ni 115:=jd (by kernel_rfl)
theorem wi:Ni 22:=jd (by kernel_rfl)
theorem vI:Ni 23:=jd (by kernel_rfl)
theorem YT:FcN 25 4:=U4 (by kernel_rfl) (by kernel_rfl)
theorem jE:Ni 29:=jd (by kernel_rfl)
theorem zg:Ni 3:=jd (by kernel_rfl)
theorem Xk:FcN 31 5:=U4 (by kernel_rfl) (by kernel_rfl)
theorem vu:FcN 42 7:=U4 (by kernel_rfl) (by kernel_rfl)
theorem qd:Ni 48:=jd (by kernel_rfl)
theorem zbX:Ni 95:=jd (by kernel_rfl)
theorem zb1:FcA 23 50 2 40:=λr v x n w h h1 h2 h3 h4=>U5 (e:=50) (e2:=50) (by kernel_rfl) (by kernel_rfl) (by kernel_rfl) (by kernel_rfl) (by decide) h1 h2 h3 h4
theorem zat(b off:Nat)(v:Option Nat)(h:za):vH Tryz.prog 115 (.pointer (some ⟨b,off,none⟩)) (.map v) h=sU h b off [(.map v)]:=jV (by kernel_rfl) b off _ h rfl
theorem WC:FcS 22:=λb o _ _ _ h=>jV (by kernel_rfl) b o _ h rfl
theorem zb5:FcS 23:=λb o _ _ _ h=>jV (by kernel_rfl) b o _ h rfl
theorem Og:FcM 25 4:=Vn (by kernel_rfl)
theorem U6:FcI 3:=λb o _ h=>jV (by kernel_rfl) b o _ h rfl
theorem Vm:FcM 31 5:=Vn (by kernel_rfl)
theorem yV:FcM 42 7:=Vn (by kernel_rfl)
theorem zb6:FcS 48:=λb o _ _ _ h=>jV (by kernel_rfl) b o _ h rfl
theorem zaw:kX Tryz.prog 115=some (.map none):=yN (by kernel_rfl)
theorem zb8:kX Tryz.prog 22=some (.slice none 0 0):=yN (by kernel_rfl)
theorem Ok:kX Tryz.prog 25=some (.agg #[(.slice none 0 0),(.slice none 0 0),(.int .i64 0),(.int .i64 0)]):=yN (by kernel_rfl)
theorem zdg:kX Tryz.prog 3=some (.int .i64 0):=yN (by kernel_rfl)
theorem Vo:kX Tryz.prog 31=some (.agg #[(.slice none 0 0),(.slice none 0 0),(.slice none 0 0),(.int .i64 0),(.int .i64 0)]):=yN (by kernel_rfl)
theorem uM:kX Tryz.prog 42=some (.agg #[(.int .i64 0),(.int .i64 0),(.int .i64 0),(.int .i64 0),(.int .i64 0),(.int .i64 0),(.int .i64 0)]):=yN (by kernel_rfl)
theorem zb9:kX Tryz.prog 48=some (.slice none 0 0):=yN (by kernel_rfl)
theorem Ei(v0:Option Addr)(v0l v0c:Nat)(v2:Int)(v3:Int):yo Tryz.prog 25 [(0,(.slice v0 v0l v0c)),(2,(.int .i64 v2)),(3,(.int .i64 v3))]=some (.agg #[(.slice v0 v0l v0c),(.slice none 0 0),(.int .i64 v2),(.int .i64 v3)]):=yN (by kernel_rfl)
theorem L5(v0:Int)(v5:Int):yo Tryz.prog 42 [(0,(.int .i64 v0)),(5,(.int .i64 v5))]=some (.agg #[(.int .i64 v0),(.int .i64 0),(.int .i64 0),(.int .i64 0),(.int .i64 0),(.int .i64 v5),(.int .i64 0)]):=yN (by kernel_rfl)
theorem L6(v0:ByteArray)(v1:Option Addr)(v1l v1c:Nat):yo Tryz.prog 50 [(0,(.string v0)),(1,(.slice v1 v1l v1c))]=some (.agg #[(.string v0),(.slice v1 v1l v1c)]):=yN (by kernel_rfl)
theorem qK(h:za):zj Tryz.prog 22 0 [] h=some (.slice (some ⟨h.next,0,none⟩) 0 2,h.push (.cells [] 3)):=yN (by kernel_rfl)
theorem uw(v0:Int)(h:za):zj Tryz.prog 22 1 [(0,(.int .i64 v0))] h=some (.slice (some ⟨h.next,0,none⟩) 1 3,h.push (.cells [(.int .i64 v0)] 3)):=yN (by kernel_rfl)
theorem L8(v00:ByteArray)(v01:Option Addr)(v01l v01c:Nat)(h:za):zj Tryz.prog 23 1 [(0,(.agg #[(.string v00),(.slice v01 v01l v01c)]))] h=some (.slice (some ⟨h.next,0,none⟩) 1 3,h.push (.cells [(.string v00),(.slice v01 v01l v01c)] 50)):=yN (by kernel_rfl)
theorem gX(v00:Int)(v01:Int)(v02:Int)(v03:Int)(v04:Int)(v05:Int)(v06:Int)(h:za):zj Tryz.prog 48 1 [(0,(.agg #[(.int .i64 v00),(.int .i64 v01),(.int .i64 v02),(.int .i64 v03),(.int .i64 v04),(.int .i64 v05),(.int .i64 v06)]))] h=some (.slice (some ⟨h.next,0,none⟩) 1 3,h.push (.cells [(.int .i64 v00),(.int .i64 v01),(.int .i64 v02),(.int .i64 v03),(.int .i64 v04),(.int .i64 v05),(.int .i64 v06)] 42)):=yN (by kernel_rfl)
theorem RY(n:Int)(h:za):w9 Tryz.prog 3 21 (.int .i64 n) h=some (.int .i32 (IntKind.wrap .i32 n),h):=yN (by kernel_rfl)
theorem zcp(x y:Operand)(a b:ByteArray):zT Tryz.prog .eql 9 x y (.string a) (.string b)=some (.bool (a.toList == b.toList)):=yN (by kernel_rfl)
theorem yO:sW 25 1 1:=λb o=>yN (by kernel_rfl)
theorem uF:FcG 31 0:=λb o=>yN (by kernel_rfl)
theorem u7:sW 31 1 1:=λb o=>yN (by kernel_rfl)
theorem eV:sW 31 2 2:=λb o=>yN (by kernel_rfl)
theorem BQ:sW 31 3 3:=λb o=>yN (by kernel_rfl)
theorem R7:sW 31 4 4:=λb o=>yN (by kernel_rfl)
theorem zc:FcG 42 0:=λb o=>yN (by kernel_rfl)
theorem xw:sW 42 5 5:=λb o=>yN (by kernel_rfl)
noncomputable section
variable {P:Program}
theorem Lj{α β:Type}{x:Sem α}{f:α->Sem β}{a:α}(h:yd P x=some a):yd P (x >>= f)=yd P (f a):=by
 induction x with
 |pure b=>simp only[yd,aab]at h;subst h;rfl
 |program k ih=>exact ih P h
 |_=>cases h
def Xc:Nat->List (Int×aaa)->List Z7
 |_,[]=>[]
 |n,(k,v)::l=>(.int .i64 k,v,n)::Xc (n+1) l
def Yh(l:List (Int×aaa)):wS := .map (Xc 0 l) l.length
def WX:List (Int×aaa)->Int->Option Nat
 |[],_=>none
 |(a,_)::l,k=>if a=k then some 0 else (WX l k).map (· + 1)
def ZJ:List (Int×aaa)->Int->Option aaa
 |[],_=>none
 |(a,v)::l,k=>if a=k then some v else ZJ l k
def ZN:List (Int×aaa)->Int->aaa->List (Int×aaa)
 |[],k,v=>[(k,v)]
 |(a,w)::l,k,v=>if a=k then (a,v)::l else (a,w)::ZN l k v
theorem Js:∀(l:List (Int×aaa)) (k k':Int) (v:aaa),ZJ (ZN l k v) k'=if k=k' then some v else ZJ l k'
 |[],k,k',v=>rfl
 |(a,w)::l,k,k',v=>by
  unfold ZN;by_cases h:a=k
  ·rw[aah h];subst h;unfold ZJ;by_cases h2:a=k'
   ·rw[aah h2,aah h2]
   ·rw[aae h2,aae h2,aae h2]
  ·rw[aae h];unfold ZJ;rw[Js l];by_cases h2:a=k'
   ·rw[aah h2,aah h2,aae (by omega)]
   ·rw[aae h2,aae h2]
theorem cM:∀(n:Nat) (l:List (Int×aaa)),((Xc n l).all λe=>flat e.1)=true
 |_,[]=>rfl
 |n,(k,v)::l=>by show(true&&(Xc (n+1) l).all λe=>flat e.1)=true;rw[cM];rfl
theorem Az(kind:IntKind)(k:Int):∀(l:List (Int×aaa)) (n i:Nat),Instr.findNow (.int kind) (.int .i64 k) ((Xc n l).map λe=>WU e.1) i=some ((WX l k).map λj=>(i+j,undef))
 |[],n,i=>rfl
 |(a,v)::l,n,i=>by
  show(match Instr.sameNow (.int kind) (.int .i64 k) (.int .i64 a) with
   |some true=>some (some (i,undef))
   |some false=>Instr.findNow (.int kind) (.int .i64 k) ((Xc (n+1) l).map λe=>WU e.1) (i+1)
   |none=>none)=some ((if a=k then some 0 else (WX l k).map (· + 1)).map λj=>(i+j,undef))
  have e:Instr.sameNow (.int kind) (.int .i64 k) (.int .i64 a)=some (k == a):=rfl;rw[e];by_cases h:a=k
  ·rw[aah h,h,abk];rfl
  ·rw[aae h,beq_eq_false_iff_ne.2 (λq=>h q.symm)];simp only;rw[Az kind k l];cases WX l k with
   |none=>rfl
   |some j=>simp only[abn,aab,aaf,acB];omega
theorem GG{kt:TypeId}{kind:IntKind}(hk:yd P (underlying kt)=some (.int kind))(k:Int)(n:Nat)(l:List (Int×aaa)):eI P kt (.int .i64 k) (Xc n l)=some (WX l k):=by
 have e:yd P (Instr.findKey kt (.int .i64 k) ((Xc n l).map λe=>WU e.1))=some ((WX l k).map λj=>(0+j,undef)):=by
  unfold Instr.findKey;rw[Lj hk,Az kind k l n 0];rfl
 unfold eI;rw[cM,e];cases WX l k with
 |none=>rfl
 |some j=>simp only[abn,abf];rfl
theorem l8{kt:TypeId}{kind:IntKind}(hk:yd P (underlying kt)=some (.int kind))(b:Bool)(k:Int):yd P (Instr.checkKey b 10000 kt (.int .i64 k))=some ():=by
 show yd P (underlying kt >>= _)=_;rw[Lj hk];rfl
theorem B5:∀{l:List (Int×aaa)} {k:Int} {n:Nat},(WX l k=none->ZJ l k=none) /\ ∀j,WX l k=some j->∃v,ZJ l k=some v/\(Xc n l)[j]? = some (.int .i64 k,v,n+j)
 |[],k,n=>⟨λ_=>rfl,λj h=>by cases h⟩
 |(a,v)::l,k,n=>by
  obtain⟨i1,i2⟩:=B5 (l:=l) (k:=k) (n:=n+1);unfold WX ZJ;by_cases h:a=k
  ·rw[aah h,aah h];refine⟨λq=>(by cases q),λj q=>?_⟩;cases q;exact⟨v,rfl,by rw[h];rfl⟩
  ·rw[aae h,aae h];cases hi:WX l k with
   |none=>exact⟨λ_=>i1 hi,λj q=>by cases q⟩
   |some m=>
    refine⟨λq=>(by cases q),λj q=>?_⟩;simp only[abn,aab]at q;subst q;obtain⟨w,h1,h2⟩:=i2 m hi;exact⟨w,h1,by show(Xc (n+1) l)[m]? = _;rw[h2,show n+1+m=n+(m+1) by omega]⟩
theorem IG:∀{l:List (Int×aaa)} {k:Int} {n:Nat} (v:aaa),(WX l k=none->Xc n (ZN l k v)=Xc n l++[(.int .i64 k,v,n+l.length)]/\(ZN l k v).length=l.length+1) /\ ∀j,WX l k=some j->Xc n (ZN l k v)=(Xc n l).set j (.int .i64 k,v,n+j)/\(ZN l k v).length=l.length
 |[],k,n,v=>⟨λ_=>⟨rfl,rfl⟩,λj h=>by cases h⟩
 |(a,w)::l,k,n,v=>by
  obtain⟨i1,i2⟩:=IG (l:=l) (k:=k) (n:=n+1) v;unfold WX ZN;by_cases h:a=k
  ·rw[aah h,aah h];refine⟨λq=>(by cases q),λj q=>?_⟩;cases q;rw[h];exact⟨rfl,rfl⟩
  ·rw[aae h,aae h];cases hi:WX l k with
   |none=>
    obtain⟨e1,e2⟩:=i1 hi;refine⟨λ_=>⟨?_,?_⟩,λj q=>by cases q⟩
    ·show(_,w,n)::Xc (n+1) (ZN l k v)=_;rw[e1,show n+1+l.length=n+(l.length+1) by omega];rfl
    ·show(ZN l k v).length+1=_;rw[e2];rfl
   |some m=>
    obtain⟨e1,e2⟩:=i2 m hi;refine⟨λq=>(by cases q),λj q=>?_⟩;simp only[abn,aab]at q;subst q;refine⟨?_,?_⟩
    ·show(_,w,n)::Xc (n+1) (ZN l k v)=_;rw[e1,show n+1+m=n+(m+1) by omega];rfl
    ·show(ZN l k v).length+1=_;rw[e2];rfl
section
variable {t kt et:TypeId}{kind:IntKind}{z:aaa}{h:za}{b:Nat}{l:List (Int×aaa)}
theorem E2(ht:yd P (underlying t)=some (.map kt et))(hk:yd P (underlying kt)=some (.int kind))(hz:kX P et=some z)(g:h.get b=some (Yh l))(k:Int)(ok:Bool) :
  Zg P t (.map (some b)) (.int .i64 k) ok h=some (match ZJ l k with
   |some v=>cond ok (.tuple #[v,.bool true]) v
   |none=>cond ok (.tuple #[z,.bool false]) z):=by
 have em:KC h (.map (some b))=some (Xc 0 l):=by unfold KC;simp only[g];rfl
 unfold Zg;rw[ht,em];simp only[l8 hk,GG hk];obtain⟨i1,i2⟩:=B5 (l:=l) (k:=k) (n:=0);cases hi:WX l k with
 |none=>simp only[i1 hi,hz]
 |some j=>
  obtain⟨v,h1,h2⟩:=i2 j hi;simp only[h1,h2]
theorem rX(ht:yd P (underlying t)=some (.map kt et))(hk:yd P (underlying kt)=some (.int kind))(g:h.get b=some (Yh l))(w:h.ro<=b)(k:Int)(v:aaa) :
  qI P t (.map (some b)) (.int .i64 k) v h=some (h.set b (some (Yh (ZN l k v)))):=by
 unfold qI;simp only[ht,g,Yh,l8 hk,GG hk,ab6 w,aaw];obtain⟨i1,i2⟩:=IG (l:=l) (k:=k) (n:=0) v;obtain⟨_,i4⟩:=B5 (l:=l) (k:=k) (n:=0);cases hi:WX l k with
 |none=>
  obtain⟨e1,e2⟩:=i1 hi;simp only[e1,e2,abf]
 |some j=>
  obtain⟨e1,e2⟩:=i2 j hi;obtain⟨v',_,h2⟩:=i4 j hi;have sb:Instr.sameBits 10000 (.int .i64 k) (.int .i64 k)=true:=by show((IntKind.i64 == .i64)&&(k == k))=true;simp
  simp only[h2,sb,aaw,e1,e2]
end
end
noncomputable section
variable {P:Program}
def Ze(es:List Z7)(m:List (Int×aaa)):Prop:=es.map (λe=>(e.1,e.2.1))=m.map λp=>(Value.int .i64 p.1,p.2)
theorem IJ:∀(n:Nat) (m:List (Int×aaa)),Ze (Xc n m) m
 |_,[]=>rfl
 |n,(k,v)::m=>by
  have:=IJ (n+1) m;unfold Ze at this ⊢;show(Value.int .i64 k,v)::_=(Value.int .i64 k,v)::_;rw[this]
theorem Ze.cons{e:Z7}{es:List Z7}{k:Int}{v:aaa}{m:List (Int×aaa)}(h:Ze (e::es) ((k,v)::m)):e.1=.int .i64 k/\e.2.1=v/\Ze es m:=by
 unfold Ze at h;simp only[abo,abe,aaf]at h;exact⟨h.1.1,h.1.2,h.2⟩
theorem Ze.len{es:List Z7}{m:List (Int×aaa)}(h:Ze es m):es.length=m.length:=by
 have:=congrArg List.length h;simpa using this
theorem Ze.flat:∀{es:List Z7} {m:List (Int×aaa)},Ze es m->(es.all λe=>flat e.1)=true
 |[],_,_=>rfl
 |e::es,[],h=>by cases h
 |e::es,(k,v)::m,h=>by
  obtain⟨h1,h2,h3⟩:=h.cons;rw[acd,h1,h3.flat];rfl
theorem AJ:∀{es:List Z7} {m:List (Int×aaa)} (n:Nat),Ze es m->(es.map λe=>WU e.1)=(Xc n m).map λe=>WU e.1
 |[],[],_,_=>rfl
 |e::es,[],_,h=>by cases h
 |[],(k,v)::m,_,h=>by cases h
 |e::es,(k,v)::m,n,h=>by
  obtain⟨h1,h2,h3⟩:=h.cons;show WU e.1::_=WU (.int .i64 k)::_;rw[h1,AJ (n+1) h3]
theorem OO{kt:TypeId}{kind:IntKind}(hk:yd P (underlying kt)=some (.int kind))(k:Int){es:List Z7}{m:List (Int×aaa)}(h:Ze es m):eI P kt (.int .i64 k) es=some (WX m k):=by
 have:=GG hk k 0 m;unfold eI at this ⊢;rw[h.flat,AJ 0 h]
 rwa [cM]at this
def eQ:List (Int×aaa)->Int->List (Int×aaa)
 |[],_=>[]
 |(a,v)::l,k=>if a=k then l else (a,v)::eQ l k
theorem AB:∀{es:List Z7} {m:List (Int×aaa)} {k:Int},Ze es m->(WX m k=none->ZJ m k=none/\eQ m k=m) /\ ∀j,WX m k=some j->∃v e,ZJ m k=some v/\es[j]? = some e/\e.2.1=v/\Ze (es.eraseIdx j) (eQ m k)
 |[],[],k,_=>⟨λ_=>⟨rfl,rfl⟩,λj h=>by cases h⟩
 |e::es,[],_,h=>by cases h
 |[],(a,v)::m,_,h=>by cases h
 |e::es,(a,v)::m,k,h=>by
  obtain⟨h1,h2,h3⟩:=h.cons;obtain⟨i1,i2⟩:=AB (k:=k) h3;unfold WX ZJ eQ;by_cases q:a=k
  ·rw[aah q,aah q,aah q];refine⟨λz=>(by cases z),λj z=>?_⟩;cases z;exact⟨v,e,rfl,rfl,h2,h3⟩
  ·rw[aae q,aae q,aae q];cases hi:WX m k with
   |none=>exact⟨λ_=>⟨(i1 hi).1,by rw[(i1 hi).2]⟩,λj z=>by cases z⟩
   |some n=>
    refine⟨λz=>(by cases z),λj z=>?_⟩;simp only[abn,aab]at z;subst z;obtain⟨w,e',g1,g2,g3,g4⟩:=i2 n hi;refine⟨w,e',g1,g2,g3,?_⟩;unfold Ze at g4 ⊢;show(e.1,e.2.1)::(es.eraseIdx n).map _=(Value.int .i64 a,v)::_;rw[g4,h1,h2]
section
variable {t kt et:TypeId}{kind:IntKind}{z:aaa}{h:za}{b q:Nat}{es:List Z7}{m:List (Int×aaa)}
theorem Pe(ht:yd P (underlying t)=some (.map kt et))(hk:yd P (underlying kt)=some (.int kind))(hz:kX P et=some z)(g:h.get b=some (.map es q))(K:Ze es m)(k:Int) :
  Zg P t (.map (some b)) (.int .i64 k) false h=some ((ZJ m k).getD z):=by
 have em:KC h (.map (some b))=some es:=by unfold KC;simp only[g]
 unfold Zg;rw[ht,em];simp only[l8 hk,OO hk k K];obtain⟨i1,i2⟩:=AB (k:=k) K;cases hi:WX m k with
 |none=>simp only[(i1 hi).1,hz];rfl
 |some j=>
  obtain⟨v,e,h1,h2,h3,_⟩:=i2 j hi;simp only[h1,h2];show some (cond false (Value.tuple #[e.2.1,.bool true]) e.2.1)=_;rw[h3];rfl
theorem OC(ht:yd P (underlying t)=some (.map kt et))(hk:yd P (underlying kt)=some (.int kind))(g:h.get b=some (.map es q))(w:h.ro<=b)(K:Ze es m){k:Int}{v:aaa}(hv:ZJ m k=some v)(ts:List TypeId)(r:TypeId) :
  ∃es',Ze es' (eQ m k)/\zF P .delete (t::ts) r [.map (some b),.int .i64 k] h=some (undef,h.set b (some (.map es' q))):=by
 obtain⟨i1,i2⟩:=AB (k:=k) K;cases hi:WX m k with
 |none=>rw[(i1 hi).1]at hv;cases hv
 |some j=>
  obtain⟨_,e,h1,h2,h3,h4⟩:=i2 j hi;refine⟨es.eraseIdx j,h4,?_⟩;show(Yr P t (.map (some b)) (.int .i64 k) h).map _=_;unfold Yr;rw[ht];simp only[g,l8 hk,OO hk k K,hi,ab6 w,aaw];rfl
theorem Pl(ht:yd P (underlying t)=some (.map kt et))(g:h.get b=some (.map es q))(K:Ze es m)(r:TypeId) :
  zF P .len [t] r [.map (some b)] h=some (.int .i64 m.length,h):=by
 show(i0 P t (.map (some b)) h).map _=_;have e:lK P t (.map (some b))=none:=by unfold lK;rw[ht]
 have em:KC h (.map (some b))=some es:=by unfold KC;simp only[g]
 unfold i0;rw[e];simp only[ht,em,K.len];rfl
end
end
end Go.Ai
namespace Go.Ef
open Go.Ai Go.Proofs
end Go.Ef
namespace Go.Ai
open Go.Ai Go.Proofs
end Go.Ai
namespace Go.Ee
open Go.Ai Go.Proofs
end Go.Ee
namespace Go.Ai
open Go.Ai Go.Proofs
theorem WB:FcA 22 3 1 8:=λr v x n w h h1 h2 h3 h4=>U5 (e:=3) (e2:=3) (by kernel_rfl) (by kernel_rfl) (by kernel_rfl) (by kernel_rfl) (by decide) h1 h2 h3 h4
end Go.Ai
namespace Go.Ed
open Go.Ai Go.Proofs Go.Proofs.Tryz
noncomputable abbrev zz:=prog
abbrev VK:=aaa->za->Prop
abbrev LK:=List aaa->za->Prop
abbrev ci(n:Int):Operand := .const (.int .i64 n)
abbrev fn(n:Nat):aaa := .func (.func n) #[] #[]
variable {h:za}{t0 t1 t2 t3 t4 t5 t6:aaa}{R:VK}
def qs:FuncId->Nat:=λg=>([(25,3),(27,2),(29,3),(30,3),(34,2),(35,3),(36,2),(37,2),(38,2),(39,3),(40,3),(47,3),(51,2),(75,2),(76,3),(77,3),(83,2),(96,2)].lookup g).getD 0
theorem mixed:prog.follows .mixedOrders=true:=aci Tryz.checked
theorem xY{f:FuncId}{args:List aaa}{X:Prop}(e:Rz zz (bC zz qs) 200 f args h R=X)(hw:X):DC zz f args h R:=UO mixed (q:=qs) (n:=200) (Eq.mpr e hw)
def DE:=λa (h:za) (R:VK) (c:LK)=>
 WW 77 a 2 4 (.bool true) h λb=>rv [.int .u8 0] b R
def DF:=λa (R:VK) (j:List aaa) (c:za)=>
 Qa 77 a 1 3 c λd=>opt (zi .add 3 19 d 1) λe=>WW 77 a 1 3 e c λb=>Qa 77 a 0 29 b λf=>Qa 77 a 1 3 b λg=>opt (zi .sub 3 30 g 1) λh=>Z8 29 f h 5 b λi=>rv [i] b R
def NK:=λ(h:za) a (R:VK)=>
 Qa 77 a 1 3 h λb=>Qa 77 a 0 29 h λc=>zP (qo 29 c h) λd _=>opt (wZ .geq 3 6 11 b d) λe=>CD e (DE a h R)
 (λf=>f [.int .u8 0] h)
 (DF a R)
theorem LG(hw:NK h t0 R):DC zz 64 [t0] h R:=xY (by kernel_rfl) hw
def nN:=λa (c:LK) b (d:za)=>
 zP (nb [b] (w9 zz 5 130 b d)) λe f=>opt (nb [.int .i64 8,nth a 1] (zT zz .mul 3 (.const (.int .i64 8)) (.tmp 15) (.int .i64 8) (nth a 1))) λg=>opt (wZ .shl 130 14 16 e g) λh=>opt (wZ .or 130 11 17 (nth a 0) h) λi=>c [i] f
def nO:=λa (b:LK) c (d:za)=>
 opt (zi .add 3 8 (nth a 1) 1) λe=>b [nth c 0,e] d
def nP:=λd (e:LK) f a (b:za) (g:LK)=>
 opt (wZ .lss 3 8 7 (nth a 1) d) λh=>CD h (λc=>c [] b)
 (λc=>e [nth a 0] b)
 (λk i=>BK (λj=>zL zz (fn 64) [f] i (nN a j))
 (nO a g))
def cC:=λe (R:VK) a (b:za)=>
 opt (zi .eql 3 20 e 4) λf=>CD f (λc=>zP (nb [nth a 0] (w9 zz 130 21 (nth a 0) b)) λd g=>zP (nb [d] (w9 zz 21 2 d g)) λh i=>rv [h] i R)
 (λc=>c [.int .i64 0] b)
 (λm j=>zP (nb [nth a 0] (w9 zz 130 2 (nth a 0) j)) λk l=>rv [k] l R)
def DG:=λ(h:za) b a (R:VK)=>
 BK (λc=>LP (nP a c b)
 [.int .u64 0,.int .i64 0] h)
 (cC a R)
theorem DH(hw:DG h t0 t1 R):DC zz 65 [t0,t1] h R:=xY (by kernel_rfl) hw
def en:=λa (b:za) (c:LK)=>
 zJ 132 a 0 3 b λd=>opt (zi .add 3 21 d 8) λe=>YZ 132 a 0 3 e b λf=>c [] f
def eu:=λa (b:za) (c:LK)=>
 zJ 132 a 1 3 b λd=>opt (zi .add 3 28 d 8) λe=>YZ 132 a 1 3 e b λf=>c [] f
def ZY:=λa b (c:LK) (h:List aaa) (d:za)=>
 zL zz (fn 65) [a,.int .i64 4] d (λe f=>YZ 132 b 4 2 e f λg=>c [] g)
def WR:=λd b e (f:LK) g (c:za)=>
 opt (pk d g (.bool false)) λh=>CD h (λa=>WW 77 b 2 4 (.bool true) c λi=>a [] i)
 (λa=>a [] c)
 (ZY b e f)
def WS:=λa d e (f:LK) b (c:za)=>
 zf a true (nb [b,.int .u8 36] (zT zz .neq 5 (.tmp 47) (.const (.int .u8 36)) b (.int .u8 36))) c (WR a d e f) c
def Y8:=λb a c (d:LK) e (f:za)=>
 opt (pk b (.bool true) e) λg=>WW 77 a 2 4 g f λh=>zL zz (fn 65) [a,.int .i64 4] h (λi j=>YZ 132 c 4 2 i j λk=>d [] k)
def Y9:=λa d e (f:LK) b (c:za)=>
 zf a false (nb [b,.int .u8 0] (zT zz .neq 5 (.tmp 71) (.const (.int .u8 0)) b (.int .u8 0))) c (Y8 a d e f) c
def Xa:=λa d e (f:LK) b (c:za)=>
 zf a false (nb [b,.int .u8 1] (zT zz .and 5 (.tmp 70) (.const (.int .u8 1)) b (.int .u8 1))) c (Y9 a d e f) c
def Xb:=λa f g h (i:LK) b (c:za)=>
 zf a false (nb [b,.int .u8 5] (zT zz .neq 5 (.tmp 66) (.const (.int .u8 5)) b (.int .u8 5))) c (λj d=>opt (pk a (.bool true) j) λe=>GD e false (λk=>k f d) (Xa e g h i) d) c
def Yc:=λa d e f (g:LK) b (c:za)=>
 zf a false (nb [b,.int .u8 7] (zT zz .and 5 (.tmp 65) (.const (.int .u8 7)) b (.int .u8 7))) c (Xb a d e f g) c
def bq:=λb (e:za) c f g (h:LK)=>
 YZ 132 b 3 4 (.bool true) e λa=>Qa 77 c 2 4 a λd=>GD d false (λi=>i f a) (Yc d g c b h) a
def br:=λa (f:za) d (g:LK)=>
 YZ 132 a 2 4 (.bool true) f λb=>zJ 132 a 1 3 b λh=>opt (zi .and 3 42 h 7) λi=>opt (zi .eql 3 43 i 4) λc=>GD c true (λj=>j d b) (λk e=>GD c true (λl=>zL zz (fn 64) [k] e (λm n=>l m n)) (WS c d a g) e) b
def Ux:=λa d (b:za) c e f (g:LK)=>
 opt (nb [a,.int .u8 0] (zT zz .eql 5 (.tmp 32) (.const (.int .u8 0)) a (.int .u8 0))) λh=>CD h (bq d b c e f)
 (λi=>WW 77 c 2 4 (.bool true) b λj=>i [] j)
 (λl k=>g [] k)
def XO:=λa b (c:za) d e f (g:LK)=>
 opt (nb [a,.int .u8 2] (zT zz .eql 5 (.tmp 32) (.const (.int .u8 2)) a (.int .u8 2))) λh=>CD h (br b c d)
 (Ux a b c d e f)
 (λj i=>g [] i)
def Yd:=λa (b:za) c d e f (g:LK)=>
 opt (nb [a,.int .u8 3] (zT zz .eql 5 (.tmp 32) (.const (.int .u8 3)) a (.int .u8 3))) λh=>CD h (λi=>i [] b)
 (XO a c b d e f)
 (λk j=>g [] j)
def Uy:=λa b f g c (R:VK) (l:List aaa) (h:za)=>
 opt (nb [a,.int .u64 6] (zT zz .shr 5 (.tmp 31) (.const (.int .u64 6)) a (.int .u64 6))) λi=>BK (Yd i h b f a g)
 (λm d=>opt (zd zz 132 b d) λj=>opt (wa 132 c j d) λe=>opt (zd zz 132 c e) λk=>rv [k] e R)
def Uz:=λa b e f g (R:VK) (j:List aaa) (c:za)=>
 opt (nb [a,.int .u8 1] (zT zz .and 5 (.tmp 24) (.const (.int .u8 1)) a (.int .u8 1))) λd=>opt (nb [d,.int .u8 0] (zT zz .neq 5 (.tmp 25) (.const (.int .u8 0)) d (.int .u8 0))) λh=>CD h (eu b c)
 (λi=>i [] c)
 (Uy e b f a g R)
def bt:=λb k l (R:VK) a (m:za)=>
 opt (nb [a,.int .u64 3] (zT zz .shr 5 (.tmp 9) (.const (.int .u64 3)) a (.int .u64 3))) λd=>opt (nb [d,.int .u8 7] (zT zz .and 5 (.tmp 10) (.const (.int .u8 7)) d (.int .u8 7))) λe=>zP (nb [e] (w9 zz 5 3 e m)) λf n=>opt (nb [a,.int .u8 7] (zT zz .and 5 (.tmp 13) (.const (.int .u8 7)) a (.int .u8 7))) λg=>zP (nb [g] (w9 zz 5 3 g n)) λh o=>opt (nb [f,h] (yo zz 132 [(0,f),(1,h)])) λp=>qO 132 o λc q=>opt (wa 132 c p q) λi=>opt (nb [b,.int .u8 4] (zT zz .and 5 (.tmp 17) (.const (.int .u8 4)) b (.int .u8 4))) λj=>opt (nb [j,.int .u8 0] (zT zz .neq 5 (.tmp 18) (.const (.int .u8 0)) j (.int .u8 0))) λr=>CD r (en c i)
 (λs=>s [] i)
 (Uz b c a k l R)
def nQ:=λ(h:za) a b (R:VK)=>
 qO 132 h λc d=>zL zz (fn 64) [a] d (bt b a c R)
theorem so(hw:nQ h t0 t1 R):DC zz 84 [t0,t1] h R:=xY (by kernel_rfl) hw
def Wt:=λc d (R:VK) e (f:LK) g (a:za)=>
 opt (wZ .eql 5 14 15 g c) λh=>CD h (λb=>rv [d] a R)
 (λb=>b [nth e 0] a)
 (λi j=>f [nth i 0] j)
def Kq:=λd a (b:za) e (R:VK) (f:LK)=>
 Z8 22 d (nth a 1) 3 b λc=>zL zz (fn 83) [c] b (Wt e c R a f)
def Kr:=λa (b:LK) c (d:za)=>
 opt (zi .add 3 9 (nth a 1) 1) λe=>b [nth c 0,e] d
def Kt:=λd (e:LK) f g (R:VK) a (b:za) (h:LK)=>
 opt (wZ .lss 3 9 8 (nth a 1) d) λi=>CD i (λc=>c [] b)
 (λc=>e [nth a 0] b)
 (λk j=>BK (Kq f a j g R)
 (Kr a h))
def Ku:=λa (R:VK) (d:List aaa) (b:za)=>
 WW 77 a 2 4 (.bool true) b λc=>rv [.int .i64 0] c R
def aY:=λ(h:za) b c (R:VK)=>
 zP (nb [.int .i64 21,.int .i64 22,.int .i64 23,.int .i64 26,.int .i64 24,.int .i64 25] (zj zz 22 6 [(0,(.int .i64 21)),(1,(.int .i64 22)),(2,(.int .i64 23)),(3,(.int .i64 26)),(4,(.int .i64 24)),(5,(.int .i64 25))] h)) λa d=>zP (qo 22 a d) λe f=>BK (λg=>LP (Kt e g a c R)
 [.int .i64 0,.int .i64 0] f)
 (Ku b R)
theorem gf(hw:aY h t0 t1 R):DC zz 66 [t0,t1] h R:=xY (by kernel_rfl) hw
def oq:=λa b (R:VK) c (e:za)=>
 opt (nb [.int .i64 2,a,c] (yo zz 42 [(0,(.int .i64 2)),(1,a),(6,c)])) λf=>opt (wa 42 b f e) λd=>opt (zd zz 42 b d) λg=>rv [g] d R
def ey:=λf a b c g (R:VK) h (i:za)=>
 opt (pk f (.bool true) h) λj=>WW 77 a 2 4 j i λk=>opt (nb [b,.int .u8 184] (zT zz .sub 5 (.tmp 28) (.const (.int .u8 184)) b (.int .u8 184))) λd=>zP (nb [d] (w9 zz 5 3 d k)) λl m=>opt (nb [c,.int .u8 1] (zT zz .and 5 (.tmp 31) (.const (.int .u8 1)) c (.int .u8 1))) λe=>zP (nb [e] (w9 zz 5 3 e m)) λn o=>opt (zi .mul 3 33 n 8) λp=>opt (wZ .add 3 30 34 l p) λq=>zL zz (fn 65) [a,.int .i64 8] o (oq q g R)
def eA:=λa d e f g (R:VK) b (c:za)=>
 zf a false (nb [b,.int .u8 0] (zT zz .neq 5 (.tmp 23) (.const (.int .u8 0)) b (.int .u8 0))) c (ey a d e f g R) c
def eC:=λa d e f g (R:VK) b (c:za)=>
 zf a false (nb [b,.int .u8 4] (zT zz .and 5 (.tmp 22) (.const (.int .u8 4)) b (.int .u8 4))) c (eA a d e f g R) c
def eD:=λb (a:za) c e f (R:VK) (h:LK)=>
 Qa 77 b 2 4 a λd=>GD d false (λg=>g c a) (eC d b e c f R) a
def DQ:=λa (c:za) (R:VK) (f:LK)=>
 opt (nb [.int .i64 25] (yo zz 42 [(0,(.int .i64 25))])) λd=>opt (wa 42 a d c) λb=>opt (zd zz 42 a b) λe=>rv [e] b R
def DR:=λa (c:za) (R:VK) (f:LK)=>
 opt (nb [.int .i64 13] (yo zz 42 [(0,(.int .i64 13))])) λd=>opt (wa 42 a d c) λb=>opt (zd zz 42 a b) λe=>rv [e] b R
def ot:=λa c (b:za) (R:VK) (d:LK)=>
 opt (nb [a,.int .u8 237] (zT zz .eql 5 (.tmp 60) (.const (.int .u8 237)) a (.int .u8 237))) λe=>CD e (DQ c b R)
 (λf=>f [] b)
 (λh g=>d [] g)
def K9:=λa b (c:za) (R:VK) (d:LK)=>
 opt (nb [a,.int .u8 153] (zT zz .eql 5 (.tmp 60) (.const (.int .u8 153)) a (.int .u8 153))) λe=>CD e (DR b c R)
 (ot a b c R)
 (λg f=>d [] f)
def gD:=λa (R:VK) (f:List aaa) (c:za)=>
 opt (nb [.int .i64 26] (yo zz 42 [(0,(.int .i64 26))])) λd=>opt (wa 42 a d c) λb=>opt (zd zz 42 a b) λe=>rv [e] b R
def gE:=λb c d a (R:VK) e (f:za)=>
 opt (pk b (.bool true) e) λg=>WW 77 c 2 4 g f λh=>BK (K9 d a h R)
 (gD a R)
def gF:=λa d e f (R:VK) b (c:za)=>
 zf a false (nb [b,.int .u8 72] (zT zz .neq 5 (.tmp 55) (.const (.int .u8 72)) b (.int .u8 72))) c (gE a d e f R) c
def gG:=λb (a:za) d e f (R:VK) (h:LK)=>
 Qa 77 b 2 4 a λc=>GD c false (λg=>g d a) (gF c b e f R) a
def gH:=λg h b c (R:VK) i (j:za)=>
 opt (pk g (.bool true) i) λk=>WW 77 h 2 4 k j λa=>zJ 132 b 0 3 a λd=>zJ 132 b 4 2 a λe=>opt (nb [.int .i64 6,d,e] (yo zz 42 [(0,(.int .i64 6)),(1,d),(6,e)])) λl=>opt (wa 42 c l a) λf=>opt (zd zz 42 c f) λm=>rv [m] f R
def gI:=λa d e f (R:VK) b (c:za)=>
 zf a false (nb [b,.int .u8 141] (zT zz .neq 5 (.tmp 84) (.const (.int .u8 141)) b (.int .u8 141))) c (gH a d e f R) c
def Ab:=λd (a:za) e f g b (R:VK) (l:LK)=>
 opt (zd zz 132 d a) λh=>zL zz (fn 85) [e,f,nth g 0,h] a (λi j=>opt (wa 42 b i j) λc=>opt (zd zz 42 b c) λk=>rv [k] c R)
def gJ:=λb (a:za) d e f (R:VK) (h:LK)=>
 Qa 77 b 2 4 a λc=>GD c false (λg=>g d a) (gI c b e f R) a
def gK:=λb (a:za) c d e f (R:VK) (g:LK)=>
 zJ 132 b 2 4 a λh=>CD h (Ab b a c d e f R)
 (λi=>i [] a)
 (λk j=>g [] j)
def UX:=λa (b:za) c d e (R:VK) f (g:LK)=>
 zJ 132 a 3 4 b λh=>CD h (gJ c b d a e R)
 (gK a b c d f e R)
 (λj i=>g [] i)
def Ad:=λd e f g a (R:VK) (l:List aaa) (b:za)=>
 opt (zd zz 132 d b) λh=>zL zz (fn 86) [e,f,nth g 0,h] b (λi j=>opt (wa 42 a i j) λc=>opt (zd zz 42 a c) λk=>rv [k] c R)
def gN:=λb c d (R:VK) e f (g:za)=>
 qO 132 g λa h=>opt (wa 132 a f h) λi=>BK (UX a i b c d R e)
 (Ad a b c e d R)
def gO:=λa b e f (R:VK) (l:List aaa) (d:za)=>
 opt (nb [a,.int .u8 15] (zT zz .eql 5 (.tmp 68) (.const (.int .u8 15)) a (.int .u8 15))) λg=>CD g (λc=>zL zz (fn 64) [b] d (λh i=>c [h] i))
 (λc=>c [.int .u8 0] d)
 (λj k=>zL zz (fn 84) [b,e] k (gN b a f R j))
def UY:=λa b c d e (R:VK) f (g:za)=>
 zf a false (nb [f,.int .u8 239] (zT zz .eql 5 (.tmp 46) (.const (.int .u8 239)) f (.int .u8 239))) g (λi h=>opt (pk a (.bool true) i) λj=>CD j (gG b h c d e R)
 (λk=>k [] h)
 (gO d b c e R)) g
def UZ:=λa b g h i (R:VK) c (d:za)=>
 zf a false (nb [c,.int .u8 237] (zT zz .eql 5 (.tmp 42) (.const (.int .u8 237)) c (.int .u8 237))) d (λj e=>opt (pk a (.bool true) j) λf=>GD f false (λk=>k b e) (UY f g h b i R) e) d
def gP:=λa d e f (R:VK) (h:List aaa) (b:za)=>
 opt (nb [a,.int .u8 153] (zT zz .eql 5 (.tmp 39) (.const (.int .u8 153)) a (.int .u8 153))) λc=>GD c false (λg=>g a b) (UZ c a d e f R) b
def Xw:=λa b c d e (R:VK) f (g:za)=>
 zf a true (nb [f,.int .u8 191] (zT zz .leq 5 (.tmp 13) (.const (.int .u8 191)) f (.int .u8 191))) g (λi h=>opt (pk a i (.bool false)) λj=>CD j (eD b h c d e R)
 (λk=>k [] h)
 (gP d b c e R)) g
def Ae:=λd e f (R:VK) a (b:za)=>
 opt (nb [a,.int .u8 184] (zT zz .geq 5 (.tmp 10) (.const (.int .u8 184)) a (.int .u8 184))) λc=>GD c true (λg=>g a b) (Xw c d e a f R) b
def NP:=λ(h:za) a b (R:VK)=>
 qO 42 h λc d=>zL zz (fn 64) [a] d (Ae a b c R)
theorem LL(hw:NP h t0 t1 R):DC zz 67 [t0,t1] h R:=xY (by kernel_rfl) hw
def m6:=λa (b:za) (c:LK)=>
 YZ 42 a 0 3 (.int .i64 4) b λd=>YZ 42 a 3 3 (.int .i64 8) d λe=>c [] e
def QD:=λb d (c:za) e (f:LK)=>
 opt (nb [b,.int .u8 141] (zT zz .eql 5 (.tmp 42) (.const (.int .u8 141)) b (.int .u8 141))) λg=>CD g (λa=>YZ 42 d 0 3 (.int .i64 5) c λh=>a [] h)
 (λa=>WW 77 e 2 4 (.bool true) c λi=>a [] i)
 (λk j=>f [] j)
def Vc:=λa b (c:za) d (e:LK)=>
 opt (nb [a,.int .u8 137] (zT zz .eql 5 (.tmp 37) (.const (.int .u8 137)) a (.int .u8 137))) λf=>CD f (m6 b c)
 (QD a b c d)
 (λh g=>e [] g)
def Xp:=λc a d e (f:LK) g (b:za)=>
 opt (pk c g (.bool false)) λh=>CD h (λi=>YZ 42 a 3 3 (.int .i64 1) b λj=>i [] j)
 (Vc d a b e)
 (λl k=>f [] k)
def Xq:=λa d e f (g:LK) b (c:za)=>
 zf a true (nb [b,.int .u8 190] (zT zz .eql 5 (.tmp 32) (.const (.int .u8 190)) b (.int .u8 190))) c (Xp a d e f g) c
def Xr:=λa d (b:za) e f (g:LK)=>
 opt (nb [a,.int .u8 15] (zT zz .eql 5 (.tmp 29) (.const (.int .u8 15)) a (.int .u8 15))) λc=>GD c true (λh=>h d b) (Xq c e a f g) b
def Yo:=λa b (c:za) d e (f:LK)=>
 opt (nb [a,.int .u8 99] (zT zz .eql 5 (.tmp 25) (.const (.int .u8 99)) a (.int .u8 99))) λg=>CD g (λh=>YZ 42 b 3 3 (.int .i64 4) c λi=>h [] i)
 (Xr a d c b e)
 (λk j=>f [] j)
def Zn:=λa b (c:za) d e (f:LK)=>
 opt (nb [a,.int .u8 139] (zT zz .eql 5 (.tmp 21) (.const (.int .u8 139)) a (.int .u8 139))) λg=>CD g (λh=>YZ 42 b 3 3 (.int .i64 8) c λi=>h [] i)
 (Yo a b c d e)
 (λk j=>f [] j)
def CX:=λ(h:za) l m n d (R:VK)=>
 opt (nb [d] (some (Value.cells d).toList)) λo=>nw h o 132 λb p=>qO 42 p λe a=>zJ 132 b 0 3 a λf=>zJ 132 b 1 3 a λg=>zJ 132 b 4 2 a λi=>opt (nb [.int .i64 3,f,g,i] (yo zz 42 [(0,(.int .i64 3)),(1,f),(2,g),(6,i)])) λq=>qO 42 a λc r=>opt (wa 42 c q r) λs=>BK (Zn m c s n l)
 (λv j=>opt (zd zz 42 c j) λt=>opt (wa 42 e t j) λk=>opt (zd zz 42 e k) λu=>rv [u] k R)
theorem CY(hw:CX h t0 t1 t2 t3 R):DC zz 85 [t0,t1,t2,t3] h R:=xY (by kernel_rfl) hw
def gd:=λc d (R:VK) e (f:LK) g (a:za)=>
 opt (wZ .eql 5 12 13 g c) λh=>CD h (λb=>rv [d] a R)
 (λb=>b [nth e 0] a)
 (λi j=>f [nth i 0] j)
def tE:=λd a (b:za) e (R:VK) (f:LK)=>
 Z8 22 d (nth a 1) 3 b λc=>zL zz (fn 51) [c] b (gd e c R a f)
def tF:=λa (b:LK) c (d:za)=>
 opt (zi .add 3 7 (nth a 1) 1) λe=>b [nth c 0,e] d
def tG:=λd (e:LK) f g (R:VK) a (b:za) (h:LK)=>
 opt (wZ .lss 3 7 6 (nth a 1) d) λi=>CD i (λc=>c [] b)
 (λc=>e [nth a 0] b)
 (λk j=>BK (tE f a j g R)
 (tF a h))
def HE:=λ(h:za) b (R:VK)=>
 zP (nb [.int .i64 11,.int .i64 12,.int .i64 16,.int .i64 17,.int .i64 18] (zj zz 22 5 [(0,(.int .i64 11)),(1,(.int .i64 12)),(2,(.int .i64 16)),(3,(.int .i64 17)),(4,(.int .i64 18))] h)) λa c=>zP (qo 22 a c) λd e=>BK (λf=>LP (tG d f a b R)
 [.int .i64 0,.int .i64 0] e)
 (λi g=>rv [.int .i64 0] g R)
theorem FZ(hw:HE h t0 R):DC zz 96 [t0] h R:=xY (by kernel_rfl) hw
def DI:=λb (a:za) c d (R:VK) (j:LK)=>
 zJ 132 b 1 3 a λe=>zJ 132 b 0 3 a λf=>opt (nb [.int .i64 7,c,e,f] (yo zz 42 [(0,(.int .i64 7)),(3,c),(1,e),(2,f)])) λh=>opt (wa 42 d h a) λg=>opt (zd zz 42 d g) λi=>rv [i] g R
def nR:=λa b (R:VK) c (e:za)=>
 opt (nb [.int .i64 8,.int .i64 13,a,c] (yo zz 42 [(0,(.int .i64 8)),(3,(.int .i64 13)),(1,a),(6,c)])) λf=>opt (wa 42 b f e) λd=>opt (zd zz 42 b d) λg=>rv [g] d R
def nS:=λd a e f (R:VK) g (h:za)=>
 opt (pk d (.bool true) g) λi=>WW 77 a 2 4 i h λb=>opt (zk zz 132 e 0) λc=>opt (zd zz 3 c b) λj=>Wu zz 65 [a,.int .i64 4] 4 [(1,c)] b (nR j f R)
def nT:=λa d e f g (R:VK) h (b:za)=>
 zf a false (zd zz 3 h b) b (λi c=>zf a false (wZ .neq 3 51 53 d i) c (nS a e f g R) c) b
def nU:=λa c e f (R:VK) g (b:za)=>
 zf a false (zd zz 3 g b) b (λh d=>zf a false (zk zz 132 c 1) d (nT a h e c f R) d) b
def DJ:=λb (a:za) c (R:VK) (i:LK)=>
 zJ 132 b 0 3 a λd=>zJ 132 b 1 3 a λe=>opt (nb [.int .i64 10,.int .i64 3,d,e] (yo zz 42 [(0,(.int .i64 10)),(3,(.int .i64 3)),(1,d),(2,e)])) λg=>opt (wa 42 c g a) λf=>opt (zd zz 42 c f) λh=>rv [h] f R
def DK:=λb (a:za) c (R:VK) (i:LK)=>
 zJ 132 b 0 3 a λd=>zJ 132 b 1 3 a λe=>opt (nb [.int .i64 7,.int .i64 13,d,e] (yo zz 42 [(0,(.int .i64 7)),(3,(.int .i64 13)),(1,d),(2,e)])) λg=>opt (wa 42 c g a) λf=>opt (zd zz 42 c f) λh=>rv [h] f R
def nV:=λa c (b:za) d (R:VK) (e:LK)=>
 opt (nb [a,.int .u8 190] (zT zz .eql 5 (.tmp 65) (.const (.int .u8 190)) a (.int .u8 190))) λf=>CD f (DJ c b d R)
 (λg=>g [] b)
 (λi h=>e [] h)
def ew:=λa b (c:za) d (R:VK) (e:LK)=>
 opt (nb [a,.int .u8 175] (zT zz .eql 5 (.tmp 65) (.const (.int .u8 175)) a (.int .u8 175))) λf=>CD f (DK b c d R)
 (nV a b c d R)
 (λh g=>e [] g)
def tQ:=λc a (R:VK) (h:List aaa) (d:za)=>
 WW 77 c 2 4 (.bool true) d λe=>opt (nb [] (yo zz 42 [])) λf=>opt (wa 42 a f e) λb=>opt (zd zz 42 a b) λg=>rv [g] b R
def gx:=λb (a:za) c e (R:VK) (f:LK)=>
 Qa 77 b 2 4 a λd=>zf d false (zk zz 132 c 0) a (nU d c b e R) a
def UU:=λa e f (b:za) c (R:VK) g (h:LK)=>
 opt (nb [a,.int .u8 15] (zT zz .eql 5 (.tmp 20) (.const (.int .u8 15)) a (.int .u8 15))) λi=>CD i (λd=>BK (ew e f b c R)
 (tQ g c R))
 (λd=>d [] b)
 (λk j=>h [] j)
def tR:=λb (a:za) c (R:VK) (i:LK)=>
 zJ 132 b 1 3 a λd=>zJ 132 b 0 3 a λe=>opt (nb [.int .i64 15,d,e] (yo zz 42 [(0,(.int .i64 15)),(1,d),(2,e)])) λg=>opt (wa 42 c g a) λf=>opt (zd zz 42 c f) λh=>rv [h] f R
def Xu:=λa b (c:za) d e (R:VK) f (g:LK)=>
 opt (nb [a,.int .u8 105] (zT zz .eql 5 (.tmp 20) (.const (.int .u8 105)) a (.int .u8 105))) λh=>CD h (gx b c d e R)
 (UU a f d c e R b)
 (λj i=>g [] i)
def tS:=λb (a:za) c (R:VK) (i:LK)=>
 zJ 132 b 0 3 a λd=>zJ 132 b 1 3 a λe=>opt (nb [.int .i64 10,.int .i64 4,d,e] (yo zz 42 [(0,(.int .i64 10)),(3,(.int .i64 4)),(1,d),(2,e)])) λg=>opt (wa 42 c g a) λf=>opt (zd zz 42 c f) λh=>rv [h] f R
def YQ:=λa b (c:za) d (R:VK) e f (g:LK)=>
 opt (nb [a,.int .u8 57] (zT zz .eql 5 (.tmp 20) (.const (.int .u8 57)) a (.int .u8 57))) λh=>CD h (tR b c d R)
 (Xu a e c b d R f)
 (λj i=>g [] i)
def tT:=λb (a:za) c (R:VK) (i:LK)=>
 zJ 132 b 1 3 a λd=>zJ 132 b 0 3 a λe=>opt (nb [.int .i64 1,d,e] (yo zz 42 [(0,(.int .i64 1)),(1,d),(2,e)])) λg=>opt (wa 42 c g a) λf=>opt (zd zz 42 c f) λh=>rv [h] f R
def ZZ:=λa b (c:za) d (R:VK) e f (g:LK)=>
 opt (nb [a,.int .u8 99] (zT zz .eql 5 (.tmp 20) (.const (.int .u8 99)) a (.int .u8 99))) λh=>CD h (tS b c d R)
 (YQ a b c d R e f)
 (λj i=>g [] i)
def Zb:=λa b (c:za) d (R:VK) e f (g:LK)=>
 opt (nb [a,.int .u8 137] (zT zz .eql 5 (.tmp 20) (.const (.int .u8 137)) a (.int .u8 137))) λh=>CD h (tT b c d R)
 (ZZ a b c d R e f)
 (λj i=>g [] i)
def tU:=λd e f a (R:VK) (k:List aaa) (b:za)=>
 opt (zd zz 132 d b) λg=>zL zz (fn 97) [e,f,g] b (λh i=>opt (wa 42 a h i) λc=>opt (zd zz 42 a c) λj=>rv [j] c R)
def qE:=λa b (R:VK) c d g e (f:za)=>
 opt (zi .neq 3 12 e 0) λh=>CD h (DI a f e b R)
 (λi=>i [] f)
 (λk j=>BK (Zb c a j b R d g)
 (tU a d c b R))
def NL:=λ(h:za) c a d b (R:VK)=>
 opt (nb [b] (some (Value.cells b).toList)) λe=>nw h e 132 λf g=>qO 42 g λi j=>zL zz (fn 96) [a] j (qE f i R a c d)
theorem LH(hw:NL h t0 t1 t2 t3 R):DC zz 86 [t0,t1,t2,t3] h R:=j9 mixed (q:=qs) (n:=200) (Eq.mpr (by kernel_rfl) hw)
def cG:=λa b (R:VK) c (e:za)=>
 opt (nb [.int .i64 2,a,c] (yo zz 42 [(0,(.int .i64 2)),(1,a),(6,c)])) λf=>opt (wa 42 b f e) λd=>opt (zd zz 42 b d) λg=>rv [g] d R
def cH:=λd a e f (R:VK) g (h:za)=>
 opt (pk d (.bool true) g) λi=>WW 77 a 2 4 i h λb=>opt (zk zz 132 e 1) λc=>opt (zd zz 3 c b) λj=>Wu zz 65 [a,.int .i64 4] 4 [(1,c)] b (cG j f R)
def cI:=λa c d e (R:VK) f (b:za)=>
 zf a false (zi .neq 3 18 f 0) b (cH a c d e R) b
def oe:=λe (a:za) b (R:VK) (h:LK)=>
 zJ 132 e 1 3 a λc=>opt (nb [.int .i64 14,c] (yo zz 42 [(0,(.int .i64 14)),(2,c)])) λf=>opt (wa 42 b f a) λd=>opt (zd zz 42 b d) λg=>rv [g] d R
def og:=λe (a:za) b (R:VK) (h:LK)=>
 zJ 132 e 1 3 a λc=>opt (nb [.int .i64 9,.int .i64 1,c] (yo zz 42 [(0,(.int .i64 9)),(3,(.int .i64 1)),(1,c)])) λf=>opt (wa 42 b f a) λd=>opt (zd zz 42 b d) λg=>rv [g] d R
def cJ:=λb c (a:za) d (R:VK) (e:LK)=>
 opt (zi .eql 3 36 b 7) λf=>CD f (oe c a d R)
 (λg=>g [] a)
 (λi h=>e [] h)
def oh:=λe (a:za) b (R:VK) (h:LK)=>
 zJ 132 e 1 3 a λc=>opt (nb [.int .i64 9,.int .i64 2,c] (yo zz 42 [(0,(.int .i64 9)),(3,(.int .i64 2)),(1,c)])) λf=>opt (wa 42 b f a) λd=>opt (zd zz 42 b d) λg=>rv [g] d R
def QN:=λa b (c:za) d (R:VK) (e:LK)=>
 opt (zi .eql 3 36 a 3) λf=>CD f (og b c d R)
 (cJ a b c d R)
 (λh g=>e [] g)
def Vi:=λa b (c:za) d (R:VK) (e:LK)=>
 opt (zi .eql 3 36 a 2) λf=>CD f (oh b c d R)
 (QN a b c d R)
 (λh g=>e [] g)
def K4:=λa (c:LK) b (d:za)=>
 zP (nb [b] (w9 zz 5 2 b d)) λe f=>YZ 42 a 0 3 (.int .i64 11) f λg=>YZ 42 a 6 2 e g λh=>c [] h
def V3:=λi b c d e (R:VK) j (k:za)=>
 opt (pk i (.bool true) j) λl=>WW 77 b 2 4 l k λf=>opt (nb [c,.int .u8 193] (zT zz .eql 5 (.tmp 79) (.const (.int .u8 193)) c (.int .u8 193))) λm=>CD m (λa=>zL zz (fn 64) [b] f (K4 d a))
 (λa=>a [] f)
 (λp g=>opt (zd zz 42 d g) λn=>opt (wa 42 e n g) λh=>opt (zd zz 42 e h) λo=>rv [o] h R)
def V4:=λa b e f g h (R:VK) i (c:za)=>
 zf a true (zi .neq 3 73 i 7) c (λj d=>zf b false (pk a j (.bool false)) d (V3 b e f g h R) d) c
def V5:=λd e f g h i (R:VK) a (c:za)=>
 zf a true (zk zz 132 d 0) c (λj b=>zf a true (zd zz 3 j b) b (V4 a e f g h i R) b) c
def V6:=λa d e f g h (R:VK) i (b:za)=>
 zf a false (zi .neq 3 69 i 4) b (λj c=>GD a false (λk=>k j c) (V5 d a e f g h R) c) b
def K5:=λd e f g h (R:VK) (j:List aaa) (a:za)=>
 Qa 77 d 2 4 a λb=>zf b false (zk zz 132 e 0) a (λi c=>zf b false (zd zz 3 i c) c (V6 b e d f g h R) c) a
def K6:=λa (e:za) g h i (R:VK) (o:LK)=>
 zJ 132 a 1 3 e λf=>opt (nb [.int .i64 12,f,.int .i64 19] (yo zz 42 [(0,(.int .i64 12)),(1,f),(3,(.int .i64 19))])) λj=>qO 42 e λb k=>opt (wa 42 b j k) λc=>zJ 132 a 0 3 c λl=>opt (zi .eql 3 59 l 7) λm=>CD m (λd=>YZ 42 b 3 3 (.int .i64 20) c λn=>d [] n)
 (λd=>d [] c)
 (K5 g a h b i R)
def V7:=λa (c:za) f g h (R:VK) (i:LK)=>
 opt (nb [a,.int .u8 193] (zT zz .eql 5 (.tmp 8) (.const (.int .u8 193)) a (.int .u8 193))) λd=>CD d (λb=>b [d] c)
 (λb=>opt (nb [a,.int .u8 211] (zT zz .eql 5 (.tmp 8) (.const (.int .u8 211)) a (.int .u8 211))) λj=>b [j] c)
 (λk e=>CD (nth k 0) (K6 f e g a h R)
 (λl=>l [] e)
 (λn m=>i [] m))
def iY:=λd (a:za) e b (R:VK) (j:LK)=>
 opt (zd zz 132 d a) λf=>zL zz (fn 114) [e,f] a (λg h=>opt (wa 42 b g h) λc=>opt (zd zz 42 b c) λi=>rv [i] c R)
def jD:=λa b (c:za) d (R:VK) e (f:LK)=>
 opt (nb [a,.int .u8 247] (zT zz .eql 5 (.tmp 8) (.const (.int .u8 247)) a (.int .u8 247))) λg=>CD g (λh=>zJ 132 b 0 3 c λi=>BK (Vi i b c d R)
 (λl j=>h [] j))
 (V7 a c b e d R)
 (λm k=>f [] k)
def K7:=λd (a:za) e f (R:VK) (h:LK)=>
 Qa 77 d 2 4 a λb=>zf b false (zk zz 132 e 0) a (λg c=>zf b false (zd zz 3 g c) c (cI b d e f R) c) a
def kp:=λa b (c:za) d e (R:VK) (f:LK)=>
 opt (nb [a,.int .u8 129] (zT zz .eql 5 (.tmp 8) (.const (.int .u8 129)) a (.int .u8 129))) λg=>CD g (iY b c d e R)
 (jD a b c e R d)
 (λi h=>f [] h)
def qb:=λa b (c:za) d e (R:VK) (f:LK)=>
 opt (nb [a,.int .u8 199] (zT zz .eql 5 (.tmp 8) (.const (.int .u8 199)) a (.int .u8 199))) λg=>CD g (K7 b c d e R)
 (kp a d c b e R)
 (λi h=>f [] h)
def K8:=λc a (R:VK) (h:List aaa) (d:za)=>
 WW 77 c 2 4 (.bool true) d λe=>opt (nb [] (yo zz 42 [])) λf=>opt (wa 42 a f e) λb=>opt (zd zz 42 a b) λg=>rv [g] b R
def DO:=λ(h:za) a d b (R:VK)=>
 opt (nb [b] (some (Value.cells b).toList)) λe=>nw h e 132 λf g=>qO 42 g λc i=>BK (qb d a i f c R)
 (K8 a c R)
theorem DP(hw:DO h t0 t1 t2 R):DC zz 97 [t0,t1,t2] h R:=j9 mixed (q:=qs) (n:=200) (Eq.mpr (by kernel_rfl) hw)
def tJ:=λa b (d:za) (R:VK) (g:LK)=>
 opt (nb [.int .i64 24,a] (yo zz 42 [(0,(.int .i64 24)),(6,a)])) λe=>opt (wa 42 b e d) λc=>opt (zd zz 42 b c) λf=>rv [f] c R
def JY:=λa d e (R:VK) (f:LK) g (b:za)=>
 zf a true (zi .eql 3 34 g 0) b (λh c=>opt (pk a h (.bool false)) λi=>CD i (tJ d e c R)
 (λj=>j [] c)
 (λl k=>f [] k)) b
def tK:=λa b (d:za) (R:VK) (g:LK)=>
 opt (nb [.int .i64 23,a] (yo zz 42 [(0,(.int .i64 23)),(6,a)])) λe=>opt (wa 42 b e d) λc=>opt (zd zz 42 b c) λf=>rv [f] c R
def JZ:=λd (a:za) e f (R:VK) (g:LK)=>
 zJ 132 d 1 3 a λh=>opt (zi .eql 3 30 h 4) λb=>zf b true (zk zz 132 d 0) a (λi c=>zf b true (zd zz 3 i c) c (JY b e f R g) c) a
def UR:=λa b c (R:VK) f (g:LK) h (d:za)=>
 zf a true (zi .eql 3 23 h 5) d (λi e=>opt (pk a i (.bool false)) λj=>CD j (tK b c e R)
 (JZ f e b c R)
 (λl k=>g [] k)) d
def tL:=λf (a:za) b c (R:VK) (i:LK)=>
 zJ 132 f 1 3 a λd=>opt (nb [.int .i64 16,d,b] (yo zz 42 [(0,(.int .i64 16)),(1,d),(6,b)])) λg=>opt (wa 42 c g a) λe=>opt (zd zz 42 c e) λh=>rv [h] e R
def US:=λa (b:za) e f (R:VK) (g:LK)=>
 zJ 132 a 1 3 b λh=>opt (zi .eql 3 19 h 4) λc=>zf c true (zk zz 132 a 0) b (λi d=>zf c true (zd zz 3 i d) d (UR c e f R a g) d) b
def W4:=λa (b:za) c d (R:VK) (e:LK)=>
 zJ 132 a 0 3 b λf=>opt (zi .eql 3 11 f 7) λg=>CD g (tL a b c d R)
 (US a b c d R)
 (λi h=>e [] h)
def gh:=λg h i a b c (R:VK) j (k:za)=>
 opt (pk g (.bool true) j) λl=>WW 77 h 2 4 l k λd=>zJ 132 i 1 3 d λe=>opt (nb [.int .i64 8,a,e,b] (yo zz 42 [(0,(.int .i64 8)),(3,a),(1,e),(6,b)])) λm=>opt (wa 42 c m d) λf=>opt (zd zz 42 c f) λn=>rv [n] f R
def ch:=λa c d e f g (R:VK) h (b:za)=>
 zf a false (zi .eql 3 51 h 0) b (gh a c d e f g R) b
def cj:=λb e f g (R:VK) c (a:za)=>
 Qa 77 b 2 4 a λd=>GD d false (λh=>h c a) (ch d b e c f g R) a
def ck:=λa f g h (R:VK) (k:List aaa) (b:za)=>
 zJ 132 a 0 3 b λc=>zP (nb [c] (w9 zz 3 5 c b)) λd i=>opt (nb [d,.int .u64 3] (zT zz .shl 5 (.tmp 41) (.const (.int .u64 3)) d (.int .u64 3))) λe=>opt (nb [e,.int .u8 1] (zT zz .or 5 (.tmp 42) (.const (.int .u8 1)) e (.int .u8 1))) λj=>zL zz (fn 96) [j] i (cj f a g h R)
def HJ:=λ(h:za) a b (R:VK)=>
 opt (nb [b] (some (Value.cells b).toList)) λf=>nw h f 132 λc g=>qO 42 g λd i=>zL zz (fn 65) [a,.int .i64 4] i (λe j=>BK (W4 c j e d R)
 (ck c a e d R))
theorem F5(hw:HJ h t0 t1 R):DC zz 114 [t0,t1] h R:=xY (by kernel_rfl) hw
def ct:=λm n b e f (R:VK) o (p:za)=>
 opt (pk m (.bool true) o) λq=>WW 77 n 2 4 q p λa=>zJ 132 b 0 3 a λg=>zJ 132 b 1 3 a λh=>zJ 132 b 4 2 a λi=>opt (nb [.int .i64 4,.int .i64 4,g,h,i] (yo zz 42 [(0,(.int .i64 4)),(3,(.int .i64 4)),(1,g),(2,h),(6,i)])) λr=>qO 42 a λc s=>opt (wa 42 c r s) λj=>opt (nb [e,.int .u8 136] (zT zz .eql 5 (.tmp 40) (.const (.int .u8 136)) e (.int .u8 136))) λt=>CD t (λd=>YZ 42 c 3 3 (.int .i64 1) j λu=>d [] u)
 (λd=>d [] j)
 (λx k=>opt (zd zz 42 c k) λv=>opt (wa 42 f v k) λl=>opt (zd zz 42 f l) λw=>rv [w] l R)
def cu:=λa d e f g (R:VK) h (b:za)=>
 zf a false (zd zz 4 h b) b (λi c=>zf a false (r7 zz .not i) c (ct a d e f g R) c) b
def cw:=λc e f (R:VK) g (h:za)=>
 qO 132 h λa i=>opt (wa 132 a g i) λb=>Qa 77 c 2 4 b λd=>zf d false (zk zz 132 a 2) b (cu d c a e f R) b
def cx:=λa b (c:LK) d (e:za)=>
 opt (pk a (.bool true) d) λf=>WW 77 b 2 4 f e λg=>c [] g
def cy:=λa d (e:LK) f (c:za)=>
 zf a false (zk zz 77 f 2) c (λg b=>zf a false (zd zz 4 g b) b (cx a d e) b) c
def cA:=λe b (f:LK) g (c:za)=>
 opt (wZ .neq 5 91 92 g e) λa=>GD a false (λh=>h b c) (λi d=>zf a false (Pt i) d (cy a b f) d) c
def nL:=λc d (a:za) b (e:LK)=>
 Z8 29 c (nth d 0) 5 a λf=>zL zz (fn 64) [b] a (cA f b e)
def nM:=λb a c (d:LK) (h:List aaa) (e:za)=>
 BK (nL b a e c)
 (λi f=>opt (zi .add 3 85 (nth a 0) 1) λg=>d [g] f)
def cB:=λd (e:LK) f g a (b:za) (h:LK)=>
 opt (wZ .lss 3 85 84 (nth a 0) d) λi=>CD i (λc=>c [] b)
 (λc=>e [] b)
 (nM f a g h)
def K0:=λe f a (R:VK) b (g:za)=>
 zP (qo 29 b g) λh i=>BK (λj=>LP (cB h j b e)
 [.int .i64 0] i)
 (λm c=>opt (zd zz 42 f c) λk=>opt (wa 42 a k c) λd=>opt (zd zz 42 a d) λl=>rv [l] d R)
def V2:=λe c f a g (R:VK) h (i:za)=>
 opt (pk e (.bool true) h) λj=>WW 77 c 2 4 j i λd=>zJ 132 f 1 3 d λk=>YZ 42 a 1 3 k d λl=>zP (nb [.int .u8 15,.int .u8 182] (zj zz 29 2 [(0,(.int .u8 15)),(1,(.int .u8 182))] l)) λm b=>zJ 42 a 1 3 b λn=>zJ 42 a 1 3 b λo=>zL zz (fn 47) [.int .u8 72,m,n,o] b (K0 c a g R)
def X9:=λa c d e f (R:VK) g (b:za)=>
 zf a false (zi .neq 3 70 g 0) b (V2 a c d e f R) b
def Wa:=λe c f g h (R:VK) i (d:za)=>
 opt (pk e (.bool true) i) λa=>zf a false (zk zz 132 c 0) d (λj b=>zf a false (zd zz 3 j b) b (X9 a f c g h R) b) d
def Wb:=λe c f g h (R:VK) i (d:za)=>
 opt (pk e (.bool true) i) λa=>zf a false (zk zz 132 c 3) d (λj b=>zf a false (zd zz 4 j b) b (Wa a c f g h R) b) d
def iV:=λe f g (R:VK) h (i:za)=>
 qO 132 i λa j=>opt (wa 132 a h j) λb=>Qa 77 e 2 4 b λc=>zf c false (zk zz 132 a 2) b (λk d=>zf c false (zd zz 4 k d) d (Wb c a e f g R) d) b
def iW:=λa d e (R:VK) b (f:za)=>
 opt (nb [.int .i64 17,b] (yo zz 42 [(0,(.int .i64 17)),(4,b)])) λg=>qO 42 f λc h=>opt (wa 42 c g h) λi=>zL zz (fn 84) [a,d] i (iV a c e R)
def iX:=λa c d (R:VK) b (e:za)=>
 opt (nb [b,.int .u8 144] (zT zz .sub 5 (.tmp 48) (.const (.int .u8 144)) b (.int .u8 144))) λf=>zL zz (fn 66) [a,f] e (iW a c d R)
def K1:=λa b (c:za) e f (R:VK) (g:LK)=>
 opt (nb [a,.int .u8 15] (zT zz .eql 5 (.tmp 14) (.const (.int .u8 15)) a (.int .u8 15))) λh=>CD h (λd=>zL zz (fn 64) [b] c (iX b e f R))
 (λd=>d [] c)
 (λj i=>g [] i)
def Wc:=λa b c d (R:VK) (f:LK) g (e:za)=>
 CD (nth g 0) (λi=>zL zz (fn 84) [a,b] e (cw a c d R))
 (K1 c a e b d R)
 (λj h=>f [] h)
def YP:=λa (c:za) e f g (R:VK) (h:LK)=>
 opt (nb [a,.int .u8 136] (zT zz .eql 5 (.tmp 14) (.const (.int .u8 136)) a (.int .u8 136))) λd=>CD d (λb=>b [d] c)
 (λb=>opt (nb [a,.int .u8 137] (zT zz .eql 5 (.tmp 14) (.const (.int .u8 137)) a (.int .u8 137))) λi=>b [i] c)
 (Wc e f a g R h)
def K3:=λc a (R:VK) (h:List aaa) (d:za)=>
 WW 77 c 2 4 (.bool true) d λe=>opt (nb [] (yo zz 42 [])) λf=>opt (wa 42 a f e) λb=>opt (zd zz 42 a b) λg=>rv [g] b R
def DB:=λ(h:za) a c (R:VK)=>
 qO 42 h λb d=>zL zz (fn 64) [a] d (λe f=>BK (YP e f a c b R)
 (K3 a b R))
theorem DD(hw:DB h t0 t1 R):DC zz 68 [t0,t1] h R:=xY (by kernel_rfl) hw
def HK:=λa (R:VK) b (d:za)=>
 opt (nb [.int .i64 18,b] (yo zz 42 [(0,(.int .i64 18)),(6,b)])) λe=>opt (wa 42 a e d) λc=>opt (zd zz 42 a c) λf=>rv [f,.bool true] c R
def HL:=λa (R:VK) b (d:za)=>
 opt (nb [.int .i64 21,b] (yo zz 42 [(0,(.int .i64 21)),(6,b)])) λe=>opt (wa 42 a e d) λc=>opt (zd zz 42 a c) λf=>rv [f,.bool true] c R
def HM:=λa b (R:VK) e (f:za)=>
 YZ 42 a 6 2 e f λc=>opt (zd zz 42 a c) λg=>opt (wa 42 b g c) λd=>opt (zd zz 42 b d) λh=>rv [h,.bool true] d R
def HN:=λc d (R:VK) a (e:za)=>
 opt (nb [.int .i64 19,a] (yo zz 42 [(0,(.int .i64 19)),(4,a)])) λf=>qO 42 e λb g=>opt (wa 42 b f g) λh=>zL zz (fn 65) [c,.int .i64 4] h (HM b d R)
def HO:=λa c (R:VK) b (d:za)=>
 opt (nb [b,.int .u8 128] (zT zz .sub 5 (.tmp 26) (.const (.int .u8 128)) b (.int .u8 128))) λe=>zL zz (fn 66) [a,e] d (HN a c R)
def HQ:=λa (R:VK) f (g:za)=>
 qO 42 g λb h=>opt (wa 42 b f h) λc=>opt (zd zz 42 b c) λi=>opt (zk zz 42 b 0) λd=>opt (zd zz 3 d c) λj=>opt (zi .eql 3 47 j 6) λk=>(LV 7 a 1 d/\opt (wa 42 a i c) λe=>opt (zd zz 42 a e) λl=>rv [l,k] e R)
def HR:=λc d (e:za) a (R:VK) (i:LK)=>
 zL zz (fn 68) [c,d] e (λf g=>opt (wa 42 a f g) λb=>opt (zd zz 42 a b) λh=>rv [h,.bool false] b R)
def Bo:=λa d (b:za) e (R:VK) (f:LK)=>
 opt (nb [a,.int .u8 5] (zT zz .andNot 5 (.tmp 50) (.const (.int .u8 5)) a (.int .u8 5))) λc=>opt (nb [c,.int .u8 64] (zT zz .eql 5 (.tmp 51) (.const (.int .u8 64)) c (.int .u8 64))) λg=>CD g (HR d a b e R)
 (λh=>h [.bool false] b)
 (λi j=>f [nth i 0] j)
def HS:=λa (c:za) (R:VK) (f:LK)=>
 opt (nb [.int .i64 22] (yo zz 42 [(0,(.int .i64 22))])) λd=>opt (wa 42 a d c) λb=>opt (zd zz 42 a b) λe=>rv [e,.bool false] b R
def dY:=λa b (c:za) d (R:VK) (f:LK)=>
 opt (nb [a,.int .u8 5] (zT zz .andNot 5 (.tmp 39) (.const (.int .u8 5)) a (.int .u8 5))) λe=>opt (nb [e,.int .u8 72] (zT zz .eql 5 (.tmp 40) (.const (.int .u8 72)) e (.int .u8 72))) λg=>CD g (λj=>zL zz (fn 67) [b,a] c (HQ d R))
 (Bo a b c d R)
 (λh i=>f [nth h 0] i)
def KY:=λa b (c:za) (R:VK) d (e:LK)=>
 opt (nb [a,.int .u8 195] (zT zz .eql 5 (.tmp 35) (.const (.int .u8 195)) a (.int .u8 195))) λf=>CD f (HS b c R)
 (dY a d c b R)
 (λg h=>e [nth g 0] h)
def UT:=λa b (c:za) d (R:VK) (e:LK)=>
 opt (nb [a,.int .u8 15] (zT zz .eql 5 (.tmp 22) (.const (.int .u8 15)) a (.int .u8 15))) λf=>CD f (λi=>zL zz (fn 64) [b] c (HO b d R))
 (KY a d c R b)
 (λg h=>e [nth g 0] h)
def Vd:=λa b (c:za) d (R:VK) (e:LK)=>
 opt (nb [a,.int .u8 232] (zT zz .eql 5 (.tmp 16) (.const (.int .u8 232)) a (.int .u8 232))) λf=>CD f (λi=>zL zz (fn 65) [b,.int .i64 4] c (HL d R))
 (UT a b c d R)
 (λg h=>e [nth g 0] h)
def X8:=λa b (c:za) d (R:VK) (e:LK)=>
 opt (nb [a,.int .u8 233] (zT zz .eql 5 (.tmp 10) (.const (.int .u8 233)) a (.int .u8 233))) λf=>CD f (λi=>zL zz (fn 65) [b,.int .i64 4] c (HK d R))
 (Vd a b c d R)
 (λg h=>e [nth g 0] h)
def Da:=λc a (R:VK) (h:List aaa) (d:za)=>
 WW 77 c 2 4 (.bool true) d λe=>opt (nb [] (yo zz 42 [])) λf=>opt (wa 42 a f e) λb=>opt (zd zz 42 a b) λg=>rv [g,.bool false] b R
def TI:=λ(h:za) a (R:VK)=>
 qO 42 h λb c=>zL zz (fn 64) [a] c (λd e=>BK (X8 d a e b R)
 (Da a b R))
theorem NH(hw:TI h t0 R):DC zz 32 [t0] h R:=j9 mixed (q:=qs) (n:=200) (Eq.mpr (by kernel_rfl) hw)
def Bk:=λd (a:za) b (R:VK) (g:LK)=>
 opt (zd zz 42 d a) λe=>opt (wa 42 b e a) λc=>opt (zd zz 42 b c) λf=>rv [f,.bool false] c R
def HB:=λf a b (R:VK) (j:List aaa) (c:za)=>
 opt (zd zz 2 f c) λg=>YZ 42 a 5 3 g c λd=>opt (zd zz 42 a d) λh=>opt (wa 42 b h d) λe=>opt (zd zz 42 b e) λi=>rv [i,.bool true] e R
def lQ:=λa f b c (R:VK) g h (d:za)=>
 zf a false (wZ .gtr 2 24 27 f h) d (λi e=>opt (pk a (.bool true) i) λj=>CD j (Bk b e c R)
 (λk=>k [.bool false] e)
 (HB g b c R)) d
def lR:=λa d e f (R:VK) g h (b:za)=>
 zf a false (zd zz 29 h b) b (λi c=>GD a false (λj=>zP (qo 29 i c) λk l=>j k l) (lQ a d e f R g) c) b
def HC:=λa b (R:VK) f (g:za)=>
 YZ 42 a 3 3 f g λc=>opt (zd zz 42 a c) λh=>opt (zk zz 42 a 3) λd=>opt (zd zz 3 d c) λi=>opt (zi .geq 3 43 i 0) λj=>(LV 7 b 1 d/\opt (wa 42 b h c) λe=>opt (zd zz 42 b e) λk=>rv [k,j] e R)
def HD:=λc (a:za) b d e (R:VK) (h:LK)=>
 zJ 31 c 1 22 a λf=>opt (nb ([]++[b]) (some (Value.func (.func 70) [].toArray [b].toArray))) λg=>zL zz (fn 69) [f,g] a (HC d e R)
def JR:=λb (a:za) e f g (R:VK) (j:LK)=>
 opt (zd zz 2 b a) λh=>opt (zi .lss 2 21 h 0) λc=>zf c false (zd zz 2 b a) a (λi d=>zf c false (zk zz 31 e 0) d (lR c i f g R b) d) a
def Bl:=λb c (a:za) d e f (R:VK) (g:LK)=>
 opt (zi .eql 3 17 b 21) λh=>CD h (HD c a d e f R)
 (λi=>i [.bool false] a)
 (λj k=>g [nth j 0] k)
def dO:=λa (c:za) d e f g (R:VK) (j:LK)=>
 opt (zi .eql 3 17 a 18) λh=>CD h (λb=>b [h] c)
 (λb=>opt (zi .eql 3 17 a 19) λk=>b [k] c)
 (λl i=>CD (nth l 0) (JR d i e f g R)
 (Bl a e i d f g R)
 (λm n=>j [nth m 0] n))
def CZ:=λb (c:za) h a i d (R:VK) (o:LK)=>
 opt (zd zz 2 b c) λj=>opt (wZ .sub 2 69 70 j h) λk=>opt (zk zz 42 a 3) λe=>(LV 1 e 1 b/\opt (wa 3 e (nth i 1) c) λl=>YZ 42 a 6 2 k l λf=>opt (zd zz 42 a f) λm=>opt (wa 42 d m f) λg=>opt (zd zz 42 d g) λn=>rv [n,.bool true] g R)
def dI:=λc d e f a g (R:VK) (h:LK) i (b:za)=>
 opt (pk c i (.bool false)) λj=>CD j (CZ d b e f a g R)
 (λk=>k [nth a 0] b)
 (λl m=>h [nth l 0] m)
def dJ:=λa c d e f g h (R:VK) (i:LK) j (b:za)=>
 zf a true (wZ .leq 2 60 65 c j) b (dI a d e f g h R i) b
def dK:=λa d e f g h i j (R:VK) (k:LK) l (c:za)=>
 zf a true (vG zz 22 d l) c (λm b=>zf a true (zd zz 3 m b) b (dJ a e f g h i j R k) b) c
def dL:=λa c e f g h i (R:VK) (j:LK) k (b:za)=>
 zf a true (zd zz 22 k b) b (λl d=>GD a true (λm=>m (nth c 1) d) (dK a l e f g h c i R j) d) b
def dM:=λa d e f g h i j (R:VK) (k:LK) l (b:za)=>
 zf a true (wZ .sub 2 58 59 d l) b (λm c=>zf a true (zk zz 31 e 2) c (dL a f m g h i j R k) c) b
def dN:=λg e (a:za) b h i j (R:VK) (k:LK)=>
 Z8 67 g (nth e 1) 2 a λc=>opt (zd zz 2 b a) λl=>opt (wZ .geq 2 54 55 l c) λd=>zf d true (zd zz 2 b a) a (λm f=>GD d true (λn=>n c f) (dM d m h e b c i j R k) f) a
def m7:=λa (b:LK) c (d:za)=>
 opt (zi .add 3 49 (nth a 1) 1) λe=>b [nth c 0,e] d
def C0:=λd (e:LK) f g h i j (R:VK) a (b:za) (k:LK)=>
 opt (wZ .lss 3 49 48 (nth a 1) d) λl=>CD l (λc=>c [] b)
 (λc=>e [nth a 0] b)
 (λn m=>BK (dN f a m g h i j R)
 (m7 a k))
def C1:=λd a (R:VK) (g:List aaa) (b:za)=>
 opt (zd zz 42 d b) λe=>opt (wa 42 a e b) λc=>opt (zd zz 42 a c) λf=>rv [f,.bool false] c R
def C2:=λd e a b (R:VK) f c (g:za)=>
 zP (qo 67 c g) λh i=>BK (λj=>LP (C0 h j c d e a b R)
 [nth f 0,.int .i64 0] i)
 (C1 a b R)
def m8:=λa c d e (R:VK) f (b:za)=>
 zJ 31 a 2 22 b λg=>zL zz (fn 25) [g] b (C2 c a d e R f)
def TD:=λ(h:za) c d j (R:VK)=>
 opt (nb [c] (some (Value.cells c).toList)) λk=>nw h k 31 λe l=>opt (nb [d] (some (Value.cells d).toList)) λm=>nw l m 42 λa n=>qO 42 n λf g=>zJ 42 a 6 2 g λo=>opt (wZ .add 2 11 13 j o) λp=>qO 2 g λb q=>opt (wa 2 b p q) λr=>YZ 42 a 6 2 (.int .i64 0) r λi=>zJ 42 a 0 3 i λs=>BK (dO s i b e a f R)
 (m8 e b a f R)
theorem Nz(hw:TD h t0 t1 t2 R):DC zz 33 [t0,t1,t2] h R:=j9 mixed (q:=qs) (n:=200) (Eq.mpr (by kernel_rfl) hw)
def Ny:=λ(h:za) a b (R:VK)=>
 opt (zd zz 2 b h) λc=>opt (wZ .eql 2 4 5 a c) λd=>rv [d] h R
theorem LB(hw:Ny h t0 t1 R):DC zz 70 [t0,t1] h R:=xY (by kernel_rfl) hw
def aV:=λe a (b:za) f (R:VK) (g:LK)=>
 Z8 22 e (nth a 1) 3 b λh=>zL zz f [h] b (λi c=>CD i (λd=>rv [nth a 1] c R)
 (λd=>d [nth a 0] c)
 (λj k=>g [nth j 0] k))
def aW:=λa (b:LK) c (d:za)=>
 opt (zi .add 3 8 (nth a 1) 1) λe=>b [nth c 0,e] d
def aX:=λd (e:LK) f g (R:VK) a (b:za) (h:LK)=>
 opt (wZ .lss 3 8 7 (nth a 1) d) λi=>CD i (λc=>c [] b)
 (λc=>e [nth a 0] b)
 (λk j=>BK (aV f a j g R)
 (aW a h))
def iR:=λ(h:za) a b (R:VK)=>
 zP (qo 22 a h) λc d=>BK (λe=>LP (aX c e a b R)
 [.int .i64 0,.int .i64 0] d)
 (λg f=>rv [.int .i64 (-1)] f R)
theorem mT(hw:iR h t0 t1 R):DC zz 69 [t0,t1] h R:=xY (by kernel_rfl) hw
def bN:=λa (c:za) (R:VK) (f:LK)=>
 opt (nb [] (yo zz 42 [])) λd=>opt (wa 42 a d c) λb=>opt (zd zz 42 a b) λe=>rv [e,.int .i64 0,.int .i64 1] b R
def mI:=λd (a:za) b e f (g:LK)=>
 opt (zd zz 31 d a) λh=>opt (zd zz 42 b a) λi=>Qa 77 e 1 3 a λj=>opt (wZ .add 3 44 48 f j) λk=>bB zz 33 [h,i,k] a (λc l=>opt (Jf c 0) λm=>opt (Jf c 1) λn=>opt (wa 42 b m l) λo=>g [n] o)
def Qx:=λa (c:za) (R:VK) (f:LK)=>
 opt (nb [] (yo zz 42 [])) λd=>opt (wa 42 a d c) λb=>opt (zd zz 42 a b) λe=>rv [e,.int .i64 0,.int .i64 7] b R
def mJ:=λe f a (R:VK) (k:List aaa) (b:za)=>
 opt (zd zz 42 e b) λg=>opt (Pt f) λh=>opt (zk zz 77 h 1) λc=>opt (zd zz 3 c b) λi=>(LV 7 a 1 c/\opt (wa 42 a g b) λd=>opt (zd zz 42 a d) λj=>rv [j,i,.int .i64 0] d R)
def Qy:=λa b (R:VK) c f g h (d:za)=>
 zf a false (r7 zz .not h) d (λi e=>opt (pk a (.bool true) i) λj=>CD j (Qx b e R)
 (λk=>k [nth c 0,nth c 1] e)
 (mJ f g b R)) d
def bO:=λa d e (R:VK) f g h i (b:za)=>
 zf a false (zd zz 22 i b) b (λj c=>GD a false (λk=>zL zz (fn 34) [d,j] c (λl m=>k l m)) (Qy a e R f g h) c) b
def bP:=λc e f (R:VK) g h i (a:za)=>
 opt (r7 zz .not (nth i 0)) λb=>zf b false (zd zz 42 c a) a (λj d=>zf b false (zk zz 31 e 2) d (bO b j f R g c h) d) a
def mK:=λa e h i (R:VK) j f (k:za)=>
 opt (Jf f 0) λl=>opt (Jf f 1) λm=>qO 42 k λb n=>opt (wa 42 b l n) λc=>Qa 77 a 2 4 c λo=>opt (r7 zz .not o) λd=>GD d true (λp=>p m c) (λq g=>opt (pk d q (.bool false)) λr=>CD r (mI e g b a h)
 (λs=>s [d] g)
 (bP b e i R j a)) c
def mL:=λc a h (R:VK) i (b:za)=>
 zJ 31 c 0 29 b λd=>opt (nb [d] (cond (PB (some a)&&PB none) (TM zz 29 d (some a) none b) none)) λe=>opt (nb [e] (yo zz 77 [(0,e)])) λf=>opt (nb [f] (some (Value.cells f).toList)) λj=>nw b j 77 λg k=>zL zz (fn 32) [g] k (mK g c a h R i)
def VS:=λa e b (R:VK) f g h (c:za)=>
 zf a false (wZ .geq 3 14 17 e h) c (λi d=>opt (pk a (.bool true) i) λj=>CD j (bN b d R)
 (λk=>k [.int .i64 0,.int .i64 0] d)
 (mL f g b R)) c
def VT:=λa d e (R:VK) f g h (b:za)=>
 zf a false (zd zz 29 h b) b (λi c=>GD a false (λj=>zP (qo 29 i c) λk l=>j k l) (VS a d e R f g) c) b
def CO:=λ(h:za) c a (R:VK)=>
 opt (nb [c] (some (Value.cells c).toList)) λg=>nw h g 31 λd i=>qO 42 i λj e=>opt (zi .lss 3 11 a 0) λb=>GD b false (λk=>k a e) (λl f=>zf b false (zk zz 31 d 0) f (VT b l j R d a) f) e
theorem CP(hw:CO h t0 t1 R):DC zz 16 [t0,t1] h R:=j9 mixed (q:=qs) (n:=200) (Eq.mpr (by kernel_rfl) hw)
end Go.Ed
namespace Go.Ai
open Go.Ai Go.Proofs
theorem gQ:FcN 132 5:=U4 (by kernel_rfl) (by kernel_rfl)
theorem xP:Ni 2:=jd (by kernel_rfl)
theorem Ye:Ni 4:=jd (by kernel_rfl)
theorem zbW:Ni 5:=jd (by kernel_rfl)
theorem zb2:FcA 48 42 7 56:=λr v x n w h h1 h2 h3 h4=>U5 (e:=42) (e2:=42) (by kernel_rfl) (by kernel_rfl) (by kernel_rfl) (by kernel_rfl) (by decide) h1 h2 h3 h4
theorem oK:FcM 132 5:=Vn (by kernel_rfl)
theorem LW:FcI 2:=λb o _ h=>jV (by kernel_rfl) b o _ h rfl
theorem j2(b off:Nat)(v:Bool)(h:za):vH Tryz.prog 4 (.pointer (some ⟨b,off,none⟩)) (.bool v) h=sU h b off [(.bool v)]:=jV (by kernel_rfl) b off _ h rfl
theorem oR:kX Tryz.prog 132=some (.agg #[(.int .i64 0),(.int .i64 0),(.bool false),(.bool false),(.int .i64 0)]):=yN (by kernel_rfl)
theorem zdf:kX Tryz.prog 2=some (.int .i64 0):=yN (by kernel_rfl)
theorem Gp(v0:Int)(v1:Int):yo Tryz.prog 132 [(0,(.int .i64 v0)),(1,(.int .i64 v1))]=some (.agg #[(.int .i64 v0),(.int .i64 v1),(.bool false),(.bool false),(.int .i64 0)]):=yN (by kernel_rfl)
theorem gU:yo Tryz.prog 42 []=some (.agg #[(.int .i64 0),(.int .i64 0),(.int .i64 0),(.int .i64 0),(.int .i64 0),(.int .i64 0),(.int .i64 0)]):=yN (by kernel_rfl)
theorem l7(v0:Int):yo Tryz.prog 42 [(0,(.int .i64 v0))]=some (.agg #[(.int .i64 v0),(.int .i64 0),(.int .i64 0),(.int .i64 0),(.int .i64 0),(.int .i64 0),(.int .i64 0)]):=yN (by kernel_rfl)
theorem i7(v0:Int)(v1:Int)(v2:Int):yo Tryz.prog 42 [(0,(.int .i64 v0)),(1,(.int .i64 v1)),(2,(.int .i64 v2))]=some (.agg #[(.int .i64 v0),(.int .i64 v1),(.int .i64 v2),(.int .i64 0),(.int .i64 0),(.int .i64 0),(.int .i64 0)]):=yN (by kernel_rfl)
theorem sD(v0:Int)(v1:Int)(v2:Int)(v6:Int):yo Tryz.prog 42 [(0,(.int .i64 v0)),(1,(.int .i64 v1)),(2,(.int .i64 v2)),(6,(.int .i64 v6))]=some (.agg #[(.int .i64 v0),(.int .i64 v1),(.int .i64 v2),(.int .i64 0),(.int .i64 0),(.int .i64 0),(.int .i64 v6)]):=yN (by kernel_rfl)
theorem Ej(v0:Int)(v1:Int)(v3:Int):yo Tryz.prog 42 [(0,(.int .i64 v0)),(1,(.int .i64 v1)),(3,(.int .i64 v3))]=some (.agg #[(.int .i64 v0),(.int .i64 v1),(.int .i64 0),(.int .i64 v3),(.int .i64 0),(.int .i64 0),(.int .i64 0)]):=yN (by kernel_rfl)
theorem Wg(v0:Int)(v1:Int)(v6:Int):yo Tryz.prog 42 [(0,(.int .i64 v0)),(1,(.int .i64 v1)),(6,(.int .i64 v6))]=some (.agg #[(.int .i64 v0),(.int .i64 v1),(.int .i64 0),(.int .i64 0),(.int .i64 0),(.int .i64 0),(.int .i64 v6)]):=yN (by kernel_rfl)
theorem L4(v0:Int)(v2:Int):yo Tryz.prog 42 [(0,(.int .i64 v0)),(2,(.int .i64 v2))]=some (.agg #[(.int .i64 v0),(.int .i64 0),(.int .i64 v2),(.int .i64 0),(.int .i64 0),(.int .i64 0),(.int .i64 0)]):=yN (by kernel_rfl)
theorem i9(v0:Int)(v3:Int)(v1:Int):yo Tryz.prog 42 [(0,(.int .i64 v0)),(3,(.int .i64 v3)),(1,(.int .i64 v1))]=some (.agg #[(.int .i64 v0),(.int .i64 v1),(.int .i64 0),(.int .i64 v3),(.int .i64 0),(.int .i64 0),(.int .i64 0)]):=yN (by kernel_rfl)
theorem XP(v0:Int)(v3:Int)(v1:Int)(v2:Int):yo Tryz.prog 42 [(0,(.int .i64 v0)),(3,(.int .i64 v3)),(1,(.int .i64 v1)),(2,(.int .i64 v2))]=some (.agg #[(.int .i64 v0),(.int .i64 v1),(.int .i64 v2),(.int .i64 v3),(.int .i64 0),(.int .i64 0),(.int .i64 0)]):=yN (by kernel_rfl)
theorem Kv(v0:Int)(v3:Int)(v1:Int)(v2:Int)(v6:Int):yo Tryz.prog 42 [(0,(.int .i64 v0)),(3,(.int .i64 v3)),(1,(.int .i64 v1)),(2,(.int .i64 v2)),(6,(.int .i64 v6))]=some (.agg #[(.int .i64 v0),(.int .i64 v1),(.int .i64 v2),(.int .i64 v3),(.int .i64 0),(.int .i64 0),(.int .i64 v6)]):=yN (by kernel_rfl)
theorem UA(v0:Int)(v3:Int)(v1:Int)(v6:Int):yo Tryz.prog 42 [(0,(.int .i64 v0)),(3,(.int .i64 v3)),(1,(.int .i64 v1)),(6,(.int .i64 v6))]=some (.agg #[(.int .i64 v0),(.int .i64 v1),(.int .i64 0),(.int .i64 v3),(.int .i64 0),(.int .i64 0),(.int .i64 v6)]):=yN (by kernel_rfl)
theorem Al(v0:Int)(v4:Int):yo Tryz.prog 42 [(0,(.int .i64 v0)),(4,(.int .i64 v4))]=some (.agg #[(.int .i64 v0),(.int .i64 0),(.int .i64 0),(.int .i64 0),(.int .i64 v4),(.int .i64 0),(.int .i64 0)]):=yN (by kernel_rfl)
theorem ah(v0:Int)(v6:Int):yo Tryz.prog 42 [(0,(.int .i64 v0)),(6,(.int .i64 v6))]=some (.agg #[(.int .i64 v0),(.int .i64 0),(.int .i64 0),(.int .i64 0),(.int .i64 0),(.int .i64 0),(.int .i64 v6)]):=yN (by kernel_rfl)
theorem RR(v0:Option Addr)(v0l v0c:Nat):yo Tryz.prog 77 [(0,(.slice v0 v0l v0c))]=some (.agg #[(.slice v0 v0l v0c),(.int .i64 0),(.bool false)]):=yN (by kernel_rfl)
theorem eN(v0:Int)(v1:Int)(v2:Int)(v3:Int)(v4:Int)(h:za):zj Tryz.prog 22 5 [(0,(.int .i64 v0)),(1,(.int .i64 v1)),(2,(.int .i64 v2)),(3,(.int .i64 v3)),(4,(.int .i64 v4))] h=some (.slice (some ⟨h.next,0,none⟩) 5 7,h.push (.cells [(.int .i64 v0),(.int .i64 v1),(.int .i64 v2),(.int .i64 v3),(.int .i64 v4)] 3)):=yN (by kernel_rfl)
theorem aM(v0:Int)(v1:Int)(v2:Int)(v3:Int)(v4:Int)(v5:Int)(h:za):zj Tryz.prog 22 6 [(0,(.int .i64 v0)),(1,(.int .i64 v1)),(2,(.int .i64 v2)),(3,(.int .i64 v3)),(4,(.int .i64 v4)),(5,(.int .i64 v5))] h=some (.slice (some ⟨h.next,0,none⟩) 6 8,h.push (.cells [(.int .i64 v0),(.int .i64 v1),(.int .i64 v2),(.int .i64 v3),(.int .i64 v4),(.int .i64 v5)] 3)):=yN (by kernel_rfl)
theorem uN(v0:Int)(v1:Int)(h:za):zj Tryz.prog 29 2 [(0,(.int .u8 v0)),(1,(.int .u8 v1))] h=some (.slice (some ⟨h.next,0,none⟩) 2 4,h.push (.cells [(.int .u8 v0),(.int .u8 v1)] 5)):=yN (by kernel_rfl)
theorem ph(n:Int)(h:za):w9 Tryz.prog 3 5 (.int .i64 n) h=some (.int .u8 (IntKind.wrap .u8 n),h):=yN (by kernel_rfl)
theorem Oy(n:Int)(h:za):w9 Tryz.prog 5 130 (.int .u8 n) h=some (.int .u64 (IntKind.wrap .u64 n),h):=yN (by kernel_rfl)
theorem zaI(n:Int)(h:za):w9 Tryz.prog 5 2 (.int .u8 n) h=some (.int .i64 (IntKind.wrap .i64 n),h):=yN (by kernel_rfl)
theorem pj(n:Int)(h:za):w9 Tryz.prog 5 3 (.int .u8 n) h=some (.int .i64 (IntKind.wrap .i64 n),h):=yN (by kernel_rfl)
theorem xZ:FcG 132 0:=λb o=>yN (by kernel_rfl)
theorem wJ:sW 132 1 1:=λb o=>yN (by kernel_rfl)
theorem Vs:sW 132 2 2:=λb o=>yN (by kernel_rfl)
theorem Vt:sW 132 3 3:=λb o=>yN (by kernel_rfl)
theorem Qe:sW 132 4 4:=λb o=>yN (by kernel_rfl)
theorem yy:sW 42 1 1:=λb o=>yN (by kernel_rfl)
theorem zn:sW 42 3 3:=λb o=>yN (by kernel_rfl)
theorem zC:sW 42 6 6:=λb o=>yN (by kernel_rfl)
theorem BR:FcG 77 0:=λb o=>yN (by kernel_rfl)
theorem eW:sW 77 1 1:=λb o=>yN (by kernel_rfl)
theorem yT:sW 77 2 2:=λb o=>yN (by kernel_rfl)
theorem Wi:FcX 22 1:=λb o l c k i=>Z0 (e:=3) (by kernel_rfl) (by kernel_rfl)
theorem zcD:FcX 29 1:=λb o l c k i=>Z0 (e:=5) (by kernel_rfl) (by kernel_rfl)
theorem B8:FcE 22:=λr a n c h=>yN (by kernel_rfl)
theorem O9:FcE 67:=λr a n c h=>yN (by kernel_rfl)
theorem VI(b off len c:Nat)(lo hi:Option aaa)(h:za):TM Tryz.prog 29 (.slice (some ⟨b,off,none⟩) len c) lo hi h=(jc hi len len).bind λhh=>(jc lo 0 hh).bind λl=>some (.slice (some ⟨b,off+l*1,none⟩) (hh-l) (cond (wide Tryz.prog h b 1) (QZ c l) 0)):=LX (e:=5) (by kernel_rfl) (by kernel_rfl)
end Go.Ai
namespace Go.Eb
open Go.Ai Go.Proofs Go.Proofs.Tryz
noncomputable abbrev zz:=prog
abbrev VK:=aaa->za->Prop
abbrev LK:=List aaa->za->Prop
abbrev ci(n:Int):Operand := .const (.int .i64 n)
abbrev fn(n:Nat):aaa := .func (.func n) #[] #[]
variable {h:za}{t0 t1 t2 t3 t4 t5 t6:aaa}{R:VK}
def qs:FuncId->Nat:=λg=>[0,0,0,0,0,0,0,0,0,0,0,0,0,0,0,0,0,0,0,0,0,0,0,2,3,3,3,0,2,3,3,0,0,0,0,0,0,2,2,3,0,0,0,0,0,0,0,3,2,2,3,2,3,0,0,0,0,2,3,2,2,2,2,3,0,0,0,0,0,0,0,0,0,0,0,0,0,0,0,0,0,0,0,2].getD g 0
theorem mixed:prog.follows .mixedOrders=true:=aci Tryz.checked
theorem xY{f:FuncId}{args:List aaa}{X:Prop}(e:Rz zz (bC zz qs) 200 f args h R=X)(hw:X):DC zz f args h R:=UO mixed (q:=qs) (n:=200) (Eq.mpr e hw)
def nG:=λa e (f:za) (g:LK)=>
 opt (nb [.int .i64 8,nth a 1] (zT zz .mul 3 (.const (.int .i64 8)) (.tmp 13) (.int .i64 8) (nth a 1))) λh=>opt (wZ .shr 2 12 14 e h) λb=>zP (nb [b] (w9 zz 2 5 b f)) λc i=>zP (nb [c] (zj zz 29 1 [(0,c)] i)) λd j=>zP (nb [nth a 0,d] (zF zz .append [29,29] 29 [nth a 0,d] j)) λk l=>g [k] l
def nH:=λa (b:LK) c (d:za)=>
 opt (zi .add 3 8 (nth a 1) 1) λe=>b [nth c 0,e] d
def nI:=λd (e:LK) f a (b:za) (g:LK)=>
 opt (wZ .lss 3 8 7 (nth a 1) d) λh=>CD h (λc=>c [] b)
 (λc=>e [nth a 0] b)
 (λj i=>BK (nG a f i)
 (nH a g))
def Dx:=λ(h:za) a b (R:VK)=>
 BK (λc=>LP (nI a c b)
 [.slice none 0 0,.int .i64 0] h)
 (λd e=>rv [nth d 0] e R)
theorem Dy(hw:Dx h t0 t1 R):DC zz 26 [t0,t1] h R:=xY (by kernel_rfl) hw
def HH:=λ(h:za) a (R:VK)=>
 zP (nb [a] (w9 zz 2 21 a h)) λb c=>zP (nb [b] (w9 zz 21 2 b c)) λd e=>opt (wZ .eql 2 3 6 a d) λf=>rv [f] e R
theorem F4(hw:HH h t0 R):DC zz 48 [t0] h R:=xY (by kernel_rfl) hw
def WT:=λd (R:VK) a (c:za)=>
 opt (zi .geq 3 11 d 8) λe=>CD e (λb=>opt (nb [nth a 0,.int .u8 1] (zT zz .or 5 (.tmp 13) (.const (.int .u8 1)) (nth a 0) (.int .u8 1))) λf=>b [f] c)
 (λb=>b [nth a 0] c)
 (λg h=>rv [nth g 0] h R)
def TK:=λ(h:za) a c d (R:VK)=>
 opt (zi .geq 3 7 c 8) λe=>CD e (λb=>opt (nb [a,.int .u8 4] (zT zz .or 5 (.tmp 9) (.const (.int .u8 4)) a (.int .u8 4))) λf=>b [f] h)
 (λb=>b [a] h)
 (WT d R)
theorem NN(hw:TK h t0 t1 t2 R):DC zz 49 [t0,t1,t2] h R:=xY (by kernel_rfl) hw
def DN:=λa k l (R:VK) b (m:za)=>
 zP (nb [b] (zj zz 29 1 [(0,b)] m)) λc n=>zP (nb [c,a] (zF zz .append [29,29] 29 [c,a] n)) λd o=>opt (zi .and 3 18 k 7) λe=>zP (nb [e] (w9 zz 3 5 e o)) λf p=>opt (nb [f,.int .u64 3] (zT zz .shl 5 (.tmp 20) (.const (.int .u64 3)) f (.int .u64 3))) λg=>opt (nb [.int .u8 192,g] (zT zz .or 5 (.const (.int .u8 192)) (.tmp 21) (.int .u8 192) g)) λq=>opt (zi .and 3 23 l 7) λh=>zP (nb [h] (w9 zz 3 5 h p)) λr s=>opt (wZ .or 5 22 25 q r) λi=>zP (nb [i] (zj zz 29 1 [(0,i)] s)) λj t=>zP (nb [d,j] (zF zz .append [29,29] 29 [d,j] t)) λu v=>rv [u] v R
def NM:=λ(h:za) c d a b (R:VK)=>
 zL zz (fn 49) [c,a,b] h (DN d a b R)
theorem LI(hw:NM h t0 t1 t2 t3 R):DC zz 47 [t0,t1,t2,t3] h R:=xY (by kernel_rfl) hw
def nJ:=λ(c:za) a (d:LK)=>
 zP (nb [.int .u8 36] (zj zz 29 1 [(0,(.int .u8 36))] c)) λb e=>zP (nb [a,b] (zF zz .append [29,29] 29 [a,b] e)) λf g=>d [f] g
def cr:=λc (R:VK) a (d:za)=>
 zL zz (fn 26) [.int .i64 4,c] d (λb e=>zP (nb [nth a 0,b] (zF zz .append [29,29] 29 [nth a 0,b] e)) λf g=>rv [f] g R)
def nK:=λa n b o (R:VK) c (p:za)=>
 zP (nb [c] (zj zz 29 1 [(0,c)] p)) λd q=>zP (nb [d,a] (zF zz .append [29,29] 29 [d,a] q)) λe r=>opt (zi .and 3 20 n 7) λf=>zP (nb [f] (w9 zz 3 5 f r)) λg s=>opt (nb [g,.int .u64 3] (zT zz .shl 5 (.tmp 22) (.const (.int .u64 3)) g (.int .u64 3))) λh=>opt (nb [.int .u8 128,h] (zT zz .or 5 (.const (.int .u8 128)) (.tmp 23) (.int .u8 128) h)) λt=>opt (zi .and 3 25 b 7) λi=>zP (nb [i] (w9 zz 3 5 i s)) λu v=>opt (wZ .or 5 24 27 t u) λj=>zP (nb [j] (zj zz 29 1 [(0,j)] v)) λk w=>zP (nb [e,k] (zF zz .append [29,29] 29 [e,k] w)) λl m=>opt (zi .and 3 31 b 7) λx=>opt (zi .eql 3 32 x 4) λy=>CD y (nJ m l)
 (λz=>z [l] m)
 (cr o R)
def Dz:=λ(h:za) c d a b e (R:VK)=>
 zL zz (fn 49) [c,a,b] h (nK d a b e R)
theorem DA(hw:Dz h t0 t1 t2 t3 t4 R):DC zz 50 [t0,t1,t2,t3,t4] h R:=xY (by kernel_rfl) hw
def aZ:=λb (h:za) (R:VK) (c:LK)=>
 opt (zi .eql 3 3 b 24) λd=>CD d (λa=>rv [.int .u8 14] h R)
 (λa=>a [.int .u8 0] h)
 (λe f=>c [nth e 0] f)
def a8:=λa (h:za) (R:VK) (b:LK)=>
 opt (zi .eql 3 3 a 26) λc=>CD c (λf=>rv [.int .u8 13] h R)
 (aZ a h R)
 (λd e=>b [nth d 0] e)
def a9:=λa (h:za) (R:VK) (b:LK)=>
 opt (zi .eql 3 3 a 23) λc=>CD c (λf=>rv [.int .u8 12] h R)
 (a8 a h R)
 (λd e=>b [nth d 0] e)
def ba:=λa (h:za) (R:VK) (b:LK)=>
 opt (zi .eql 3 3 a 22) λc=>CD c (λf=>rv [.int .u8 5] h R)
 (a9 a h R)
 (λd e=>b [nth d 0] e)
def bh:=λa (h:za) (R:VK) (b:LK)=>
 opt (zi .eql 3 3 a 21) λc=>CD c (λf=>rv [.int .u8 4] h R)
 (ba a h R)
 (λd e=>b [nth d 0] e)
def iS:=λ(h:za) a (R:VK)=>
 BK (bh a h R)
 (λc b=>rv [.int .u8 15] b R)
theorem nc(hw:iS h t0 R):DC zz 83 [t0] h R:=xY (by kernel_rfl) hw
def KW:=λb (h:za) (R:VK) (c:LK)=>
 opt (zi .eql 3 3 b 17) λd=>CD d (λa=>rv [.int .u8 9] h R)
 (λa=>a [.int .u8 0] h)
 (λe f=>c [nth e 0] f)
def VW:=λa (h:za) (R:VK) (b:LK)=>
 opt (zi .eql 3 3 a 16) λc=>CD c (λf=>rv [.int .u8 33] h R)
 (KW a h R)
 (λd e=>b [nth d 0] e)
def XX:=λa (h:za) (R:VK) (b:LK)=>
 opt (zi .eql 3 3 a 12) λc=>CD c (λf=>rv [.int .u8 41] h R)
 (VW a h R)
 (λd e=>b [nth d 0] e)
def YN:=λa (h:za) (R:VK) (b:LK)=>
 opt (zi .eql 3 3 a 11) λc=>CD c (λf=>rv [.int .u8 1] h R)
 (XX a h R)
 (λd e=>b [nth d 0] e)
def tD:=λ(h:za) a (R:VK)=>
 BK (YN a h R)
 (λc b=>rv [.int .u8 49] b R)
theorem Bm(hw:tD h t0 R):DC zz 51 [t0] h R:=xY (by kernel_rfl) hw
def HT:=λd (e:za) (R:VK) a (b:za)=>
 opt (zk zz 42 d 6) λf=>opt (zd zz 2 f (trim b e.next)) λg=>Ue zz 26 [.int .i64 4,g] b (λc h=>zP (nb [a,c] (zF zz .append [29,29] 29 [a,c] h)) λi j=>rv [i] j R)
def HU:=λ(a:za) b (R:VK) (g:LK)=>
 zP (nb [.int .u8 199] (zj zz 29 1 [(0,(.int .u8 199))] a)) λd c=>opt (zk zz 42 b 1) λe=>opt (zd zz 3 e (trim c a.next)) λf=>Ue zz 47 [.int .u8 72,d,.int .i64 0,f] c (HT b a R)
def HV:=λc (d:za) (R:VK) e=>
 zJ 42 c 1 3 d λj=>opt (zi .and 3 30 j 7) λf=>zP (nb [f] (w9 zz 3 5 f d)) λg b=>opt (nb [.int .u8 184,g] (zT zz .add 5 (.const (.int .u8 184)) (.tmp 32) (.int .u8 184) g)) λh=>zP (nb [e,h] (zj zz 29 2 [(0,e),(1,h)] b)) λk a=>opt (zk zz 42 c 6) λl=>opt (zd zz 2 l (cut a b.next a.next)) λm=>Vp zz 26 [.int .i64 8,m] (cut a b.next a.next) a (λn i=>oI zz [29,29] 29 [k,n] (some (b.next,a.next)) i i (λo p=>rv [o] p R))
def HW:=λb (R:VK) (d:List aaa) (a:za)=>
 zJ 42 b 1 3 a λc=>U8 zz 49 [.int .u8 72,.int .i64 0,c] a (HV b a R)
def HX:=λ(c:za) b (R:VK) (j:LK)=>
 zP (nb [.int .u8 99] (zj zz 29 1 [(0,(.int .u8 99))] c)) λd a=>zJ 42 b 1 3 a λe=>zJ 42 b 2 3 a λf=>zJ 42 b 6 2 a λg=>zL zz (fn 50) [.int .u8 72,d,e,f,g] a (λh i=>rv [h] i R)
def HY:=λ(c:za) b (R:VK) (j:LK)=>
 zP (nb [.int .u8 139] (zj zz 29 1 [(0,(.int .u8 139))] c)) λd a=>zJ 42 b 1 3 a λe=>zJ 42 b 2 3 a λf=>zJ 42 b 6 2 a λg=>zL zz (fn 50) [.int .u8 72,d,e,f,g] a (λh i=>rv [h] i R)
def Bp:=λb (a:za) c (R:VK) (d:LK)=>
 opt (zi .eql 3 42 b 4) λe=>CD e (HX a c R)
 (λf=>f [.slice none 0 0] a)
 (λg h=>d [nth g 0] h)
def l6:=λa (b:za) c (R:VK) (d:LK)=>
 opt (zi .eql 3 42 a 8) λe=>CD e (HY b c R)
 (Bp a b c R)
 (λf g=>d [nth f 0] g)
def HZ:=λb (R:VK) (j:List aaa) (c:za)=>
 zP (nb [.int .u8 15,.int .u8 190] (zj zz 29 2 [(0,(.int .u8 15)),(1,(.int .u8 190))] c)) λd a=>zJ 42 b 1 3 a λe=>zJ 42 b 2 3 a λf=>zJ 42 b 6 2 a λg=>zL zz (fn 50) [.int .u8 72,d,e,f,g] a (λh i=>rv [h] i R)
def De:=λ(c:za) b (R:VK) (j:LK)=>
 zP (nb [.int .u8 137] (zj zz 29 1 [(0,(.int .u8 137))] c)) λd a=>zJ 42 b 1 3 a λe=>zJ 42 b 2 3 a λf=>zJ 42 b 6 2 a λg=>zL zz (fn 50) [.int .u8 64,d,e,f,g] a (λh i=>rv [h] i R)
def Df:=λ(c:za) b (R:VK) (j:LK)=>
 zP (nb [.int .u8 137] (zj zz 29 1 [(0,(.int .u8 137))] c)) λd a=>zJ 42 b 1 3 a λe=>zJ 42 b 2 3 a λf=>zJ 42 b 6 2 a λg=>zL zz (fn 50) [.int .u8 72,d,e,f,g] a (λh i=>rv [h] i R)
def nq:=λb (a:za) c (R:VK) (d:LK)=>
 opt (zi .eql 3 74 b 4) λe=>CD e (De a c R)
 (λf=>f [.slice none 0 0] a)
 (λg h=>d [nth g 0] h)
def dZ:=λa (b:za) c (R:VK) (d:LK)=>
 opt (zi .eql 3 74 a 8) λe=>CD e (Df b c R)
 (nq a b c R)
 (λf g=>d [nth f 0] g)
def Dg:=λb (R:VK) (j:List aaa) (c:za)=>
 zP (nb [.int .u8 136] (zj zz 29 1 [(0,(.int .u8 136))] c)) λd a=>zJ 42 b 1 3 a λe=>zJ 42 b 2 3 a λf=>zJ 42 b 6 2 a λg=>zL zz (fn 50) [.int .u8 64,d,e,f,g] a (λh i=>rv [h] i R)
def Dh:=λj (c:za) (R:VK) d=>
 zJ 42 j 1 3 c λk=>opt (zi .and 3 119 k 7) λe=>zP (nb [e] (w9 zz 3 5 e c)) λf b=>opt (nb [f,.int .u64 3] (zT zz .shl 5 (.tmp 121) (.const (.int .u64 3)) f (.int .u64 3))) λg=>opt (nb [.int .u8 5,g] (zT zz .or 5 (.const (.int .u8 5)) (.tmp 122) (.int .u8 5) g)) λh=>zP (nb [d,.int .u8 141,h] (zj zz 29 3 [(0,d),(1,(.int .u8 141)),(2,h)] b)) λl a=>Vp zz 26 [.int .i64 4,.int .i64 0] (cut a b.next a.next) a (λm i=>oI zz [29,29] 29 [l,m] (some (b.next,a.next)) i i (λn o=>rv [n] o R))
def Di:=λ(c:za) b (R:VK) (i:LK)=>
 zP (nb [.int .u8 15,.int .u8 175] (zj zz 29 2 [(0,(.int .u8 15)),(1,(.int .u8 175))] c)) λd a=>zJ 42 b 1 3 a λe=>zJ 42 b 2 3 a λf=>zL zz (fn 47) [.int .u8 72,d,e,f] a (λg h=>rv [g] h R)
def Dj:=λ(a:za) c (R:VK) d=>
 zP (nb [d] (zj zz 29 1 [(0,d)] a)) λe b=>opt (zk zz 42 c 2) λf=>opt (zd zz 3 f (trim b a.next)) λg=>opt (zk zz 42 c 1) λh=>opt (zd zz 3 h (trim b a.next)) λi=>Ue zz 47 [.int .u8 72,e,g,i] b (λj k=>rv [j] k R)
def Dk:=λd (e:za) (R:VK) a (b:za)=>
 opt (zk zz 42 d 6) λf=>opt (zd zz 2 f (trim b e.next)) λg=>Ue zz 26 [.int .i64 4,g] b (λc h=>zP (nb [a,c] (zF zz .append [29,29] 29 [a,c] h)) λi j=>rv [i] j R)
def Dl:=λ(a:za) b (R:VK) (i:LK)=>
 zP (nb [.int .u8 105] (zj zz 29 1 [(0,(.int .u8 105))] a)) λd c=>opt (zk zz 42 b 1) λe=>opt (zd zz 3 e (trim c a.next)) λf=>opt (zk zz 42 b 1) λg=>opt (zd zz 3 g (trim c a.next)) λh=>Ue zz 47 [.int .u8 72,d,f,h] c (Dk b a R)
def Dm:=λd (e f g:za) (R:VK) b (a:za)=>
 opt (zk zz 42 d 6) λh=>opt (zd zz 2 h (cut (cut a e.next f.next) g.next a.next)) λi=>Vp zz 26 [.int .i64 4,i] a a (λc j=>zP (nb [b,c] (zF zz .append [29,29] 29 [b,c] j)) λk l=>rv [k] l R)
def Dn:=λ(b:za) c (d:za) g (R:VK) e=>
 opt (nb [e,.int .u64 3] (zT zz .shr 5 (.tmp 165) (.const (.int .u64 3)) e (.int .u64 3))) λf=>zP (nb [f] (w9 zz 5 3 f b)) λh a=>opt (zk zz 42 c 1) λi=>opt (zd zz 3 i (cut a d.next b.next)) λj=>Vp zz 47 [.int .u8 72,g,h,j] a a (Dm c d b a R)
def Dp:=λc (R:VK) (g:List aaa) (b:za)=>
 zP (nb [.int .u8 129] (zj zz 29 1 [(0,(.int .u8 129))] b)) λd a=>opt (zk zz 42 c 3) λe=>opt (zd zz 3 e (cut a b.next a.next)) λf=>U8 zz 51 [f] (cut a b.next a.next) (Dn a c b d R)
def Dq:=λd (e:za) (R:VK) a (b:za)=>
 opt (zk zz 42 d 6) λf=>opt (zd zz 2 f (trim b e.next)) λg=>Ue zz 26 [.int .i64 4,g] b (λc h=>zP (nb [a,c] (zF zz .append [29,29] 29 [a,c] h)) λi j=>rv [i] j R)
def Dr:=λ(d:za) e (R:VK) (j:LK)=>
 zP (nb [.int .u8 72,.int .u8 129,.int .u8 196] (zj zz 29 3 [(0,(.int .u8 72)),(1,(.int .u8 129)),(2,(.int .u8 196))] d)) λa b=>zJ 42 e 6 2 b λf=>zL zz (fn 26) [.int .i64 4,f] b (λc g=>zP (nb [a,c] (zF zz .append [29,29] 29 [a,c] g)) λh i=>rv [h] i R)
def Ds:=λ(d:za) e (R:VK) (j:LK)=>
 zP (nb [.int .u8 72,.int .u8 129,.int .u8 236] (zj zz 29 3 [(0,(.int .u8 72)),(1,(.int .u8 129)),(2,(.int .u8 236))] d)) λa b=>zJ 42 e 6 2 b λf=>zL zz (fn 26) [.int .i64 4,f] b (λc g=>zP (nb [a,c] (zF zz .append [29,29] 29 [a,c] g)) λh i=>rv [h] i R)
def nu:=λb (a:za) c (R:VK) (d:LK)=>
 opt (zi .eql 3 4 b 24) λe=>CD e (Dr a c R)
 (λf=>f [.slice none 0 0] a)
 (λg h=>d [nth g 0] h)
def Dt:=λ(a:za) b (R:VK) (g:LK)=>
 zP (nb [.int .u8 129] (zj zz 29 1 [(0,(.int .u8 129))] a)) λd c=>opt (zk zz 42 b 1) λe=>opt (zd zz 3 e (trim c a.next)) λf=>Ue zz 47 [.int .u8 72,d,.int .i64 7,f] c (Dq b a R)
def eh:=λa (b:za) c (R:VK) (d:LK)=>
 opt (zi .eql 3 4 a 23) λe=>CD e (Ds b c R)
 (nu a b c R)
 (λf g=>d [nth f 0] g)
def nv:=λa (b:za) (R:VK) (f:LK)=>
 zJ 42 a 3 3 b λc=>opt (zi .eql 3 150 c 13) λd=>CD d (Dl b a R)
 (λe=>e [.slice none 0 0] b)
 (Dp a R)
def KZ:=λa (b:za) c (R:VK) (d:LK)=>
 opt (zi .eql 3 4 a 16) λe=>CD e (Dt b c R)
 (eh a b c R)
 (λf g=>d [nth f 0] g)
def nz:=λa (b:za) (R:VK) (h:LK)=>
 zJ 42 a 3 3 b λd=>opt (zi .eql 3 130 d 13) λe=>CD e (Di b a R)
 (λf=>f [.slice none 0 0] b)
 (λi c=>zJ 42 a 3 3 c λg=>U8 zz 51 [g] c (Dj c a R))
def Ve:=λa b (c:za) (R:VK) (d:LK)=>
 opt (zi .eql 3 4 a 8) λe=>CD e (nv b c R)
 (KZ a c b R)
 (λf g=>d [nth f 0] g)
def Du:=λb (a:za) (R:VK) (d:LK)=>
 zJ 42 b 1 3 a λc=>U8 zz 49 [.int .u8 72,c,.int .i64 0] a (Dh b a R)
def Y7:=λa b (c:za) (R:VK) (d:LK)=>
 opt (zi .eql 3 4 a 7) λe=>CD e (nz b c R)
 (Ve a b c R)
 (λf g=>d [nth f 0] g)
def Dv:=λ(c:za) b (R:VK) (j:LK)=>
 zP (nb [.int .u8 141] (zj zz 29 1 [(0,(.int .u8 141))] c)) λd a=>zJ 42 b 1 3 a λe=>zJ 42 b 2 3 a λf=>zJ 42 b 6 2 a λg=>zL zz (fn 50) [.int .u8 72,d,e,f,g] a (λh i=>rv [h] i R)
def Yb:=λa b (c:za) (R:VK) (d:LK)=>
 opt (zi .eql 3 4 a 6) λe=>CD e (Du b c R)
 (Y7 a b c R)
 (λf g=>d [nth f 0] g)
def ZD:=λa (b:za) c (R:VK) (d:LK)=>
 opt (zi .eql 3 4 a 5) λe=>CD e (Dv b c R)
 (Yb a c b R)
 (λf g=>d [nth f 0] g)
def ko:=λc a (b:za) (R:VK) (d:LK)=>
 opt (zi .eql 3 4 c 4) λe=>CD e (λi=>zJ 42 a 3 3 b λf=>BK (dZ f b a R)
 (Dg a R))
 (ZD c b a R)
 (λg h=>d [nth g 0] h)
def nB:=λa (b:za) (R:VK) (g:LK)=>
 zJ 42 a 6 2 b λd=>zL zz (fn 48) [d] b (λe c=>CD e (HU c a R)
 (λf=>f [.slice none 0 0] c)
 (HW a R))
def qa:=λc a (b:za) (R:VK) (d:LK)=>
 opt (zi .eql 3 4 c 3) λe=>CD e (λi=>zJ 42 a 3 3 b λf=>BK (l6 f b a R)
 (HZ a R))
 (ko c a b R)
 (λg h=>d [nth g 0] h)
def Dw:=λ(c:za) b (R:VK) (i:LK)=>
 zP (nb [.int .u8 137] (zj zz 29 1 [(0,(.int .u8 137))] c)) λd a=>zJ 42 b 2 3 a λe=>zJ 42 b 1 3 a λf=>zL zz (fn 47) [.int .u8 72,d,e,f] a (λg h=>rv [g] h R)
def uD:=λa b (c:za) (R:VK) (d:LK)=>
 opt (zi .eql 3 4 a 2) λe=>CD e (nB b c R)
 (qa a b c R)
 (λf g=>d [nth f 0] g)
def yQ:=λa (b:za) c (R:VK) (d:LK)=>
 opt (zi .eql 3 4 a 1) λe=>CD e (Dw b c R)
 (uD a c b R)
 (λf g=>d [nth f 0] g)
def TJ:=λ(h:za) b (R:VK)=>
 opt (nb [b] (some (Value.cells b).toList)) λe=>nw h e 42 λa c=>zJ 42 a 0 3 c λf=>BK (yQ f c a R)
 (λk d=>opt (zd zz 42 a d) λg=>zL zz (fn 52) [g] d (λi j=>rv [i] j R))
theorem NJ(hw:TJ h t0 R):DC zz 24 [t0] h R:=j9 mixed (q:=qs) (n:=200) (Eq.mpr (by kernel_rfl) hw)
def gy:=λb (R:VK) c (d:za)=>
 zP (nb [.int .u8 247] (zj zz 29 1 [(0,(.int .u8 247))] d)) λe a=>zJ 42 b 1 3 a λf=>zL zz (fn 47) [.int .u8 72,e,nth c 0,f] a (λg h=>rv [g] h R)
def tV:=λ(c:za) b (R:VK) (i:LK)=>
 zP (nb [.int .u8 15,.int .u8 190] (zj zz 29 2 [(0,(.int .u8 15)),(1,(.int .u8 190))] c)) λd a=>zJ 42 b 1 3 a λe=>zJ 42 b 2 3 a λf=>zL zz (fn 47) [.int .u8 72,d,e,f] a (λg h=>rv [g] h R)
def tW:=λb (R:VK) (i:List aaa) (c:za)=>
 zP (nb [.int .u8 99] (zj zz 29 1 [(0,(.int .u8 99))] c)) λd a=>zJ 42 b 1 3 a λe=>zJ 42 b 2 3 a λf=>zL zz (fn 47) [.int .u8 72,d,e,f] a (λg h=>rv [g] h R)
def gz:=λg (h b:za) (R:VK) c (a:za)=>
 opt (zk zz 42 g 6) λi=>opt (zd zz 2 i (cut (cut a h.next b.next) b.next a.next)) λd=>zP (nb [d] (w9 zz 2 5 d a)) λe j=>zP (nb [e] (zj zz 29 1 [(0,e)] j)) λf k=>zP (nb [c,f] (zF zz .append [29,29] 29 [c,f] k)) λl m=>rv [l] m R
def gB:=λ(b:za) c d (R:VK) (h:LK)=>
 zP (nb [.int .u8 193] (zj zz 29 1 [(0,(.int .u8 193))] b)) λe a=>opt (zk zz 42 c 1) λf=>opt (zd zz 3 f (cut a b.next a.next)) λg=>Vp zz 47 [.int .u8 72,e,nth d 0,g] a a (gz c b a R)
def gC:=λb c (R:VK) (i:List aaa) (d:za)=>
 zP (nb [.int .u8 211] (zj zz 29 1 [(0,(.int .u8 211))] d)) λe a=>zJ 42 b 1 3 a λf=>zL zz (fn 47) [.int .u8 72,e,nth c 0,f] a (λg h=>rv [g] h R)
def UW:=λa (R:VK) c (b:za)=>
 zJ 42 a 0 3 b λd=>opt (zi .eql 3 41 d 11) λe=>CD e (gB b a c R)
 (λf=>f [.slice none 0 0] b)
 (gC a c R)
def tX:=λd (e c:za) (R:VK) f (b:za)=>
 zP (nb [.int .u8 15,.int .u8 182] (zj zz 29 2 [(0,(.int .u8 15)),(1,(.int .u8 182))] b)) λh a=>opt (zk zz 42 d 1) λi=>opt (zd zz 3 i (cut (cut (cut a e.next c.next) c.next b.next) b.next a.next)) λj=>opt (zk zz 42 d 1) λk=>opt (zd zz 3 k (cut (cut (cut a e.next c.next) c.next b.next) b.next a.next)) λl=>Vp zz 47 [.int .u8 72,h,j,l] a a (λg m=>zP (nb [f,g] (zF zz .append [29,29] 29 [f,g] m)) λn o=>rv [n] o R)
def tY:=λ(b:za) c (R:VK) d=>
 opt (nb [.int .u8 144,d] (zT zz .add 5 (.const (.int .u8 144)) (.tmp 79) (.int .u8 144) d)) λe=>zP (nb [.int .u8 15,e] (zj zz 29 2 [(0,(.int .u8 15)),(1,e)] b)) λf a=>opt (zk zz 42 c 1) λg=>opt (zd zz 3 g (cut a b.next a.next)) λh=>Vp zz 47 [.int .u8 64,f,.int .i64 0,h] a a (tX c b a R)
def nZ:=λ(R:VK) a (e:za)=>
 opt (nb [.int .u8 128,a] (zT zz .add 5 (.const (.int .u8 128)) (.tmp 101) (.int .u8 128) a)) λb=>zP (nb [.int .u8 15,b] (zj zz 29 2 [(0,(.int .u8 15)),(1,b)] e)) λc f=>zL zz (fn 26) [.int .i64 4,.int .i64 0] f (λd g=>zP (nb [c,d] (zF zz .append [29,29] 29 [c,d] g)) λh i=>rv [h] i R)
def cD:=λc (a:za) (R:VK) (d:LK)=>
 opt (zi .eql 3 6 c 26) λe=>CD e (λb=>zP (nb [.int .u8 72,.int .u8 239] (zj zz 29 2 [(0,(.int .u8 72)),(1,(.int .u8 239))] a)) λf g=>rv [f] g R)
 (λb=>b [.slice none 0 0] a)
 (λh i=>d [nth h 0] i)
def QM:=λa (b:za) (R:VK) (c:LK)=>
 opt (zi .eql 3 6 a 25) λd=>CD d (λi=>zP (nb [.int .u8 72,.int .u8 237] (zj zz 29 2 [(0,(.int .u8 72)),(1,(.int .u8 237))] b)) λe f=>rv [e] f R)
 (cD a b R)
 (λg h=>c [nth g 0] h)
def n7:=λ(c:za) (R:VK) (h:LK)=>
 zP (nb [.int .u8 232] (zj zz 29 1 [(0,(.int .u8 232))] c)) λa d=>zL zz (fn 26) [.int .i64 4,.int .i64 0] d (λb e=>zP (nb [a,b] (zF zz .append [29,29] 29 [a,b] e)) λf g=>rv [f] g R)
def Vg:=λa (b:za) (R:VK) (c:LK)=>
 opt (zi .eql 3 6 a 22) λd=>CD d (λi=>zP (nb [.int .u8 195] (zj zz 29 1 [(0,(.int .u8 195))] b)) λe f=>rv [e] f R)
 (QM a b R)
 (λg h=>c [nth g 0] h)
def Xv:=λa (b:za) (R:VK) (c:LK)=>
 opt (zi .eql 3 6 a 21) λd=>CD d (n7 b R)
 (Vg a b R)
 (λe f=>c [nth e 0] f)
def oa:=λ(c:za) (R:VK) (h:LK)=>
 zP (nb [.int .u8 233] (zj zz 29 1 [(0,(.int .u8 233))] c)) λa d=>zL zz (fn 26) [.int .i64 4,.int .i64 0] d (λb e=>zP (nb [a,b] (zF zz .append [29,29] 29 [a,b] e)) λf g=>rv [f] g R)
def Yp:=λb c (a:za) (R:VK) (d:LK)=>
 opt (zi .eql 3 6 b 19) λe=>CD e (λi=>zJ 42 c 4 3 a λf=>zL zz (fn 83) [f] a (nZ R))
 (Xv b a R)
 (λg h=>d [nth g 0] h)
def ZE:=λa (b:za) (R:VK) c (d:LK)=>
 opt (zi .eql 3 6 a 18) λe=>CD e (oa b R)
 (Yp a c b R)
 (λf g=>d [nth f 0] g)
def oc:=λ(c:za) b (R:VK) (i:LK)=>
 zP (nb [.int .u8 57] (zj zz 29 1 [(0,(.int .u8 57))] c)) λd a=>zJ 42 b 2 3 a λe=>zJ 42 b 1 3 a λf=>zL zz (fn 47) [.int .u8 72,d,e,f] a (λg h=>rv [g] h R)
def jS:=λc b (a:za) (R:VK) (d:LK)=>
 opt (zi .eql 3 6 c 17) λe=>CD e (λi=>zJ 42 b 4 3 a λf=>U8 zz 83 [f] a (tY a b R))
 (ZE c a R b)
 (λg h=>d [nth g 0] h)
def od:=λ(b:za) c (R:VK) (h:LK)=>
 zP (nb [.int .u8 247] (zj zz 29 1 [(0,(.int .u8 247))] b)) λd a=>zJ 42 c 2 3 a λe=>zL zz (fn 47) [.int .u8 72,d,.int .i64 7,e] a (λf g=>rv [f] g R)
def kR:=λa (b:za) c (R:VK) (d:LK)=>
 opt (zi .eql 3 6 a 15) λe=>CD e (oc b c R)
 (jS a c b R)
 (λf g=>d [nth f 0] g)
def qG:=λa (b:za) c (R:VK) (d:LK)=>
 opt (zi .eql 3 6 a 14) λe=>CD e (od b c R)
 (kR a b c R)
 (λf g=>d [nth f 0] g)
def Vh:=λc (a:za) (R:VK) (f:LK)=>
 zJ 42 c 3 3 a λd=>opt (zi .eql 3 38 d 20) λe=>CD e (λb=>b [.int .i64 7] a)
 (λb=>b [.int .i64 4] a)
 (UW c R)
def qk:=λa (b:za) (R:VK) c (d:LK)=>
 opt (zi .eql 3 6 a 13) λe=>CD e (λj=>zP (nb [.int .u8 72,.int .u8 153] (zj zz 29 2 [(0,(.int .u8 72)),(1,(.int .u8 153))] b)) λf g=>rv [f] g R)
 (qG a b c R)
 (λh i=>d [nth h 0] i)
def cE:=λa (b:za) (R:VK) (f:LK)=>
 zJ 42 a 3 3 b λc=>opt (zi .eql 3 20 c 3) λd=>CD d (tV b a R)
 (λe=>e [.slice none 0 0] b)
 (tW a R)
def vM:=λa (c:za) d (R:VK) (g:LK)=>
 opt (zi .eql 3 6 a 11) λe=>CD e (λb=>b [e] c)
 (λb=>opt (zi .eql 3 6 a 12) λh=>b [h] c)
 (λi f=>CD (nth i 0) (Vh d f R)
 (qk a f R d)
 (λj k=>g [nth j 0] k))
def cF:=λc (a:za) (R:VK) (f:LK)=>
 zJ 42 c 3 3 a λd=>opt (zi .eql 3 10 d 1) λe=>CD e (λb=>b [.int .i64 3] a)
 (λb=>b [.int .i64 2] a)
 (gy c R)
def vo:=λa b (c:za) (R:VK) (d:LK)=>
 opt (zi .eql 3 6 a 10) λe=>CD e (cE b c R)
 (vM a c b R)
 (λf g=>d [nth f 0] g)
def z7:=λa b (c:za) (R:VK) (d:LK)=>
 opt (zi .eql 3 6 a 9) λe=>CD e (cF b c R)
 (vo a b c R)
 (λf g=>d [nth f 0] g)
def H4:=λ(h:za) a (R:VK)=>
 opt (nb [a] (some (Value.cells a).toList)) λd=>nw h d 42 λb c=>zJ 42 b 0 3 c λe=>BK (z7 e b c R)
 (λg f=>rv [.slice none 0 0] f R)
theorem F9(hw:H4 h t0 R):DC zz 52 [t0] h R:=j9 mixed (q:=qs) (n:=200) (Eq.mpr (by kernel_rfl) hw)
def nW:=λd a (b:za) (e:LK)=>
 Z8 22 d (nth a 2) 3 b λf=>zP (nb [nth a 0] (zj zz 67 1 [(0,(nth a 0))] b)) λc g=>zP (nb [nth a 1,c] (zF zz .append [67,67] 67 [nth a 1,c] g)) λh i=>opt (zi .add 2 18 f 16) λj=>opt (zi .add 2 19 j 16) λk=>opt (zi .sub 2 20 k 1) λl=>opt (zi .quo 2 21 l 16) λm=>opt (zi .mul 2 22 m 16) λn=>opt (wZ .add 2 17 23 (nth a 0) n) λo=>e [o,h] i
def nX:=λb (c:LK) a (d:za)=>
 opt (zi .add 3 9 (nth b 2) 1) λe=>c [nth a 0,nth a 1,e] d
def nY:=λd (e:LK) f a (b:za) (g:LK)=>
 opt (wZ .lss 3 9 8 (nth a 2) d) λh=>CD h (λc=>c [] b)
 (λc=>e [nth a 1] b)
 (λj i=>BK (nW f a i)
 (nX a g))
def DL:=λ(h:za) a (R:VK)=>
 zP (qo 22 a h) λb c=>BK (λd=>LP (nY b d a)
 [.int .i64 16777216,.slice none 0 0,.int .i64 0] c)
 (λe f=>rv [nth e 0] f R)
theorem DM(hw:DL h t0 R):DC zz 25 [t0] h R:=xY (by kernel_rfl) hw
def bQ:=λa (c:za) (R:VK) (f:LK)=>
 opt (nb [] (yo zz 31 [])) λd=>opt (wa 31 a d c) λb=>opt (zd zz 31 a b) λe=>rv [e,.int .i64 1] b R
def mN:=λe f (a:za) g b (h:LK)=>
 Z8 64 e (nth f 2) 65 a λc=>zJ 42 g 5 3 a λd=>opt (nb [c,d,nth b 0] (qI zz 65 c d (nth b 0) a)) λi=>h [] i
def bR:=λa (b:LK) c (d:za)=>
 zP (qo 29 c d) λe f=>opt (wZ .add 3 71 74 (nth a 0) e) λg=>b [g] f
def mO:=λf b (d:za) g h (i:LK)=>
 Z8 48 f (nth b 1) 42 d λj=>qO 42 d λa k=>opt (wa 42 a j k) λc=>zJ 42 a 0 3 c λl=>opt (zi .eql 3 62 l 20) λm=>CD m (mN g h c a b)
 (λn=>n [] c)
 (λp e=>opt (zd zz 42 a e) λo=>zL zz (fn 24) [o] e (bR b i))
def bT:=λa (b:LK) c (d:za)=>
 opt (zi .add 3 57 (nth a 1) 1) λe=>b [nth c 0,e] d
def bU:=λd (e:LK) f g h a (b:za) (i:LK)=>
 opt (wZ .lss 3 57 56 (nth a 1) d) λj=>CD j (λc=>c [] b)
 (λc=>e [nth a 0] b)
 (λl k=>BK (mO f a k g h)
 (bT a i))
def FX:=λa (c:za) (R:VK) (f:LK)=>
 opt (nb [] (yo zz 31 [])) λd=>opt (wa 31 a d c) λb=>opt (zd zz 31 a b) λe=>rv [e,.int .i64 2] b R
def mP:=λc (R:VK) d (e:LK) a (b:za)=>
 opt (zi .gtr 3 77 (nth a 0) 8388608) λf=>CD f (FX c b R)
 (λg=>g [nth d 0] b)
 (λh i=>e [nth h 0,nth a 0] i)
def mQ:=λl a (c:za) d e m (R:VK) (n:LK)=>
 Z8 23 l (nth a 2) 50 c λo=>qO 50 c λf p=>opt (wa 50 f o p) λg=>zJ 31 d 1 22 g λh=>zP (nb [nth a 1] (zj zz 22 1 [(0,(nth a 1))] g)) λi q=>zP (nb [h,i] (zF zz .append [22,22] 22 [h,i] q)) λr s=>YZ 31 d 1 22 r s λb=>opt (vG zz 64 e (nth a 2)) λt=>opt (nb [(wV b).1] (vH zz 65 t (wV b).1 (wV b).2)) λj=>zJ 50 f 1 48 j λk=>zP (qo 48 k j) λu v=>BK (λw=>LP (bU u w k e a)
 [nth a 1,.int .i64 0] v)
 (mP m R a n)
def iG:=λb (c:LK) a (d:za)=>
 opt (zi .add 3 39 (nth b 2) 1) λe=>c [nth a 0,nth a 1,e] d
def KN:=λd (e:LK) f g h i (R:VK) a (b:za) (j:LK)=>
 opt (wZ .lss 3 39 38 (nth a 2) d) λk=>CD k (λc=>c [] b)
 (λc=>e [nth a 0] b)
 (λm l=>BK (mQ f a l g h i R)
 (iG a j))
def iH:=λb (a:za) c (d:LK)=>
 zJ 42 b 3 3 a λe=>Z8 67 c e 2 a λf=>zJ 42 b 6 2 a λg=>opt (wZ .add 2 135 137 f g) λh=>d [h] a
def iI:=λb (a:za) c (d:LK)=>
 zJ 31 b 1 22 a λe=>zJ 42 c 3 3 a λf=>Z8 22 e f 3 a λg=>d [g] a
def KO:=λb c (a:za) d (e f:LK)=>
 opt (zi .eql 3 110 b 6) λg=>CD g (iH c a d)
 (λj=>e [] a)
 (λh i=>f [nth h 0] i)
def KP:=λd e (a:za) f (g:LK)=>
 Z8 64 d (nth e 0) 65 a λb=>zJ 42 f 5 3 a λc=>opt (nb [b,c] (Zg zz 65 b c false a)) λh=>g [h] a
def VU:=λa d (b:za) c e (f g:LK)=>
 opt (zi .eql 3 110 a 21) λh=>CD h (iI d b c)
 (KO a c b e f)
 (λi j=>g [nth i 0] j)
def KQ:=λa (c:za) g h d i j (k l:LK)=>
 opt (zi .eql 3 110 a 18) λe=>CD e (λb=>b [e] c)
 (λb=>opt (zi .eql 3 110 a 19) λm=>b [m] c)
 (λn f=>CD (nth n 0) (KP g h f d)
 (VU a i f d j k)
 (λo p=>l [nth o 0] p))
def iJ:=λg b (h:LK) i (a:za)=>
 zJ 31 g 0 29 a λc=>opt (zi .sub 2 141 b 4) λd=>opt (nb [c] (cond (PB (some d)&&PB none) (TM zz 29 c (some d) none a) none)) λe=>opt (wZ .sub 2 144 145 (nth i 0) b) λj=>Ue zz 26 [.int .i64 4,j] a (λf k=>zP (nb [e,f] (zF zz .copy [29,29] 3 [e,f] k)) λm l=>h [] l)
def KR:=λa b i j k (c:LK) d (e:za)=>
 zJ 31 a 0 29 e λf=>zP (nb [f,d] (zF zz .append [29,29] 29 [f,d] e)) λl m=>YZ 31 a 0 29 l m λg=>zJ 31 a 0 29 g λn=>zP (qo 29 n g) λo h=>zJ 42 b 0 3 h λp=>BK (KQ p h i j b a k c)
 (iJ a o c)
def iK:=λd e (b:za) f g h i (j:LK)=>
 Z8 48 d (nth e 0) 42 b λk=>qO 42 b λa l=>opt (wa 42 a k l) λc=>opt (zd zz 42 a c) λm=>zL zz (fn 24) [m] c (KR f a g h i j)
def iL:=λb a c d e f (g:LK) (k:List aaa) (h:za)=>
 BK (iK b a h c d e f)
 (λl i=>opt (zi .add 3 95 (nth a 0) 1) λj=>g [j] i)
def KS:=λd (e:LK) f g h i j a (b:za) (k:LK)=>
 opt (wZ .lss 3 95 94 (nth a 0) d) λl=>CD l (λc=>c [] b)
 (λc=>e [] b)
 (iL f a g h i j k)
def iM:=λf a (b:za) g h i (j:LK)=>
 Z8 23 f (nth a 0) 50 b λk=>qO 50 b λc l=>opt (wa 50 c k l) λd=>zJ 50 c 1 48 d λe=>zP (qo 48 e d) λm n=>BK (λo=>LP (KS m o e g h a i)
 [.int .i64 0] n)
 (λq p=>j [] p)
def iN:=λb a c d e (f:LK) (j:List aaa) (g:za)=>
 BK (iM b a g c d e)
 (λk h=>opt (zi .add 3 87 (nth a 0) 1) λi=>f [i] h)
def KT:=λd (e:LK) f g h i a (b:za) (j:LK)=>
 opt (wZ .lss 3 87 86 (nth a 0) d) λk=>CD k (λc=>c [] b)
 (λc=>e [] b)
 (iN f a g h i j)
def KU:=λd a (R:VK) (g:List aaa) (b:za)=>
 opt (zd zz 31 d b) λe=>opt (wa 31 a e b) λc=>opt (zd zz 31 a c) λf=>rv [f,.int .i64 0] c R
def iO:=λd a e f (R:VK) g (b:za)=>
 zJ 25 d 1 23 b λc=>zP (qo 23 c b) λh i=>BK (λj=>LP (KT h j c a e g)
 [.int .i64 0] i)
 (KU a f R)
def iP:=λa c d e (R:VK) (g:List aaa) (b:za)=>
 zJ 25 a 0 22 b λf=>zL zz (fn 25) [f] b (iO a c d e R)
def VV:=λa (e c:za) f (R:VK) o g (b:za)=>
 opt (zk zz 25 a 2) λp=>opt (zd zz 3 p (cut (cut b e.next c.next) c.next b.next)) λh=>opt (zk zz 25 a 3) λq=>opt (zd zz 3 q (cut (cut b e.next c.next) c.next b.next)) λi=>opt (nb [g,h,i] (yo zz 31 [(2,g),(3,h),(4,i)])) λr=>qO 31 b λd s=>opt (wa 31 d r s) λj=>zJ 25 a 1 23 j λt=>zP (qo 23 t j) λk u=>zP (V9 zz 64 k k u) λl m=>zJ 25 a 1 23 m λn=>zP (qo 23 n m) λv w=>BK (λx=>LP (KN v x n d l f R)
 [nth o 0,.int .i64 0,.int .i64 0] w)
 (iP a d l f R)
def iQ:=λc d (R:VK) e (b:za)=>
 zP (nb [] (zj zz 22 0 [] b)) λf a=>opt (zk zz 25 c 0) λg=>opt (zd zz 22 g (cut a b.next a.next)) λh=>oI zz [22,22] 22 [f,h] (some (b.next,a.next)) a a (VV c b a d R e)
def CQ:=λ(h:za) a (R:VK)=>
 opt (nb [a] (some (Value.cells a).toList)) λf=>nw h f 25 λb g=>qO 31 g λc d=>opt (zd zz 25 b d) λi=>zL zz (fn 23) [i] d (λj e=>opt (r7 zz .not j) λk=>CD k (bQ c e R)
 (λl=>l [.int .i64 0] e)
 (iQ b c R))
theorem CR(hw:CQ h t0 R):DC zz 10 [t0] h R:=j9 mixed (q:=qs) (n:=200) (Eq.mpr (by kernel_rfl) hw)
end Go.Eb
namespace Go.Ai
open Go.Ai Go.Proofs
theorem Zf:FcN 50 2:=U4 (by kernel_rfl) (by kernel_rfl)
theorem WA:Ni 65:=jd (by kernel_rfl)
theorem Ua:FcA 29 5 1 1:=λr v x n w h h1 h2 h3 h4=>U5 (e:=5) (e2:=5) (by kernel_rfl) (by kernel_rfl) (by kernel_rfl) (by kernel_rfl) (by decide) h1 h2 h3 h4
theorem zb3:FcA 67 2 1 8:=λr v x n w h h1 h2 h3 h4=>U5 (e:=2) (e2:=2) (by kernel_rfl) (by kernel_rfl) (by kernel_rfl) (by kernel_rfl) (by decide) h1 h2 h3 h4
theorem Uc:FcS 29:=λb o _ _ _ h=>jV (by kernel_rfl) b o _ h rfl
theorem Wd:FcM 50 2:=Vn (by kernel_rfl)
theorem Ud(b off:Nat)(v:Option Nat)(h:za):vH Tryz.prog 65 (.pointer (some ⟨b,off,none⟩)) (.map v) h=sU h b off [(.map v)]:=jV (by kernel_rfl) b off _ h rfl
theorem Wf:kX Tryz.prog 50=some (.agg #[(.string ⟨#[]⟩),(.slice none 0 0)]):=yN (by kernel_rfl)
theorem XD:yo Tryz.prog 31 []=some (.agg #[(.slice none 0 0),(.slice none 0 0),(.slice none 0 0),(.int .i64 0),(.int .i64 0)]):=yN (by kernel_rfl)
theorem uv(v2:Option Addr)(v2l v2c:Nat)(v3:Int)(v4:Int):yo Tryz.prog 31 [(2,(.slice v2 v2l v2c)),(3,(.int .i64 v3)),(4,(.int .i64 v4))]=some (.agg #[(.slice none 0 0),(.slice none 0 0),(.slice v2 v2l v2c),(.int .i64 v3),(.int .i64 v4)]):=yN (by kernel_rfl)
theorem xr(v0:Int)(h:za):zj Tryz.prog 29 1 [(0,(.int .u8 v0))] h=some (.slice (some ⟨h.next,0,none⟩) 1 3,h.push (.cells [(.int .u8 v0)] 5)):=yN (by kernel_rfl)
theorem UB(v0:Int)(v1:Int)(v2:Int)(h:za):zj Tryz.prog 29 3 [(0,(.int .u8 v0)),(1,(.int .u8 v1)),(2,(.int .u8 v2))] h=some (.slice (some ⟨h.next,0,none⟩) 3 5,h.push (.cells [(.int .u8 v0),(.int .u8 v1),(.int .u8 v2)] 5)):=yN (by kernel_rfl)
theorem L9(v0:Int)(h:za):zj Tryz.prog 67 1 [(0,(.int .i64 v0))] h=some (.slice (some ⟨h.next,0,none⟩) 1 3,h.push (.cells [(.int .i64 v0)] 2)):=yN (by kernel_rfl)
theorem ma(n:Int)(h:za):w9 Tryz.prog 21 2 (.int .i32 n) h=some (.int .i64 (IntKind.wrap .i64 n),h):=yN (by kernel_rfl)
theorem mc(n:Int)(h:za):w9 Tryz.prog 2 21 (.int .i64 n) h=some (.int .i32 (IntKind.wrap .i32 n),h):=yN (by kernel_rfl)
theorem Gw(n:Int)(h:za):w9 Tryz.prog 2 5 (.int .i64 n) h=some (.int .u8 (IntKind.wrap .u8 n),h):=yN (by kernel_rfl)
theorem xp:FcG 25 0:=λb o=>yN (by kernel_rfl)
theorem vZ:sW 25 2 2:=λb o=>yN (by kernel_rfl)
theorem qx:sW 25 3 3:=λb o=>yN (by kernel_rfl)
theorem yP:sW 42 2 2:=λb o=>yN (by kernel_rfl)
theorem aj:sW 42 4 4:=λb o=>yN (by kernel_rfl)
theorem wP:sW 50 1 1:=λb o=>yN (by kernel_rfl)
theorem Wj:FcX 64 1:=λb o l c k i=>Z0 (e:=65) (by kernel_rfl) (by kernel_rfl)
theorem Un:FcX 67 1:=λb o l c k i=>Z0 (e:=2) (by kernel_rfl) (by kernel_rfl)
theorem Qm(k k2:IntKind)(l c:Int)(h:za)(h0:0<=l)(h1:l<=c)(h2:c<2^31):V9 Tryz.prog 64 (.int k l) (.int k2 c) h=some (.slice (some ⟨h.next,0,none⟩) l.toNat (c.toNat+2),h.push (.cells (Z9 [(.map none)] (c.toNat*1)) 65)):=N9 (e:=65) (z:=(.map none)) (n:=1) (bytes:=8) (by kernel_rfl) (by kernel_rfl) (by kernel_rfl) rfl (by decide) (by decide) rfl h0 h1 h2
end Go.Ai
