import Derived.Test.YtpjjmindjodknaaGreatTI
set_option linter.unusedVariables false
set_option linter.unusedSimpArgs false
set_option maxRecDepth 100000
namespace Go.Eb
open Go.Ai Go.Proofs Go.Proofs.Tryz
noncomputable abbrev zz:=prog
abbrev VK:=aaa->za->Prop
abbrev LK:=List aaa->za->Prop
abbrev ci(n:Int):Operand := .const (.int .i64 n)
abbrev fn(n:Nat):aaa := .func (.func n) #[] #[]
variable {h:za}{t0 t1 t2 t3 t4 t5 t6:aaa}{R:VK}
def qs:FuncId->Nat:=λg=>[0,0,0,0,0,0,0,0,0,0,0,0,0,0,0,0,0,0,0,0,0,0,0,2,3,3,3,0,2,3,3,0,0,0,0,0,0,2,2,3,0,0,0,0,0,0,0,3,2,2,3,2,3,0,0,0,0,2,3,2,2,2,2,3,0,0,0,0,0,0,0,0,0,0,0,0,0,0,0,0,0,0,0,2].getD g 0
theorem mixed:prog.follows .mixedOrders=true:=acf Tryz.checked
theorem xM{f:FuncId}{args:List aaa}{X:Prop}(e:wpF zz (pb zz qs) 200 f args h R=X)(hw:X):DC zz f args h R:=gK mixed (q:=qs) (n:=200) (Eq.mpr e hw)
def td:=λa e (f:za) (g:LK)=>
 opt (nb [.int .i64 8,nth a 1] (zM zz .mul 3 (.const (.int .i64 8)) (.tmp 13) (.int .i64 8) (nth a 1))) λh=>opt (x6 .shr 2 12 14 e h) λb=>zt (nb [b] (yS zz 2 5 b f)) λc i=>zt (nb [c] (zd zz 29 1 [(0,c)] i)) λd j=>zt (nb [nth a 0,d] (zB zz .append [29,29] 29 [nth a 0,d] j)) λk l=>g [k] l
def tg:=λa (b:LK) c (d:za)=>
 opt (zi .add 3 8 (nth a 1) 1) λe=>b [nth c 0,e] d
def th:=λd (e:LK) f a (b:za) (g:LK)=>
 opt (x6 .lss 3 8 7 (nth a 1) d) λh=>CD h (λc=>c [] b)
 (λc=>e [nth a 0] b)
 (λj i=>BK (td a f i)
 (tg a g))
def G6:=λ(h:za) a b (R:VK)=>
 BK (λc=>LP (th a c b)
 [.slice none 0 0,.int .i64 0] h)
 (λd e=>rv [nth d 0] e R)
theorem G8(hw:G6 h t0 t1 R):DC zz 26 [t0,t1] h R:=xM (by kernel_rfl) hw
def Na:=λ(h:za) a (R:VK)=>
 zt (nb [a] (yS zz 2 21 a h)) λb c=>zt (nb [b] (yS zz 21 2 b c)) λd e=>opt (x6 .eql 2 3 6 a d) λf=>rv [f] e R
theorem Lo(hw:Na h t0 R):DC zz 48 [t0] h R:=xM (by kernel_rfl) hw
def Ud:=λd (R:VK) a (c:za)=>
 opt (zi .geq 3 11 d 8) λe=>CD e (λb=>opt (nb [nth a 0,.int .u8 1] (zM zz .or 5 (.tmp 13) (.const (.int .u8 1)) (nth a 0) (.int .u8 1))) λf=>b [f] c)
 (λb=>b [nth a 0] c)
 (λg h=>rv [nth g 0] h R)
def zcF:=λ(h:za) a c d (R:VK)=>
 opt (zi .geq 3 7 c 8) λe=>CD e (λb=>opt (nb [a,.int .u8 4] (zM zz .or 5 (.tmp 9) (.const (.int .u8 4)) a (.int .u8 4))) λf=>b [f] h)
 (λb=>b [a] h)
 (Ud d R)
theorem Sp(hw:zcF h t0 t1 t2 R):DC zz 49 [t0,t1,t2] h R:=xM (by kernel_rfl) hw
def Ho:=λa k l (R:VK) b (m:za)=>
 zt (nb [b] (zd zz 29 1 [(0,b)] m)) λc n=>zt (nb [c,a] (zB zz .append [29,29] 29 [c,a] n)) λd o=>opt (zi .and 3 18 k 7) λe=>zt (nb [e] (yS zz 3 5 e o)) λf p=>opt (nb [f,.int .u64 3] (zM zz .shl 5 (.tmp 20) (.const (.int .u64 3)) f (.int .u64 3))) λg=>opt (nb [.int .u8 192,g] (zM zz .or 5 (.const (.int .u8 192)) (.tmp 21) (.int .u8 192) g)) λq=>opt (zi .and 3 23 l 7) λh=>zt (nb [h] (yS zz 3 5 h p)) λr s=>opt (x6 .or 5 22 25 q r) λi=>zt (nb [i] (zd zz 29 1 [(0,i)] s)) λj t=>zt (nb [d,j] (zB zz .append [29,29] 29 [d,j] t)) λu v=>rv [u] v R
def Sn:=λ(h:za) c d a b (R:VK)=>
 zF zz (fn 49) [c,a,b] h (Ho d a b R)
theorem Pe(hw:Sn h t0 t1 t2 t3 R):DC zz 47 [t0,t1,t2,t3] h R:=xM (by kernel_rfl) hw
def tj:=λ(c:za) a (d:LK)=>
 zt (nb [.int .u8 36] (zd zz 29 1 [(0,(.int .u8 36))] c)) λb e=>zt (nb [a,b] (zB zz .append [29,29] 29 [a,b] e)) λf g=>d [f] g
def fL:=λc (R:VK) a (d:za)=>
 zF zz (fn 26) [.int .i64 4,c] d (λb e=>zt (nb [nth a 0,b] (zB zz .append [29,29] 29 [nth a 0,b] e)) λf g=>rv [f] g R)
def tq:=λa n b o (R:VK) c (p:za)=>
 zt (nb [c] (zd zz 29 1 [(0,c)] p)) λd q=>zt (nb [d,a] (zB zz .append [29,29] 29 [d,a] q)) λe r=>opt (zi .and 3 20 n 7) λf=>zt (nb [f] (yS zz 3 5 f r)) λg s=>opt (nb [g,.int .u64 3] (zM zz .shl 5 (.tmp 22) (.const (.int .u64 3)) g (.int .u64 3))) λh=>opt (nb [.int .u8 128,h] (zM zz .or 5 (.const (.int .u8 128)) (.tmp 23) (.int .u8 128) h)) λt=>opt (zi .and 3 25 b 7) λi=>zt (nb [i] (yS zz 3 5 i s)) λu v=>opt (x6 .or 5 24 27 t u) λj=>zt (nb [j] (zd zz 29 1 [(0,j)] v)) λk w=>zt (nb [e,k] (zB zz .append [29,29] 29 [e,k] w)) λl m=>opt (zi .and 3 31 b 7) λx=>opt (zi .eql 3 32 x 4) λy=>CD y (tj m l)
 (λz=>z [l] m)
 (fL o R)
def G9:=λ(h:za) c d a b e (R:VK)=>
 zF zz (fn 49) [c,a,b] h (tq d a b e R)
theorem Ha(hw:G9 h t0 t1 t2 t3 t4 R):DC zz 50 [t0,t1,t2,t3,t4] h R:=xM (by kernel_rfl) hw
def dZ:=λb (h:za) (R:VK) (c:LK)=>
 opt (zi .eql 3 3 b 24) λd=>CD d (λa=>rv [.int .u8 14] h R)
 (λa=>a [.int .u8 0] h)
 (λe f=>c [nth e 0] f)
def ee:=λa (h:za) (R:VK) (b:LK)=>
 opt (zi .eql 3 3 a 26) λc=>CD c (λf=>rv [.int .u8 13] h R)
 (dZ a h R)
 (λd e=>b [nth d 0] e)
def en:=λa (h:za) (R:VK) (b:LK)=>
 opt (zi .eql 3 3 a 23) λc=>CD c (λf=>rv [.int .u8 12] h R)
 (ee a h R)
 (λd e=>b [nth d 0] e)
def eu:=λa (h:za) (R:VK) (b:LK)=>
 opt (zi .eql 3 3 a 22) λc=>CD c (λf=>rv [.int .u8 5] h R)
 (en a h R)
 (λd e=>b [nth d 0] e)
def ew:=λa (h:za) (R:VK) (b:LK)=>
 opt (zi .eql 3 3 a 21) λc=>CD c (λf=>rv [.int .u8 4] h R)
 (eu a h R)
 (λd e=>b [nth d 0] e)
def ow:=λ(h:za) a (R:VK)=>
 BK (ew a h R)
 (λc b=>rv [.int .u8 15] b R)
theorem sK(hw:ow h t0 R):DC zz 83 [t0] h R:=xM (by kernel_rfl) hw
def aQ:=λb (h:za) (R:VK) (c:LK)=>
 opt (zi .eql 3 3 b 17) λd=>CD d (λa=>rv [.int .u8 9] h R)
 (λa=>a [.int .u8 0] h)
 (λe f=>c [nth e 0] f)
def Qh:=λa (h:za) (R:VK) (b:LK)=>
 opt (zi .eql 3 3 a 16) λc=>CD c (λf=>rv [.int .u8 33] h R)
 (aQ a h R)
 (λd e=>b [nth d 0] e)
def Va:=λa (h:za) (R:VK) (b:LK)=>
 opt (zi .eql 3 3 a 12) λc=>CD c (λf=>rv [.int .u8 41] h R)
 (Qh a h R)
 (λd e=>b [nth d 0] e)
def XN:=λa (h:za) (R:VK) (b:LK)=>
 opt (zi .eql 3 3 a 11) λc=>CD c (λf=>rv [.int .u8 1] h R)
 (Va a h R)
 (λd e=>b [nth d 0] e)
def CE:=λ(h:za) a (R:VK)=>
 BK (XN a h R)
 (λc b=>rv [.int .u8 49] b R)
theorem Ey(hw:CE h t0 R):DC zz 51 [t0] h R:=xM (by kernel_rfl) hw
def Nl:=λd (e:za) (R:VK) a (b:za)=>
 opt (zl zz 42 d 6) λf=>opt (zf zz 2 f (trim b e.next)) λg=>QG zz 26 [.int .i64 4,g] b (λc h=>zt (nb [a,c] (zB zz .append [29,29] 29 [a,c] h)) λi j=>rv [i] j R)
def Nm:=λ(a:za) b (R:VK) (g:LK)=>
 zt (nb [.int .u8 199] (zd zz 29 1 [(0,(.int .u8 199))] a)) λd c=>opt (zl zz 42 b 1) λe=>opt (zf zz 3 e (trim c a.next)) λf=>QG zz 47 [.int .u8 72,d,.int .i64 0,f] c (Nl b a R)
def Nn:=λc (d:za) (R:VK) e=>
 zD 42 c 1 3 d λj=>opt (zi .and 3 30 j 7) λf=>zt (nb [f] (yS zz 3 5 f d)) λg b=>opt (nb [.int .u8 184,g] (zM zz .add 5 (.const (.int .u8 184)) (.tmp 32) (.int .u8 184) g)) λh=>zt (nb [e,h] (zd zz 29 2 [(0,e),(1,h)] b)) λk a=>opt (zl zz 42 c 6) λl=>opt (zf zz 2 l (cut a b.next a.next)) λm=>kC zz 26 [.int .i64 8,m] (cut a b.next a.next) a (λn i=>JA zz [29,29] 29 [k,n] (some (b.next,a.next)) i i (λo p=>rv [o] p R))
def No:=λb (R:VK) (d:List aaa) (a:za)=>
 zD 42 b 1 3 a λc=>qt zz 49 [.int .u8 72,.int .i64 0,c] a (Nn b a R)
def Np:=λ(c:za) b (R:VK) (j:LK)=>
 zt (nb [.int .u8 99] (zd zz 29 1 [(0,(.int .u8 99))] c)) λd a=>zD 42 b 1 3 a λe=>zD 42 b 2 3 a λf=>zD 42 b 6 2 a λg=>zF zz (fn 50) [.int .u8 72,d,e,f,g] a (λh i=>rv [h] i R)
def Nq:=λ(c:za) b (R:VK) (j:LK)=>
 zt (nb [.int .u8 139] (zd zz 29 1 [(0,(.int .u8 139))] c)) λd a=>zD 42 b 1 3 a λe=>zD 42 b 2 3 a λf=>zD 42 b 6 2 a λg=>zF zz (fn 50) [.int .u8 72,d,e,f,g] a (λh i=>rv [h] i R)
def ED:=λb (a:za) c (R:VK) (d:LK)=>
 opt (zi .eql 3 42 b 4) λe=>CD e (Np a c R)
 (λf=>f [.slice none 0 0] a)
 (λg h=>d [nth g 0] h)
def pQ:=λa (b:za) c (R:VK) (d:LK)=>
 opt (zi .eql 3 42 a 8) λe=>CD e (Nq b c R)
 (ED a b c R)
 (λf g=>d [nth f 0] g)
def Nr:=λb (R:VK) (j:List aaa) (c:za)=>
 zt (nb [.int .u8 15,.int .u8 190] (zd zz 29 2 [(0,(.int .u8 15)),(1,(.int .u8 190))] c)) λd a=>zD 42 b 1 3 a λe=>zD 42 b 2 3 a λf=>zD 42 b 6 2 a λg=>zF zz (fn 50) [.int .u8 72,d,e,f,g] a (λh i=>rv [h] i R)
def GN:=λ(c:za) b (R:VK) (j:LK)=>
 zt (nb [.int .u8 137] (zd zz 29 1 [(0,(.int .u8 137))] c)) λd a=>zD 42 b 1 3 a λe=>zD 42 b 2 3 a λf=>zD 42 b 6 2 a λg=>zF zz (fn 50) [.int .u8 64,d,e,f,g] a (λh i=>rv [h] i R)
def GO:=λ(c:za) b (R:VK) (j:LK)=>
 zt (nb [.int .u8 137] (zd zz 29 1 [(0,(.int .u8 137))] c)) λd a=>zD 42 b 1 3 a λe=>zD 42 b 2 3 a λf=>zD 42 b 6 2 a λg=>zF zz (fn 50) [.int .u8 72,d,e,f,g] a (λh i=>rv [h] i R)
def sW:=λb (a:za) c (R:VK) (d:LK)=>
 opt (zi .eql 3 74 b 4) λe=>CD e (GN a c R)
 (λf=>f [.slice none 0 0] a)
 (λg h=>d [nth g 0] h)
def iu:=λa (b:za) c (R:VK) (d:LK)=>
 opt (zi .eql 3 74 a 8) λe=>CD e (GO b c R)
 (sW a b c R)
 (λf g=>d [nth f 0] g)
def GP:=λb (R:VK) (j:List aaa) (c:za)=>
 zt (nb [.int .u8 136] (zd zz 29 1 [(0,(.int .u8 136))] c)) λd a=>zD 42 b 1 3 a λe=>zD 42 b 2 3 a λf=>zD 42 b 6 2 a λg=>zF zz (fn 50) [.int .u8 64,d,e,f,g] a (λh i=>rv [h] i R)
def GQ:=λj (c:za) (R:VK) d=>
 zD 42 j 1 3 c λk=>opt (zi .and 3 119 k 7) λe=>zt (nb [e] (yS zz 3 5 e c)) λf b=>opt (nb [f,.int .u64 3] (zM zz .shl 5 (.tmp 121) (.const (.int .u64 3)) f (.int .u64 3))) λg=>opt (nb [.int .u8 5,g] (zM zz .or 5 (.const (.int .u8 5)) (.tmp 122) (.int .u8 5) g)) λh=>zt (nb [d,.int .u8 141,h] (zd zz 29 3 [(0,d),(1,(.int .u8 141)),(2,h)] b)) λl a=>kC zz 26 [.int .i64 4,.int .i64 0] (cut a b.next a.next) a (λm i=>JA zz [29,29] 29 [l,m] (some (b.next,a.next)) i i (λn o=>rv [n] o R))
def GR:=λ(c:za) b (R:VK) (i:LK)=>
 zt (nb [.int .u8 15,.int .u8 175] (zd zz 29 2 [(0,(.int .u8 15)),(1,(.int .u8 175))] c)) λd a=>zD 42 b 1 3 a λe=>zD 42 b 2 3 a λf=>zF zz (fn 47) [.int .u8 72,d,e,f] a (λg h=>rv [g] h R)
def GS:=λ(a:za) c (R:VK) d=>
 zt (nb [d] (zd zz 29 1 [(0,d)] a)) λe b=>opt (zl zz 42 c 2) λf=>opt (zf zz 3 f (trim b a.next)) λg=>opt (zl zz 42 c 1) λh=>opt (zf zz 3 h (trim b a.next)) λi=>QG zz 47 [.int .u8 72,e,g,i] b (λj k=>rv [j] k R)
def GU:=λd (e:za) (R:VK) a (b:za)=>
 opt (zl zz 42 d 6) λf=>opt (zf zz 2 f (trim b e.next)) λg=>QG zz 26 [.int .i64 4,g] b (λc h=>zt (nb [a,c] (zB zz .append [29,29] 29 [a,c] h)) λi j=>rv [i] j R)
def GV:=λ(a:za) b (R:VK) (i:LK)=>
 zt (nb [.int .u8 105] (zd zz 29 1 [(0,(.int .u8 105))] a)) λd c=>opt (zl zz 42 b 1) λe=>opt (zf zz 3 e (trim c a.next)) λf=>opt (zl zz 42 b 1) λg=>opt (zf zz 3 g (trim c a.next)) λh=>QG zz 47 [.int .u8 72,d,f,h] c (GU b a R)
def GW:=λd (e f g:za) (R:VK) b (a:za)=>
 opt (zl zz 42 d 6) λh=>opt (zf zz 2 h (cut (cut a e.next f.next) g.next a.next)) λi=>kC zz 26 [.int .i64 4,i] a a (λc j=>zt (nb [b,c] (zB zz .append [29,29] 29 [b,c] j)) λk l=>rv [k] l R)
def GX:=λ(b:za) c (d:za) g (R:VK) e=>
 opt (nb [e,.int .u64 3] (zM zz .shr 5 (.tmp 165) (.const (.int .u64 3)) e (.int .u64 3))) λf=>zt (nb [f] (yS zz 5 3 f b)) λh a=>opt (zl zz 42 c 1) λi=>opt (zf zz 3 i (cut a d.next b.next)) λj=>kC zz 47 [.int .u8 72,g,h,j] a a (GW c d b a R)
def GY:=λc (R:VK) (g:List aaa) (b:za)=>
 zt (nb [.int .u8 129] (zd zz 29 1 [(0,(.int .u8 129))] b)) λd a=>opt (zl zz 42 c 3) λe=>opt (zf zz 3 e (cut a b.next a.next)) λf=>qt zz 51 [f] (cut a b.next a.next) (GX a c b d R)
def GZ:=λd (e:za) (R:VK) a (b:za)=>
 opt (zl zz 42 d 6) λf=>opt (zf zz 2 f (trim b e.next)) λg=>QG zz 26 [.int .i64 4,g] b (λc h=>zt (nb [a,c] (zB zz .append [29,29] 29 [a,c] h)) λi j=>rv [i] j R)
def G0:=λ(d:za) e (R:VK) (j:LK)=>
 zt (nb [.int .u8 72,.int .u8 129,.int .u8 196] (zd zz 29 3 [(0,(.int .u8 72)),(1,(.int .u8 129)),(2,(.int .u8 196))] d)) λa b=>zD 42 e 6 2 b λf=>zF zz (fn 26) [.int .i64 4,f] b (λc g=>zt (nb [a,c] (zB zz .append [29,29] 29 [a,c] g)) λh i=>rv [h] i R)
def G1:=λ(d:za) e (R:VK) (j:LK)=>
 zt (nb [.int .u8 72,.int .u8 129,.int .u8 236] (zd zz 29 3 [(0,(.int .u8 72)),(1,(.int .u8 129)),(2,(.int .u8 236))] d)) λa b=>zD 42 e 6 2 b λf=>zF zz (fn 26) [.int .i64 4,f] b (λc g=>zt (nb [a,c] (zB zz .append [29,29] 29 [a,c] g)) λh i=>rv [h] i R)
def sX:=λb (a:za) c (R:VK) (d:LK)=>
 opt (zi .eql 3 4 b 24) λe=>CD e (G0 a c R)
 (λf=>f [.slice none 0 0] a)
 (λg h=>d [nth g 0] h)
def G2:=λ(a:za) b (R:VK) (g:LK)=>
 zt (nb [.int .u8 129] (zd zz 29 1 [(0,(.int .u8 129))] a)) λd c=>opt (zl zz 42 b 1) λe=>opt (zf zz 3 e (trim c a.next)) λf=>QG zz 47 [.int .u8 72,d,.int .i64 7,f] c (GZ b a R)
def iw:=λa (b:za) c (R:VK) (d:LK)=>
 opt (zi .eql 3 4 a 23) λe=>CD e (G1 b c R)
 (sX a b c R)
 (λf g=>d [nth f 0] g)
def sY:=λa (b:za) (R:VK) (f:LK)=>
 zD 42 a 3 3 b λc=>opt (zi .eql 3 150 c 13) λd=>CD d (GV b a R)
 (λe=>e [.slice none 0 0] b)
 (GY a R)
def aX:=λa (b:za) c (R:VK) (d:LK)=>
 opt (zi .eql 3 4 a 16) λe=>CD e (G2 b c R)
 (iw a b c R)
 (λf g=>d [nth f 0] g)
def sZ:=λa (b:za) (R:VK) (h:LK)=>
 zD 42 a 3 3 b λd=>opt (zi .eql 3 130 d 13) λe=>CD e (GR b a R)
 (λf=>f [.slice none 0 0] b)
 (λi c=>zD 42 a 3 3 c λg=>qt zz 51 [g] c (GS c a R))
def Uw:=λa b (c:za) (R:VK) (d:LK)=>
 opt (zi .eql 3 4 a 8) λe=>CD e (sY b c R)
 (aX a c b R)
 (λf g=>d [nth f 0] g)
def G3:=λb (a:za) (R:VK) (d:LK)=>
 zD 42 b 1 3 a λc=>qt zz 49 [.int .u8 72,c,.int .i64 0] a (GQ b a R)
def Wa:=λa b (c:za) (R:VK) (d:LK)=>
 opt (zi .eql 3 4 a 7) λe=>CD e (sZ b c R)
 (Uw a b c R)
 (λf g=>d [nth f 0] g)
def G4:=λ(c:za) b (R:VK) (j:LK)=>
 zt (nb [.int .u8 141] (zd zz 29 1 [(0,(.int .u8 141))] c)) λd a=>zD 42 b 1 3 a λe=>zD 42 b 2 3 a λf=>zD 42 b 6 2 a λg=>zF zz (fn 50) [.int .u8 72,d,e,f,g] a (λh i=>rv [h] i R)
def Y3:=λa b (c:za) (R:VK) (d:LK)=>
 opt (zi .eql 3 4 a 6) λe=>CD e (G3 b c R)
 (Wa a b c R)
 (λf g=>d [nth f 0] g)
def Ym:=λa (b:za) c (R:VK) (d:LK)=>
 opt (zi .eql 3 4 a 5) λe=>CD e (G4 b c R)
 (Y3 a c b R)
 (λf g=>d [nth f 0] g)
def jf:=λc a (b:za) (R:VK) (d:LK)=>
 opt (zi .eql 3 4 c 4) λe=>CD e (λi=>zD 42 a 3 3 b λf=>BK (iu f b a R)
 (GP a R))
 (Ym c b a R)
 (λg h=>d [nth g 0] h)
def ta:=λa (b:za) (R:VK) (g:LK)=>
 zD 42 a 6 2 b λd=>zF zz (fn 48) [d] b (λe c=>CD e (Nm c a R)
 (λf=>f [.slice none 0 0] c)
 (No a R))
def qN:=λc a (b:za) (R:VK) (d:LK)=>
 opt (zi .eql 3 4 c 3) λe=>CD e (λi=>zD 42 a 3 3 b λf=>BK (pQ f b a R)
 (Nr a R))
 (jf c a b R)
 (λg h=>d [nth g 0] h)
def G5:=λ(c:za) b (R:VK) (i:LK)=>
 zt (nb [.int .u8 137] (zd zz 29 1 [(0,(.int .u8 137))] c)) λd a=>zD 42 b 2 3 a λe=>zD 42 b 1 3 a λf=>zF zz (fn 47) [.int .u8 72,d,e,f] a (λg h=>rv [g] h R)
def qe:=λa b (c:za) (R:VK) (d:LK)=>
 opt (zi .eql 3 4 a 2) λe=>CD e (ta b c R)
 (qN a b c R)
 (λf g=>d [nth f 0] g)
def y5:=λa (b:za) c (R:VK) (d:LK)=>
 opt (zi .eql 3 4 a 1) λe=>CD e (G5 b c R)
 (qe a c b R)
 (λf g=>d [nth f 0] g)
def zcD:=λ(h:za) b (R:VK)=>
 opt (nb [b] (some (Value.cells b).toList)) λe=>nw h e 42 λa c=>zD 42 a 0 3 c λf=>BK (y5 f c a R)
 (λk d=>opt (zf zz 42 a d) λg=>zF zz (fn 52) [g] d (λi j=>rv [i] j R))
theorem Sj(hw:zcD h t0 R):DC zz 24 [t0] h R:=qU mixed (q:=qs) (n:=200) (Eq.mpr (by kernel_rfl) hw)
def l8:=λb (R:VK) c (d:za)=>
 zt (nb [.int .u8 247] (zd zz 29 1 [(0,(.int .u8 247))] d)) λe a=>zD 42 b 1 3 a λf=>zF zz (fn 47) [.int .u8 72,e,nth c 0,f] a (λg h=>rv [g] h R)
def Dd:=λ(c:za) b (R:VK) (i:LK)=>
 zt (nb [.int .u8 15,.int .u8 190] (zd zz 29 2 [(0,(.int .u8 15)),(1,(.int .u8 190))] c)) λd a=>zD 42 b 1 3 a λe=>zD 42 b 2 3 a λf=>zF zz (fn 47) [.int .u8 72,d,e,f] a (λg h=>rv [g] h R)
def De:=λb (R:VK) (i:List aaa) (c:za)=>
 zt (nb [.int .u8 99] (zd zz 29 1 [(0,(.int .u8 99))] c)) λd a=>zD 42 b 1 3 a λe=>zD 42 b 2 3 a λf=>zF zz (fn 47) [.int .u8 72,d,e,f] a (λg h=>rv [g] h R)
def l9:=λg (h b:za) (R:VK) c (a:za)=>
 opt (zl zz 42 g 6) λi=>opt (zf zz 2 i (cut (cut a h.next b.next) b.next a.next)) λd=>zt (nb [d] (yS zz 2 5 d a)) λe j=>zt (nb [e] (zd zz 29 1 [(0,e)] j)) λf k=>zt (nb [c,f] (zB zz .append [29,29] 29 [c,f] k)) λl m=>rv [l] m R
def ma:=λ(b:za) c d (R:VK) (h:LK)=>
 zt (nb [.int .u8 193] (zd zz 29 1 [(0,(.int .u8 193))] b)) λe a=>opt (zl zz 42 c 1) λf=>opt (zf zz 3 f (cut a b.next a.next)) λg=>kC zz 47 [.int .u8 72,e,nth d 0,g] a a (l9 c b a R)
def mc:=λb c (R:VK) (i:List aaa) (d:za)=>
 zt (nb [.int .u8 211] (zd zz 29 1 [(0,(.int .u8 211))] d)) λe a=>zD 42 b 1 3 a λf=>zF zz (fn 47) [.int .u8 72,e,nth c 0,f] a (λg h=>rv [g] h R)
def Kn:=λa (R:VK) c (b:za)=>
 zD 42 a 0 3 b λd=>opt (zi .eql 3 41 d 11) λe=>CD e (ma b a c R)
 (λf=>f [.slice none 0 0] b)
 (mc a c R)
def Df:=λd (e c:za) (R:VK) f (b:za)=>
 zt (nb [.int .u8 15,.int .u8 182] (zd zz 29 2 [(0,(.int .u8 15)),(1,(.int .u8 182))] b)) λh a=>opt (zl zz 42 d 1) λi=>opt (zf zz 3 i (cut (cut (cut a e.next c.next) c.next b.next) b.next a.next)) λj=>opt (zl zz 42 d 1) λk=>opt (zf zz 3 k (cut (cut (cut a e.next c.next) c.next b.next) b.next a.next)) λl=>kC zz 47 [.int .u8 72,h,j,l] a a (λg m=>zt (nb [f,g] (zB zz .append [29,29] 29 [f,g] m)) λn o=>rv [n] o R)
def Dg:=λ(b:za) c (R:VK) d=>
 opt (nb [.int .u8 144,d] (zM zz .add 5 (.const (.int .u8 144)) (.tmp 79) (.int .u8 144) d)) λe=>zt (nb [.int .u8 15,e] (zd zz 29 2 [(0,(.int .u8 15)),(1,e)] b)) λf a=>opt (zl zz 42 c 1) λg=>opt (zf zz 3 g (cut a b.next a.next)) λh=>kC zz 47 [.int .u8 64,f,.int .i64 0,h] a a (Df c b a R)
def tS:=λ(R:VK) a (e:za)=>
 opt (nb [.int .u8 128,a] (zM zz .add 5 (.const (.int .u8 128)) (.tmp 101) (.int .u8 128) a)) λb=>zt (nb [.int .u8 15,b] (zd zz 29 2 [(0,(.int .u8 15)),(1,b)] e)) λc f=>zF zz (fn 26) [.int .i64 4,.int .i64 0] f (λd g=>zt (nb [c,d] (zB zz .append [29,29] 29 [c,d] g)) λh i=>rv [h] i R)
def fW:=λc (a:za) (R:VK) (d:LK)=>
 opt (zi .eql 3 6 c 26) λe=>CD e (λb=>zt (nb [.int .u8 72,.int .u8 239] (zd zz 29 2 [(0,(.int .u8 72)),(1,(.int .u8 239))] a)) λf g=>rv [f] g R)
 (λb=>b [.slice none 0 0] a)
 (λh i=>d [nth h 0] i)
def Jt:=λa (b:za) (R:VK) (c:LK)=>
 opt (zi .eql 3 6 a 25) λd=>CD d (λi=>zt (nb [.int .u8 72,.int .u8 237] (zd zz 29 2 [(0,(.int .u8 72)),(1,(.int .u8 237))] b)) λe f=>rv [e] f R)
 (fW a b R)
 (λg h=>c [nth g 0] h)
def tT:=λ(c:za) (R:VK) (h:LK)=>
 zt (nb [.int .u8 232] (zd zz 29 1 [(0,(.int .u8 232))] c)) λa d=>zF zz (fn 26) [.int .i64 4,.int .i64 0] d (λb e=>zt (nb [a,b] (zB zz .append [29,29] 29 [a,b] e)) λf g=>rv [f] g R)
def UA:=λa (b:za) (R:VK) (c:LK)=>
 opt (zi .eql 3 6 a 22) λd=>CD d (λi=>zt (nb [.int .u8 195] (zd zz 29 1 [(0,(.int .u8 195))] b)) λe f=>rv [e] f R)
 (Jt a b R)
 (λg h=>c [nth g 0] h)
def WH:=λa (b:za) (R:VK) (c:LK)=>
 opt (zi .eql 3 6 a 21) λd=>CD d (tT b R)
 (UA a b R)
 (λe f=>c [nth e 0] f)
def tU:=λ(c:za) (R:VK) (h:LK)=>
 zt (nb [.int .u8 233] (zd zz 29 1 [(0,(.int .u8 233))] c)) λa d=>zF zz (fn 26) [.int .i64 4,.int .i64 0] d (λb e=>zt (nb [a,b] (zB zz .append [29,29] 29 [a,b] e)) λf g=>rv [f] g R)
def Xr:=λb c (a:za) (R:VK) (d:LK)=>
 opt (zi .eql 3 6 b 19) λe=>CD e (λi=>zD 42 c 4 3 a λf=>zF zz (fn 83) [f] a (tS R))
 (WH b a R)
 (λg h=>d [nth g 0] h)
def Yn:=λa (b:za) (R:VK) c (d:LK)=>
 opt (zi .eql 3 6 a 18) λe=>CD e (tU b R)
 (Xr a c b R)
 (λf g=>d [nth f 0] g)
def tV:=λ(c:za) b (R:VK) (i:LK)=>
 zt (nb [.int .u8 57] (zd zz 29 1 [(0,(.int .u8 57))] c)) λd a=>zD 42 b 2 3 a λe=>zD 42 b 1 3 a λf=>zF zz (fn 47) [.int .u8 72,d,e,f] a (λg h=>rv [g] h R)
def Zz:=λc b (a:za) (R:VK) (d:LK)=>
 opt (zi .eql 3 6 c 17) λe=>CD e (λi=>zD 42 b 4 3 a λf=>qt zz 83 [f] a (Dg a b R))
 (Yn c a R b)
 (λg h=>d [nth g 0] h)
def tW:=λ(b:za) c (R:VK) (h:LK)=>
 zt (nb [.int .u8 247] (zd zz 29 1 [(0,(.int .u8 247))] b)) λd a=>zD 42 c 2 3 a λe=>zF zz (fn 47) [.int .u8 72,d,.int .i64 7,e] a (λf g=>rv [f] g R)
def jD:=λa (b:za) c (R:VK) (d:LK)=>
 opt (zi .eql 3 6 a 15) λe=>CD e (tV b c R)
 (Zz a c b R)
 (λf g=>d [nth f 0] g)
def kx:=λa (b:za) c (R:VK) (d:LK)=>
 opt (zi .eql 3 6 a 14) λe=>CD e (tW b c R)
 (jD a b c R)
 (λf g=>d [nth f 0] g)
def UB:=λc (a:za) (R:VK) (f:LK)=>
 zD 42 c 3 3 a λd=>opt (zi .eql 3 38 d 20) λe=>CD e (λb=>b [.int .i64 7] a)
 (λb=>b [.int .i64 4] a)
 (Kn c R)
def qZ:=λa (b:za) (R:VK) c (d:LK)=>
 opt (zi .eql 3 6 a 13) λe=>CD e (λj=>zt (nb [.int .u8 72,.int .u8 153] (zd zz 29 2 [(0,(.int .u8 72)),(1,(.int .u8 153))] b)) λf g=>rv [f] g R)
 (kx a b c R)
 (λh i=>d [nth h 0] i)
def fX:=λa (b:za) (R:VK) (f:LK)=>
 zD 42 a 3 3 b λc=>opt (zi .eql 3 20 c 3) λd=>CD d (Dd b a R)
 (λe=>e [.slice none 0 0] b)
 (De a R)
def ug:=λa (c:za) d (R:VK) (g:LK)=>
 opt (zi .eql 3 6 a 11) λe=>CD e (λb=>b [e] c)
 (λb=>opt (zi .eql 3 6 a 12) λh=>b [h] c)
 (λi f=>CD (nth i 0) (UB d f R)
 (qZ a f R d)
 (λj k=>g [nth j 0] k))
def fY:=λc (a:za) (R:VK) (f:LK)=>
 zD 42 c 3 3 a λd=>opt (zi .eql 3 10 d 1) λe=>CD e (λb=>b [.int .i64 3] a)
 (λb=>b [.int .i64 2] a)
 (l8 c R)
def vN:=λa b (c:za) (R:VK) (d:LK)=>
 opt (zi .eql 3 6 a 10) λe=>CD e (fX b c R)
 (ug a c b R)
 (λf g=>d [nth f 0] g)
def yb:=λa b (c:za) (R:VK) (d:LK)=>
 opt (zi .eql 3 6 a 9) λe=>CD e (fY b c R)
 (vN a b c R)
 (λf g=>d [nth f 0] g)
def Nz:=λ(h:za) a (R:VK)=>
 opt (nb [a] (some (Value.cells a).toList)) λd=>nw h d 42 λb c=>zD 42 b 0 3 c λe=>BK (yb e b c R)
 (λg f=>rv [.slice none 0 0] f R)
theorem Lu(hw:Nz h t0 R):DC zz 52 [t0] h R:=qU mixed (q:=qs) (n:=200) (Eq.mpr (by kernel_rfl) hw)
def tO:=λd a (b:za) (e:LK)=>
 qL 22 d (nth a 2) 3 b λf=>zt (nb [nth a 0] (zd zz 67 1 [(0,(nth a 0))] b)) λc g=>zt (nb [nth a 1,c] (zB zz .append [67,67] 67 [nth a 1,c] g)) λh i=>opt (zi .add 2 18 f 16) λj=>opt (zi .add 2 19 j 16) λk=>opt (zi .sub 2 20 k 1) λl=>opt (zi .quo 2 21 l 16) λm=>opt (zi .mul 2 22 m 16) λn=>opt (x6 .add 2 17 23 (nth a 0) n) λo=>e [o,h] i
def tP:=λb (c:LK) a (d:za)=>
 opt (zi .add 3 9 (nth b 2) 1) λe=>c [nth a 0,nth a 1,e] d
def tQ:=λd (e:LK) f a (b:za) (g:LK)=>
 opt (x6 .lss 3 9 8 (nth a 2) d) λh=>CD h (λc=>c [] b)
 (λc=>e [nth a 1] b)
 (λj i=>BK (tO f a i)
 (tP a g))
def Hm:=λ(h:za) a (R:VK)=>
 zt (uy 22 a h) λb c=>BK (λd=>LP (tQ b d a)
 [.int .i64 16777216,.slice none 0 0,.int .i64 0] c)
 (λe f=>rv [nth e 0] f R)
theorem Hn(hw:Hm h t0 R):DC zz 25 [t0] h R:=xM (by kernel_rfl) hw
def fu:=λa (c:za) (R:VK) (f:LK)=>
 opt (nb [] (zN zz 31 [])) λd=>opt (wz 31 a d c) λb=>opt (zf zz 31 a b) λe=>rv [e,.int .i64 1] b R
def sr:=λe f (a:za) g b (h:LK)=>
 qL 64 e (nth f 2) 65 a λc=>zD 42 g 5 3 a λd=>opt (nb [c,d,nth b 0] (jG zz 65 c d (nth b 0) a)) λi=>h [] i
def fw:=λa (b:LK) c (d:za)=>
 zt (uy 29 c d) λe f=>opt (x6 .add 3 71 74 (nth a 0) e) λg=>b [g] f
def su:=λf b (d:za) g h (i:LK)=>
 qL 48 f (nth b 1) 42 d λj=>kq 42 d λa k=>opt (wz 42 a j k) λc=>zD 42 a 0 3 c λl=>opt (zi .eql 3 62 l 20) λm=>CD m (sr g h c a b)
 (λn=>n [] c)
 (λp e=>opt (zf zz 42 a e) λo=>zF zz (fn 24) [o] e (fw b i))
def fy:=λa (b:LK) c (d:za)=>
 opt (zi .add 3 57 (nth a 1) 1) λe=>b [nth c 0,e] d
def fA:=λd (e:LK) f g h a (b:za) (i:LK)=>
 opt (x6 .lss 3 57 56 (nth a 1) d) λj=>CD j (λc=>c [] b)
 (λc=>e [nth a 0] b)
 (λl k=>BK (su f a k g h)
 (fy a i))
def Li:=λa (c:za) (R:VK) (f:LK)=>
 opt (nb [] (zN zz 31 [])) λd=>opt (wz 31 a d c) λb=>opt (zf zz 31 a b) λe=>rv [e,.int .i64 2] b R
def sw:=λc (R:VK) d (e:LK) a (b:za)=>
 opt (zi .gtr 3 77 (nth a 0) 8388608) λf=>CD f (Li c b R)
 (λg=>g [nth d 0] b)
 (λh i=>e [nth h 0,nth a 0] i)
def sy:=λl a (c:za) d e m (R:VK) (n:LK)=>
 qL 23 l (nth a 2) 50 c λo=>kq 50 c λf p=>opt (wz 50 f o p) λg=>zD 31 d 1 22 g λh=>zt (nb [nth a 1] (zd zz 22 1 [(0,(nth a 1))] g)) λi q=>zt (nb [h,i] (zB zz .append [22,22] 22 [h,i] q)) λr s=>YU 31 d 1 22 r s λb=>opt (vf zz 64 e (nth a 2)) λt=>opt (nb [(qg b).1] (uv zz 65 t (qg b).1 (qg b).2)) λj=>zD 50 f 1 48 j λk=>zt (uy 48 k j) λu v=>BK (λw=>LP (fA u w k e a)
 [nth a 1,.int .i64 0] v)
 (sw m R a n)
def nZ:=λb (c:LK) a (d:za)=>
 opt (zi .add 3 39 (nth b 2) 1) λe=>c [nth a 0,nth a 1,e] d
def aH:=λd (e:LK) f g h i (R:VK) a (b:za) (j:LK)=>
 opt (x6 .lss 3 39 38 (nth a 2) d) λk=>CD k (λc=>c [] b)
 (λc=>e [nth a 0] b)
 (λm l=>BK (sy f a l g h i R)
 (nZ a j))
def n7:=λb (a:za) c (d:LK)=>
 zD 42 b 3 3 a λe=>qL 67 c e 2 a λf=>zD 42 b 6 2 a λg=>opt (x6 .add 2 135 137 f g) λh=>d [h] a
def oa:=λb (a:za) c (d:LK)=>
 zD 31 b 1 22 a λe=>zD 42 c 3 3 a λf=>qL 22 e f 3 a λg=>d [g] a
def aI:=λb c (a:za) d (e f:LK)=>
 opt (zi .eql 3 110 b 6) λg=>CD g (n7 c a d)
 (λj=>e [] a)
 (λh i=>f [nth h 0] i)
def aJ:=λd e (a:za) f (g:LK)=>
 qL 64 d (nth e 0) 65 a λb=>zD 42 f 5 3 a λc=>opt (nb [b,c] (Wg zz 65 b c false a)) λh=>g [h] a
def Qf:=λa d (b:za) c e (f g:LK)=>
 opt (zi .eql 3 110 a 21) λh=>CD h (oa d b c)
 (aI a c b e f)
 (λi j=>g [nth i 0] j)
def aK:=λa (c:za) g h d i j (k l:LK)=>
 opt (zi .eql 3 110 a 18) λe=>CD e (λb=>b [e] c)
 (λb=>opt (zi .eql 3 110 a 19) λm=>b [m] c)
 (λn f=>CD (nth n 0) (aJ g h f d)
 (Qf a i f d j k)
 (λo p=>l [nth o 0] p))
def oc:=λg b (h:LK) i (a:za)=>
 zD 31 g 0 29 a λc=>opt (zi .sub 2 141 b 4) λd=>opt (nb [c] (cond (pJ (some d)&&pJ none) (Dr zz 29 c (some d) none a) none)) λe=>opt (x6 .sub 2 144 145 (nth i 0) b) λj=>QG zz 26 [.int .i64 4,j] a (λf k=>zt (nb [e,f] (zB zz .copy [29,29] 3 [e,f] k)) λm l=>h [] l)
def aL:=λa b i j k (c:LK) d (e:za)=>
 zD 31 a 0 29 e λf=>zt (nb [f,d] (zB zz .append [29,29] 29 [f,d] e)) λl m=>YU 31 a 0 29 l m λg=>zD 31 a 0 29 g λn=>zt (uy 29 n g) λo h=>zD 42 b 0 3 h λp=>BK (aK p h i j b a k c)
 (oc a o c)
def od:=λd e (b:za) f g h i (j:LK)=>
 qL 48 d (nth e 0) 42 b λk=>kq 42 b λa l=>opt (wz 42 a k l) λc=>opt (zf zz 42 a c) λm=>zF zz (fn 24) [m] c (aL f a g h i j)
def oe:=λb a c d e f (g:LK) (k:List aaa) (h:za)=>
 BK (od b a h c d e f)
 (λl i=>opt (zi .add 3 95 (nth a 0) 1) λj=>g [j] i)
def aM:=λd (e:LK) f g h i j a (b:za) (k:LK)=>
 opt (x6 .lss 3 95 94 (nth a 0) d) λl=>CD l (λc=>c [] b)
 (λc=>e [] b)
 (oe f a g h i j k)
def og:=λf a (b:za) g h i (j:LK)=>
 qL 23 f (nth a 0) 50 b λk=>kq 50 b λc l=>opt (wz 50 c k l) λd=>zD 50 c 1 48 d λe=>zt (uy 48 e d) λm n=>BK (λo=>LP (aM m o e g h a i)
 [.int .i64 0] n)
 (λq p=>j [] p)
def oh:=λb a c d e (f:LK) (j:List aaa) (g:za)=>
 BK (og b a g c d e)
 (λk h=>opt (zi .add 3 87 (nth a 0) 1) λi=>f [i] h)
def aN:=λd (e:LK) f g h i a (b:za) (j:LK)=>
 opt (x6 .lss 3 87 86 (nth a 0) d) λk=>CD k (λc=>c [] b)
 (λc=>e [] b)
 (oh f a g h i j)
def aO:=λd a (R:VK) (g:List aaa) (b:za)=>
 opt (zf zz 31 d b) λe=>opt (wz 31 a e b) λc=>opt (zf zz 31 a c) λf=>rv [f,.int .i64 0] c R
def oj:=λd a e f (R:VK) g (b:za)=>
 zD 25 d 1 23 b λc=>zt (uy 23 c b) λh i=>BK (λj=>LP (aN h j c a e g)
 [.int .i64 0] i)
 (aO a f R)
def oq:=λa c d e (R:VK) (g:List aaa) (b:za)=>
 zD 25 a 0 22 b λf=>zF zz (fn 25) [f] b (oj a c d e R)
def Qg:=λa (e c:za) f (R:VK) o g (b:za)=>
 opt (zl zz 25 a 2) λp=>opt (zf zz 3 p (cut (cut b e.next c.next) c.next b.next)) λh=>opt (zl zz 25 a 3) λq=>opt (zf zz 3 q (cut (cut b e.next c.next) c.next b.next)) λi=>opt (nb [g,h,i] (zN zz 31 [(2,g),(3,h),(4,i)])) λr=>kq 31 b λd s=>opt (wz 31 d r s) λj=>zD 25 a 1 23 j λt=>zt (uy 23 t j) λk u=>zt (Wh zz 64 k k u) λl m=>zD 25 a 1 23 m λn=>zt (uy 23 n m) λv w=>BK (λx=>LP (aH v x n d l f R)
 [nth o 0,.int .i64 0,.int .i64 0] w)
 (oq a d l f R)
def ot:=λc d (R:VK) e (b:za)=>
 zt (nb [] (zd zz 22 0 [] b)) λf a=>opt (zl zz 25 c 0) λg=>opt (zf zz 22 g (cut a b.next a.next)) λh=>JA zz [22,22] 22 [f,h] (some (b.next,a.next)) a a (Qg c b a d R e)
def F8:=λ(h:za) a (R:VK)=>
 opt (nb [a] (some (Value.cells a).toList)) λf=>nw h f 25 λb g=>kq 31 g λc d=>opt (zf zz 25 b d) λi=>zF zz (fn 23) [i] d (λj e=>opt (Dt zz .not j) λk=>CD k (fu c e R)
 (λl=>l [.int .i64 0] e)
 (ot b c R))
theorem F9(hw:F8 h t0 R):DC zz 10 [t0] h R:=qU mixed (q:=qs) (n:=200) (Eq.mpr (by kernel_rfl) hw)
def Ns:=λa (f:za) g (h:LK)=>
 opt (nb [.int .i64 8,nth a 1] (zM zz .mul 3 (.const (.int .i64 8)) (.tmp 15) (.int .i64 8) (nth a 1))) λb=>zt (nb [b] (yS zz 3 99 b f)) λi j=>opt (x6 .shr 2 14 17 g i) λc=>zt (nb [c] (yS zz 2 5 c j)) λd k=>zt (nb [d] (zd zz 29 1 [(0,d)] k)) λe l=>zt (nb [nth a 0,e] (zB zz .append [29,29] 29 [nth a 0,e] l)) λm n=>h [m] n
def Nt:=λa (b:LK) c (d:za)=>
 opt (zi .add 3 11 (nth a 1) 1) λe=>b [nth c 0,e] d
def Nu:=λd (e:LK) f a (b:za) (g:LK)=>
 opt (x6 .lss 3 8 9 (nth a 1) d) λh=>CD h (λc=>c [] b)
 (λc=>e [nth a 0] b)
 (λj i=>BK (Ns a i f)
 (Nt a g))
def zcE:=λ(h:za) a b (R:VK)=>
 zt (Wh zz 29 (.int .i64 0) (.int .i64 0) h) λc d=>BK (λe=>LP (Nu b e a)
 [c,.int .i64 0] d)
 (λf g=>rv [nth f 0] g R)
theorem Sk(hw:zcE h t0 t1 R):DC zz 39 [t0,t1] h R:=xM (by kernel_rfl) hw
def X9:=λd (R:VK) a (c:za)=>
 opt (zi .geq 3 11 d 8) λe=>CD e (λb=>opt (nb [nth a 0,.int .u8 1] (zM zz .or 5 (.tmp 13) (.const (.int .u8 1)) (nth a 0) (.int .u8 1))) λf=>b [f] c)
 (λb=>b [nth a 0] c)
 (λg h=>rv [nth g 0] h R)
def Sd:=λ(h:za) a c d (R:VK)=>
 opt (zi .geq 3 7 c 8) λe=>CD e (λb=>opt (nb [a,.int .u8 4] (zM zz .or 5 (.tmp 9) (.const (.int .u8 4)) a (.int .u8 4))) λf=>b [f] h)
 (λb=>b [a] h)
 (X9 d R)
theorem O7(hw:Sd h t0 t1 t2 R):DC zz 38 [t0,t1,t2] h R:=xM (by kernel_rfl) hw
def zcG:=λ(h:za) d e (R:VK)=>
 opt (zi .and 3 5 d 7) λa=>opt (nb [a,.int .u64 3] (zM zz .shl 3 (.tmp 6) (.const (.int .u64 3)) a (.int .u64 3))) λb=>opt (nb [.int .i64 192,b] (zM zz .or 3 (.const (.int .i64 192)) (.tmp 7) (.int .i64 192) b)) λf=>opt (zi .and 3 9 e 7) λg=>opt (x6 .or 3 8 10 f g) λc=>zt (nb [c] (yS zz 3 5 c h)) λi j=>rv [i] j R
theorem Sq(hw:zcG h t0 t1 R):DC zz 57 [t0,t1] h R:=xM (by kernel_rfl) hw
def oF:=λ(c:za) a (d:LK)=>
 zt (nb [.int .u8 36] (zd zz 29 1 [(0,(.int .u8 36))] c)) λb e=>zt (nb [a,b] (zB zz .append [29,29] 29 [a,b] e)) λf g=>d [f] g
def aS:=λc (R:VK) a (d:za)=>
 zF zz (fn 39) [c,.int .i64 4] d (λb e=>zt (nb [nth a 0,b] (zB zz .append [29,29] 29 [nth a 0,b] e)) λf g=>rv [f] g R)
def CL:=λ(h:za) i a j (R:VK)=>
 opt (zi .and 3 8 i 7) λb=>opt (nb [b,.int .u64 3] (zM zz .shl 3 (.tmp 9) (.const (.int .u64 3)) b (.int .u64 3))) λc=>opt (nb [.int .i64 128,c] (zM zz .or 3 (.const (.int .i64 128)) (.tmp 10) (.int .i64 128) c)) λk=>opt (zi .and 3 12 a 7) λl=>opt (x6 .or 3 11 13 k l) λd=>zt (nb [d] (yS zz 3 5 d h)) λe m=>zt (nb [e] (zd zz 29 1 [(0,e)] m)) λf g=>opt (zi .and 3 17 a 7) λn=>opt (zi .eql 3 18 n 4) λo=>CD o (oF g f)
 (λp=>p [f] g)
 (aS j R)
theorem EA(hw:CL h t0 t1 t2 R):DC zz 58 [t0,t1,t2] h R:=xM (by kernel_rfl) hw
def Sa:=λ(h:za) b (R:VK)=>
 zt (nb [.int .u8 4,.int .u8 5,.int .u8 12,.int .u8 14,.int .u8 15,.int .u8 13] (zd zz 29 6 [(0,(.int .u8 4)),(1,(.int .u8 5)),(2,(.int .u8 12)),(3,(.int .u8 14)),(4,(.int .u8 15)),(5,(.int .u8 13))] h)) λc a=>opt (zi .sub 3 4 b 21) λd=>qL 29 c d 5 a λe=>rv [e] a R
theorem O5(hw:Sa h t0 R):DC zz 62 [t0] h R:=xM (by kernel_rfl) hw
def lS:=λb (h:za) (R:VK) (c:LK)=>
 opt (zi .eql 3 3 b 12) λd=>CD d (λa=>rv [.int .i64 5] h R)
 (λa=>a [.int .i64 0] h)
 (λe f=>c [nth e 0] f)
def cQ:=λa (h:za) (R:VK) (b:LK)=>
 opt (zi .eql 3 3 a 16) λc=>CD c (λf=>rv [.int .i64 4] h R)
 (lS a h R)
 (λd e=>b [nth d 0] e)
def Kh:=λa (h:za) (R:VK) (b:LK)=>
 opt (zi .eql 3 3 a 17) λc=>CD c (λf=>rv [.int .i64 1] h R)
 (cQ a h R)
 (λd e=>b [nth d 0] e)
def Un:=λa (h:za) (R:VK) (b:LK)=>
 opt (zi .eql 3 3 a 11) λc=>CD c (λf=>rv [.int .i64 0] h R)
 (Kh a h R)
 (λd e=>b [nth d 0] e)
def M9:=λ(h:za) a (R:VK)=>
 BK (Un a h R)
 (λc b=>rv [.int .i64 6] b R)
theorem Ln(hw:M9 h t0 R):DC zz 60 [t0] h R:=xM (by kernel_rfl) hw
def fU:=λb (h:za) (R:VK) (c:LK)=>
 opt (zi .eql 3 3 b 12) λd=>CD d (λa=>rv [.int .u8 41] h R)
 (λa=>a [.int .u8 0] h)
 (λe f=>c [nth e 0] f)
def Js:=λa (h:za) (R:VK) (b:LK)=>
 opt (zi .eql 3 3 a 16) λc=>CD c (λf=>rv [.int .u8 33] h R)
 (fU a h R)
 (λd e=>b [nth d 0] e)
def Ux:=λa (h:za) (R:VK) (b:LK)=>
 opt (zi .eql 3 3 a 17) λc=>CD c (λf=>rv [.int .u8 9] h R)
 (Js a h R)
 (λd e=>b [nth d 0] e)
def WE:=λa (h:za) (R:VK) (b:LK)=>
 opt (zi .eql 3 3 a 11) λc=>CD c (λf=>rv [.int .u8 1] h R)
 (Ux a h R)
 (λd e=>b [nth d 0] e)
def Hh:=λ(h:za) a (R:VK)=>
 BK (WE a h R)
 (λc b=>rv [.int .u8 49] b R)
theorem Hi(hw:Hh h t0 R):DC zz 59 [t0] h R:=xM (by kernel_rfl) hw
def Ny:=λ(h:za) b (R:VK)=>
 opt (zi .eql 3 3 b 19) λc=>CD c (λa=>rv [.int .i64 4] h R)
 (λa=>a [.int .i64 0] h)
 (λe d=>rv [.int .i64 7] d R)
theorem Lt(hw:Ny h t0 R):DC zz 61 [t0] h R:=xM (by kernel_rfl) hw
def Cv:=λc (b:za) f (R:VK) d=>
 zt (nb [c,.int .u8 199,d] (zd zz 29 3 [(0,c),(1,(.int .u8 199)),(2,d)] b)) λg a=>opt (zl zz 42 f 6) λh=>opt (zf zz 2 h (cut a b.next a.next)) λi=>kC zz 39 [i,.int .i64 4] (cut a b.next a.next) a (λj e=>JA zz [29,29] 29 [g,j] (some (b.next,a.next)) e e (λk l=>rv [k] l R))
def Cw:=λc d (R:VK) (q:List aaa) (e:za)=>
 zD 42 c 1 3 e λj=>opt (zi .and 3 48 j 7) λf=>opt (nb [.int .i64 184,f] (zM zz .add 3 (.const (.int .i64 184)) (.tmp 49) (.int .i64 184) f)) λg=>zt (nb [g] (yS zz 3 5 g e)) λh b=>zt (nb [d,h] (zd zz 29 2 [(0,d),(1,h)] b)) λk a=>opt (zl zz 42 c 6) λl=>opt (zf zz 2 l (cut a b.next a.next)) λm=>kC zz 39 [m,.int .i64 8] (cut a b.next a.next) a (λn i=>JA zz [29,29] 29 [k,n] (some (b.next,a.next)) i i (λo p=>rv [o] p R))
def lL:=λb c (R:VK) e (a:za)=>
 CD e (λd=>zD 42 b 1 3 a λf=>qt zz 57 [.int .i64 0,f] a (Cv c a b R))
 (λd=>d [.slice none 0 0] a)
 (Cw b c R)
def Cx:=λc (f:za) b (R:VK) (m:LK)=>
 zt (nb [c,.int .u8 99] (zd zz 29 2 [(0,c),(1,(.int .u8 99))] f)) λd a=>zD 42 b 1 3 a λg=>zD 42 b 2 3 a λh=>zD 42 b 6 2 a λi=>zF zz (fn 58) [g,h,i] a (λe j=>zt (nb [d,e] (zB zz .append [29,29] 29 [d,e] j)) λk l=>rv [k] l R)
def Cy:=λc (f:za) b (R:VK) (m:LK)=>
 zt (nb [c,.int .u8 139] (zd zz 29 2 [(0,c),(1,(.int .u8 139))] f)) λd a=>zD 42 b 1 3 a λg=>zD 42 b 2 3 a λh=>zD 42 b 6 2 a λi=>zF zz (fn 58) [g,h,i] a (λe j=>zt (nb [d,e] (zB zz .append [29,29] 29 [d,e] j)) λk l=>rv [k] l R)
def lM:=λb c (a:za) d (R:VK) (e:LK)=>
 opt (zi .eql 3 60 b 4) λf=>CD f (Cx c a d R)
 (λg=>g [.slice none 0 0] a)
 (λh i=>e [nth h 0] i)
def cD:=λa b (c:za) d (R:VK) (e:LK)=>
 opt (zi .eql 3 60 a 8) λf=>CD f (Cy b c d R)
 (lM a b c d R)
 (λg h=>e [nth g 0] h)
def Cz:=λc b (R:VK) (m:List aaa) (f:za)=>
 zt (nb [c,.int .u8 15,.int .u8 190] (zd zz 29 3 [(0,c),(1,(.int .u8 15)),(2,(.int .u8 190))] f)) λd a=>zD 42 b 1 3 a λg=>zD 42 b 2 3 a λh=>zD 42 b 6 2 a λi=>zF zz (fn 58) [g,h,i] a (λe j=>zt (nb [d,e] (zB zz .append [29,29] 29 [d,e] j)) λk l=>rv [k] l R)
def CA:=λ(b:za) c (R:VK) d=>
 zt (nb [d,.int .u8 137] (zd zz 29 2 [(0,d),(1,(.int .u8 137))] b)) λf a=>opt (zl zz 42 c 1) λg=>opt (zf zz 3 g (cut a b.next a.next)) λh=>opt (zl zz 42 c 2) λi=>opt (zf zz 3 i (cut a b.next a.next)) λj=>opt (zl zz 42 c 6) λk=>opt (zf zz 2 k (cut a b.next a.next)) λl=>kC zz 58 [h,j,l] (cut a b.next a.next) a (λm e=>JA zz [29,29] 29 [f,m] (some (b.next,a.next)) e e (λn o=>rv [n] o R))
def rA:=λb (a:za) (R:VK) (e:LK)=>
 zD 42 b 1 3 a λc=>zD 42 b 2 3 a λd=>qt zz 38 [.int .u8 64,c,d] a (CA a b R)
def rB:=λc (f:za) b (R:VK) (m:LK)=>
 zt (nb [c,.int .u8 137] (zd zz 29 2 [(0,c),(1,(.int .u8 137))] f)) λd a=>zD 42 b 1 3 a λg=>zD 42 b 2 3 a λh=>zD 42 b 6 2 a λi=>zF zz (fn 58) [g,h,i] a (λe j=>zt (nb [d,e] (zB zz .append [29,29] 29 [d,e] j)) λk l=>rv [k] l R)
def eU:=λb c (a:za) (R:VK) (d:LK)=>
 opt (zi .eql 3 98 b 4) λe=>CD e (rA c a R)
 (λf=>f [.slice none 0 0] a)
 (λg h=>d [nth g 0] h)
def KX:=λa d (b:za) c (R:VK) (e:LK)=>
 opt (zi .eql 3 98 a 8) λf=>CD f (rB d b c R)
 (eU a c b R)
 (λg h=>e [nth g 0] h)
def rC:=λ(b:za) c (R:VK) d=>
 zt (nb [d,.int .u8 136] (zd zz 29 2 [(0,d),(1,(.int .u8 136))] b)) λf a=>opt (zl zz 42 c 1) λg=>opt (zf zz 3 g (cut a b.next a.next)) λh=>opt (zl zz 42 c 2) λi=>opt (zf zz 3 i (cut a b.next a.next)) λj=>opt (zl zz 42 c 6) λk=>opt (zf zz 2 k (cut a b.next a.next)) λl=>kC zz 58 [h,j,l] (cut a b.next a.next) a (λm e=>JA zz [29,29] 29 [f,m] (some (b.next,a.next)) e e (λn o=>rv [n] o R))
def rD:=λb (R:VK) (e:List aaa) (a:za)=>
 zD 42 b 1 3 a λc=>zD 42 b 2 3 a λd=>qt zz 38 [.int .u8 64,c,d] a (rC a b R)
def rE:=λj (c:za) k (R:VK) d=>
 zD 42 j 1 3 c λl=>opt (zi .and 3 159 l 7) λe=>opt (nb [e,.int .u64 3] (zM zz .shl 3 (.tmp 160) (.const (.int .u64 3)) e (.int .u64 3))) λf=>opt (nb [.int .i64 5,f] (zM zz .or 3 (.const (.int .i64 5)) (.tmp 161) (.int .i64 5) f)) λg=>zt (nb [g] (yS zz 3 5 g c)) λh b=>zt (nb [d,.int .u8 141,h] (zd zz 29 3 [(0,d),(1,(.int .u8 141)),(2,h)] b)) λm a=>kC zz 39 [k,.int .i64 4] (cut a b.next a.next) a (λn i=>JA zz [29,29] 29 [m,n] (some (b.next,a.next)) i i (λo p=>rv [o] p R))
def rF:=λa (R:VK) b (c:za)=>
 zt (nb [a,.int .u8 15,.int .u8 175,b] (zd zz 29 4 [(0,a),(1,(.int .u8 15)),(2,(.int .u8 175)),(3,b)] c)) λd e=>rv [d] e R
def rG:=λb (a:za) c (R:VK) (f:LK)=>
 zD 42 b 1 3 a λd=>zD 42 b 2 3 a λe=>zF zz (fn 57) [d,e] a (rF c R)
def rH:=λb (a:za) c (R:VK) d=>
 zD 42 b 2 3 a λf=>zD 42 b 1 3 a λg=>qt zz 57 [f,g] a (λe=>zt (nb [c,d,e] (zd zz 29 3 [(0,c),(1,d),(2,e)] a)) λh i=>rv [h] i R)
def rI:=λc (b:za) f (R:VK) d=>
 zt (nb [c,.int .u8 105,d] (zd zz 29 3 [(0,c),(1,(.int .u8 105)),(2,d)] b)) λg a=>opt (zl zz 42 f 6) λh=>opt (zf zz 2 h (cut a b.next a.next)) λi=>kC zz 39 [i,.int .i64 4] (cut a b.next a.next) a (λj e=>JA zz [29,29] 29 [g,j] (some (b.next,a.next)) e e (λk l=>rv [k] l R))
def rJ:=λb (a:za) (R:VK) c=>
 zD 42 b 1 3 a λd=>zD 42 b 1 3 a λe=>qt zz 57 [d,e] a (rI c a b R)
def rK:=λb (a:za) (R:VK) (e:LK)=>
 zD 42 b 1 3 a λc=>zD 42 b 1 3 a λd=>qt zz 38 [.int .u8 72,c,d] a (rJ b a R)
def rL:=λc (b:za) f (R:VK) d=>
 zt (nb [c,.int .u8 129,d] (zd zz 29 3 [(0,c),(1,(.int .u8 129)),(2,d)] b)) λg a=>opt (zl zz 42 f 6) λh=>opt (zf zz 2 h (cut a b.next a.next)) λi=>kC zz 39 [i,.int .i64 4] (cut a b.next a.next) a (λj e=>JA zz [29,29] 29 [g,j] (some (b.next,a.next)) e e (λk l=>rv [k] l R))
def rM:=λb c (R:VK) (g:List aaa) (a:za)=>
 zD 42 b 3 3 a λd=>qt zz 60 [d] a (λe=>zD 42 b 1 3 a λf=>qt zz 57 [e,f] a (rL c a b R))
def rN:=λd (a:za) b (R:VK) (i:LK)=>
 zD 42 d 1 3 a λe=>zF zz (fn 57) [.int .i64 2,e] a (λc f=>zt (nb [b,.int .u8 247,c] (zd zz 29 3 [(0,b),(1,(.int .u8 247)),(2,c)] f)) λg h=>rv [g] h R)
def rO:=λd a (R:VK) (i:List aaa) (b:za)=>
 zD 42 d 1 3 b λe=>zF zz (fn 57) [.int .i64 3,e] b (λc f=>zt (nb [a,.int .u8 247,c] (zd zz 29 3 [(0,a),(1,(.int .u8 247)),(2,c)] f)) λg h=>rv [g] h R)
def rP:=λa (R:VK) b (c:za)=>
 zt (nb [a,.int .u8 15,.int .u8 190,b] (zd zz 29 4 [(0,a),(1,(.int .u8 15)),(2,(.int .u8 190)),(3,b)] c)) λd e=>rv [d] e R
def rQ:=λb (a:za) c (R:VK) (f:LK)=>
 zD 42 b 1 3 a λd=>zD 42 b 2 3 a λe=>zF zz (fn 57) [d,e] a (rP c R)
def rR:=λb c (R:VK) (j:List aaa) (a:za)=>
 zD 42 b 1 3 a λe=>zD 42 b 2 3 a λf=>zF zz (fn 57) [e,f] a (λd g=>zt (nb [c,.int .u8 99,d] (zd zz 29 3 [(0,c),(1,(.int .u8 99)),(2,d)] g)) λh i=>rv [h] i R)
def eV:=λf (a:za) b (R:VK) c=>
 zD 42 f 6 2 a λd=>zt (nb [d] (yS zz 2 5 d a)) λe g=>zt (nb [b,.int .u8 193,c,e] (zd zz 29 4 [(0,b),(1,(.int .u8 193)),(2,c),(3,e)] g)) λh i=>rv [h] i R
def eW:=λd (a:za) b (R:VK) e=>
 zD 42 d 1 3 a λf=>qt zz 57 [e,f] a (λc=>zt (nb [b,.int .u8 211,c] (zd zz 29 3 [(0,b),(1,(.int .u8 211)),(2,c)] a)) λg h=>rv [g] h R)
def rS:=λd (a:za) (R:VK) b=>
 zD 42 d 2 3 a λe=>qt zz 57 [.int .i64 7,e] a (λc=>zt (nb [b,.int .u8 247,c] (zd zz 29 3 [(0,b),(1,(.int .u8 247)),(2,c)] a)) λf g=>rv [f] g R)
def rT:=λc (b:za) f (R:VK) d=>
 zt (nb [c,.int .u8 129,d] (zd zz 29 3 [(0,c),(1,(.int .u8 129)),(2,d)] b)) λg a=>opt (zl zz 42 f 6) λh=>opt (zf zz 2 h (cut a b.next a.next)) λi=>kC zz 39 [i,.int .i64 4] (cut a b.next a.next) a (λj e=>JA zz [29,29] 29 [g,j] (some (b.next,a.next)) e e (λk l=>rv [k] l R))
def rU:=λa b c d (f:za) (R:VK) e=>
 zt (nb [a,.int .u8 15,b,c,d,.int .u8 15,.int .u8 182,e] (zd zz 29 8 [(0,a),(1,(.int .u8 15)),(2,b),(3,c),(4,d),(5,(.int .u8 15)),(6,(.int .u8 182)),(7,e)] f)) λg h=>rv [g] h R
def rV:=λb (a:za) c d e (R:VK) f=>
 zD 42 b 1 3 a λg=>zD 42 b 1 3 a λh=>qt zz 57 [g,h] a (rU c d e f a R)
def rW:=λb (a:za) c d (R:VK) e=>
 zD 42 b 1 3 a λf=>zD 42 b 1 3 a λg=>qt zz 38 [.int .u8 72,f,g] a (rV b a c d e R)
def rX:=λb (a:za) d (R:VK) c=>
 opt (nb [.int .u8 144,c] (zM zz .add 5 (.const (.int .u8 144)) (.tmp 318) (.int .u8 144) c)) λe=>zD 42 b 1 3 a λf=>qt zz 57 [.int .i64 0,f] a (rW b a d e R)
def rY:=λb (a:za) (R:VK) (f:LK)=>
 zD 42 b 1 3 a λc=>qt zz 38 [.int .u8 64,.int .i64 0,c] a (λd=>zD 42 b 4 3 a λe=>qt zz 62 [e] a (rX b a d R))
def eY:=λb c (a:za) (R:VK) (d:LK)=>
 opt (zi .eql 3 22 b 17) λe=>CD e (rY c a R)
 (λf=>f [.slice none 0 0] a)
 (λg h=>d [nth g 0] h)
def rZ:=λb (a:za) c (R:VK) (j:LK)=>
 zD 42 b 2 3 a λe=>zD 42 b 1 3 a λf=>zF zz (fn 57) [e,f] a (λd g=>zt (nb [c,.int .u8 57,d] (zd zz 29 3 [(0,c),(1,(.int .u8 57)),(2,d)] g)) λh i=>rv [h] i R)
def KY:=λc b (a:za) d (R:VK) (e:LK)=>
 opt (zi .eql 3 22 c 16) λf=>CD f (λj=>zD 42 b 1 3 a λg=>qt zz 57 [.int .i64 7,g] a (rT d a b R))
 (eY c b a R)
 (λh i=>e [nth h 0] i)
def r5:=λb (a:za) (R:VK) (d:LK)=>
 zD 42 b 2 3 a λc=>qt zz 38 [.int .u8 72,.int .i64 0,c] a (rS b a R)
def Us:=λa b (c:za) d (R:VK) e (f:LK)=>
 opt (zi .eql 3 22 a 15) λg=>CD g (rZ b c d R)
 (KY a b c e R)
 (λh i=>f [nth h 0] i)
def Wy:=λa b (c:za) (R:VK) d e (f:LK)=>
 opt (zi .eql 3 22 a 14) λg=>CD g (r5 b c R)
 (Us a b c d R e)
 (λh i=>f [nth h 0] i)
def Xh:=λa (b:za) (R:VK) c d e (f:LK)=>
 opt (zi .eql 3 22 a 13) λg=>CD g (λl=>zt (nb [.int .u8 72,.int .u8 153] (zd zz 29 2 [(0,(.int .u8 72)),(1,(.int .u8 153))] b)) λh i=>rv [h] i R)
 (Wy a c b R d e)
 (λj k=>f [nth j 0] k)
def eZ:=λb (a:za) c (R:VK) (g:LK)=>
 zD 42 b 3 3 a λd=>qt zz 61 [d] a (λe=>zD 42 b 1 3 a λf=>qt zz 57 [e,f] a (eV b a c R))
def Zo:=λc b (a:za) d (R:VK) e (f:LK)=>
 opt (zi .eql 3 22 c 12) λg=>CD g (λk=>zD 42 b 3 3 a λh=>qt zz 61 [h] a (eW b a d R))
 (Xh c a R b e d)
 (λi j=>f [nth i 0] j)
def fe:=λa (b:za) c (R:VK) (g:LK)=>
 zD 42 a 3 3 b λd=>opt (zi .eql 3 240 d 3) λe=>CD e (rQ a b c R)
 (λf=>f [.slice none 0 0] b)
 (rR a c R)
def ku:=λa b (c:za) d (R:VK) e (f:LK)=>
 opt (zi .eql 3 22 a 11) λg=>CD g (eZ b c d R)
 (Zo a b c d R e)
 (λh i=>f [nth h 0] i)
def fh:=λa (b:za) c (R:VK) (g:LK)=>
 zD 42 a 3 3 b λd=>opt (zi .eql 3 225 d 2) λe=>CD e (rN a b c R)
 (λf=>f [.slice none 0 0] b)
 (rO a c R)
def qw:=λa b (c:za) d (R:VK) e f (g:LK)=>
 opt (zi .eql 3 22 a 10) λh=>CD h (fe b c d R)
 (ku a b c e R f)
 (λi j=>g [nth i 0] j)
def fj:=λa (b:za) (R:VK) c (g:LK)=>
 zD 42 a 3 3 b λd=>opt (zi .eql 3 193 d 13) λe=>CD e (rK a b R)
 (λf=>f [.slice none 0 0] b)
 (rM a c R)
def uC:=λa b (c:za) d (R:VK) e f (g:LK)=>
 opt (zi .eql 3 22 a 9) λh=>CD h (fh b c d R)
 (qw a b c e R d f)
 (λi j=>g [nth i 0] j)
def fo:=λa (b:za) d (R:VK) e (j:LK)=>
 zD 42 a 3 3 b λf=>opt (zi .eql 3 171 f 13) λg=>CD g (rG a b d R)
 (λh=>h [.slice none 0 0] b)
 (λk c=>zD 42 a 3 3 c λi=>qt zz 59 [i] c (rH a c e R))
def vT:=λa b (c:za) (R:VK) d e f (g:LK)=>
 opt (zi .eql 3 22 a 8) λh=>CD h (fj b c R d)
 (uC a b c d R e f)
 (λi j=>g [nth i 0] j)
def r7:=λb (a:za) c (R:VK) (e:LK)=>
 zD 42 b 1 3 a λd=>qt zz 38 [.int .u8 72,d,.int .i64 0] a (rE b a c R)
def vv:=λa b (c:za) d (R:VK) e f (g:LK)=>
 opt (zi .eql 3 22 a 7) λh=>CD h (fo b c d R e)
 (vT a b c R f d e)
 (λi j=>g [nth i 0] j)
def r8:=λc (f:za) b (R:VK) (m:LK)=>
 zt (nb [c,.int .u8 141] (zd zz 29 2 [(0,c),(1,(.int .u8 141))] f)) λd a=>zD 42 b 1 3 a λg=>zD 42 b 2 3 a λh=>zD 42 b 6 2 a λi=>zF zz (fn 58) [g,h,i] a (λe j=>zt (nb [d,e] (zB zz .append [29,29] 29 [d,e] j)) λk l=>rv [k] l R)
def vk:=λa b (c:za) d (R:VK) e f g (h:LK)=>
 opt (zi .eql 3 22 a 6) λi=>CD i (r7 b c d R)
 (vv a b c e R f g)
 (λj k=>h [nth j 0] k)
def wL:=λa b (c:za) d (R:VK) e f g (h:LK)=>
 opt (zi .eql 3 22 a 5) λi=>CD i (r8 b c d R)
 (vk a d c e R b f g)
 (λj k=>h [nth j 0] k)
def wi:=λc a (b:za) d (R:VK) e f g (h:LK)=>
 opt (zi .eql 3 22 c 4) λi=>CD i (λm=>zD 42 a 3 3 b λj=>BK (KX j d b a R)
 (rD a R))
 (wL c d b a R e f g)
 (λk l=>h [nth k 0] l)
def xg:=λd a (b:za) c (R:VK) e f g (h:LK)=>
 opt (zi .eql 3 22 d 3) λi=>CD i (λm=>zD 42 a 3 3 b λj=>BK (cD j c b a R)
 (Cz c a R))
 (wi d a b c R e f g)
 (λk l=>h [nth k 0] l)
def r9:=λb (a:za) c (R:VK) (j:LK)=>
 zD 42 b 2 3 a λe=>zD 42 b 1 3 a λf=>zF zz (fn 57) [e,f] a (λd g=>zt (nb [c,.int .u8 137,d] (zd zz 29 3 [(0,c),(1,(.int .u8 137)),(2,d)] g)) λh i=>rv [h] i R)
def yY:=λc a (b:za) d (R:VK) e f g (h:LK)=>
 opt (zi .eql 3 22 c 2) λi=>CD i (λm=>zD 42 a 6 2 b λj=>zF zz (fn 37) [j] b (lL a d R))
 (xg c a b e R f g d)
 (λk l=>h [nth k 0] l)
def zH:=λa b (c:za) d (R:VK) e f g (h:LK)=>
 opt (zi .eql 3 22 a 1) λi=>CD i (r9 b c d R)
 (yY a b c e R f g d)
 (λj k=>h [nth j 0] k)
def sd:=λa e (R:VK) f b g (c:za)=>
 zD 42 a 0 3 c λh=>BK (zH h a c e R g f b)
 (λl d=>opt (zf zz 42 a d) λi=>zF zz (fn 63) [i,b] d (λj k=>rv [j] k R))
def sg:=λa (R:VK) c d e (b:za)=>
 zD 42 a 1 3 b λf=>zF zz (fn 38) [.int .u8 72,.int .i64 0,f] b (sd a e R c d)
def si:=λa (R:VK) c d (b:za)=>
 zD 42 a 2 3 b λe=>zD 42 a 1 3 b λf=>zF zz (fn 38) [.int .u8 72,e,f] b (sg a R d c)
def M1:=λ(h:za) c d (R:VK)=>
 opt (nb [c] (some (Value.cells c).toList)) λe=>nw h e 42 λa b=>zD 42 a 1 3 b λf=>zD 42 a 2 3 b λg=>zF zz (fn 38) [.int .u8 72,f,g] b (si a R d)
theorem Lh(hw:M1 h t0 t1 R):DC zz 29 [t0,t1] h R:=qU mixed (q:=qs) (n:=200) (Eq.mpr (by kernel_rfl) hw)
def Hp:=λe (R:VK) a (f:za)=>
 opt (nb [.int .u8 128,a] (zM zz .add 5 (.const (.int .u8 128)) (.tmp 17) (.int .u8 128) a)) λb=>zt (nb [.int .u8 15,b] (zd zz 29 2 [(0,(.int .u8 15)),(1,b)] f)) λc g=>zF zz (fn 39) [e,.int .i64 4] g (λd h=>zt (nb [c,d] (zB zz .append [29,29] 29 [c,d] h)) λi j=>rv [i] j R)
def tR:=λc (a:za) (R:VK) (d:LK)=>
 opt (zi .eql 3 6 c 26) λe=>CD e (λb=>zt (nb [.int .u8 72,.int .u8 239] (zd zz 29 2 [(0,(.int .u8 72)),(1,(.int .u8 239))] a)) λf g=>rv [f] g R)
 (λb=>b [.slice none 0 0] a)
 (λh i=>d [nth h 0] i)
def Hq:=λ(d:za) e (R:VK) (j:LK)=>
 zt (nb [.int .u8 72,.int .u8 129,.int .u8 196] (zd zz 29 3 [(0,(.int .u8 72)),(1,(.int .u8 129)),(2,(.int .u8 196))] d)) λa b=>zD 42 e 6 2 b λf=>zF zz (fn 39) [f,.int .i64 4] b (λc g=>zt (nb [a,c] (zB zz .append [29,29] 29 [a,c] g)) λh i=>rv [h] i R)
def iB:=λa (b:za) (R:VK) (c:LK)=>
 opt (zi .eql 3 6 a 25) λd=>CD d (λi=>zt (nb [.int .u8 72,.int .u8 237] (zd zz 29 2 [(0,(.int .u8 72)),(1,(.int .u8 237))] b)) λe f=>rv [e] f R)
 (tR a b R)
 (λg h=>c [nth g 0] h)
def Hr:=λ(d:za) e (R:VK) (j:LK)=>
 zt (nb [.int .u8 72,.int .u8 129,.int .u8 236] (zd zz 29 3 [(0,(.int .u8 72)),(1,(.int .u8 129)),(2,(.int .u8 236))] d)) λa b=>zD 42 e 6 2 b λf=>zF zz (fn 39) [f,.int .i64 4] b (λc g=>zt (nb [a,c] (zB zz .append [29,29] 29 [a,c] g)) λh i=>rv [h] i R)
def a9:=λa (b:za) c (R:VK) (d:LK)=>
 opt (zi .eql 3 6 a 24) λe=>CD e (Hq b c R)
 (iB a b R)
 (λf g=>d [nth f 0] g)
def Km:=λa (b:za) c (R:VK) (d:LK)=>
 opt (zi .eql 3 6 a 23) λe=>CD e (Hr b c R)
 (a9 a b c R)
 (λf g=>d [nth f 0] g)
def Hs:=λ(c:za) d (R:VK) (i:LK)=>
 zt (nb [.int .u8 232] (zd zz 29 1 [(0,(.int .u8 232))] c)) λa e=>zF zz (fn 39) [d,.int .i64 4] e (λb f=>zt (nb [a,b] (zB zz .append [29,29] 29 [a,b] f)) λg h=>rv [g] h R)
def Uz:=λa (b:za) (R:VK) c (d:LK)=>
 opt (zi .eql 3 6 a 22) λe=>CD e (λj=>zt (nb [.int .u8 195] (zd zz 29 1 [(0,(.int .u8 195))] b)) λf g=>rv [f] g R)
 (Km a b c R)
 (λh i=>d [nth h 0] i)
def XR:=λa (b:za) c (R:VK) d (e:LK)=>
 opt (zi .eql 3 6 a 21) λf=>CD f (Hs b c R)
 (Uz a b R d)
 (λg h=>e [nth g 0] h)
def Dc:=λ(c:za) d (R:VK) (i:LK)=>
 zt (nb [.int .u8 233] (zd zz 29 1 [(0,(.int .u8 233))] c)) λa e=>zF zz (fn 39) [d,.int .i64 4] e (λb f=>zt (nb [a,b] (zB zz .append [29,29] 29 [a,b] f)) λg h=>rv [g] h R)
def YG:=λb c (a:za) d (R:VK) (e:LK)=>
 opt (zi .eql 3 6 b 19) λf=>CD f (λj=>zD 42 c 4 3 a λg=>zF zz (fn 62) [g] a (Hp d R))
 (XR b a d R c)
 (λh i=>e [nth h 0] i)
def ud:=λa (b:za) c (R:VK) d (e:LK)=>
 opt (zi .eql 3 6 a 18) λf=>CD f (Dc b c R)
 (YG a d b c R)
 (λg h=>e [nth g 0] h)
def So:=λ(h:za) a d (R:VK)=>
 opt (nb [a] (some (Value.cells a).toList)) λe=>nw h e 42 λb c=>zD 42 b 0 3 c λf=>BK (ud f c d R b)
 (λk g=>zt (nb [] (zd zz 29 0 [] g)) λi j=>rv [i] j R)
theorem Pf(hw:So h t0 t1 R):DC zz 63 [t0,t1] h R:=xM (by kernel_rfl) hw
def sD:=λa (d:za) e (f:LK)=>
 zt (nb [nth a 1] (zd zz 67 1 [(0,(nth a 1))] d)) λb g=>zt (nb [nth a 0,b] (zB zz .append [67,67] 67 [nth a 0,b] g)) λh c=>qL 22 e (nth a 2) 3 c λi=>opt (zi .add 3 21 i 16) λj=>opt (zi .add 3 22 j 15) λk=>opt (zi .quo 2 23 k 16) λl=>opt (zi .mul 2 24 l 16) λm=>opt (x6 .add 2 17 25 (nth a 1) m) λn=>f [h,n] c
def sE:=λb (c:LK) a (d:za)=>
 opt (zi .add 3 11 (nth b 2) 1) λe=>c [nth a 0,nth a 1,e] d
def sF:=λb (e:LK) a (f:za) (g:LK)=>
 zt (uy 22 b f) λh c=>opt (x6 .lss 3 7 9 (nth a 2) h) λi=>CD i (λd=>d [] c)
 (λd=>e [nth a 0] c)
 (λk j=>BK (sD a j b)
 (sE a g))
def Gf:=λ(h:za) a (R:VK)=>
 zt (Wh zz 67 (.int .i64 0) (.int .i64 0) h) λb c=>BK (λd=>LP (sF a d)
 [b,.int .i64 16777216,.int .i64 0] c)
 (λe f=>rv [nth e 0] f R)
theorem Gg(hw:Gf h t0 R):DC zz 30 [t0] h R:=xM (by kernel_rfl) hw
end Go.Eb
namespace Go.Ai
open Go.Ai Go.Proofs
theorem qW:FcL 23:=YJ (by kernel_rfl)
theorem Zk:FcL 48:=YJ (by kernel_rfl)
theorem ZR:FcN 50 2:=Kw (by kernel_rfl) (by kernel_rfl)
theorem VS:FcL 65:=YJ (by kernel_rfl)
theorem UH:FcA 22 3 1 8:=λr v x n w h h1 h2 h3 h4=>dt (e:=3) (e2:=3) (by kernel_rfl) (by kernel_rfl) (by kernel_rfl) (by kernel_rfl) (by decide) h1 h2 h3 h4
theorem Qy:FcA 29 5 1 1:=λr v x n w h h1 h2 h3 h4=>dt (e:=5) (e2:=5) (by kernel_rfl) (by kernel_rfl) (by kernel_rfl) (by kernel_rfl) (by decide) h1 h2 h3 h4
theorem YT:FcA 67 2 1 8:=λr v x n w h h1 h2 h3 h4=>dt (e:=2) (e2:=2) (by kernel_rfl) (by kernel_rfl) (by kernel_rfl) (by kernel_rfl) (by decide) h1 h2 h3 h4
theorem QA:FcS 22:=λb o _ _ _ h=>WO (by kernel_rfl) b o _ h rfl
theorem QB:FcS 29:=λb o _ _ _ h=>WO (by kernel_rfl) b o _ h rfl
theorem Vt:FcM 50 2:=UL (by kernel_rfl)
theorem QC(b off:Nat)(v:Option Nat)(h:za):uv Tryz.prog 65 (.pointer (some ⟨b,off,none⟩)) (.map v) h=Eo h b off [(.map v)]:=WO (by kernel_rfl) b off _ h rfl
theorem Vu:Y7 Tryz.prog 50=some (.agg #[(.string ⟨#[]⟩),(.slice none 0 0)]):=yN (by kernel_rfl)
theorem WR:zN Tryz.prog 31 []=some (.agg #[(.slice none 0 0),(.slice none 0 0),(.slice none 0 0),(.int .i64 0),(.int .i64 0)]):=yN (by kernel_rfl)
theorem uX(v2:Option Addr)(v2l v2c:Nat)(v3:Int)(v4:Int):zN Tryz.prog 31 [(2,(.slice v2 v2l v2c)),(3,(.int .i64 v3)),(4,(.int .i64 v4))]=some (.agg #[(.slice none 0 0),(.slice none 0 0),(.slice v2 v2l v2c),(.int .i64 v3),(.int .i64 v4)]):=yN (by kernel_rfl)
theorem jN(h:za):zd Tryz.prog 22 0 [] h=some (.slice (some ⟨h.next,0,none⟩) 0 2,h.push (.cells [] 3)):=yN (by kernel_rfl)
theorem qX(v0:Int)(h:za):zd Tryz.prog 22 1 [(0,(.int .i64 v0))] h=some (.slice (some ⟨h.next,0,none⟩) 1 3,h.push (.cells [(.int .i64 v0)] 3)):=yN (by kernel_rfl)
theorem SW(h:za):zd Tryz.prog 29 0 [] h=some (.slice (some ⟨h.next,0,none⟩) 0 2,h.push (.cells [] 5)):=yN (by kernel_rfl)
theorem yL(v0:Int)(h:za):zd Tryz.prog 29 1 [(0,(.int .u8 v0))] h=some (.slice (some ⟨h.next,0,none⟩) 1 3,h.push (.cells [(.int .u8 v0)] 5)):=yN (by kernel_rfl)
theorem y8(v0:Int)(v1:Int)(v2:Int)(h:za):zd Tryz.prog 29 3 [(0,(.int .u8 v0)),(1,(.int .u8 v1)),(2,(.int .u8 v2))] h=some (.slice (some ⟨h.next,0,none⟩) 3 5,h.push (.cells [(.int .u8 v0),(.int .u8 v1),(.int .u8 v2)] 5)):=yN (by kernel_rfl)
theorem Xd(v0:Int)(v1:Int)(v2:Int)(v3:Int)(h:za):zd Tryz.prog 29 4 [(0,(.int .u8 v0)),(1,(.int .u8 v1)),(2,(.int .u8 v2)),(3,(.int .u8 v3))] h=some (.slice (some ⟨h.next,0,none⟩) 4 6,h.push (.cells [(.int .u8 v0),(.int .u8 v1),(.int .u8 v2),(.int .u8 v3)] 5)):=yN (by kernel_rfl)
theorem dM(v0:Int)(v1:Int)(v2:Int)(v3:Int)(v4:Int)(v5:Int)(h:za):zd Tryz.prog 29 6 [(0,(.int .u8 v0)),(1,(.int .u8 v1)),(2,(.int .u8 v2)),(3,(.int .u8 v3)),(4,(.int .u8 v4)),(5,(.int .u8 v5))] h=some (.slice (some ⟨h.next,0,none⟩) 6 8,h.push (.cells [(.int .u8 v0),(.int .u8 v1),(.int .u8 v2),(.int .u8 v3),(.int .u8 v4),(.int .u8 v5)] 5)):=yN (by kernel_rfl)
theorem Ky(v0:Int)(v1:Int)(v2:Int)(v3:Int)(v4:Int)(v5:Int)(v6:Int)(v7:Int)(h:za):zd Tryz.prog 29 8 [(0,(.int .u8 v0)),(1,(.int .u8 v1)),(2,(.int .u8 v2)),(3,(.int .u8 v3)),(4,(.int .u8 v4)),(5,(.int .u8 v5)),(6,(.int .u8 v6)),(7,(.int .u8 v7))] h=some (.slice (some ⟨h.next,0,none⟩) 8 10,h.push (.cells [(.int .u8 v0),(.int .u8 v1),(.int .u8 v2),(.int .u8 v3),(.int .u8 v4),(.int .u8 v5),(.int .u8 v6),(.int .u8 v7)] 5)):=yN (by kernel_rfl)
theorem pU(n:Int)(h:za):yS Tryz.prog 2 21 (.int .i64 n) h=some (.int .i32 (IntKind.wrap .i32 n),h):=yN (by kernel_rfl)
theorem mJ(n:Int)(h:za):yS Tryz.prog 2 5 (.int .i64 n) h=some (.int .u8 (IntKind.wrap .u8 n),h):=yN (by kernel_rfl)
theorem wy:FcG 25 0:=λb o=>yN (by kernel_rfl)
theorem w8:FP 25 1 1:=λb o=>yN (by kernel_rfl)
theorem uz:FP 25 2 2:=λb o=>yN (by kernel_rfl)
theorem kg:FP 25 3 3:=λb o=>yN (by kernel_rfl)
theorem z7:FP 42 2 2:=λb o=>yN (by kernel_rfl)
theorem QI:FP 42 4 4:=λb o=>yN (by kernel_rfl)
theorem um:FP 50 1 1:=λb o=>yN (by kernel_rfl)
theorem Vz:FcX 64 1:=λb o l c k i=>YH (e:=65) (by kernel_rfl) (by kernel_rfl)
theorem QR:FcX 67 1:=λb o l c k i=>YH (e:=2) (by kernel_rfl) (by kernel_rfl)
theorem KH(k k2:IntKind)(l c:Int)(h:za)(h0:0<=l)(h1:l<=c)(h2:c<2^31):Wh Tryz.prog 64 (.int k l) (.int k2 c) h=some (.slice (some ⟨h.next,0,none⟩) l.toNat (c.toNat+2),h.push (.cells (Yx [(.map none)] (c.toNat*1)) 65)):=HJ (e:=65) (z:=(.map none)) (n:=1) (bytes:=8) (by kernel_rfl) (by kernel_rfl) (by kernel_rfl) rfl (by decide) (by decide) rfl h0 h1 h2
end Go.Ai
namespace Go.Ar
open Go.Ai Go.Proofs Go.Proofs.Tryz
noncomputable abbrev zz:=prog
abbrev VK:=aaa->za->Prop
abbrev LK:=List aaa->za->Prop
abbrev ci(n:Int):Operand := .const (pm n)
abbrev fn(n:Nat):aaa := .func (.func n) #[] #[]
variable {h:za}{t0 t1 t2 t3 t4 t5 t6:aaa}{R:VK}
def qs:FuncId->Nat:=λg=>[0].getD g 0
theorem mixed:prog.follows .mixedOrders=true:=acf Tryz.checked
theorem xM{f:FuncId}{args:List aaa}{X:Prop}(e:wpF zz (pb zz qs) 200 f args h R=X)(hw:X):DC zz f args h R:=gK mixed (q:=qs) (n:=200) (Eq.mpr e hw)
def cL:=λc (R:VK) d (e:LK) f (a:za)=>
 opt (pk c (.bool true) f) λg=>CD g (λb=>rv [.bool false] a R)
 (λb=>b [nth d 0] a)
 (λh i=>e [nth h 0] i)
def cM:=λa (R:VK) c (d:LK) e (b:za)=>
 zh a false (zi .gtr 3 60 e 65536) b (cL a R c d) b
def cN:=λa d (R:VK) e (f:LK) g (c:za)=>
 zh a false (vf zz 22 d g) c (λh b=>zh a false (zf zz 3 h b) b (cM a R e f) b) c
def cO:=λa c (R:VK) (e:LK) f (b:za)=>
 zh a false (zf zz 22 f b) b (λg d=>GD a false (λh=>h (nth c 1) d) (cN a g R c e) d) b
def cP:=λb (a:za) c (R:VK) (e:LK)=>
 zD 25 b 0 22 a λf=>qL 22 f (nth c 1) 3 a λg=>opt (zi .lss 3 53 g 0) λd=>zh d false (zl zz 25 b 0) a (cO d c R e) a
def CJ:=λa (b:LK) c (d:za)=>
 opt (zi .add 3 47 (nth a 1) 1) λe=>b [nth c 0,e] d
def CK:=λb (f:LK) (R:VK) a (c:za) (g:LK)=>
 zD 25 b 0 22 c λh=>zt (uy 22 h c) λi d=>opt (x6 .lss 3 42 45 (nth a 1) i) λj=>CD j (λe=>e [] d)
 (λe=>f [nth a 0] d)
 (λl k=>BK (cP b k a R)
 (CJ a g))
def vC:=λc (R:VK) d (e:LK) f g (a:za)=>
 opt (pk c g (.bool false)) λh=>CD h (λb=>rv [.bool false] a R)
 (λb=>b [nth d 0] a)
 (λi j=>e [nth i 0,f] j)
def vD:=λa e b (R:VK) f (g:LK) h i (c:za)=>
 zh a false (x6 .gtr 2 162 168 e i) c (λj d=>zh b true (pk a (.bool true) j) d (vC b R f g h) d) c
def wM:=λa d e f (R:VK) g (h:LK) i j (c:za)=>
 zh a false (vf zz 22 d j) c (λk b=>zh a false (zf zz 3 k b) b (vD a e f R g h i) b) c
def wN:=λa d e f (R:VK) g (h:LK) i j (c:za)=>
 zh a false (zl zz 42 d 3) c (λk b=>zh a false (zf zz 3 k b) b (wM a j e f R g h i) b) c
def wO:=λa d e f (R:VK) g (h:LK) i j (c:za)=>
 zh a false (zl zz 25 d 0) c (λk b=>zh a false (zf zz 22 k b) b (wN a e j f R g h i) b) c
def wP:=λc e f (R:VK) g (h:LK) i a (d:za)=>
 zh a false (zl zz 42 c 6) d (λj b=>zh a false (zf zz 2 j b) b (wO a e c f R g h i) b) d
def wQ:=λa d e f (R:VK) g (h:LK) i j (b:za)=>
 zh a true (pk d (.bool true) j) b (λk c=>GD a true (λl=>l k c) (wP e f a R g h i) c) b
def wR:=λa c d e (R:VK) f (g:LK) h i (b:za)=>
 zh a false (zi .lss 2 157 i 0) b (wQ c a d e R f g h) b
def wS:=λc e f (R:VK) g (h:LK) i a (d:za)=>
 zh a false (zl zz 42 c 6) d (λj b=>zh a false (zf zz 2 j b) b (wR a e c f R g h i) b) d
def wT:=λa d e f (R:VK) g (h:LK) i j (b:za)=>
 zh a true (pk d (.bool true) j) b (λk c=>GD a true (λl=>l k c) (wS e a f R g h i) c) b
def wU:=λa c d e f (R:VK) g (h:LK) i j (b:za)=>
 zh a false (x6 .geq 3 149 152 c j) b (wT d a e f R g h i) b
def wV:=λb c d e f (R:VK) g (h:LK) i j (a:za)=>
 GD b false (λk=>zt (uy 22 j a) λl _=>k l a) (wU b c d e f R g h i) a
def wW:=λa c e f (R:VK) g (h:LK) i j (d:za)=>
 zh a false (zl zz 25 c 0) d (λk b=>zh a false (zf zz 22 k b) b (wV a j e f c R g h i) b) d
def wX:=λc e f (R:VK) g (h:LK) i a (d:za)=>
 zh a false (zl zz 42 c 3) d (λj b=>zh a false (zf zz 3 j b) b (wW a e f c R g h i) b) d
def wY:=λa d e (R:VK) f (g:LK) h i (b:za)=>
 zh a true (zi .lss 3 145 i 0) b (λj c=>GD a true (λk=>k j c) (wX d e a R f g h) c) b
def wZ:=λa e (R:VK) (f:LK) g h (b:za)=>
 zD 42 a 0 3 b λi=>opt (zi .eql 3 141 i 6) λc=>zh c true (zl zz 42 a 3) b (λj d=>zh c true (zf zz 3 j d) d (wY c a e R h f g) d) b
def xP:=λc (R:VK) d e f (g:LK) h i (a:za)=>
 opt (pk c i (.bool false)) λj=>CD j (λb=>rv [.bool false] a R)
 (λb=>b [nth d 0] a)
 (wZ e f R g h)
def xQ:=λa e b (R:VK) f g h (i:LK) j k (c:za)=>
 zh a false (x6 .geq 3 133 136 e k) c (λl d=>zh b true (pk a (.bool true) l) d (xP b R f g h i j) d) c
def xR:=λa c d (R:VK) e f g (h:LK) i j (b:za)=>
 GD a false (λk=>zt (uy 23 j b) λl m=>k l m) (xQ a c d R e f g h i) b
def xS:=λa c e (R:VK) f g (h:LK) i j (d:za)=>
 zh a false (zl zz 25 c 1) d (λk b=>zh a false (zf zz 23 k b) b (xR a j e R f g c h i) b) d
def xU:=λc e f (R:VK) g (h:LK) i a (d:za)=>
 zh a false (zl zz 42 c 3) d (λj b=>zh a false (zf zz 3 j b) b (xS a e f R g c h i) b) d
def xV:=λa d e (R:VK) f (g:LK) h i (b:za)=>
 zh a true (zi .lss 3 129 i 0) b (λj c=>GD a true (λk=>k j c) (xU d e a R f g h) c) b
def xW:=λa e (R:VK) (f:LK) g h (b:za)=>
 zD 42 a 0 3 b λi=>opt (zi .eql 3 125 i 21) λc=>zh c true (zl zz 42 a 3) b (λj d=>zh c true (zf zz 3 j d) d (xV c a e R h f g) d) b
def yO:=λc (R:VK) d e f (g:LK) h i (a:za)=>
 opt (pk c (.bool true) i) λj=>CD j (λb=>rv [.bool false] a R)
 (λb=>b [nth d 0] a)
 (xW e f R g h)
def yP:=λa b (R:VK) e f g (h:LK) i j (c:za)=>
 zh a true (zi .lss 3 120 j 0) c (λk d=>zh b false (pk a k (.bool false)) d (yO b R e f g h i) d) c
def xh:=λa c d (R:VK) e f g (h:LK) i j (b:za)=>
 GD a true (λk=>zF zz (fn 28) [c,j] b (λl m=>k l m)) (yP a d R e f g h i) b
def xi:=λa c e (R:VK) f g (h:LK) i j (d:za)=>
 zh a true (zl zz 42 c 5) d (λk b=>zh a true (zf zz 3 k b) b (xh a j e R f c g h i) b) d
def xj:=λb e f (R:VK) g h (i:LK) j k (c:za)=>
 GD b false (λl=>l k c) (λd a=>zh d true (zf zz 50 e a) a (xi d f b R g h i j) a) c
def xk:=λa b e f (R:VK) g h (i:LK) j k (c:za)=>
 zh a false (zi .eql 3 113 k 19) c (λl d=>zh b false (pk a (.bool true) l) d (xj b e f R g h i j) d) c
def xo:=λc e f (R:VK) g h (i:LK) j a (d:za)=>
 zh a false (zl zz 42 c 0) d (λk b=>zh a false (zf zz 3 k b) b (xk a e f c R g h i j) b) d
def xp:=λa d e (R:VK) f g (h:LK) i j (b:za)=>
 zh a false (zi .eql 3 109 j 18) b (λk c=>GD a false (λl=>l k c) (xo d a e R f g h i) c) b
def xq:=λe c f (R:VK) g h (i:LK) j k (d:za)=>
 opt (pk e k (.bool false)) λa=>zh a false (zl zz 42 c 0) d (λl b=>zh a false (zf zz 3 l b) b (xp a c f R g h i j) b) d
def xr:=λa c d e (R:VK) f g (h:LK) i j (b:za)=>
 zh a true (x6 .neq 3 103 104 c j) b (xq a d e R f g h i) b
def xX:=λa e f g h (R:VK) i j (k:LK) l m (c:za)=>
 GD a true (λn=>zF zz (fn 28) [e,m] c (λb o=>n b o)) (λb d=>GD a true (λp=>p (nth f 2) d) (xr a b g h R i j k l) d) c
def xY:=λa c e f (R:VK) g h (i:LK) j k (d:za)=>
 zh a true (zl zz 42 c 5) d (λl b=>zh a true (zf zz 3 l b) b (xX a k e c f R g h i j) b) d
def xZ:=λb c e (R:VK) f (g:LK) h i (a:za)=>
 zD 42 b 0 3 a λj=>opt (zi .eql 3 97 j 20) λd=>zh d true (zf zz 50 c a) a (xY d b e c R i f g h) a
def xt:=λ(R:VK) a d e f (g:LK) h i (b:za)=>
 opt (Dt zz .not i) λj=>CD j (λc=>rv [.bool false] b R)
 (λc=>c [nth a 0] b)
 (xZ d e a R f g h)
def fB:=λa b (R:VK) d e (f:LK) g (c:za)=>
 opt (pk (nth a 1) (.bool true) g) λh=>opt (zf zz 42 b c) λi=>zF zz (fn 27) [i] c (xt R a b d e f h)
def fC:=λa c (R:VK) d e (f:LK) g (b:za)=>
 zh (nth a 1) false (zi .neq 3 90 g 20) b (fB a c R d e f) b
def sL:=λe (b:za) a (R:VK) g (h:LK)=>
 zD 50 e 1 48 b λi=>qL 48 i (nth a 2) 42 b λj=>kq 42 b λc k=>opt (wz 42 c j k) λf=>zh (nth a 1) false (zl zz 42 c 0) f (λl d=>zh (nth a 1) false (zf zz 3 l d) d (fC a c R e g h) d) f
def qx:=λb (c:LK) a (d:za)=>
 opt (zi .add 3 80 (nth b 2) 1) λe=>c [nth a 0,nth a 1,e] d
def fD:=λb (f:LK) (R:VK) g a (c:za) (h:LK)=>
 zD 50 b 1 48 c λi=>zt (uy 48 i c) λj d=>opt (x6 .lss 3 75 78 (nth a 2) j) λk=>CD k (λe=>e [] d)
 (λe=>f [nth a 0,nth a 1] d)
 (λm l=>BK (sL b l a R g)
 (qx a h))
def Jh:=λc (R:VK) d (e:LK) f (a:za)=>
 opt (pk c (.bool true) f) λg=>CD g (λb=>rv [.bool false] a R)
 (λb=>b [nth d 0] a)
 (λh i=>e [nth h 0] i)
def Ji:=λa (R:VK) c (d:LK) e (b:za)=>
 zh a false (zi .gtr 3 177 e 100000) b (Jh a R c d) b
def Jj:=λa (R:VK) d (e:LK) f (b:za)=>
 zh a false (zf zz 48 f b) b (λg c=>GD a false (λh=>zt (uy 48 g c) λi j=>h i j) (Ji a R d e) c) b
def sM:=λd (R:VK) (e:LK) a (b:za)=>
 opt (Dt zz .not (nth a 1)) λc=>zh c false (zl zz 50 d 1) b (Jj c R a e) b
def sN:=λc (a:za) d (R:VK) (e:LK)=>
 zD 25 c 1 23 a λf=>qL 23 f (nth d 1) 50 a λg=>kq 50 a λb h=>opt (wz 50 b g h) λi=>BK (λj=>LP (fD b j R c)
 [nth d 0,.bool false,pm 0] i)
 (sM b R e)
def sO:=λa (b:LK) c (d:za)=>
 opt (zi .add 3 68 (nth a 1) 1) λe=>b [nth c 0,e] d
def fE:=λb (f:LK) (R:VK) a (c:za) (g:LK)=>
 zD 25 b 1 23 c λh=>zt (uy 23 h c) λi d=>opt (x6 .lss 3 63 66 (nth a 1) i) λj=>CD j (λe=>e [] d)
 (λe=>f [nth a 0] d)
 (λl k=>BK (sN b k a R)
 (sO a g))
def fF:=λa (R:VK) b (c:za)=>
 BK (λd=>LP (CK a d R)
 [nth b 0,pm 0] c)
 (λe f=>BK (λg=>LP (fE a g R)
 [nth e 0,pm 0] f)
 (λi h=>rv [.bool true] h R))
def Z7:=λa (R:VK) e f (b:za)=>
 zh a false (zi .gtr 3 39 f 6) b (λg c=>opt (pk a (.bool true) g) λh=>CD h (λd=>rv [.bool false] c R)
 (λd=>d [.bool false] c)
 (fF e R)) b
def Z8:=λe c (R:VK) f (d:za)=>
 opt (pk e (.bool true) f) λa=>zh a false (zl zz 25 c 3) d (λg b=>zh a false (zf zz 3 g b) b (Z7 a R c) b) d
def Z9:=λa c (R:VK) d (b:za)=>
 zh a false (zi .lss 3 34 d 0) b (Z8 a c R) b
def Ya:=λe c (R:VK) f (d:za)=>
 opt (pk e (.bool true) f) λa=>zh a false (zl zz 25 c 3) d (λg b=>zh a false (zf zz 3 g b) b (Z9 a c R) b) d
def Yb:=λa e f (R:VK) g (c:za)=>
 GD a false (λh=>zt (uy 23 g c) λb i=>h b i) (λb d=>zh a false (x6 .geq 3 26 29 e b) d (Ya a f R) d) c
def Yc:=λa c (R:VK) e (d:za)=>
 zh a false (zl zz 25 c 1) d (λf b=>zh a false (zf zz 23 f b) b (Yb a e c R) b) d
def Yd:=λe c (R:VK) f (d:za)=>
 opt (pk e (.bool true) f) λa=>zh a false (zl zz 25 c 2) d (λg b=>zh a false (zf zz 3 g b) b (Yc a c R) b) d
def Ye:=λa c (R:VK) d (b:za)=>
 zh a false (zi .lss 3 21 d 0) b (Yd a c R) b
def Yf:=λe c (R:VK) f (d:za)=>
 opt (pk e (.bool true) f) λa=>zh a false (zl zz 25 c 2) d (λg b=>zh a false (zf zz 3 g b) b (Ye a c R) b) d
def Yg:=λa c (R:VK) d (b:za)=>
 zh a false (zi .gtr 3 16 d 100) b (Yf a c R) b
def Yh:=λa d (R:VK) e (b:za)=>
 zh a false (zf zz 23 e b) b (λf c=>GD a false (λg=>zt (uy 23 f c) λh i=>g h i) (Yg a d R) c) b
def M8:=λ(h:za) b (R:VK)=>
 opt (nb [b] (some (Value.cells b).toList)) λf=>nw h f 25 λa c=>zD 25 a 0 22 c λg=>zt (uy 22 g c) λi d=>opt (zi .gtr 3 11 i 200) λe=>zh e false (zl zz 25 a 1) d (Yh e a R) d
theorem Lm(hw:M8 h t0 R):DC zz 11 [t0] h R:=xM (by kernel_rfl) hw
def Zr:=λb (R:VK) d (c:za)=>
 GD b true (λe=>zF zz (fn 37) [d] c (λa f=>e a f)) (λa g=>opt (pk b a (.bool false)) λh=>rv [h] g R) c
def Zs:=λd e (R:VK) f (c:za)=>
 opt (pk d (.bool true) f) λa=>zh a true (zl zz 42 e 6) c (λg b=>zh a true (zf zz 2 g b) b (Zr a R) b) c
def Zt:=λa c (R:VK) d (b:za)=>
 zh a false (zi .eql 3 94 d 8) b (Zs a c R) b
def Zu:=λe c (R:VK) f (d:za)=>
 opt (pk e (.bool true) f) λa=>zh a false (zl zz 42 c 3) d (λg b=>zh a false (zf zz 3 g b) b (Zt a c R) b) d
def Zv:=λa c (R:VK) d (b:za)=>
 zh a false (zi .eql 3 89 d 4) b (Zu a c R) b
def fG:=λb (R:VK) d (c:za)=>
 GD b true (λe=>zF zz (fn 37) [d] c (λa f=>e a f)) (λa g=>opt (pk b a (.bool false)) λh=>rv [h] g R) c
def fH:=λd (R:VK) a (c:za)=>
 zh a true (zl zz 42 d 6) c (λe b=>zh a true (zf zz 2 e b) b (fG a R) b) c
def Jk:=λa (R:VK) c (b:za)=>
 zh a false (zi .eql 3 130 c 2) b (λd e=>opt (pk a (.bool true) d) λf=>rv [f] e R) b
def Jl:=λa (R:VK) c (b:za)=>
 zh a false (zi .eql 3 140 c 4) b (λd e=>opt (pk a (.bool true) d) λf=>rv [f] e R) b
def j3:=λa (R:VK) c (b:za)=>
 zh a true (zi .leq 2 160 c 63) b (λd e=>opt (pk a d (.bool false)) λf=>rv [f] e R) b
def j4:=λd e (R:VK) f (c:za)=>
 opt (pk d f (.bool false)) λa=>zh a true (zl zz 42 e 6) c (λg b=>zh a true (zf zz 2 g b) b (j3 a R) b) c
def j5:=λa c (R:VK) d (b:za)=>
 zh a true (zi .geq 2 155 d 0) b (j4 a c R) b
def j6:=λe c (R:VK) f (d:za)=>
 opt (pk e (.bool true) f) λa=>zh a true (zl zz 42 c 6) d (λg b=>zh a true (zf zz 2 g b) b (j5 a c R) b) d
def j7:=λa c (R:VK) d (b:za)=>
 zh a false (zi .eql 3 150 d 20) b (j6 a c R) b
def Qj:=λa (R:VK) c (b:za)=>
 zh a false (zi .eql 3 170 c 20) b (λd e=>opt (pk a (.bool true) d) λf=>rv [f] e R) b
def Vj:=λa (R:VK) c (b:za)=>
 zh a true (zi .leq 3 190 c 10000000) b (λd e=>opt (pk a d (.bool false)) λf=>rv [f] e R) b
def Vk:=λd e (R:VK) f (c:za)=>
 opt (pk d f (.bool false)) λa=>zh a true (zl zz 42 e 5) c (λg b=>zh a true (zf zz 3 g b) b (Vj a R) b) c
def Vl:=λa c (R:VK) d (b:za)=>
 zh a true (zi .geq 3 185 d 0) b (Vk a c R) b
def Vm:=λc (R:VK) a (d:za)=>
 zh a true (zl zz 42 c 5) d (λe b=>zh a true (zf zz 3 e b) b (Vl a c R) b) d
def Yi:=λa (R:VK) c (b:za)=>
 zh a true (zi .leq 3 201 c 10000000) b (λd e=>opt (pk a d (.bool false)) λf=>rv [f] e R) b
def Yj:=λa (R:VK) c (b:za)=>
 zh a true (zi .leq 2 212 c 65536) b (λd e=>opt (pk a d (.bool false)) λf=>rv [f] e R) b
def Yk:=λd (a:za) (R:VK) (g:LK)=>
 zD 42 d 6 2 a λe=>opt (zi .geq 2 208 e 0) λb=>zh b true (zl zz 42 d 6) a (λf c=>zh b true (zf zz 2 f c) c (Yj b R) c) a
def Yl:=λd (a:za) (R:VK) (g:LK)=>
 zD 42 d 5 3 a λe=>opt (zi .geq 3 197 e 0) λb=>zh b true (zl zz 42 d 5) a (λf c=>zh b true (zf zz 3 f c) c (Yi b R) c) a
def j8:=λb (c:za) f (R:VK) g (h:LK)=>
 opt (zi .eql 3 80 b 23) λd=>CD d (λa=>a [d] c)
 (λa=>opt (zi .eql 3 80 b 24) λi=>a [i] c)
 (λj e=>CD (nth j 0) (Yk f e R)
 (λk=>k [nth g 0] e)
 (λl m=>h [nth l 0] m))
def ui:=λa (c:za) d (R:VK) g (h:LK)=>
 opt (zi .eql 3 80 a 18) λe=>CD e (λb=>b [e] c)
 (λb=>opt (zi .eql 3 80 a 20) λi=>b [i] c)
 (λj f=>CD (nth j 0) (Yl d f R)
 (j8 a f d R g)
 (λk l=>h [nth k 0] l))
def oG:=λb (a:za) (R:VK) (f:LK)=>
 zD 42 b 4 3 a λc=>zF zz (fn 56) [c] a (λd e=>rv [d] e R)
def vU:=λc a (b:za) (R:VK) d (e:LK)=>
 opt (zi .eql 3 80 c 19) λf=>CD f (λj=>zD 42 a 4 3 b λg=>zF zz (fn 56) [g] b (Vm a R))
 (ui c b a R d)
 (λh i=>e [nth h 0] i)
def Qk:=λd (a:za) (R:VK) (g:LK)=>
 zD 42 d 3 3 a λe=>opt (zi .eql 3 166 e 19) λb=>zh b false (zl zz 42 d 3) a (λf c=>zh b false (zf zz 3 f c) c (Qj b R) c) a
def vE:=λa b (c:za) (R:VK) d (e:LK)=>
 opt (zi .eql 3 80 a 17) λf=>CD f (oG b c R)
 (vU a b c R d)
 (λg h=>e [nth g 0] h)
def j9:=λa (b:za) (R:VK) (g:LK)=>
 zD 42 a 3 3 b λe=>opt (zi .eql 3 146 e 19) λc=>zh c false (zl zz 42 a 3) b (λf d=>zh c false (zf zz 3 f d) d (j7 c a R) d) b
def wF:=λa b (c:za) (R:VK) d (e:LK)=>
 opt (zi .eql 3 80 a 12) λf=>CD f (Qk b c R)
 (vE a b c R d)
 (λg h=>e [nth g 0] h)
def Ql:=λd (a:za) (R:VK) (g:LK)=>
 zD 42 d 3 3 a λe=>opt (zi .eql 3 136 e 3) λb=>zh b false (zl zz 42 d 3) a (λf c=>zh b false (zf zz 3 f c) c (Jl b R) c) a
def yV:=λa b (c:za) (R:VK) d (e:LK)=>
 opt (zi .eql 3 80 a 11) λf=>CD f (j9 b c R)
 (wF a b c R d)
 (λg h=>e [nth g 0] h)
def Qm:=λd (a:za) (R:VK) (g:LK)=>
 zD 42 d 3 3 a λe=>opt (zi .eql 3 126 e 1) λb=>zh b false (zl zz 42 d 3) a (λf c=>zh b false (zf zz 3 f c) c (Jk b R) c) a
def yC:=λa b (c:za) (R:VK) d (e:LK)=>
 opt (zi .eql 3 80 a 10) λf=>CD f (Ql b c R)
 (yV a b c R d)
 (λg h=>e [nth g 0] h)
def yp:=λa b (c:za) (R:VK) d (e:LK)=>
 opt (zi .eql 3 80 a 9) λf=>CD f (Qm b c R)
 (yC a b c R d)
 (λg h=>e [nth g 0] h)
def oH:=λb (a:za) (R:VK) (f:LK)=>
 zD 42 b 3 3 a λc=>zF zz (fn 55) [c] a (λd e=>rv [d] e R)
def yh:=λc a (b:za) (R:VK) d (e:LK)=>
 opt (zi .eql 3 80 c 8) λf=>CD f (λj=>zD 42 a 3 3 b λg=>zF zz (fn 55) [g] b (fH a R))
 (yp c a b R d)
 (λh i=>e [nth h 0] i)
def aT:=λb (a:za) (R:VK) (f:LK)=>
 zD 42 b 6 2 a λc=>zF zz (fn 37) [c] a (λd e=>rv [d] e R)
def ye:=λa b (c:za) (R:VK) d (e:LK)=>
 opt (zi .eql 3 80 a 7) λf=>CD f (oH b c R)
 (yh a b c R d)
 (λg h=>e [nth g 0] h)
def jc:=λa (b:za) (R:VK) (g:LK)=>
 zD 42 a 3 3 b λe=>opt (zi .eql 3 85 e 1) λc=>zh c false (zl zz 42 a 3) b (λf d=>zh c false (zf zz 3 f d) d (Zv c a R) d) b
def zZ:=λa (c:za) d (R:VK) g (h:LK)=>
 opt (zi .eql 3 80 a 5) λe=>CD e (λb=>b [e] c)
 (λb=>opt (zi .eql 3 80 a 16) λi=>b [i] c)
 (λj f=>CD (nth j 0) (aT d f R)
 (ye a d f R g)
 (λk l=>h [nth k 0] l))
def zP:=λa (c:za) d (R:VK) g (h:LK)=>
 opt (zi .eql 3 80 a 3) λe=>CD e (λb=>b [e] c)
 (λb=>opt (zi .eql 3 80 a 4) λi=>b [i] c)
 (λj f=>CD (nth j 0) (jc d f R)
 (zZ a f d R g)
 (λk l=>h [nth k 0] l))
def zv:=λa (R:VK) c (b:za)=>
 zD 42 a 0 3 b λd=>BK (zP d b a R c)
 (λf e=>rv [.bool true] e R)
def Za:=λa (R:VK) e f g (b:za)=>
 zh a true (zi .neq 3 76 g 1) b (λh c=>opt (pk a h (.bool false)) λi=>CD i (λd=>rv [.bool false] c R)
 (λd=>d [nth e 0] c)
 (zv f R)) b
def Zb:=λe c (R:VK) f g (d:za)=>
 opt (pk e g (.bool false)) λa=>zh a true (zl zz 42 c 0) d (λh b=>zh a true (zf zz 3 h b) b (Za a R f c) b) d
def Zc:=λa c (R:VK) d e (b:za)=>
 zh a true (zi .neq 3 71 e 5) b (Zb a c R d) b
def Zd:=λe c (R:VK) f g (d:za)=>
 opt (pk e g (.bool false)) λa=>zh a true (zl zz 42 c 0) d (λh b=>zh a true (zf zz 3 h b) b (Zc a c R f) b) d
def Ze:=λa c (R:VK) d e (b:za)=>
 zh a true (zi .neq 3 66 e 4) b (Zd a c R d) b
def Zf:=λe c (R:VK) f g (d:za)=>
 opt (pk e g (.bool false)) λa=>zh a true (zl zz 42 c 0) d (λh b=>zh a true (zf zz 3 h b) b (Ze a c R f) b) d
def Zg:=λa c (R:VK) d e (b:za)=>
 zh a true (zi .neq 3 61 e 3) b (Zf a c R d) b
def Zh:=λe c (R:VK) f g (d:za)=>
 opt (pk e g (.bool false)) λa=>zh a true (zl zz 42 c 0) d (λh b=>zh a true (zf zz 3 h b) b (Zg a c R f) b) d
def Zi:=λa c (R:VK) d e (b:za)=>
 zh a true (zi .eql 3 56 e 4) b (Zh a c R d) b
def jd:=λa c (R:VK) e (d:za)=>
 zh a true (zl zz 42 c 2) d (λf b=>zh a true (zf zz 3 f b) b (Zi a c R e) b) d
def wj:=λa e (R:VK) f g h (b:za)=>
 zh a false (pk e h (.bool false)) b (λi c=>opt (pk a (.bool true) i) λj=>CD j (λd=>rv [.bool false] c R)
 (λd=>d [.bool false] c)
 (jd f g R)) b
def wm:=λa c (R:VK) d e f (b:za)=>
 zh a true (zi .eql 3 49 f 4) b (wj c a R d e) b
def wq:=λc e (R:VK) f a (d:za)=>
 zh a true (zl zz 42 c 1) d (λg b=>zh a true (zf zz 3 g b) b (wm a e R f c) b) d
def uF:=λa e (R:VK) f g (c:za)=>
 GD a false (λh=>zF zz (fn 54) [g] c (λb i=>h b i)) (λb d=>GD a false (λj=>j b d) (wq e a R f) d) c
def uG:=λb f c (R:VK) g h (d:za)=>
 zh b false (pk f h (.bool false)) d (λi a=>opt (pk b (.bool true) i) λe=>zh e false (zf zz 42 c a) a (uF e c R g) a) d
def uH:=λa b e f (R:VK) g h (c:za)=>
 zh a false (zi .gtr 3 39 h 15) c (λi d=>zh b true (pk a (.bool true) i) d (uG e b f R g) d) c
def uI:=λc e f (R:VK) g a (d:za)=>
 zh a false (zl zz 42 c 2) d (λh b=>zh a false (zf zz 3 h b) b (uH a e f c R g) b) d
def uJ:=λa d e (R:VK) f g (b:za)=>
 zh a true (zi .lss 3 35 g 0) b (λh c=>GD a true (λi=>i h c) (uI d a e R f) c) b
def uK:=λc e (R:VK) f a (d:za)=>
 zh a true (zl zz 42 c 2) d (λg b=>zh a true (zf zz 3 g b) b (uJ a c e R f) b) d
def uL:=λe b f (R:VK) g (c:za)=>
 opt (pk e (.bool true) g) λa=>GD a false (λh=>h b c) (λi d=>GD a false (λj=>j i d) (uK f a R b) d) c
def uM:=λa e b f g (R:VK) h (c:za)=>
 zh a true (pk e (.bool true) h) c (λi d=>zh b false (pk a i (.bool false)) d (uL b f g R) d) c
def uN:=λa c d e f (R:VK) g (b:za)=>
 zh a false (zi .gtr 3 26 g 15) b (uM c a d e f R) b
def uO:=λc e f g (R:VK) a (d:za)=>
 zh a false (zl zz 42 c 1) d (λh b=>zh a false (zf zz 3 h b) b (uN a e f g c R) b) d
def uP:=λa d e f (R:VK) g (b:za)=>
 zh a true (zi .lss 3 22 g 0) b (λh c=>GD a true (λi=>i h c) (uO d a e f R) c) b
def uQ:=λc e f (R:VK) a (d:za)=>
 zh a true (zl zz 42 c 1) d (λg b=>zh a true (zf zz 3 g b) b (uP a c e f R) b) d
def uR:=λd e f g (R:VK) h (b:za)=>
 opt (pk d (.bool true) h) λa=>GD a false (λi=>i e b) (λj c=>GD a false (λk=>k j c) (uQ f a g R) c) b
def uS:=λa c d e (R:VK) f (b:za)=>
 zh a false (zi .gtr 3 15 f 26) b (uR a c d e R) b
def uT:=λa (R:VK) e (b:za)=>
 opt (ak e 0) λf=>opt (ak e 1) λg=>zD 42 a 0 3 b λh=>opt (zi .lss 3 11 h 1) λc=>zh c false (zl zz 42 a 0) b (λi d=>zh c false (zf zz 3 i d) d (uS c f a g R) d) b
def Gr:=λ(h:za) a (R:VK)=>
 opt (nb [a] (some (Value.cells a).toList)) λd=>nw h d 42 λb c=>opt (zf zz 42 b c) λe=>zF zz (fn 53) [e] c (uT b R)
theorem Gs(hw:Gr h t0 R):DC zz 27 [t0] h R:=xM (by kernel_rfl) hw
def Jv:=λb (c:za) (e:LK)=>
 opt (zi .eql 3 4 b 12) λd=>CD d (λa=>a [d] c)
 (λa=>opt (zi .eql 3 4 b 17) λf=>a [f] c)
 (λg h=>e [nth g 0] h)
def UD:=λa (b:za) (d:LK)=>
 opt (zi .eql 3 4 a 11) λc=>CD c (λe=>e [c] b)
 (Jv a b)
 (λf g=>d [nth f 0] g)
def WJ:=λa (b:za) (d:LK)=>
 opt (zi .eql 3 4 a 10) λc=>CD c (λe=>e [c] b)
 (UD a b)
 (λf g=>d [nth f 0] g)
def Xs:=λa (b:za) (d:LK)=>
 opt (zi .eql 3 4 a 9) λc=>CD c (λe=>e [c] b)
 (WJ a b)
 (λf g=>d [nth f 0] g)
def Yo:=λa (b:za) (d:LK)=>
 opt (zi .eql 3 4 a 8) λc=>CD c (λe=>e [c] b)
 (Xs a b)
 (λf g=>d [nth f 0] g)
def ZA:=λa (b:za) (d:LK)=>
 opt (zi .eql 3 4 a 7) λc=>CD c (λe=>e [c] b)
 (Yo a b)
 (λf g=>d [nth f 0] g)
def jE:=λa (b:za) (d:LK)=>
 opt (zi .eql 3 4 a 6) λc=>CD c (λe=>e [c] b)
 (ZA a b)
 (λf g=>d [nth f 0] g)
def kA:=λa (b:za) (d:LK)=>
 opt (zi .eql 3 4 a 5) λc=>CD c (λe=>e [c] b)
 (jE a b)
 (λf g=>d [nth f 0] g)
def q8:=λa (b:za) (d:LK)=>
 opt (zi .eql 3 4 a 3) λc=>CD c (λe=>e [c] b)
 (kA a b)
 (λf g=>d [nth f 0] g)
def uW:=λa (b:za) (d:LK)=>
 opt (zi .eql 3 4 a 2) λc=>CD c (λe=>e [c] b)
 (q8 a b)
 (λf g=>d [nth f 0] g)
def uj:=λa (b:za) (R:VK) (f:LK)=>
 opt (zi .eql 3 4 a 1) λc=>CD c (λg=>g [c] b)
 (uW a b)
 (λh d=>CD (nth h 0) (λe=>rv [.bool true] d R)
 (λe=>e [.bool false] d)
 (λi j=>f [nth i 0] j))
def Hx:=λ(h:za) a (R:VK)=>
 opt (nb [a] (some (Value.cells a).toList)) λc=>nw h c 42 λd b=>zD 42 d 0 3 b λe=>BK (uj e b R)
 (λg f=>rv [.bool false] f R)
theorem Hy(hw:Hx h t0 R):DC zz 54 [t0] h R:=xM (by kernel_rfl) hw
def kP:=λb (c:za) (e:LK)=>
 opt (zi .eql 3 23 b 14) λd=>CD d (λa=>a [d] c)
 (λa=>opt (zi .eql 3 23 b 15) λf=>a [f] c)
 (λg h=>e [nth g 0] h)
def km:=λa (b:za) (d:LK)=>
 opt (zi .eql 3 23 a 10) λc=>CD c (λe=>e [c] b)
 (kP a b)
 (λf g=>d [nth f 0] g)
def qV:=λa (b:za) (d:LK)=>
 opt (zi .eql 3 23 a 7) λc=>CD c (λe=>e [c] b)
 (km a b)
 (λf g=>d [nth f 0] g)
def qB:=λa (b:za) (d:LK)=>
 opt (zi .eql 3 23 a 5) λc=>CD c (λe=>e [c] b)
 (qV a b)
 (λf g=>d [nth f 0] g)
def ql:=λa (b:za) (d:LK)=>
 opt (zi .eql 3 23 a 4) λc=>CD c (λe=>e [c] b)
 (qB a b)
 (λf g=>d [nth f 0] g)
def uV:=λa (b:za) (d:LK)=>
 opt (zi .eql 3 23 a 3) λc=>CD c (λe=>e [c] b)
 (ql a b)
 (λf g=>d [nth f 0] g)
def uo:=λd (R:VK) (e:LK) f (a:za)=>
 CD (nth f 0) (λb=>rv [d,.bool true] a R)
 (λb=>b [.bool false,.bool false] a)
 (λc g=>e [nth c 0,nth c 1] g)
def uq:=λa (b:za) d (R:VK) (e:LK)=>
 opt (zi .eql 3 23 a 1) λc=>CD c (λf=>f [c] b)
 (uV a b)
 (uo d R e)
def ur:=λc d (R:VK) e (a:za)=>
 opt (pk c (.bool true) e) λb=>zD 42 d 0 3 a λf=>BK (uq f a b R)
 (λh g=>rv [b,.bool false] g R)
def vH:=λa c (R:VK) d (b:za)=>
 zh a false (zi .eql 3 19 d 16) b (ur a c R) b
def vI:=λe c (R:VK) f (d:za)=>
 opt (pk e (.bool true) f) λa=>zh a false (zl zz 42 c 0) d (λg b=>zh a false (zf zz 3 g b) b (vH a c R) b) d
def vJ:=λa c (R:VK) d (b:za)=>
 zh a false (zi .eql 3 14 d 15) b (vI a c R) b
def vK:=λe c (R:VK) f (d:za)=>
 opt (pk e (.bool true) f) λa=>zh a false (zl zz 42 c 0) d (λg b=>zh a false (zf zz 3 g b) b (vJ a c R) b) d
def vL:=λa c (R:VK) d (b:za)=>
 zh a false (zi .eql 3 9 d 4) b (vK a c R) b
def vM:=λc (R:VK) a (d:za)=>
 zh a false (zl zz 42 c 0) d (λe b=>zh a false (zf zz 3 e b) b (vL a c R) b) d
def Nw:=λ(h:za) a (R:VK)=>
 opt (nb [a] (some (Value.cells a).toList)) λd=>nw h d 42 λb c=>opt (zf zz 42 b c) λe=>zF zz (fn 54) [e] c (vM b R)
theorem Lr(hw:Nw h t0 R):DC zz 53 [t0] h R:=xM (by kernel_rfl) hw
def dm:=λa (R:VK) c (b:za)=>
 zh a true (zi .leq 2 6 c 2147483647) b (λd e=>opt (pk a d (.bool false)) λf=>rv [f] e R) b
def NA:=λ(h:za) a (R:VK)=>
 opt (zi .geq 2 3 a (-2147483648)) λb=>GD b true (λc=>c a h) (dm b R) h
theorem Lv(hw:NA h t0 R):DC zz 37 [t0] h R:=xM (by kernel_rfl) hw
def pP:=λa (R:VK) c (b:za)=>
 zh a true (zi .leq 3 6 c 26) b (λd e=>opt (pk a d (.bool false)) λf=>rv [f] e R) b
def zcB:=λ(h:za) a (R:VK)=>
 opt (zi .geq 3 3 a 21) λb=>GD b true (λc=>c a h) (pP b R) h
theorem Sc(hw:zcB h t0 R):DC zz 56 [t0] h R:=xM (by kernel_rfl) hw
def Ve:=λa (R:VK) c (b:za)=>
 zh a false (zi .eql 3 22 c 18) b (λd e=>opt (pk a (.bool true) d) λf=>rv [f] e R) b
def Vf:=λa e (R:VK) f (b:za)=>
 zh a false (zi .eql 3 18 f 17) b (λg c=>opt (pk a (.bool true) g) λd=>GD d false (λh=>h e c) (Ve d R) c) b
def Vg:=λa b (R:VK) f (c:za)=>
 zh a false (zi .eql 3 14 f 16) c (λg d=>opt (pk a (.bool true) g) λe=>GD e false (λh=>h b d) (Vf e b R) d) c
def Vh:=λa b (R:VK) f (c:za)=>
 zh a false (zi .eql 3 10 f 13) c (λg d=>opt (pk a (.bool true) g) λe=>GD e false (λh=>h b d) (Vg e b R) d) c
def Vi:=λa b (R:VK) f (c:za)=>
 zh a false (zi .eql 3 6 f 12) c (λg d=>opt (pk a (.bool true) g) λe=>GD e false (λh=>h b d) (Vh e b R) d) c
def Sb:=λ(h:za) a (R:VK)=>
 opt (zi .eql 3 3 a 11) λb=>GD b false (λc=>c a h) (Vi b a R) h
theorem O6(hw:Sb h t0 R):DC zz 55 [t0] h R:=xM (by kernel_rfl) hw
def cE:=λd a (R:VK) (e:LK) f (b:za)=>
 opt (pk d f (.bool false)) λg=>CD g (λc=>rv [nth a 1] b R)
 (λc=>c [nth a 0] b)
 (λh i=>e [nth h 0] i)
def cF:=λa d e (R:VK) (f:LK) g (b:za)=>
 GD a true (λh=>h d b) (λi c=>zh a true (x6 .eql 3 26 27 g i) c (cE a e R f) c) b
def cG:=λa d e (R:VK) (f:LK) g (c:za)=>
 zh a true (zl zz 42 g 5) c (λh b=>zh a true (zf zz 3 h b) b (cF a d e R f) b) c
def cH:=λa b e (R:VK) (f:LK) g (c:za)=>
 GD a true (λh=>h (nth b 1) c) (λi d=>zh a true (vf zz 48 g i) d (cG a e b R f) d) c
def cI:=λd (a:za) e f (R:VK) (g:LK)=>
 zD 50 d 1 48 a λh=>opt (vf zz 48 h (nth e 1)) λi=>zD 42 i 0 3 a λj=>opt (zi .eql 3 18 j 20) λb=>zh b true (zl zz 50 d 1) a (λk c=>zh b true (zf zz 48 k c) c (cH b e f R g) c) a
def lP:=λa (b:LK) c (d:za)=>
 opt (zi .add 3 11 (nth a 1) 1) λe=>b [nth c 0,e] d
def CC:=λb (f:LK) g (R:VK) a (c:za) (h:LK)=>
 zD 50 b 1 48 c λi=>zt (uy 48 i c) λj d=>opt (x6 .lss 3 6 9 (nth a 1) j) λk=>CD k (λe=>e [] d)
 (λe=>f [nth a 0] d)
 (λm l=>BK (cI b l a g R)
 (lP a h))
def M3:=λ(h:za) a b (R:VK)=>
 opt (nb [a] (some (Value.cells a).toList)) λc=>nw h c 50 λd e=>BK (λf=>LP (CC d f b R)
 [pm 0,pm 0] e)
 (λi g=>rv [pm (-1)] g R)
theorem Lj(hw:M3 h t0 t1 R):DC zz 28 [t0,t1] h R:=xM (by kernel_rfl) hw
end Go.Ar
namespace Go.Ai
open Go.Ai Go.Proofs
end Go.Ai
namespace Go.As
open Go.Ai Go.Proofs Go.Proofs.Tryz
noncomputable abbrev zz:=prog
abbrev VK:=aaa->za->Prop
abbrev LK:=List aaa->za->Prop
abbrev ci(n:Int):Operand := .const (pm n)
abbrev fn(n:Nat):aaa := .func (.func n) #[] #[]
variable {h:za}{t0 t1 t2 t3 t4 t5 t6:aaa}{R:VK}
def qs:FuncId->Nat:=λg=>([(89,3),(90,3),(93,2),(104,2),(106,2),(108,2),(116,3),(117,2)].lookup g).getD 0
theorem mixed:prog.follows .mixedOrders=true:=acf Tryz.checked
theorem xM{f:FuncId}{args:List aaa}{X:Prop}(e:wpF zz (pb zz qs) 200 f args h R=X)(hw:X):DC zz f args h R:=gK mixed (q:=qs) (n:=200) (Eq.mpr e hw)
def gQ:=λc (R:VK) d (e:LK) f (a:za)=>
 opt (pk c (.bool true) f) λg=>CD g (λb=>rv [.bool false] a R)
 (λb=>b [nth d 0] a)
 (λh i=>e [nth h 0] i)
def gR:=λa (R:VK) c (d:LK) e (b:za)=>
 zh a false (zi .gtr 3 50 e 65536) b (gQ a R c d) b
def gS:=λe b (a:za) (R:VK) (f:LK)=>
 qL 22 e (nth b 1) 3 a λc=>opt (zi .lss 3 47 c 0) λd=>GD d false (λg=>g c a) (gR d R b f) a
def Ga:=λa (b:LK) c (d:za)=>
 opt (zi .add 3 43 (nth a 1) 1) λe=>b [nth c 0,e] d
def Gb:=λd (e:LK) f (R:VK) a (b:za) (g:LK)=>
 opt (x6 .lss 3 43 42 (nth a 1) d) λh=>CD h (λc=>c [] b)
 (λc=>e [nth a 0] b)
 (λj i=>BK (gS f a i R)
 (Ga a g))
def sB:=λ(R:VK) c (d:LK) e (a:za)=>
 opt (Dt zz .not e) λf=>CD f (λb=>rv [.bool false] a R)
 (λb=>b [nth c 0] a)
 (λg h=>d [nth g 0] h)
def Gc:=λe b (c:za) f (R:VK) (g:LK)=>
 qL 23 e (nth b 1) 50 c λh=>kq 50 c λd i=>opt (wz 50 d h i) λa=>opt (zf zz 25 f a) λj=>opt (zf zz 50 d a) λk=>zF zz (fn 46) [j,k] a (sB R b g)
def Gd:=λa (b:LK) c (d:za)=>
 opt (zi .add 3 57 (nth a 1) 1) λe=>b [nth c 0,e] d
def Ge:=λd (e:LK) f g (R:VK) a (b:za) (h:LK)=>
 opt (x6 .lss 3 57 56 (nth a 1) d) λi=>CD i (λc=>c [] b)
 (λc=>e [nth a 0] b)
 (λk j=>BK (Gc f a j g R)
 (Gd a h))
def lN:=λa (R:VK) d (b:za)=>
 zD 25 a 1 23 b λc=>zt (uy 23 c b) λe f=>BK (λg=>LP (Ge e g c a R)
 [nth d 0,pm 0] f)
 (λi h=>rv [.bool true] h R)
def lO:=λa (R:VK) d (b:za)=>
 zD 25 a 0 22 b λc=>zt (uy 22 c b) λe f=>BK (λg=>LP (Gb e g c R)
 [nth d 0,pm 0] f)
 (lN a R)
def XC:=λa (R:VK) e f (b:za)=>
 zh a false (zi .gtr 3 37 f 6) b (λg c=>opt (pk a (.bool true) g) λh=>CD h (λd=>rv [.bool false] c R)
 (λd=>d [.bool false] c)
 (lO e R)) b
def XD:=λe c (R:VK) f (d:za)=>
 opt (pk e (.bool true) f) λa=>zh a false (zl zz 25 c 3) d (λg b=>zh a false (zf zz 3 g b) b (XC a R c) b) d
def XE:=λa c (R:VK) d (b:za)=>
 zh a false (zi .lss 3 32 d 0) b (XD a c R) b
def XF:=λe c (R:VK) f (d:za)=>
 opt (pk e (.bool true) f) λa=>zh a false (zl zz 25 c 3) d (λg b=>zh a false (zf zz 3 g b) b (XE a c R) b) d
def XG:=λa c (R:VK) d (b:za)=>
 zh a false (zi .gtr 3 27 d 200) b (XF a c R) b
def XH:=λa d (R:VK) e (b:za)=>
 zh a false (zf zz 22 e b) b (λf c=>GD a false (λg=>zt (uy 22 f c) λh i=>g h i) (XG a d R) c) b
def XI:=λa b (R:VK) f (c:za)=>
 zh a false (zi .gtr 3 21 f 100) c (λg d=>opt (pk a (.bool true) g) λe=>zh e false (zl zz 25 b 0) d (XH e b R) d) c
def XJ:=λa d (R:VK) e (b:za)=>
 zh a false (zf zz 23 e b) b (λf c=>GD a false (λg=>zt (uy 23 f c) λh i=>g h i) (XI a d R) c) b
def XK:=λa f b (R:VK) g (c:za)=>
 zh a false (x6 .geq 3 12 15 f g) c (λh d=>opt (pk a (.bool true) h) λe=>zh e false (zl zz 25 b 1) d (XJ e b R) d) c
def XL:=λa d e (R:VK) f (b:za)=>
 zh a false (zf zz 23 f b) b (λg c=>GD a false (λh=>zt (uy 23 g c) λi j=>h i j) (XK a d e R) c) b
def XM:=λa c (R:VK) e (b:za)=>
 zh a false (zf zz 3 e b) b (λf d=>zh a false (zl zz 25 c 1) d (XL a f c R) d) b
def R6:=λ(h:za) c (R:VK)=>
 opt (nb [c] (some (Value.cells c).toList)) λe=>nw h e 25 λa b=>zD 25 a 2 3 b λf=>opt (zi .lss 3 8 f 0) λd=>zh d false (zl zz 25 a 2) b (XM d a R) b
theorem O3(hw:R6 h t0 R):DC zz 23 [t0] h R:=xM (by kernel_rfl) hw
def ib:=λd (a:za) (e:LK) f g (b:za)=>
 zD 42 d 5 3 b λc=>opt (nb [(qg a).1,c,.bool true] (jG zz 115 (qg a).1 c (.bool true) b)) λh=>e [nth g 0,nth f 0] h
def ic:=λc (b:za) (R:VK) f (g:LK) h (a:za)=>
 zD 42 c 5 3 a λd=>opt (nb [(qg b).1,d] (Wg zz 115 (qg b).1 d false a)) λi=>CD i (λe=>rv [.bool false] a R)
 (λe=>e [nth f 0] a)
 (ib c b g h)
def ie:=λb (c:LK) f (g:za) (R:VK) d (a:za)=>
 zD 42 b 0 3 a λh=>opt (zi .neq 3 29 h 20) λi=>CD i (λe=>c [nth d 0,.bool true] a)
 (λe=>e [nth f 1] a)
 (ic b g R d c)
def ig:=λg a (d:za) h (R:VK) (i:za) (j:LK)=>
 qL 48 g (nth a 2) 42 d λk=>kq 42 d λb l=>opt (wz 42 b k l) λc=>opt (zf zz 42 b c) λm=>zD 25 h 0 22 c λn=>zF zz (fn 34) [m,n] c (λo e=>opt (Dt zz .not o) λp=>CD p (λf=>rv [.bool false] e R)
 (λf=>f [nth a 0] e)
 (ie b j a i R))
def Jm:=λb (c:LK) a (d:za)=>
 opt (zi .add 3 19 (nth b 2) 1) λe=>c [nth a 0,nth a 1,e] d
def ij:=λd (e:LK) f g (R:VK) (h:za) a (b:za) (i:LK)=>
 opt (x6 .lss 3 19 18 (nth a 2) d) λj=>CD j (λc=>c [] b)
 (λc=>e [nth a 0,nth a 1] b)
 (λl k=>BK (ig f a k g R h)
 (Jm a i))
def Zw:=λc (R:VK) d (e:LK) f (a:za)=>
 opt (pk c f (.bool false)) λg=>CD g (λb=>rv [.bool false] a R)
 (λb=>b [nth d 0] a)
 (λh i=>e [nth h 0] i)
def Zx:=λa e b (R:VK) f (g:LK) h (c:za)=>
 zh a false (x6 .geq 3 72 75 e h) c (λi d=>zh b true (pk a (.bool true) i) d (Zw b R f g) d) c
def Zy:=λa d e (R:VK) f (g:LK) h (b:za)=>
 zh a false (zf zz 23 h b) b (λi c=>GD a false (λj=>zt (uy 23 i c) λk l=>j k l) (Zx a d e R f g) c) b
def jk:=λa d e (R:VK) f (g:LK) h (b:za)=>
 zh a false (zf zz 3 h b) b (λi c=>zh a false (zl zz 25 d 1) c (Zy a i e R f g) c) b
def jl:=λa e f (R:VK) g (h:LK) i (b:za)=>
 GD a true (λj=>j i b) (λc d=>zh c false (zl zz 42 e 3) d (jk c f a R g h) d) b
def jm:=λa c d (R:VK) e (f:LK) g (b:za)=>
 zh a true (zi .lss 3 68 g 0) b (jl a c d R e f) b
def jn:=λa (b:za) e (R:VK) f (g:LK)=>
 zD 42 a 0 3 b λh=>opt (zi .eql 3 64 h 21) λc=>zh c true (zl zz 42 a 3) b (λi d=>zh c true (zf zz 3 i d) d (jm c a e R f g) d) b
def jo:=λb (R:VK) c d e (f:LK) g (a:za)=>
 opt (pk b g (.bool false)) λh=>CD h (λk=>rv [.bool false] a R)
 (jn c a d R e)
 (λi j=>f [nth i 0] j)
def jq:=λa c (R:VK) f g h (i:LK) d (b:za)=>
 zh a true (nb [c,d] (Wg zz 115 c d false b)) b (λj e=>zh a true (Dt zz .not j) e (jo a R f g h i) e) b
def jr:=λa c (R:VK) e f (g:LK) h (d:za)=>
 zh a true (zl zz 42 c 5) d (λi b=>zh a true (zf zz 3 i b) b (jq a h R c e f g) b) d
def jt:=λa (e:za) f (R:VK) g h (i:LK) j (b:za)=>
 zh a false (zi .eql 3 52 j 19) b (λk c=>opt (pk a (.bool true) k) λd=>GD d true (λl=>l (qg e).1 c) (jr d f R g h i) c) b
def ju:=λa (b e:za) (R:VK) f g (h:LK)=>
 zD 42 a 0 3 b λi=>opt (zi .eql 3 48 i 18) λc=>zh c false (zl zz 42 a 0) b (λj d=>zh c false (zf zz 3 j d) d (jt c e a R f g h) d) b
def ey:=λd a (b e:za) (R:VK) f (g:LK)=>
 qL 48 d (nth a 1) 42 b λh=>kq 42 b λc i=>opt (wz 42 c h i) λj=>BK (ju c j e R f a)
 (λk l=>g [nth k 0] l)
def Y0:=λa (b:LK) c (d:za)=>
 opt (zi .add 3 42 (nth a 1) 1) λe=>b [nth c 0,e] d
def eA:=λd (e:LK) f (g:za) (R:VK) h a (b:za) (i:LK)=>
 opt (x6 .lss 3 42 41 (nth a 1) d) λj=>CD j (λc=>c [] b)
 (λc=>e [nth a 0] b)
 (λl k=>BK (ey f a k g R h)
 (Y0 a i))
def eC:=λd (e:za) (R:VK) f a (b:za)=>
 zD 50 d 1 48 b λc=>zt (uy 48 c b) λg h=>BK (λi=>LP (eA g i c e R f)
 [nth a 0,pm 0] h)
 (λk j=>rv [nth a 1] j R)
def eD:=λc d (R:VK) e (a:za)=>
 opt (zl zz 50 c 1) λf=>opt (zf zz 48 f (qg a).2) λb=>zt (nb [b] (zB zz .len [48] 3 [b] (qg a).2)) λg h=>BK (λi=>LP (ij g i b d R a)
 [nth e 0,.bool false,pm 0] h)
 (eC c a R d)
def sS:=λ(h:za) a b (R:VK)=>
 opt (nb [a] (some (Value.cells a).toList)) λg=>nw h g 25 λi j=>opt (nb [b] (some (Value.cells b).toList)) λk=>nw j k 50 λc d=>zD 50 c 1 48 d λl=>zt (uy 48 l d) λm e=>opt (zi .gtr 3 13 m 100000) λn=>CD n (λf=>rv [.bool false] e R)
 (λf=>f [.bool false] e)
 (eD c i R)
theorem B0(hw:sS h t0 t1 R):DC zz 46 [t0,t1] h R:=xM (by kernel_rfl) hw
def kS:=λb (R:VK) d (c:za)=>
 GD b true (λe=>zF zz (fn 72) [d] c (λa f=>e a f)) (λa g=>opt (pk b a (.bool false)) λh=>rv [h] g R) c
def kV:=λd e (R:VK) f (c:za)=>
 opt (pk d (.bool true) f) λa=>zh a true (zl zz 42 e 6) c (λg b=>zh a true (zf zz 2 g b) b (kS a R) b) c
def k8:=λa c (R:VK) d (b:za)=>
 zh a false (zi .eql 3 33 d 8) b (kV a c R) b
def ja:=λe c (R:VK) f (d:za)=>
 opt (pk e (.bool true) f) λa=>zh a false (zl zz 42 c 3) d (λg b=>zh a false (zf zz 3 g b) b (k8 a c R) b) d
def jb:=λa c (R:VK) d (b:za)=>
 zh a false (zi .eql 3 28 d 4) b (ja a c R) b
def Xy:=λa c (R:VK) d (b:za)=>
 zh a true (x6 .leq 2 66 71 c d) b (λe f=>opt (pk a e (.bool false)) λg=>rv [g] f R) b
def Xz:=λa d e (R:VK) f (c:za)=>
 zh a true (vf zz 22 d f) c (λg b=>zh a true (zf zz 3 g b) b (Xy a e R) b) c
def XA:=λa d e (R:VK) f (c:za)=>
 zh a true (zl zz 42 d 3) c (λg b=>zh a true (zf zz 3 g b) b (Xz a f e R) b) c
def XB:=λa d e (R:VK) f (b:za)=>
 zh a true (zf zz 2 f b) b (λg c=>GD a true (λh=>h d c) (XA a e g R) c) b
def Yy:=λa b f (R:VK) g (c:za)=>
 zh a true (zi .geq 2 61 g 0) c (λh d=>opt (pk a h (.bool false)) λe=>zh e true (zl zz 42 b 6) d (XB e f b R) d) c
def Yz:=λe c f (R:VK) g (d:za)=>
 opt (pk e g (.bool false)) λa=>zh a true (zl zz 42 c 6) d (λh b=>zh a true (zf zz 2 h b) b (Yy a c f R) b) d
def YA:=λa e f g (R:VK) h (b:za)=>
 GD a true (λi=>zt (uy 22 h b) λc _=>i c b) (λc d=>zh a true (x6 .lss 3 54 56 e c) d (Yz a f g R) d) b
def YB:=λa c e (R:VK) f (b:za)=>
 zh a true (zf zz 3 f b) b (λg d=>GD a true (λh=>h c d) (YA a g e c R) d) b
def K1:=λb (R:VK) d (c:za)=>
 GD b true (λe=>zF zz (fn 72) [d] c (λa f=>e a f)) (λa g=>opt (pk b a (.bool false)) λh=>rv [h] g R) c
def K3:=λd (R:VK) a (c:za)=>
 zh a true (zl zz 42 d 6) c (λe b=>zh a true (zf zz 2 e b) b (K1 a R) b) c
def VZ:=λa (R:VK) c (b:za)=>
 zh a false (zi .eql 3 96 c 2) b (λd e=>opt (pk a (.bool true) d) λf=>rv [f] e R) b
def V0:=λa (R:VK) c (b:za)=>
 zh a false (zi .eql 3 106 c 4) b (λd e=>opt (pk a (.bool true) d) λf=>rv [f] e R) b
def kT:=λa (R:VK) c (b:za)=>
 zh a true (zi .leq 2 126 c 63) b (λd e=>opt (pk a d (.bool false)) λf=>rv [f] e R) b
def kU:=λd e (R:VK) f (c:za)=>
 opt (pk d f (.bool false)) λa=>zh a true (zl zz 42 e 6) c (λg b=>zh a true (zf zz 2 g b) b (kT a R) b) c
def kW:=λa c (R:VK) d (b:za)=>
 zh a true (zi .geq 2 121 d 0) b (kU a c R) b
def kX:=λe c (R:VK) f (d:za)=>
 opt (pk e (.bool true) f) λa=>zh a true (zl zz 42 c 6) d (λg b=>zh a true (zf zz 2 g b) b (kW a c R) b) d
def kY:=λa c (R:VK) d (b:za)=>
 zh a false (zi .eql 3 116 d 20) b (kX a c R) b
def V1:=λa (R:VK) c (b:za)=>
 zh a false (zi .eql 3 136 c 20) b (λd e=>opt (pk a (.bool true) d) λf=>rv [f] e R) b
def V2:=λa (R:VK) c (b:za)=>
 zh a true (zi .leq 3 152 c 10000000) b (λd e=>opt (pk a d (.bool false)) λf=>rv [f] e R) b
def Zp:=λa (R:VK) c (b:za)=>
 zh a true (zi .leq 2 163 c 65536) b (λd e=>opt (pk a d (.bool false)) λf=>rv [f] e R) b
def Zq:=λd (a:za) (R:VK) (g:LK)=>
 zD 42 d 6 2 a λe=>opt (zi .geq 2 159 e 0) λb=>zh b true (zl zz 42 d 6) a (λf c=>zh b true (zf zz 2 f c) c (Zp b R) c) a
def V3:=λd (a:za) (R:VK) (g:LK)=>
 zD 42 d 5 3 a λe=>opt (zi .geq 3 148 e 0) λb=>zh b true (zl zz 42 d 5) a (λf c=>zh b true (zf zz 3 f c) c (V2 b R) c) a
def kZ:=λb (c:za) f (R:VK) g (h:LK)=>
 opt (zi .eql 3 19 b 23) λd=>CD d (λa=>a [d] c)
 (λa=>opt (zi .eql 3 19 b 24) λi=>a [i] c)
 (λj e=>CD (nth j 0) (Zq f e R)
 (λk=>k [nth g 0] e)
 (λl m=>h [nth l 0] m))
def K4:=λb (a:za) (R:VK) (f:LK)=>
 zD 42 b 4 3 a λc=>zF zz (fn 74) [c] a (λd e=>rv [d] e R)
def qd:=λa b (c:za) (R:VK) d (e:LK)=>
 opt (zi .eql 3 19 a 20) λf=>CD f (V3 b c R)
 (kZ a c b R d)
 (λg h=>e [nth g 0] h)
def V4:=λd (a:za) (R:VK) (g:LK)=>
 zD 42 d 3 3 a λe=>opt (zi .eql 3 132 e 19) λb=>zh b false (zl zz 42 d 3) a (λf c=>zh b false (zf zz 3 f c) c (V1 b R) c) a
def uc:=λa (c:za) d (R:VK) g (h:LK)=>
 opt (zi .eql 3 19 a 17) λe=>CD e (λb=>b [e] c)
 (λb=>opt (zi .eql 3 19 a 19) λi=>b [i] c)
 (λj f=>CD (nth j 0) (K4 d f R)
 (qd a d f R g)
 (λk l=>h [nth k 0] l))
def k9:=λa (b:za) (R:VK) (g:LK)=>
 zD 42 a 3 3 b λe=>opt (zi .eql 3 112 e 19) λc=>zh c false (zl zz 42 a 3) b (λf d=>zh c false (zf zz 3 f d) d (kY c a R) d) b
def vj:=λa b (c:za) (R:VK) d (e:LK)=>
 opt (zi .eql 3 19 a 12) λf=>CD f (V4 b c R)
 (uc a c b R d)
 (λg h=>e [nth g 0] h)
def V5:=λd (a:za) (R:VK) (g:LK)=>
 zD 42 d 3 3 a λe=>opt (zi .eql 3 102 e 3) λb=>zh b false (zl zz 42 d 3) a (λf c=>zh b false (zf zz 3 f c) c (V0 b R) c) a
def yZ:=λa b (c:za) (R:VK) d (e:LK)=>
 opt (zi .eql 3 19 a 11) λf=>CD f (k9 b c R)
 (vj a b c R d)
 (λg h=>e [nth g 0] h)
def V6:=λd (a:za) (R:VK) (g:LK)=>
 zD 42 d 3 3 a λe=>opt (zi .eql 3 92 e 1) λb=>zh b false (zl zz 42 d 3) a (λf c=>zh b false (zf zz 3 f c) c (VZ b R) c) a
def yB:=λa b (c:za) (R:VK) d (e:LK)=>
 opt (zi .eql 3 19 a 10) λf=>CD f (V5 b c R)
 (yZ a b c R d)
 (λg h=>e [nth g 0] h)
def yj:=λa b (c:za) (R:VK) d (e:LK)=>
 opt (zi .eql 3 19 a 9) λf=>CD f (V6 b c R)
 (yB a b c R d)
 (λg h=>e [nth g 0] h)
def gP:=λb (a:za) (R:VK) (f:LK)=>
 zD 42 b 3 3 a λc=>zF zz (fn 73) [c] a (λd e=>rv [d] e R)
def yg:=λc a (b:za) (R:VK) d (e:LK)=>
 opt (zi .eql 3 19 c 8) λf=>CD f (λj=>zD 42 a 3 3 b λg=>zF zz (fn 73) [g] b (K3 a R))
 (yj c a b R d)
 (λh i=>e [nth h 0] i)
def YC:=λa (b:za) d (R:VK) (f:LK)=>
 zD 42 a 3 3 b λe=>opt (zi .geq 3 50 e 0) λc=>zh c true (zl zz 42 a 3) b (YB c d a R) b
def ya:=λa b (c:za) (R:VK) d (e:LK)=>
 opt (zi .eql 3 19 a 7) λf=>CD f (gP b c R)
 (yg a b c R d)
 (λg h=>e [nth g 0] h)
def K5:=λb (a:za) (R:VK) (f:LK)=>
 zD 42 b 6 2 a λc=>zF zz (fn 72) [c] a (λd e=>rv [d] e R)
def zT:=λa b (c:za) d (R:VK) e (f:LK)=>
 opt (zi .eql 3 19 a 6) λg=>CD g (YC b c d R)
 (ya a b c R e)
 (λh i=>f [nth h 0] i)
def ke:=λa (b:za) (R:VK) (g:LK)=>
 zD 42 a 3 3 b λe=>opt (zi .eql 3 24 e 1) λc=>zh c false (zl zz 42 a 3) b (λf d=>zh c false (zf zz 3 f d) d (jb c a R) d) b
def zR:=λa (c:za) d (R:VK) g h (i:LK)=>
 opt (zi .eql 3 19 a 5) λe=>CD e (λb=>b [e] c)
 (λb=>opt (zi .eql 3 19 a 16) λj=>b [j] c)
 (λk f=>CD (nth k 0) (K5 d f R)
 (zT a d f g R h)
 (λl m=>i [nth l 0] m))
def zI:=λa (c:za) d (R:VK) g h (i:LK)=>
 opt (zi .eql 3 19 a 3) λe=>CD e (λb=>b [e] c)
 (λb=>opt (zi .eql 3 19 a 4) λj=>b [j] c)
 (λk f=>CD (nth k 0) (ke d f R)
 (zR a f d R g h)
 (λl m=>i [nth l 0] m))
def zo:=λa (R:VK) c d (b:za)=>
 zD 42 a 0 3 b λe=>BK (zI e b a R c d)
 (λg f=>rv [.bool true] f R)
def X8:=λa (R:VK) e f g (b:za)=>
 zh a false (Dt zz .not g) b (λh c=>opt (pk a (.bool true) h) λi=>CD i (λd=>rv [.bool false] c R)
 (λd=>d [.bool false] c)
 (zo e R f)) b
def V7:=λe c (R:VK) f g (a:za)=>
 opt (pk e (.bool true) g) λb=>zh b false (zf zz 42 c a) a (λh d=>GD b false (λi=>zF zz (fn 71) [h] d (λj k=>i j k)) (X8 b R c f) d) a
def V8:=λa c (R:VK) d e (b:za)=>
 zh a false (zi .gtr 3 10 e 26) b (V7 a c R d) b
def CB:=λ(h:za) e f (R:VK)=>
 opt (nb [e] (some (Value.cells e).toList)) λg=>nw h g 42 λa b=>zD 42 a 0 3 b λi=>opt (zi .lss 3 6 i 1) λc=>zh c false (zl zz 42 a 0) b (λj d=>zh c false (zf zz 3 j d) d (V8 c a R f) d) b
theorem Eu(hw:CB h t0 t1 R):DC zz 34 [t0,t1] h R:=xM (by kernel_rfl) hw
def xx:=λe a (R:VK) b (c:za)=>
 GD b false (λf=>f e c) (λg d=>zh a true (pk b (.bool true) g) d (λh i=>opt (pk a h (.bool false)) λj=>rv [j] i R) d) c
def xz:=λa d (R:VK) e (b:za)=>
 zh a true (zi .neq 3 62 e 4) b (λf c=>GD a true (λg=>g f c) (xx d a R) c) b
def xA:=λd e f (R:VK) g (c:za)=>
 opt (pk d g (.bool false)) λa=>zh a true (zl zz 42 e 2) c (λh b=>zh a true (zf zz 3 h b) b (xz a f R) b) c
def xB:=λa c d (R:VK) e (b:za)=>
 zh a true (zi .lss 3 57 e 16) b (xA a c d R) b
def xC:=λe a (R:VK) f (b:za)=>
 opt (pk e (.bool true) f) λg=>zD 42 a 2 3 b λh=>opt (zi .geq 3 53 h 0) λc=>zh c true (zl zz 42 a 2) b (λi d=>zh c true (zf zz 3 i d) d (xB c a g R) d) b
def xD:=λa c (R:VK) d (b:za)=>
 zh a false (zi .eql 3 49 d 1) b (xC a c R) b
def xE:=λe c (R:VK) f (d:za)=>
 opt (pk e (.bool true) f) λa=>zh a false (zl zz 42 c 0) d (λg b=>zh a false (zf zz 3 g b) b (xD a c R) b) d
def xF:=λa c (R:VK) d (b:za)=>
 zh a false (zi .eql 3 44 d 5) b (xE a c R) b
def xG:=λe c (R:VK) f (d:za)=>
 opt (pk e (.bool true) f) λa=>zh a false (zl zz 42 c 0) d (λg b=>zh a false (zf zz 3 g b) b (xF a c R) b) d
def yW:=λa c (R:VK) d (b:za)=>
 zh a false (zi .eql 3 39 d 4) b (xG a c R) b
def yG:=λa (R:VK) (g:List aaa) (b:za)=>
 zD 42 a 0 3 b λe=>opt (zi .eql 3 35 e 3) λc=>zh c false (zl zz 42 a 0) b (λf d=>zh c false (zf zz 3 f d) d (yW c a R) d) b
def qK:=λe (R:VK) f g h (a:za)=>
 opt (pk e h (.bool false)) λi=>CD i (λb=>rv [.bool false] a R)
 (λb=>b [.bool false] a)
 (λj c=>opt (Dt zz .not f) λk=>CD k (λd=>rv [.bool true] c R)
 (λd=>d [nth j 0] c)
 (yG g R))
def jv:=λa e b (R:VK) f g h (c:za)=>
 zh a false (pk e h (.bool false)) c (λi d=>zh b true (pk a (.bool true) i) d (qK b R f g) d) c
def jw:=λa c d (R:VK) e f g (b:za)=>
 zh a true (zi .eql 3 27 g 4) b (jv c a d R e f) b
def jx:=λc e f (R:VK) g a (d:za)=>
 zh a true (zl zz 42 c 1) d (λh b=>zh a true (zf zz 3 h b) b (jw a e f R g c) b) d
def jy:=λb f g (R:VK) h i (c:za)=>
 GD b true (λj=>j i c) (λa d=>GD a false (λk=>k f d) (λl e=>GD a false (λm=>m l e) (jx g a b R h) e) d) c
def jz:=λa b e f (R:VK) g h (c:za)=>
 zh a false (zi .geq 3 20 h 16) c (λi d=>zh b true (pk a (.bool true) i) d (jy b e f R g) d) c
def jA:=λc e f (R:VK) g a (d:za)=>
 zh a false (zl zz 42 c 1) d (λh b=>zh a false (zf zz 3 h b) b (jz a e f c R g) b) d
def jB:=λa d e (R:VK) f g (b:za)=>
 zh a true (zi .lss 3 16 g 0) b (λh c=>GD a true (λi=>i h c) (jA d a e R f) c) b
def jC:=λd (R:VK) a (e:za)=>
 opt (ak a 0) λb=>opt (ak a 1) λf=>opt (ak a 2) λg=>zh b true (zl zz 42 d 1) e (λh c=>zh b true (zf zz 3 h c) c (jB b d g R f) c) e
def sU:=λ(h:za) a (R:VK)=>
 opt (nb [a] (some (Value.cells a).toList)) λd=>nw h d 42 λb c=>opt (zf zz 42 b c) λe=>zF zz (fn 87) [e] c (jC b R)
theorem B5(hw:sU h t0 R):DC zz 71 [t0] h R:=xM (by kernel_rfl) hw
def qy:=λb (c:za) (e:LK)=>
 opt (zi .eql 3 6 b 7) λd=>CD d (λa=>a [d] c)
 (λa=>opt (zi .eql 3 6 b 10) λf=>a [f] c)
 (λg h=>e [nth g 0] h)
def qk:=λa (b:za) (d:LK)=>
 opt (zi .eql 3 6 a 5) λc=>CD c (λe=>e [c] b)
 (qy a b)
 (λf g=>d [nth f 0] g)
def uU:=λa (b:za) (d:LK)=>
 opt (zi .eql 3 6 a 3) λc=>CD c (λe=>e [c] b)
 (qk a b)
 (λf g=>d [nth f 0] g)
def XO:=λb (c:za) (e:LK)=>
 opt (zi .eql 3 6 b 12) λd=>CD d (λa=>a [d] c)
 (λa=>opt (zi .eql 3 6 b 17) λf=>a [f] c)
 (λg h=>e [nth g 0] h)
def YD:=λa (b:za) (d:LK)=>
 opt (zi .eql 3 6 a 11) λc=>CD c (λe=>e [c] b)
 (XO a b)
 (λf g=>d [nth f 0] g)
def ZL:=λa (b:za) (d:LK)=>
 opt (zi .eql 3 6 a 9) λc=>CD c (λe=>e [c] b)
 (YD a b)
 (λf g=>d [nth f 0] g)
def jM:=λa (b:za) (d:LK)=>
 opt (zi .eql 3 6 a 8) λc=>CD c (λe=>e [c] b)
 (ZL a b)
 (λf g=>d [nth f 0] g)
def kO:=λa (b:za) (d:LK)=>
 opt (zi .eql 3 6 a 6) λc=>CD c (λe=>e [c] b)
 (jM a b)
 (λf g=>d [nth f 0] g)
def lY:=λd (b:za) (R:VK) (e:LK)=>
 opt (zi .eql 3 6 d 14) λf=>CD f (λc=>rv [.bool false,.bool true,.bool false] b R)
 (λc=>c [.bool false,.bool false,.bool false] b)
 (λa g=>e [nth a 0,nth a 1,nth a 2] g)
def Jr:=λb (c:za) (R:VK) (d:LK)=>
 opt (zi .eql 3 6 b 16) λe=>CD e (λg=>rv [.bool true,.bool false,.bool false] c R)
 (lY b c R)
 (λa f=>d [nth a 0,nth a 1,nth a 2] f)
def WC:=λ(R:VK) c (d:LK) e (b:za)=>
 CD (nth e 0) (λg=>rv [.bool true,.bool true,.bool false] b R)
 (Jr c b R)
 (λa f=>d [nth a 0,nth a 1,nth a 2] f)
def WD:=λa (c:za) (R:VK) (e:LK)=>
 opt (zi .eql 3 6 a 4) λd=>CD d (λb=>b [d] c)
 (λb=>opt (zi .eql 3 6 a 15) λf=>b [f] c)
 (WC R a e)
def qz:=λ(R:VK) c (d:LK) e (b:za)=>
 CD (nth e 0) (λg=>rv [.bool true,.bool false,.bool true] b R)
 (WD c b R)
 (λa f=>d [nth a 0,nth a 1,nth a 2] f)
def qA:=λa (b:za) (R:VK) (d:LK)=>
 opt (zi .eql 3 6 a 2) λc=>CD c (λe=>e [c] b)
 (kO a b)
 (qz R a d)
def vF:=λ(R:VK) c (d:LK) e (b:za)=>
 CD (nth e 0) (λg=>rv [.bool true,.bool true,.bool true] b R)
 (qA c b R)
 (λa f=>d [nth a 0,nth a 1,nth a 2] f)
def vG:=λa (b:za) (R:VK) (d:LK)=>
 opt (zi .eql 3 6 a 1) λc=>CD c (λe=>e [c] b)
 (uU a b)
 (vF R a d)
def Nv:=λ(h:za) a (R:VK)=>
 opt (nb [a] (some (Value.cells a).toList)) λc=>nw h c 42 λd b=>zD 42 d 0 3 b λe=>BK (vG e b R)
 (λg f=>rv [.bool false,.bool false,.bool false] f R)
theorem Lq(hw:Nv h t0 R):DC zz 87 [t0] h R:=xM (by kernel_rfl) hw
def Se:=λ(h:za) a (R:VK)=>
 zt (nb [a] (yS zz 2 21 a h)) λb c=>zt (nb [b] (yS zz 21 2 b c)) λd e=>opt (x6 .eql 2 3 6 a d) λf=>rv [f] e R
theorem O8(hw:Se h t0 R):DC zz 72 [t0] h R:=xM (by kernel_rfl) hw
def pO:=λb (h:za) (d:LK)=>
 opt (zi .eql 3 3 b 17) λc=>CD c (λa=>a [c] h)
 (λa=>opt (zi .eql 3 3 b 18) λe=>a [e] h)
 (λf g=>d [nth f 0] g)
def hH:=λa (h:za) (c:LK)=>
 opt (zi .eql 3 3 a 16) λb=>CD b (λd=>d [b] h)
 (pO a h)
 (λe f=>c [nth e 0] f)
def cK:=λa (h:za) (c:LK)=>
 opt (zi .eql 3 3 a 13) λb=>CD b (λd=>d [b] h)
 (hH a h)
 (λe f=>c [nth e 0] f)
def K7:=λa (h:za) (c:LK)=>
 opt (zi .eql 3 3 a 12) λb=>CD b (λd=>d [b] h)
 (cK a h)
 (λe f=>c [nth e 0] f)
def Qi:=λa (h:za) (R:VK) (e:LK)=>
 opt (zi .eql 3 3 a 11) λb=>CD b (λf=>f [b] h)
 (K7 a h)
 (λg c=>CD (nth g 0) (λd=>rv [.bool true] c R)
 (λd=>d [.bool false] c)
 (λi j=>e [nth i 0] j))
def zcA:=λ(h:za) a (R:VK)=>
 BK (Qi a h R)
 (λc b=>rv [.bool false] b R)
theorem R9(hw:zcA h t0 R):DC zz 73 [t0] h R:=xM (by kernel_rfl) hw
def sJ:=λ(h:za) b (R:VK)=>
 zF zz (fn 88) [b] h (λa c=>opt (ak a 0) λe=>opt (ak a 1) λd=>rv [d] c R)
theorem BZ(hw:sJ h t0 R):DC zz 74 [t0] h R:=xM (by kernel_rfl) hw
def sA:=λc (h:za) (R:VK) (d:LK)=>
 opt (zi .eql 3 4 c 25) λe=>CD e (λa=>rv [pm 24,.bool true] h R)
 (λa=>a [pm 0,.bool false] h)
 (λb f=>d [nth b 0,nth b 1] f)
def gO:=λa (h:za) (R:VK) (c:LK)=>
 opt (zi .eql 3 4 a 24) λd=>CD d (λf=>rv [pm 25,.bool true] h R)
 (sA a h R)
 (λb e=>c [nth b 0,nth b 1] e)
def aP:=λa (h:za) (R:VK) (c:LK)=>
 opt (zi .eql 3 4 a 26) λd=>CD d (λf=>rv [pm 23,.bool true] h R)
 (gO a h R)
 (λb e=>c [nth b 0,nth b 1] e)
def Kg:=λa (h:za) (R:VK) (c:LK)=>
 opt (zi .eql 3 4 a 23) λd=>CD d (λf=>rv [pm 26,.bool true] h R)
 (aP a h R)
 (λb e=>c [nth b 0,nth b 1] e)
def Ut:=λa (h:za) (R:VK) (c:LK)=>
 opt (zi .eql 3 4 a 22) λd=>CD d (λf=>rv [pm 21,.bool true] h R)
 (Kg a h R)
 (λb e=>c [nth b 0,nth b 1] e)
def W9:=λa (h:za) (R:VK) (c:LK)=>
 opt (zi .eql 3 4 a 21) λd=>CD d (λf=>rv [pm 22,.bool true] h R)
 (Ut a h R)
 (λb e=>c [nth b 0,nth b 1] e)
def R4:=λ(h:za) a (R:VK)=>
 BK (W9 a h R)
 (λc b=>rv [pm 0,.bool false] b R)
theorem O2(hw:R4 h t0 R):DC zz 88 [t0] h R:=xM (by kernel_rfl) hw
end Go.As
namespace Go.Ai
open Go.Ai Go.Proofs
theorem QP:FcX 23 2:=λb o l c k i=>YH (e:=50) (by kernel_rfl) (by kernel_rfl)
theorem QQ:FcX 48 7:=λb o l c k i=>YH (e:=42) (by kernel_rfl) (by kernel_rfl)
theorem Xv:FcE 23:=λr a n c h=>yN (by kernel_rfl)
theorem Xw:FcE 48:=λr a n c h=>yN (by kernel_rfl)
end Go.Ai
namespace Go.Rm
open Go.Ai Go.Proofs
end Go.Rm
namespace Go.Ai
open Go.Ai Go.Proofs
end Go.Ai
namespace Go.Rtl
open Go.Ai Go.Proofs
def xw(b:Bool)(v:aaa)(_:za):Prop:=v=.bool b
def i0(n:Int)(v:aaa)(_:za):Prop:=v=.int .i64 n
theorem yz{f:FuncId}{args:List aaa}{h:za}{b:Bool}(d:DC pu f args h.lock (xw b)):vt pu f args h (.bool b):=vt.of rfl d
theorem vx{f:FuncId}{args:List aaa}{h:za}{n:Int}(d:DC pu f args h.lock (i0 n)):vt pu f args h (pm n):=vt.of rfl d
structure Old (h h':za):Prop where
 next:h.next<=h'.next
 ro:h'.ro=h.ro
 get:∀b,b<h.next->h'.get b=h.get b
theorem Old.trans{a b c:za}(x:Old a b)(y:Old b c):Old a c:=⟨aaW x.next y.next,y.ro.trans x.ro,λi hi=>(y.get i (aap hi x.next)).trans (x.get i hi)⟩
theorem Old.push(h:za)(o:vr):Old h (h.push o):=⟨abz _,rfl,λb hb=>yq hb⟩
def zK(h:za)(sv:aaa)(zs:List Int):Prop:=(sv=.slice none 0 0/\zs=[]) \/ ∃b off cp,sv=.slice (some ⟨b,off,none⟩) zs.length cp/\(zs≠[]->∃c t,b<h.next/\h.get b=some (.cells c t) /\ ∀(i:Nat) z,zs[i]? = some z->c[off+i]? = some (pm z))
section
variable {h h':za}{sv:aaa}{zs:List Int}
theorem zK.ai(S:zK h sv zs):zS sv=false:=by
 rcases S with⟨rfl,_⟩|⟨b,off,cp,rfl,_⟩ <;> rfl
theorem zK.N0(S:zK h sv zs):wG sv=true:=by
 rcases S with⟨rfl,_⟩|⟨b,off,cp,rfl,_⟩ <;> rfl
theorem zK.old(S:zK h sv zs)(e:Old h h'):zK h' sv zs:=by
 rcases S with a|⟨b,off,cp,rfl,hc⟩
 ·exact .inl a
 ·refine .inr ⟨b,off,cp,rfl,λhz=>?_⟩;obtain⟨c,t,hb,hg,hat⟩:=hc hz;exact⟨c,t,aap hb e.next,by rw[e.get b hb];exact hg,hat⟩
theorem zK.lock(S:zK h sv zs):zK h.lock sv zs:=by
 rcases S with a|⟨b,off,cp,rfl,hc⟩
 ·exact .inl a
 ·refine .inr ⟨b,off,cp,rfl,λhz=>?_⟩;obtain⟨c,t,hb,hg,hat⟩:=hc hz;exact⟨c,t,hb,by rw[KF];exact hg,hat⟩
end
theorem YS{h:za}(w:vQ h)(o:vr):vQ (h.push o):=⟨λb x hb=>by
 rw[za.vY]at hb;show b<h.next+1;split at hb
 ·rename_i e;omega
 ·have:=w.1 b x hb;omega,abC w.2⟩
theorem wf_set{h:za}(w:vQ h){b:Nat}(hb:b<h.next)(o:Option vr):vQ (h.set b o):=⟨λc x hc=>by
 rw[za.yJ]at hc;split at hc
 ·rename_i e;subst e;exact hb
 ·exact w.1 c x hc,w.2⟩
theorem inc{i:Nat}(h:i<4611686018427387904):IntKind.wrap .i64 ((i:Int)+1)=((i+1:Nat):Int):=by
 simp only[IntKind.wrap,IntKind.bits,IntKind.signed];simp;omega
def zE(h:za)(sv:aaa)(n:Nat)(rows:List (List aaa)):Prop:=(sv=.slice none 0 0/\rows=[]) \/ ∃b off cp,sv=.slice (some ⟨b,off,none⟩) rows.length cp /\
 (rows≠[]->∃c t,b<h.next/\h.get b=some (.cells c t) /\ ∀(i:Nat) r,rows[i]? = some r->off+i*n+n<=c.length/\(c.drop (off+i*n)).take n=r)
section
variable {h h':za}{sv:aaa}{n:Nat}{rows:List (List aaa)}
theorem zE.ai(S:zE h sv n rows):zS sv=false:=by
 rcases S with⟨rfl,_⟩|⟨b,off,cp,rfl,_⟩ <;> rfl
theorem zE.N0(S:zE h sv n rows):wG sv=true:=by
 rcases S with⟨rfl,_⟩|⟨b,off,cp,rfl,_⟩ <;> rfl
theorem zE.old(S:zE h sv n rows)(e:Old h h'):zE h' sv n rows:=by
 rcases S with a|⟨b,off,cp,rfl,hc⟩
 ·exact .inl a
 ·refine .inr ⟨b,off,cp,rfl,λhz=>?_⟩;obtain⟨c,t,hb,hg,hat⟩:=hc hz;exact⟨c,t,aap hb e.next,by rw[e.get b hb];exact hg,hat⟩
theorem zE.lock(S:zE h sv n rows):zE h.lock sv n rows:=by
 rcases S with a|⟨b,off,cp,rfl,hc⟩
 ·exact .inl a
 ·refine .inr ⟨b,off,cp,rfl,λhz=>?_⟩;obtain⟨c,t,hb,hg,hat⟩:=hc hz;exact⟨c,t,hb,by rw[KF];exact hg,hat⟩
theorem zE.spot(S:zE h sv n rows){i:Nat}{r:List aaa}(hr:rows[i]? = some r)(hn:r.length=n):∃b o c t,(∃off cp,sv=.slice (some ⟨b,off,none⟩) rows.length cp/\o=off+i*n)/\i<rows.length/\b<h.next/\h.get b=some (.cells c t)/\o+n<=c.length/\(c.drop o).take n=r /\ ∀k,k<n->c[o+k]? = r[k]?:=by
 rcases S with⟨rfl,rfl⟩|⟨b,off,cp,rfl,hc⟩
 ·cases hr
 ·have hlt:i<rows.length:=by
   rcases aaN i rows.length with a|a
   ·exact a
   ·rw[aat a]at hr;cases hr
  obtain⟨c,t,hb,hg,hat⟩:=hc (by intro e;subst e;cases hr);obtain⟨h1,h2⟩:=hat i r hr;refine⟨b,off+i*n,c,t,⟨off,cp,rfl,rfl⟩,hlt,hb,hg,h1,h2,λk hk=>?_⟩
  ·rw[<- h2,aaV hk,aaR]
end
def LH{α:Type}(l:List α)(B:α->Bool)(k:Nat):Bool:=match l[k]? with
 |some x=>B x
 |none=>true
theorem YI{α:Type}{l:List α}{B:α->Bool}(h:∀k,k<l.length->LH l B k=true):l.all B=true:=by
 rw[aaB];intro x hx;obtain⟨k,hk,rfl⟩:=List.getElem_of_mem hx;have:=h k hk;simpa only[LH,aag hk] using this
theorem Uk{α:Type}{l:List α}{B:α->Bool}{k:Nat}{x:α}(hx:l[k]? = some x)(hb:B x=false):l.all B=false:=by
 rw[List.all_eq_false];exact⟨x,aaz hx,by simp[hb]⟩
theorem JD{α:Type}{l:List α}{B:α->Bool}{k:Nat}{x:α}(hx:l[k]? = some x):LH l B k=B x:=by simp only[LH,hx]
theorem get_some{α:Type}{l:List α}{k:Nat}(h:k<l.length):∃x,l[k]? = some x/\x∈l:=⟨l[k],aag h,List.getElem_mem h⟩
section
variable {h h':za}
theorem zE.Ag{sv:aaa}{n:Nat}{rows:List (List aaa)}(S:zE h sv n rows):Kv sv=some rows.length:=by
 rcases S with⟨rfl,rfl⟩|⟨b,off,cp,rfl,hc⟩ <;> rfl
theorem zcp{c:List aaa}{off:Nat}{l:List aaa}(h:∀(i:Nat) v,l[i]? = some v->c[off+i]? = some v):(l=[]\/off+l.length<=c.length)/\(c.drop off).take l.length=l:=by
 have hle:l=[]\/off+l.length<=c.length:=by
  cases hl:l.length with
  |zero=>exact .inl (abm.1 hl)
  |succ n=>
   have:=h n l[n] (aag (by omega));rcases aaN (off+n) c.length with q|q
   ·exact .inr (by omega)
   ·rw[aat q]at this;cases this
 refine⟨hle,abL λi=>?_⟩;rw[List.getElem?_take,aaR];by_cases hi:i<l.length
 ·rw[aai hi,aag hi];exact h i _ (aag hi)
 ·rw[aaf hi,aat (by omega)]
theorem iY{n:Nat}:∀{rows:List (List aaa)},(∀r,r∈rows->r.length=n)->∀{i:Nat} {r:List aaa} {k:Nat},rows[i]? = some r->k<n->rows.flatten[i*n+k]? = r[k]?
 |[],_,i,r,k,hr,_=>by cases hr
 |r0::rows,hn,0,r,k,hr,hk=>by
  simp only[aaA,aab]at hr;subst hr;rw[acr,aba (by rw[hn _ (by simp)];omega)];simp
 |r0::rows,hn,i+1,r,k,hr,hk=>by
  have h0:=hn r0 (by simp);rw[acr,aa8 (by rw[h0,acn];omega),h0,show(i+1)*n+k-n=i*n+k by rw[acn];omega];exact iY (λr hr=>hn r (by simp[hr])) (by simpa using hr) hk
theorem vo{n:Nat}:∀{rows:List (List aaa)},(∀r,r∈rows->r.length=n)->rows.flatten.length=rows.length*n
 |[],_=>by simp
 |r0::rows,hn=>by
  rw[acr,aao,vo (λr hr=>hn r (by simp[hr])),hn r0 (by simp),aa3,acn];omega
theorem AS{n:Nat}{rows:List (List aaa)}(hn:∀r,r∈rows->r.length=n){i:Nat}{r:List aaa}(hr:rows[i]? = some r):i*n+n<=rows.flatten.length/\(rows.flatten.drop (i*n)).take n=r:=by
 have hi:i<rows.length:=by
  rcases aaN i rows.length with a|a
  ·exact a
  ·rw[aat a]at hr;cases hr
 have hl:r.length=n:=hn r (aaz hr)
 constructor
 ·rw[vo hn];have:=abN n (Nat.succ_le_of_lt hi);rw[Nat.succ_mul]at this;exact this
 ·refine abL λk=>?_;rw[List.getElem?_take,aaR];by_cases hk:k<n
  ·rw[aai hk];exact iY hn hr hk
  ·rw[aaf hk,aat (by omega)]
theorem zE.first{sv:aaa}{n:Nat}{rows:List (List aaa)}(S:zE h sv n rows)(h0:0<n)(hn:∀r,r∈rows->r.length=n):kh h rows.length n sv=some rows.flatten:=by
 rcases S with⟨rfl,rfl⟩|⟨b,off,cp,rfl,hc⟩
 ·rfl
 ·cases rows with
  |nil=>unfold kh;simp only[abk,acv];rfl
  |cons r0 rows=>
   obtain⟨c,t,hb,hg,hat⟩:=hc (by simp)
   obtain⟨h1,h2⟩:=zcp (c:=c) (off:=off) (l:=(r0::rows).flatten) (λj v hv=>by
    have hj:j<(r0::rows).length*n:=by
     rcases aaN j ((r0::rows).flatten.length) with a|a
     ·rw[vo hn]at a;exact a
     ·rw[aat a]at hv;cases hv
    have hi:j/n<(r0::rows).length:=(Nat.div_lt_iff_lt_mul h0).2 hj;have hk:j%n<n:=Nat.mod_lt _ h0;have hr:(r0::rows)[j/n]? = some (r0::rows)[j/n]:=aag hi;have e:j=j/n*n+j%n:=by rw[Nat.mul_comm];exact(Nat.div_add_mod j n).symm
    rw[e,iY hn hr hk]at hv;obtain⟨_,h4⟩:=hat _ _ hr;rw[<- h4,List.getElem?_take,aai hk,aaR]at hv;rw[e,<- abI];exact hv)
   have hl:=vo hn;rw[hl]at h1 h2;have hne:(r0::rows).length*n≠0:=by rw[aa3];exact Nat.mul_ne_zero (by omega) (by omega)
   have h3:off+(r0::rows).length*n<=c.length:=by
    rcases h1 with e|e
    ·rw[e]at hl;exact absurd hl.symm hne
    ·exact e
   unfold kh;simp only[hg];rw[show Nat.beq ((r0::rows).length*n) 0=false by rw[<- ab3,aco];exact hne,aaw,Nat.ble_eq_true_of_le h3,aav,h2]
end
end Go.Rtl
namespace Go.Rm
open Go.Ai Go.Proofs Go.Mem
def isO(u:aaa)(v:aaa)(_:za):Prop:=v=u
theorem dF{f:FuncId}{args:List aaa}{h:za}{u:aaa}(hs:nc u=true)(d:DC pu f args h.lock (isO u)):vt pu f args h u:=vt.of hs d
open Go.Rtl (zK zE Old vo AS iY)
def ZG(ty:TypeId)(n:Nat)(sv:aaa)(rows:List (List aaa)):HP:=λm=>
 (sv=.slice none 0 0/\rows=[] /\ ∀x,m x=none) \/ ∃b c cs,sv=.slice (some ⟨b,0,none⟩) rows.length c/\c≠0/\rows.length*n<=cs.length/\cs.take (rows.length*n)=rows.flatten/\pt b (.cells cs ty) m
section
variable {lo:yT}{h:za}{L:List HP}{ty:TypeId}{n:Nat}{sv:aaa}{rows:List (List aaa)}
theorem yR(s:Sat lo h (ZG ty n sv rows::L)):(sv=.slice none 0 0/\rows=[]/\Sat lo h L) \/ ∃b c cs,sv=.slice (some ⟨b,0,none⟩) rows.length c/\c≠0/\rows.length*n<=cs.length/\cs.take (rows.length*n)=rows.flatten/\Sat lo h (pt b (.cells cs ty)::L):=by
 obtain⟨a,ha,d,w,s⟩:=s;rcases ha with⟨e1,e2,e3⟩|⟨b,c,cs,e1,e2,e3,e4,e5⟩
 ·exact .inl ⟨e1,e2,by rw[yT.FN e3]at s;exact s⟩
 ·exact .inr ⟨b,c,cs,e1,e2,e3,e4,a,e5,d,w,s⟩
theorem wJ(ty:TypeId)(n:Nat)(s:Sat lo h L):Sat lo h (ZG ty n (pp) []::L):=⟨λ_=>none,.inl ⟨rfl,rfl,λ_=>rfl⟩,λ_ _ e=>(by cases e),λ_ _ e=>(by cases e),by rw[yT.FN λ_=>rfl];exact s⟩
theorem cw{b c:Nat}{cs:List aaa}(hc:c≠0)(hl:rows.length*n<=cs.length)(ht:cs.take (rows.length*n)=rows.flatten)(s:Sat lo h (pt b (.cells cs ty)::L)):Sat lo h (ZG ty n (.slice (some ⟨b,0,none⟩) rows.length c) rows::L):=by
 obtain⟨a,ha,d,w,s⟩:=s;exact⟨a,.inr ⟨b,c,cs,rfl,hc,hl,ht,ha⟩,d,w,s⟩
theorem wD{b c:Nat}{cs:List aaa}(hc:c≠0)(hn:∀r,r∈rows->r.length=n)(he:cs=rows.flatten)(s:Sat lo h (pt b (.cells cs ty)::L)):Sat lo h (ZG ty n (.slice (some ⟨b,0,none⟩) rows.length c) rows::L) :=
 cw hc (by rw[he,vo hn];exact aaj _) (by rw[he,abQ (by rw[vo hn];exact aaj _)]) s
theorem Ek(s:Sat lo h (ZG ty n sv rows::L)):∃a c,sv=.slice a rows.length c:=by
 rcases yR s with⟨rfl,rfl,_⟩|⟨b,c,cs,rfl,_⟩ <;> exact⟨_,_,rfl⟩
theorem xf(s:Sat lo h (ZG ty n sv rows::L)):zS sv=false:=by obtain⟨_,_,rfl⟩:=Ek s;rfl
theorem vq(s:Sat lo h (ZG ty n sv rows::L)):wG sv=true:=by obtain⟨_,_,rfl⟩:=Ek s;rfl
theorem y6(s:Sat lo h (ZG ty n sv rows::L))(hn:∀r,r∈rows->r.length=n):zE h sv n rows:=by
 rcases yR s with⟨e1,e2,_⟩|⟨b,c,cs,rfl,hc,hl,hf,s⟩
 ·exact .inl ⟨e1,e2⟩
 ·refine .inr ⟨b,0,c,rfl,λ_=>⟨cs,ty,s.lt,s.get,λi r hr=>?_⟩⟩
  have hi:i<rows.length:=by
   rcases aaN i rows.length with a|a
   ·exact a
   ·rw[aat a]at hr;cases hr
  obtain⟨f1,f2⟩:=AS hn hr;have hm:=abN n (Nat.succ_le_of_lt hi);rw[Nat.succ_mul]at hm;refine⟨by omega,?_⟩;rw[<- f2,<- hf,abt,List.drop_take,List.take_take]
  congr 1
  omega
theorem W7(s:Sat lo h (ZG ty n sv rows::L))(hn:∀r,r∈rows->r.length=n)(row:List aaa)(hr:row.length=n)(h0n:0<n)(bz:Nat)(hb:(rows.length+1)*bz<=2^47) :
  ∃b' c' h',UJ h ty n bz 1 row sv=some (.slice (some ⟨b',0,none⟩) (rows.length+1) c',h')/\Sat lo h' (ZG ty n (.slice (some ⟨b',0,none⟩) (rows.length+1) c') (rows++[row])::L):=by
 have hn2:∀r,r∈rows++[row]->r.length=n:=λr q=>by
  rcases aaG.1 q with q|q
  ·exact hn r q
  ·simp only[aar]at q;subst q;exact hr
 have hlen:(rows++[row]).length=rows.length+1:=by simp
 rcases yR s with⟨rfl,rfl,s'⟩|⟨b,c,cs,rfl,hc,hl,hf,s⟩
 ·refine⟨h.next,1,h.push (.cells row ty),?_,wD (cs:=row) (rows:=[]++[row]) (c:=1) (by decide) hn2 (by simp) (s'.push (.cells row ty))⟩;simp only[UJ];rw[aaf (by decide),aai (by simp at hb;omega)];rfl
 ·have hroom:roomFor c (rows.length+1) bz=true:=by
   unfold roomFor;cases Nat.beq c 2 <;> simp only[aav,aaw,abY] <;> omega
  refine⟨h.next,ux c (rows.length+1),(h.set b none).push (.cells (((cs.drop 0).take (rows.length*n))++row) ty),?_,?_⟩
  ·simp only[UJ,s.get];rw[aaf (by decide),aai ⟨hc,trivial,s.wr,by omega,hroom,by simp⟩]
  ·have q:=wD (rows:=rows++[row]) (c:=ux c (rows.length+1)) (bD _ _) hn2 (by rw[abT,hf,List.flatten_append];simp) ((s.forget none).push (.cells (((cs.drop 0).take (rows.length*n))++row) ty));rw[hlen]at q;exact q
theorem xH{α:Type}{f:α->List aaa}{n:Nat}(hf:∀a,(f a).length=n)(l:List α):∀r,r∈l.map f->r.length=n:=by
 intro r hr;simp only[aa4]at hr;obtain⟨y,_,rfl⟩:=hr;exact hf y
end
def zV(z:Int):List aaa:=[pm z]
section
variable {g h:za}{F G:Nat->Prop}
end
section
variable {lo:yT}{h:za}{L:List HP}{m:Nat}{M:MM}
end
def Rd(lo:yT)(X:za->Prop):Prop := ∀h,lJ lo h->X h
theorem Rd.mono{lo lo':yT}{X:za->Prop}(x:Rd lo X)(l:lo.Le lo'):Rd lo' X:=λh b=>x h (b.mono l)
theorem Rd.at{lo:yT}{X:za->Prop}{h:za}{L:List HP}(x:Rd lo X)(s:Sat lo h L):X h:=x h s.base
theorem Rd.of{lo:yT}{X:za->Prop}{h0:za}(hl:lo.Has h0)(x:X h0)(m:∀h,Old h0 h->X h):Rd lo X:=λh b=>m h (by obtain⟨a,c,d⟩:=hl.old b;exact⟨a,c,d⟩)
section
variable {lo:yT}{h:za}{L:List HP}{ty:TypeId}{n:Nat}{sv:aaa}{rows:List (List aaa)}
theorem YX(s:Sat lo h (ZG ty n sv rows::L))(hn:∀r,r∈rows->r.length=n):∃lo1,lo.Le lo1/\Rd lo1 (zE · sv n rows)/\Sat lo1 h L /\ ∀h' L',Sat lo1 h' L'->Sat lo h' (ZG ty n sv rows::L'):=by
 obtain⟨a,ha,d,w,s⟩:=s;refine⟨lo.un a,yT.po d,λh1 b1=>?_,s,λh' L' s'=>⟨a,ha,d,w,s'⟩⟩;have:Sat lo h1 [ZG ty n sv rows]:=⟨a,ha,d,w,b1⟩;exact y6 this hn
end
section
variable {lo:yT}{h:za}{L:List HP}{ty:TypeId}{n:Nat}{sv:aaa}{rows:List (List aaa)}
theorem jR(s:Sat lo h (ZG ty n sv rows::L))(hn:∀r,r∈rows->r.length=n)(rows2:List (List aaa))(hn2:∀r,r∈rows2->r.length=n)(bz:Nat)(hb:(rows.length+rows2.length)*bz<=2^47)(hne:rows2≠[]) :
  ∃b' c' h',UJ h ty n bz rows2.length rows2.flatten sv=some (.slice (some ⟨b',0,none⟩) (rows.length+rows2.length) c',h')/\Sat lo h' (ZG ty n (.slice (some ⟨b',0,none⟩) (rows.length+rows2.length) c') (rows++rows2)::L):=by
 have hn3:∀r,r∈rows++rows2->r.length=n:=λr q=>by
  rcases aaG.1 q with q|q
  ·exact hn r q
  ·exact hn2 r q
 have hlen:(rows++rows2).length=rows.length+rows2.length:=by simp
 have h0:¬rows2.length=0:=λe=>hne (abm.1 e);rcases yR s with⟨rfl,rfl,s'⟩|⟨b,c,cs,rfl,hc,hl,hf,s⟩
 ·refine⟨h.next,1,h.push (.cells rows2.flatten ty),?_,?_⟩
  ·simp only[UJ];rw[aaf h0,aai (by simp at hb;omega)];simp
  ·have q:=wD (cs:=rows2.flatten) (rows:=[]++rows2) (c:=1) (by decide) hn3 (by simp) (s'.push (.cells rows2.flatten ty));rw[hlen]at q;exact q
 ·have hroom:roomFor c (rows.length+rows2.length) bz=true:=by
   unfold roomFor;cases Nat.beq c 2 <;> simp only[aav,aaw,abY] <;> omega
  refine⟨h.next,ux c (rows.length+rows2.length),(h.set b none).push (.cells (((cs.drop 0).take (rows.length*n))++rows2.flatten) ty),?_,?_⟩
  ·simp only[UJ,s.get];rw[aaf h0,aai ⟨hc,trivial,s.wr,by omega,hroom,by simp⟩]
  ·have q:=wD (rows:=rows++rows2) (c:=ux c (rows.length+rows2.length)) (bD _ _) hn3 (by rw[abT,hf,List.flatten_append]) ((s.forget none).push (.cells (((cs.drop 0).take (rows.length*n))++rows2.flatten) ty));rw[hlen]at q;exact q
end
section
variable {lo:yT}{h:za}{L:List HP}{b mb wb fb:Nat}{world:List Int}{ev lk gl cl kv wn:aaa}{fi:List Nat}{kept:Option (Int->Bool)}
end
def vb(v:V):Prop:=UW v.b
open Go.Rtl (inc)
section
variable {lo:yT}{h:za}{L:List HP}{wv:aaa}{world:List Int}
end
end Go.Rm
namespace Go.As
open Go.Ai Go.Proofs Go.Mem Go.Rm
open Go.Rtl (zK zE Old)
structure zC where
 op:Int
 r:Int
 m:Int
 sub:Int
 cc:Int
 l:Int
 k:Int
structure Fn where
 nm:ByteArray
 cv:aaa
 code:List zC
structure Pg where
 gv:aaa
 globals:List Int
 fv:aaa
 funcs:List Fn
 main:Int
 params:Int
abbrev zC.row(x:zC):List aaa:=[pm x.op,pm x.r,pm x.m,pm x.sub,pm x.cc,pm x.l,pm x.k]
abbrev zC.val(x:zC):aaa := .agg #[pm x.op,pm x.r,pm x.m,pm x.sub,pm x.cc,pm x.l,pm x.k]
abbrev Fn.row(f:Fn):List aaa:=[.string f.nm,f.cv]
abbrev Fn.val(f:Fn):aaa := .agg #[.string f.nm,f.cv]
abbrev Pg.row(p:Pg):List aaa:=[p.gv,p.fv,pm p.main,pm p.params]
abbrev Pg.val(p:Pg):aaa := .agg #[p.gv,p.fv,pm p.main,pm p.params]
structure W8 (h:za) (f:Fn):Prop where
 code:zE h f.cv 7 (f.code.map zC.row)
 LV:f.code.length*56<=140737488351232
structure kR (h:za) (p:Pg):Prop where
 globals:zK h p.gv p.globals
 Tx:p.globals.length<=17592186043904
 funcs:zE h p.fv 2 (p.funcs.map Fn.row)
 zbi:p.funcs.length*24<=140737488351232
 fns:∀f,f∈p.funcs->W8 h f
section
variable {h h':za}{f:Fn}{p:Pg}
theorem W8.old(S:W8 h f)(e:Old h h'):W8 h' f:=⟨S.code.old e,S.LV⟩
theorem W8.lock(S:W8 h f):W8 h.lock f:=⟨S.code.lock,S.LV⟩
theorem kR.old(S:kR h p)(e:Old h h'):kR h' p:=⟨S.globals.old e,S.Tx,S.funcs.old e,S.zbi,λf hf=>(S.fns f hf).old e⟩
theorem kR.lock(S:kR h p):kR h.lock p:=⟨S.globals.lock,S.Tx,S.funcs.lock,S.zbi,λf hf=>(S.fns f hf).lock⟩
end
section
variable (p:Pg)(lim:Int)(world:List Int)(lab:Bool)(fuel:Int)
end
end Go.As
