import Derived.Test.YtpjjmindjodknaaGreatTG
import Derived.Test.YtpjjmindjodknaaGreatTH
import Derived.Test.YtpjjmindjodknaaGreatTE
set_option linter.unusedVariables false
set_option linter.unusedSimpArgs false
set_option maxRecDepth 100000
namespace Go.Ef
open Go.Ai Go.Proofs Go.Proofs.Tryz
noncomputable abbrev zz:=prog
abbrev VK:=aaa->za->Prop
abbrev LK:=List aaa->za->Prop
abbrev ci(n:Int):Operand := .const (.int .i64 n)
abbrev fn(n:Nat):aaa := .func (.func n) #[] #[]
variable {h:za}{t0 t1 t2 t3 t4 t5 t6:aaa}{R:VK}
def qs:FuncId->Nat:=λg=>[0].getD g 0
theorem mixed:prog.follows .mixedOrders=true:=acf Tryz.checked
def sq:=λe a (b:za) (f:LK)=>
 qL 48 e (nth a 1) 42 b λc=>zt (nb [c] (zd zz 48 1 [(0,c)] b)) λd g=>zt (nb [nth a 0,d] (zB zz .append [48,48] 48 [nth a 0,d] g)) λh i=>f [h] i
def Xi:=λc d a (e:LK) f (b:za)=>
 opt (pk c f (.bool false)) λg=>CD g (sq d a b)
 (λh=>h [nth a 0] b)
 (λi j=>e [nth i 0] j)
def Xj:=λa c d (e:LK) f (b:za)=>
 zh a true (zi .neq 3 150 f 20) b (Xi a c d e) b
def Xk:=λa d e (f:LK) g (c:za)=>
 zh a true (zl zz 42 g 0) c (λh b=>zh a true (zf zz 3 h b) b (Xj a d e f) b) c
def Xl:=λa b e (f:LK) g (c:za)=>
 GD a true (λh=>h (nth b 1) c) (λi d=>zh a true (vf zz 48 g i) d (Xk a e b f) d) c
def Xm:=λa b f (g:LK) h (c:za)=>
 zh a true (zi .neq 3 142 h 6) c (λi d=>opt (pk a i (.bool false)) λe=>GD e true (λj=>j b d) (Xl e f b g) d) c
def Xn:=λa d e (f:LK) g (c:za)=>
 zh a true (zl zz 42 g 0) c (λh b=>zh a true (zf zz 3 h b) b (Xm a d e f) b) c
def Xo:=λa b e (f:LK) g (c:za)=>
 GD a true (λh=>h (nth b 1) c) (λi d=>zh a true (vf zz 48 g i) d (Xn a e b f) d) c
def Xp:=λa b f (g:LK) h (c:za)=>
 zh a true (zi .neq 3 134 h 21) c (λi d=>opt (pk a i (.bool false)) λe=>GD e true (λj=>j b d) (Xo e f b g) d) c
def ZZ:=λa d e (f:LK) g (c:za)=>
 zh a true (zl zz 42 g 0) c (λh b=>zh a true (zf zz 3 h b) b (Xp a d e f) b) c
def Z0:=λa b e (f:LK) g (c:za)=>
 GD a true (λh=>h (nth b 1) c) (λi d=>zh a true (vf zz 48 g i) d (ZZ a e b f) d) c
def Z1:=λa b f (g:LK) h (c:za)=>
 zh a true (zi .neq 3 126 h 19) c (λi d=>opt (pk a i (.bool false)) λe=>GD e true (λj=>j b d) (Z0 e f b g) d) c
def Z2:=λa d e (f:LK) g (c:za)=>
 zh a true (zl zz 42 g 0) c (λh b=>zh a true (zf zz 3 h b) b (Z1 a d e f) b) c
def Z3:=λa b e (f:LK) g (c:za)=>
 GD a true (λh=>h (nth b 1) c) (λi d=>zh a true (vf zz 48 g i) d (Z2 a e b f) d) c
def Z4:=λa c (b:za) (e:LK)=>
 opt (vf zz 48 a (nth c 1)) λf=>zD 42 f 0 3 b λg=>opt (zi .neq 3 119 g 18) λd=>GD d true (λh=>h a b) (Z3 d c a e) b
def Z5:=λa (b:LK) c (d:za)=>
 opt (zi .add 3 113 (nth a 1) 1) λe=>b [nth c 0,e] d
def nk:=λb (e:LK) a (f:za) (g:LK)=>
 zt (uy 48 b f) λh c=>opt (x6 .lss 3 109 111 (nth a 1) h) λi=>CD i (λd=>d [] c)
 (λd=>e [nth a 0] c)
 (λk j=>BK (Z4 b a j)
 (Z5 a g))
def nn:=λa c (R:VK) d (b:za)=>
 zh a true (x6 .eql 9 199 202 c d) b (λe f=>opt (pk a e (.bool false)) λg=>rv [g] f R) b
def np:=λa e (R:VK) f (b:za)=>
 zh a true (zf zz 29 f b) b (λd c=>GD a true (λg=>zt (nb [d] (yS zz 29 9 d c)) λh _=>g h c) (nn a e R) c) b
def nq:=λa f (R:VK) d (b:za)=>
 GD a true (λg=>zt (nb [d] (yS zz 29 9 d b)) λc _=>g c b) (λc e=>zh a true (zl zz 31 f 0) e (np a c R) e) b
def nt:=λb c e (R:VK) d (a:za)=>
 zh b true (nb [c] (cond (pJ (some d)&&pJ none) (Dr zz 29 c (some d) none a) none)) a (nq b e R) a
def nu:=λa c d e (R:VK) f (b:za)=>
 zh a true (x6 .sub 3 193 196 c f) b (nt a d e R) b
def nv:=λa d e f (R:VK) g (b:za)=>
 zh a true (zf zz 29 g b) b (λh c=>GD a true (λi=>zt (uy 29 h c) λj _=>i j c) (nu a d e f R) c) b
def nz:=λa d f (R:VK) g (b:za)=>
 GD a true (λh=>zt (uy 29 g b) λc _=>h c b) (λc e=>zh a true (zl zz 31 d 0) e (nv a c f d R) e) b
def nB:=λa d e (R:VK) f (c:za)=>
 zh a true (zl zz 31 d 0) c (λg b=>zh a true (zf zz 29 g b) b (nz a e f R) b) c
def nC:=λe c f (R:VK) g (d:za)=>
 opt (pk e g (.bool false)) λa=>zh a true (zl zz 31 c 0) d (λh b=>zh a true (zf zz 29 h b) b (nB a c f R) b) d
def nD:=λa c d e (R:VK) f (b:za)=>
 zh a true (x6 .geq 3 182 185 c f) b (nC a d e R) b
def nE:=λa d e f (R:VK) g (b:za)=>
 zh a true (zf zz 29 g b) b (λh c=>GD a true (λi=>zt (uy 29 h c) λj _=>i j c) (nD a d e f R) c) b
def nF:=λa d f (R:VK) g (b:za)=>
 GD a true (λh=>zt (uy 29 g b) λc _=>h c b) (λc e=>zh a true (zl zz 31 d 0) e (nE a c f d R) e) b
def nG:=λf (R:VK) d (g:za)=>
 opt (ak d 0) λh=>opt (ak d 1) λi=>kq 31 g λa j=>opt (wz 31 a h j) λe=>opt (zi .eql 32 177 i 0) λb=>zh b true (zl zz 31 a 0) e (λk c=>zh b true (zf zz 29 k c) c (nF b f a R) c) e
def nH:=λ(R:VK) d e f g (a:za)=>
 opt (Dt zz .not g) λh=>CD h (λb=>rv [.bool true] a R)
 (λb=>b [nth d 0] a)
 (λj c=>opt (zf zz 25 e c) λi=>zF zz (fn 10) [i] c (nG f R))
def nI:=λk (l c:za) (R:VK) m n d (a:za)=>
 opt (zf zz 42 k (cut (cut a l.next c.next) c.next a.next)) λe=>zt (nb [e] (zd zz 48 1 [(0,e)] a)) λf o=>zt (nb [d,f] (zB zz .append [48,48] 48 [d,f] o)) λg p=>opt (nb [.string ⟨#[102]⟩,g] (zN zz 50 [(0,(.string ⟨#[102]⟩)),(1,g)])) λh=>zt (nb [h] (zd zz 23 1 [(0,h)] p)) λi q=>opt (nb [i] (zN zz 25 [(1,i)])) λr=>kq 25 q λb s=>opt (wz 25 b r s) λj=>opt (zf zz 25 b j) λt=>zF zz (fn 11) [t] j (nH R m b n)
def nJ:=λc (R:VK) d e f (b:za)=>
 zt (nb [] (zd zz 48 0 [] b)) λg a=>JA zz [48,48] 48 [g,nth f 0] (some (b.next,a.next)) a a (nI c b a R d e)
def aE:=λc (R:VK) d e f g h (a:za)=>
 opt (pk c (.bool true) h) λi=>CD i (λb=>rv [.bool false] a R)
 (λb=>b [nth d 0] a)
 (λj k=>BK (λl=>LP (nk e l)
 [.slice none 0 0,.int .i64 0] k)
 (nJ f R j g))
def nK:=λa c (R:VK) d e f g h (b:za)=>
 zh a false (x6 .neq 3 104 106 c h) b (aE a R d e f g) b
def nL:=λa d (R:VK) e f g h i (c:za)=>
 zh a false (zl zz 42 d 0) c (λj b=>zh a false (zf zz 3 j b) b (nK a i R e f g h) b) c
def nM:=λd e f (R:VK) g h i j k (c:za)=>
 opt (pk d (.bool true) k) λa=>zh a false (zl zz 42 e 0) c (λl b=>zh a false (zf zz 3 l b) b (nL a f R g h i j) b) c
def nN:=λa c d e (R:VK) f g h i j (b:za)=>
 zh a false (x6 .neq 42 98 99 c j) b (nM a d e R f g h i) b
def nO:=λe d f g (R:VK) h i j k l (a:za)=>
 opt (pk e (.bool true) l) λb=>zh b false (zf zz 42 d a) a (λm c=>zh b false (zf zz 42 f c) c (nN b m d g R h i j k) c) a
def nP:=λa c d e f (R:VK) g h i j k (b:za)=>
 zh a false (x6 .neq 3 91 94 c k) b (nO a d e f R g h i j) b
def nQ:=λa c d e f (R:VK) g h i j k (b:za)=>
 GD a false (λl=>zt (uy 29 k b) λm n=>l m n) (nP a c d e f R g h i j) b
def nR:=λa c e f g (R:VK) h i j k (d:za)=>
 zh a false (zl zz 31 c 0) d (λl b=>zh a false (zf zz 29 l b) b (nQ a k e f g R h i j c) b) d
def nS:=λe f g h i (R:VK) j k l a (m:za)=>
 opt (ak a 0) λn=>opt (ak a 1) λq=>kq 42 m λb o=>opt (wz 42 b n o) λc=>opt (zi .neq 32 88 e 0) λd=>GD d false (λp=>p f c) (nR d g h b i R j k l) c
def nT:=λd a (R:VK) h i c (j:za)=>
 opt (ak c 0) λk=>opt (ak c 1) λl=>opt (ak c 2) λm=>kq 42 j λe n=>opt (wz 42 e k n) λf=>opt (zf zz 42 d f) λo=>kq 42 f λg p=>opt (wz 42 g o p) λb=>zD 31 a 0 29 b λq=>zD 31 a 1 22 b λr=>zD 31 a 2 22 b λs=>zF zz (fn 17) [q,r,s,.int .i64 0] b (nS m l a e g R h i d)
def nU:=λe (R:VK) f a g h i (b:za)=>
 opt (pk e (.bool true) i) λj=>CD j (λc=>rv [.bool false] b R)
 (λc=>c [nth f 0] b)
 (λk d=>opt (zf zz 31 a d) λl=>zF zz (fn 16) [l,.int .i64 0] d (nT g a R k h))
def nV:=λa (R:VK) c d e f g (b:za)=>
 zh a false (zi .eql 3 68 g 0) b (nU a R c d e f) b
def nW:=λa (R:VK) d e f g h (b:za)=>
 zh a false (zf zz 29 h b) b (λi c=>GD a false (λj=>zt (uy 29 i c) λk l=>j k l) (nV a R d e f g) c) b
def nX:=λd a (R:VK) e f g (b:za)=>
 opt (zi .neq 32 63 d 0) λc=>zh c false (zl zz 31 a 0) b (nW c R g a e f) b
def aF:=λa (R:VK) d e f g h (b:za)=>
 opt (Dt zz .not h) λi=>CD i (λc=>opt (zi .neq 32 61 a 0) λj=>rv [j] b R)
 (λc=>c [nth d 0] b)
 (nX a e R f g)
def aG:=λd (R:VK) e f g a (h:za)=>
 opt (ak a 0) λi=>opt (ak a 1) λj=>kq 31 h λb k=>opt (wz 31 b i k) λc=>opt (zf zz 25 d c) λl=>zF zz (fn 11) [l] c (aF j R e b f g)
def nY:=λb (R:VK) i j (c:za)=>
 opt (zf zz 42 b c) λd=>zt (nb [d] (zd zz 48 1 [(0,d)] c)) λe k=>opt (nb [.string ⟨#[102]⟩,e] (zN zz 50 [(0,(.string ⟨#[102]⟩)),(1,e)])) λf=>zt (nb [f] (zd zz 23 1 [(0,f)] k)) λg l=>opt (nb [g] (zN zz 25 [(1,g)])) λm=>kq 25 l λa n=>opt (wz 25 a m n) λh=>opt (zf zz 25 a h) λo=>zF zz (fn 10) [o] h (aG a R j b i)
def jT:=λa (R:VK) e f g h (b:za)=>
 zh a false (zi .eql 3 45 h 20) b (λi c=>opt (pk a (.bool true) i) λj=>CD j (λd=>rv [.bool true] c R)
 (λd=>d [nth e 0] c)
 (nY f R g)) b
def jU:=λe c (R:VK) f g h (d:za)=>
 opt (pk e (.bool true) h) λa=>zh a false (zl zz 42 c 0) d (λi b=>zh a false (zf zz 3 i b) b (jT a R f c g) b) d
def jV:=λa c (R:VK) d e f (b:za)=>
 zh a false (zi .eql 3 40 f 6) b (jU a c R d e) b
def jW:=λe c (R:VK) f g h (d:za)=>
 opt (pk e (.bool true) h) λa=>zh a false (zl zz 42 c 0) d (λi b=>zh a false (zf zz 3 i b) b (jV a c R f g) b) d
def jX:=λa c (R:VK) d e f (b:za)=>
 zh a false (zi .eql 3 35 f 21) b (jW a c R d e) b
def jY:=λe c (R:VK) f g h (d:za)=>
 opt (pk e (.bool true) h) λa=>zh a false (zl zz 42 c 0) d (λi b=>zh a false (zf zz 3 i b) b (jX a c R f g) b) d
def jZ:=λa c (R:VK) d e f (b:za)=>
 zh a false (zi .eql 3 30 f 19) b (jY a c R d e) b
def j0:=λe c (R:VK) f g h (d:za)=>
 opt (pk e (.bool true) h) λa=>zh a false (zl zz 42 c 0) d (λi b=>zh a false (zf zz 3 i b) b (jZ a c R f g) b) d
def j1:=λa c (R:VK) d e f (b:za)=>
 zh a false (zi .eql 3 25 f 18) b (j0 a c R d e) b
def j2:=λc d (R:VK) f (g:za)=>
 zt (uy 48 c g) λh e=>opt (zi .gtr 3 21 h 30) λa=>zh a false (zl zz 42 d 0) e (λi b=>zh a false (zf zz 3 i b) b (j1 a d R f c) b) e
def F6:=λ(h:za) a d (R:VK)=>
 opt (nb [a] (some (Value.cells a).toList)) λe=>nw h e 42 λf g=>zF zz (fn 7) [] g (λi b=>opt (Dt zz .not i) λj=>CD j (λc=>rv [.bool false] b R)
 (λc=>c [.bool false] b)
 (j2 d f R))
theorem F7(hw:F6 h t0 t1 R):DC zz 5 [t0,t1] h R:=qU mixed (q:=qs) (n:=200) (Eq.mpr (by kernel_rfl) hw)
end Go.Ef
namespace Go.Ai
open Go.Ai Go.Proofs
noncomputable def Tn:Array Field:=match Program.underlying Tryz.prog 42 with|some (.struct f)=>f|_ => #[]
theorem ua:FcL 22:=YJ (by kernel_rfl)
theorem Wf:FcN 25 4:=Kw (by kernel_rfl) (by kernel_rfl)
theorem jI:FcL 29:=YJ (by kernel_rfl)
theorem zg:FcL 3:=YJ (by kernel_rfl)
theorem UF:FcN 31 5:=Kw (by kernel_rfl) (by kernel_rfl)
theorem wK:FcN 42 7:=Kw (by kernel_rfl) (by kernel_rfl)
theorem ZS:FcA 48 42 7 56:=λr v x n w h h1 h2 h3 h4=>dt (e:=42) (e2:=42) (by kernel_rfl) (by kernel_rfl) (by kernel_rfl) (by kernel_rfl) (by decide) h1 h2 h3 h4
theorem zcI:FcM 25 4:=UL (by kernel_rfl)
theorem VT:FcM 31 5:=UL (by kernel_rfl)
theorem yI:FcM 42 7:=UL (by kernel_rfl)
theorem zcJ:Y7 Tryz.prog 25=some (.agg #[(.slice none 0 0),(.slice none 0 0),(.int .i64 0),(.int .i64 0)]):=yN (by kernel_rfl)
theorem VV:Y7 Tryz.prog 31=some (.agg #[(.slice none 0 0),(.slice none 0 0),(.slice none 0 0),(.int .i64 0),(.int .i64 0)]):=yN (by kernel_rfl)
theorem uw:Y7 Tryz.prog 42=some (.agg #[(.int .i64 0),(.int .i64 0),(.int .i64 0),(.int .i64 0),(.int .i64 0),(.int .i64 0),(.int .i64 0)]):=yN (by kernel_rfl)
theorem NI(v1:Option Addr)(v1l v1c:Nat):zN Tryz.prog 25 [(1,(.slice v1 v1l v1c))]=some (.agg #[(.slice none 0 0),(.slice v1 v1l v1c),(.int .i64 0),(.int .i64 0)]):=yN (by kernel_rfl)
theorem Dv(v0:ByteArray)(v1:Option Addr)(v1l v1c:Nat):zN Tryz.prog 50 [(0,(.string v0)),(1,(.slice v1 v1l v1c))]=some (.agg #[(.string v0),(.slice v1 v1l v1c)]):=yN (by kernel_rfl)
theorem Dz(v00:ByteArray)(v01:Option Addr)(v01l v01c:Nat)(h:za):zd Tryz.prog 23 1 [(0,(.agg #[(.string v00),(.slice v01 v01l v01c)]))] h=some (.slice (some ⟨h.next,0,none⟩) 1 3,h.push (.cells [(.string v00),(.slice v01 v01l v01c)] 50)):=yN (by kernel_rfl)
theorem SX(h:za):zd Tryz.prog 48 0 [] h=some (.slice (some ⟨h.next,0,none⟩) 0 2,h.push (.cells [] 42)):=yN (by kernel_rfl)
theorem xN(v00:Int)(v01:Int)(v02:Int)(v03:Int)(v04:Int)(v05:Int)(v06:Int)(h:za):zd Tryz.prog 48 1 [(0,(.agg #[(.int .i64 v00),(.int .i64 v01),(.int .i64 v02),(.int .i64 v03),(.int .i64 v04),(.int .i64 v05),(.int .i64 v06)]))] h=some (.slice (some ⟨h.next,0,none⟩) 1 3,h.push (.cells [(.int .i64 v00),(.int .i64 v01),(.int .i64 v02),(.int .i64 v03),(.int .i64 v04),(.int .i64 v05),(.int .i64 v06)] 42)):=yN (by kernel_rfl)
theorem zc5(x y:Operand)(a b:ByteArray):zM Tryz.prog .eql 9 x y (.string a) (.string b)=some (.bool (a.toList == b.toList)):=yN (by kernel_rfl)
theorem uA:FcG 31 0:=λb o=>yN (by kernel_rfl)
theorem ji:FP 31 1 1:=λb o=>yN (by kernel_rfl)
theorem iR:FP 31 2 2:=λb o=>yN (by kernel_rfl)
theorem zc:FcG 42 0:=λb o=>yN (by kernel_rfl)
theorem zei(x y:Operand)(a0:Int)(a1:Int)(a2:Int)(a3:Int)(a4:Int)(a5:Int)(a6:Int)(b0:Int)(b1:Int)(b2:Int)(b3:Int)(b4:Int)(b5:Int)(b6:Int):zM Tryz.prog .neq 42 x y (.agg #[(.int .i64 a0),(.int .i64 a1),(.int .i64 a2),(.int .i64 a3),(.int .i64 a4),(.int .i64 a5),(.int .i64 a6)]) (.agg #[(.int .i64 b0),(.int .i64 b1),(.int .i64 b2),(.int .i64 b3),(.int .i64 b4),(.int .i64 b5),(.int .i64 b6)])=some (.bool (!((a0 == b0)&&((a1 == b1)&&((a2 == b2)&&((a3 == b3)&&((a4 == b4)&&((a5 == b5)&&((a6 == b6)))))))))):=(EF (fs:=Tn) (r:=(a0 == b0)&&((a1 == b1)&&((a2 == b2)&&((a3 == b3)&&((a4 == b4)&&((a5 == b5)&&((a6 == b6)))))))) (by kernel_rfl) (by kernel_rfl) (by kernel_rfl) rfl rfl (Eq.trans (b:=(cond (a0 == b0) (cond (a1 == b1) (cond (a2 == b2) (cond (a3 == b3) (cond (a4 == b4) (cond (a5 == b5) (cond (a6 == b6) (some true) (some false)) (some false)) (some false)) (some false)) (some false)) (some false)) (some false))) (by kernel_rfl) (by cases (a0 == b0) <;> cases (a1 == b1) <;> cases (a2 == b2) <;> cases (a3 == b3) <;> cases (a4 == b4) <;> cases (a5 == b5) <;> cases (a6 == b6) <;> rfl))).2
end Go.Ai
namespace Go.Ee
open Go.Ai Go.Proofs
end Go.Ee
namespace Go.Ai
open Go.Ai Go.Proofs
end Go.Ai
namespace Go.Ed
open Go.Ai Go.Proofs Go.Proofs.Tryz
noncomputable abbrev zz:=prog
abbrev VK:=aaa->za->Prop
abbrev LK:=List aaa->za->Prop
abbrev ci(n:Int):Operand := .const (.int .i64 n)
abbrev fn(n:Nat):aaa := .func (.func n) #[] #[]
variable {h:za}{t0 t1 t2 t3 t4 t5 t6:aaa}{R:VK}
def qs:FuncId->Nat:=λg=>([(25,3),(27,2),(29,3),(30,3),(34,2),(35,3),(36,2),(37,2),(38,2),(39,3),(40,3),(47,3),(51,2),(75,2),(76,3),(77,3),(83,2),(96,2)].lookup g).getD 0
theorem mixed:prog.follows .mixedOrders=true:=acf Tryz.checked
theorem xM{f:FuncId}{args:List aaa}{X:Prop}(e:wpF zz (pb zz qs) 200 f args h R=X)(hw:X):DC zz f args h R:=gK mixed (q:=qs) (n:=200) (Eq.mpr e hw)
def Hd:=λa (h:za) (R:VK) (c:LK)=>
 Uh 77 a 2 4 (.bool true) h λb=>rv [.int .u8 0] b R
def He:=λa (R:VK) (j:List aaa) (c:za)=>
 Kz 77 a 1 3 c λd=>opt (zi .add 3 19 d 1) λe=>Uh 77 a 1 3 e c λb=>Kz 77 a 0 29 b λf=>Kz 77 a 1 3 b λg=>opt (zi .sub 3 30 g 1) λh=>qL 29 f h 5 b λi=>rv [i] b R
def Sl:=λ(h:za) a (R:VK)=>
 Kz 77 a 1 3 h λb=>Kz 77 a 0 29 h λc=>zt (uy 29 c h) λd _=>opt (x6 .geq 3 6 11 b d) λe=>CD e (Hd a h R)
 (λf=>f [.int .u8 0] h)
 (He a R)
theorem Pc(hw:Sl h t0 R):DC zz 64 [t0] h R:=xM (by kernel_rfl) hw
def tA:=λa (c:LK) b (d:za)=>
 zt (nb [b] (yS zz 5 130 b d)) λe f=>opt (nb [.int .i64 8,nth a 1] (zM zz .mul 3 (.const (.int .i64 8)) (.tmp 15) (.int .i64 8) (nth a 1))) λg=>opt (x6 .shl 130 14 16 e g) λh=>opt (x6 .or 130 11 17 (nth a 0) h) λi=>c [i] f
def tB:=λa (b:LK) c (d:za)=>
 opt (zi .add 3 8 (nth a 1) 1) λe=>b [nth c 0,e] d
def tC:=λd (e:LK) f a (b:za) (g:LK)=>
 opt (x6 .lss 3 8 7 (nth a 1) d) λh=>CD h (λc=>c [] b)
 (λc=>e [nth a 0] b)
 (λk i=>BK (λj=>zF zz (fn 64) [f] i (tA a j))
 (tB a g))
def fT:=λe (R:VK) a (b:za)=>
 opt (zi .eql 3 20 e 4) λf=>CD f (λc=>zt (nb [nth a 0] (yS zz 130 21 (nth a 0) b)) λd g=>zt (nb [d] (yS zz 21 2 d g)) λh i=>rv [h] i R)
 (λc=>c [.int .i64 0] b)
 (λm j=>zt (nb [nth a 0] (yS zz 130 2 (nth a 0) j)) λk l=>rv [k] l R)
def Hf:=λ(h:za) b a (R:VK)=>
 BK (λc=>LP (tC a c b)
 [.int .u64 0,.int .i64 0] h)
 (fT a R)
theorem Hg(hw:Hf h t0 t1 R):DC zz 65 [t0,t1] h R:=xM (by kernel_rfl) hw
def iy:=λa (b:za) (c:LK)=>
 zD 132 a 0 3 b λd=>opt (zi .add 3 21 d 8) λe=>YU 132 a 0 3 e b λf=>c [] f
def iz:=λa (b:za) (c:LK)=>
 zD 132 a 1 3 b λd=>opt (zi .add 3 28 d 8) λe=>YU 132 a 1 3 e b λf=>c [] f
def YE:=λa b (c:LK) (h:List aaa) (d:za)=>
 zF zz (fn 65) [a,.int .i64 4] d (λe f=>YU 132 b 4 2 e f λg=>c [] g)
def Ub:=λd b e (f:LK) g (c:za)=>
 opt (pk d g (.bool false)) λh=>CD h (λa=>Uh 77 b 2 4 (.bool true) c λi=>a [] i)
 (λa=>a [] c)
 (YE b e f)
def Uc:=λa d e (f:LK) b (c:za)=>
 zh a true (nb [b,.int .u8 36] (zM zz .neq 5 (.tmp 47) (.const (.int .u8 36)) b (.int .u8 36))) c (Ub a d e f) c
def Wb:=λb a c (d:LK) e (f:za)=>
 opt (pk b (.bool true) e) λg=>Uh 77 a 2 4 g f λh=>zF zz (fn 65) [a,.int .i64 4] h (λi j=>YU 132 c 4 2 i j λk=>d [] k)
def Wc:=λa d e (f:LK) b (c:za)=>
 zh a false (nb [b,.int .u8 0] (zM zz .neq 5 (.tmp 71) (.const (.int .u8 0)) b (.int .u8 0))) c (Wb a d e f) c
def Wd:=λa d e (f:LK) b (c:za)=>
 zh a false (nb [b,.int .u8 1] (zM zz .and 5 (.tmp 70) (.const (.int .u8 1)) b (.int .u8 1))) c (Wc a d e f) c
def We:=λa f g h (i:LK) b (c:za)=>
 zh a false (nb [b,.int .u8 5] (zM zz .neq 5 (.tmp 66) (.const (.int .u8 5)) b (.int .u8 5))) c (λj d=>opt (pk a (.bool true) j) λe=>GD e false (λk=>k f d) (Wd e g h i) d) c
def Y4:=λa d e f (g:LK) b (c:za)=>
 zh a false (nb [b,.int .u8 7] (zM zz .and 5 (.tmp 65) (.const (.int .u8 7)) b (.int .u8 7))) c (We a d e f g) c
def eE:=λb (e:za) c f g (h:LK)=>
 YU 132 b 3 4 (.bool true) e λa=>Kz 77 c 2 4 a λd=>GD d false (λi=>i f a) (Y4 d g c b h) a
def eF:=λa (f:za) d (g:LK)=>
 YU 132 a 2 4 (.bool true) f λb=>zD 132 a 1 3 b λh=>opt (zi .and 3 42 h 7) λi=>opt (zi .eql 3 43 i 4) λc=>GD c true (λj=>j d b) (λk e=>GD c true (λl=>zF zz (fn 64) [k] e (λm n=>l m n)) (Uc c d a g) e) b
def QY:=λa d (b:za) c e f (g:LK)=>
 opt (nb [a,.int .u8 0] (zM zz .eql 5 (.tmp 32) (.const (.int .u8 0)) a (.int .u8 0))) λh=>CD h (eE d b c e f)
 (λi=>Uh 77 c 2 4 (.bool true) b λj=>i [] j)
 (λl k=>g [] k)
def W1:=λa b (c:za) d e f (g:LK)=>
 opt (nb [a,.int .u8 2] (zM zz .eql 5 (.tmp 32) (.const (.int .u8 2)) a (.int .u8 2))) λh=>CD h (eF b c d)
 (QY a b c d e f)
 (λj i=>g [] i)
def Y5:=λa (b:za) c d e f (g:LK)=>
 opt (nb [a,.int .u8 3] (zM zz .eql 5 (.tmp 32) (.const (.int .u8 3)) a (.int .u8 3))) λh=>CD h (λi=>i [] b)
 (W1 a c b d e f)
 (λk j=>g [] j)
def QZ:=λa b f g c (R:VK) (l:List aaa) (h:za)=>
 opt (nb [a,.int .u64 6] (zM zz .shr 5 (.tmp 31) (.const (.int .u64 6)) a (.int .u64 6))) λi=>BK (Y5 i h b f a g)
 (λm d=>opt (zf zz 132 b d) λj=>opt (wz 132 c j d) λe=>opt (zf zz 132 c e) λk=>rv [k] e R)
def Q0:=λa b e f g (R:VK) (j:List aaa) (c:za)=>
 opt (nb [a,.int .u8 1] (zM zz .and 5 (.tmp 24) (.const (.int .u8 1)) a (.int .u8 1))) λd=>opt (nb [d,.int .u8 0] (zM zz .neq 5 (.tmp 25) (.const (.int .u8 0)) d (.int .u8 0))) λh=>CD h (iz b c)
 (λi=>i [] c)
 (QZ e b f a g R)
def eG:=λb k l (R:VK) a (m:za)=>
 opt (nb [a,.int .u64 3] (zM zz .shr 5 (.tmp 9) (.const (.int .u64 3)) a (.int .u64 3))) λd=>opt (nb [d,.int .u8 7] (zM zz .and 5 (.tmp 10) (.const (.int .u8 7)) d (.int .u8 7))) λe=>zt (nb [e] (yS zz 5 3 e m)) λf n=>opt (nb [a,.int .u8 7] (zM zz .and 5 (.tmp 13) (.const (.int .u8 7)) a (.int .u8 7))) λg=>zt (nb [g] (yS zz 5 3 g n)) λh o=>opt (nb [f,h] (zN zz 132 [(0,f),(1,h)])) λp=>kq 132 o λc q=>opt (wz 132 c p q) λi=>opt (nb [b,.int .u8 4] (zM zz .and 5 (.tmp 17) (.const (.int .u8 4)) b (.int .u8 4))) λj=>opt (nb [j,.int .u8 0] (zM zz .neq 5 (.tmp 18) (.const (.int .u8 0)) j (.int .u8 0))) λr=>CD r (iy c i)
 (λs=>s [] i)
 (Q0 b c a k l R)
def tD:=λ(h:za) a b (R:VK)=>
 kq 132 h λc d=>zF zz (fn 64) [a] d (eG b a c R)
theorem B6(hw:tD h t0 t1 R):DC zz 84 [t0,t1] h R:=xM (by kernel_rfl) hw
def VJ:=λc d (R:VK) e (f:LK) g (a:za)=>
 opt (x6 .eql 5 14 15 g c) λh=>CD h (λb=>rv [d] a R)
 (λb=>b [nth e 0] a)
 (λi j=>f [nth i 0] j)
def J3:=λd a (b:za) e (R:VK) (f:LK)=>
 qL 22 d (nth a 1) 3 b λc=>zF zz (fn 83) [c] b (VJ e c R a f)
def J4:=λa (b:LK) c (d:za)=>
 opt (zi .add 3 9 (nth a 1) 1) λe=>b [nth c 0,e] d
def J5:=λd (e:LK) f g (R:VK) a (b:za) (h:LK)=>
 opt (x6 .lss 3 9 8 (nth a 1) d) λi=>CD i (λc=>c [] b)
 (λc=>e [nth a 0] b)
 (λk j=>BK (J3 f a j g R)
 (J4 a h))
def J6:=λa (R:VK) (d:List aaa) (b:za)=>
 Uh 77 a 2 4 (.bool true) b λc=>rv [.int .i64 0] c R
def dY:=λ(h:za) b c (R:VK)=>
 zt (nb [.int .i64 21,.int .i64 22,.int .i64 23,.int .i64 26,.int .i64 24,.int .i64 25] (zd zz 22 6 [(0,(.int .i64 21)),(1,(.int .i64 22)),(2,(.int .i64 23)),(3,(.int .i64 26)),(4,(.int .i64 24)),(5,(.int .i64 25))] h)) λa d=>zt (uy 22 a d) λe f=>BK (λg=>LP (J5 e g a c R)
 [.int .i64 0,.int .i64 0] f)
 (J6 b R)
theorem lR(hw:dY h t0 t1 R):DC zz 66 [t0,t1] h R:=xM (by kernel_rfl) hw
def t7:=λa b (R:VK) c (e:za)=>
 opt (nb [.int .i64 2,a,c] (zN zz 42 [(0,(.int .i64 2)),(1,a),(6,c)])) λf=>opt (wz 42 b f e) λd=>opt (zf zz 42 b d) λg=>rv [g] d R
def iC:=λf a b c g (R:VK) h (i:za)=>
 opt (pk f (.bool true) h) λj=>Uh 77 a 2 4 j i λk=>opt (nb [b,.int .u8 184] (zM zz .sub 5 (.tmp 28) (.const (.int .u8 184)) b (.int .u8 184))) λd=>zt (nb [d] (yS zz 5 3 d k)) λl m=>opt (nb [c,.int .u8 1] (zM zz .and 5 (.tmp 31) (.const (.int .u8 1)) c (.int .u8 1))) λe=>zt (nb [e] (yS zz 5 3 e m)) λn o=>opt (zi .mul 3 33 n 8) λp=>opt (x6 .add 3 30 34 l p) λq=>zF zz (fn 65) [a,.int .i64 8] o (t7 q g R)
def iD:=λa d e f g (R:VK) b (c:za)=>
 zh a false (nb [b,.int .u8 0] (zM zz .neq 5 (.tmp 23) (.const (.int .u8 0)) b (.int .u8 0))) c (iC a d e f g R) c
def iE:=λa d e f g (R:VK) b (c:za)=>
 zh a false (nb [b,.int .u8 4] (zM zz .and 5 (.tmp 22) (.const (.int .u8 4)) b (.int .u8 4))) c (iD a d e f g R) c
def iF:=λb (a:za) c e f (R:VK) (h:LK)=>
 Kz 77 b 2 4 a λd=>GD d false (λg=>g c a) (iE d b e c f R) a
def Hv:=λa (c:za) (R:VK) (f:LK)=>
 opt (nb [.int .i64 25] (zN zz 42 [(0,(.int .i64 25))])) λd=>opt (wz 42 a d c) λb=>opt (zf zz 42 a b) λe=>rv [e] b R
def Hw:=λa (c:za) (R:VK) (f:LK)=>
 opt (nb [.int .i64 13] (zN zz 42 [(0,(.int .i64 13))])) λd=>opt (wz 42 a d c) λb=>opt (zf zz 42 a b) λe=>rv [e] b R
def t8:=λa c (b:za) (R:VK) (d:LK)=>
 opt (nb [a,.int .u8 237] (zM zz .eql 5 (.tmp 60) (.const (.int .u8 237)) a (.int .u8 237))) λe=>CD e (Hv c b R)
 (λf=>f [] b)
 (λh g=>d [] g)
def bp:=λa b (c:za) (R:VK) (d:LK)=>
 opt (nb [a,.int .u8 153] (zM zz .eql 5 (.tmp 60) (.const (.int .u8 153)) a (.int .u8 153))) λe=>CD e (Hw b c R)
 (t8 a b c R)
 (λg f=>d [] f)
def me:=λa (R:VK) (f:List aaa) (c:za)=>
 opt (nb [.int .i64 26] (zN zz 42 [(0,(.int .i64 26))])) λd=>opt (wz 42 a d c) λb=>opt (zf zz 42 a b) λe=>rv [e] b R
def mf:=λb c d a (R:VK) e (f:za)=>
 opt (pk b (.bool true) e) λg=>Uh 77 c 2 4 g f λh=>BK (bp d a h R)
 (me a R)
def mg:=λa d e f (R:VK) b (c:za)=>
 zh a false (nb [b,.int .u8 72] (zM zz .neq 5 (.tmp 55) (.const (.int .u8 72)) b (.int .u8 72))) c (mf a d e f R) c
def mh:=λb (a:za) d e f (R:VK) (h:LK)=>
 Kz 77 b 2 4 a λc=>GD c false (λg=>g d a) (mg c b e f R) a
def mi:=λg h b c (R:VK) i (j:za)=>
 opt (pk g (.bool true) i) λk=>Uh 77 h 2 4 k j λa=>zD 132 b 0 3 a λd=>zD 132 b 4 2 a λe=>opt (nb [.int .i64 6,d,e] (zN zz 42 [(0,(.int .i64 6)),(1,d),(6,e)])) λl=>opt (wz 42 c l a) λf=>opt (zf zz 42 c f) λm=>rv [m] f R
def mj:=λa d e f (R:VK) b (c:za)=>
 zh a false (nb [b,.int .u8 141] (zM zz .neq 5 (.tmp 84) (.const (.int .u8 141)) b (.int .u8 141))) c (mi a d e f R) c
def Dh:=λd (a:za) e f g b (R:VK) (l:LK)=>
 opt (zf zz 132 d a) λh=>zF zz (fn 85) [e,f,nth g 0,h] a (λi j=>opt (wz 42 b i j) λc=>opt (zf zz 42 b c) λk=>rv [k] c R)
def ml:=λb (a:za) d e f (R:VK) (h:LK)=>
 Kz 77 b 2 4 a λc=>GD c false (λg=>g d a) (mj c b e f R) a
def mo:=λb (a:za) c d e f (R:VK) (g:LK)=>
 zD 132 b 2 4 a λh=>CD h (Dh b a c d e f R)
 (λi=>i [] a)
 (λk j=>g [] j)
def Ko:=λa (b:za) c d e (R:VK) f (g:LK)=>
 zD 132 a 3 4 b λh=>CD h (ml c b d a e R)
 (mo a b c d f e R)
 (λj i=>g [] i)
def Di:=λd e f g a (R:VK) (l:List aaa) (b:za)=>
 opt (zf zz 132 d b) λh=>zF zz (fn 86) [e,f,nth g 0,h] b (λi j=>opt (wz 42 a i j) λc=>opt (zf zz 42 a c) λk=>rv [k] c R)
def mq:=λb c d (R:VK) e f (g:za)=>
 kq 132 g λa h=>opt (wz 132 a f h) λi=>BK (Ko a i b c d R e)
 (Di a b c e d R)
def mr:=λa b e f (R:VK) (l:List aaa) (d:za)=>
 opt (nb [a,.int .u8 15] (zM zz .eql 5 (.tmp 68) (.const (.int .u8 15)) a (.int .u8 15))) λg=>CD g (λc=>zF zz (fn 64) [b] d (λh i=>c [h] i))
 (λc=>c [.int .u8 0] d)
 (λj k=>zF zz (fn 84) [b,e] k (mq b a f R j))
def Kp:=λa b c d e (R:VK) f (g:za)=>
 zh a false (nb [f,.int .u8 239] (zM zz .eql 5 (.tmp 46) (.const (.int .u8 239)) f (.int .u8 239))) g (λi h=>opt (pk a (.bool true) i) λj=>CD j (mh b h c d e R)
 (λk=>k [] h)
 (mr d b c e R)) g
def Kq:=λa b g h i (R:VK) c (d:za)=>
 zh a false (nb [c,.int .u8 237] (zM zz .eql 5 (.tmp 42) (.const (.int .u8 237)) c (.int .u8 237))) d (λj e=>opt (pk a (.bool true) j) λf=>GD f false (λk=>k b e) (Kp f g h b i R) e) d
def mu:=λa d e f (R:VK) (h:List aaa) (b:za)=>
 opt (nb [a,.int .u8 153] (zM zz .eql 5 (.tmp 39) (.const (.int .u8 153)) a (.int .u8 153))) λc=>GD c false (λg=>g a b) (Kq c a d e f R) b
def WI:=λa b c d e (R:VK) f (g:za)=>
 zh a true (nb [f,.int .u8 191] (zM zz .leq 5 (.tmp 13) (.const (.int .u8 191)) f (.int .u8 191))) g (λi h=>opt (pk a i (.bool false)) λj=>CD j (iF b h c d e R)
 (λk=>k [] h)
 (mu d b c e R)) g
def Dj:=λd e f (R:VK) a (b:za)=>
 opt (nb [a,.int .u8 184] (zM zz .geq 5 (.tmp 10) (.const (.int .u8 184)) a (.int .u8 184))) λc=>GD c true (λg=>g a b) (WI c d e a f R) b
def Sr:=λ(h:za) a b (R:VK)=>
 kq 42 h λc d=>zF zz (fn 64) [a] d (Dj a b c R)
theorem Ph(hw:Sr h t0 t1 R):DC zz 67 [t0,t1] h R:=xM (by kernel_rfl) hw
def sG:=λa (b:za) (c:LK)=>
 YU 42 a 0 3 (.int .i64 4) b λd=>YU 42 a 3 3 (.int .i64 8) d λe=>c [] e
def K6:=λb d (c:za) e (f:LK)=>
 opt (nb [b,.int .u8 141] (zM zz .eql 5 (.tmp 42) (.const (.int .u8 141)) b (.int .u8 141))) λg=>CD g (λa=>YU 42 d 0 3 (.int .i64 5) c λh=>a [] h)
 (λa=>Uh 77 e 2 4 (.bool true) c λi=>a [] i)
 (λk j=>f [] j)
def Uu:=λa b (c:za) d (e:LK)=>
 opt (nb [a,.int .u8 137] (zM zz .eql 5 (.tmp 37) (.const (.int .u8 137)) a (.int .u8 137))) λf=>CD f (sG b c)
 (K6 a b c d)
 (λh g=>e [] g)
def Wz:=λc a d e (f:LK) g (b:za)=>
 opt (pk c g (.bool false)) λh=>CD h (λi=>YU 42 a 3 3 (.int .i64 1) b λj=>i [] j)
 (Uu d a b e)
 (λl k=>f [] k)
def WA:=λa d e f (g:LK) b (c:za)=>
 zh a true (nb [b,.int .u8 190] (zM zz .eql 5 (.tmp 32) (.const (.int .u8 190)) b (.int .u8 190))) c (Wz a d e f g) c
def WB:=λa d (b:za) e f (g:LK)=>
 opt (nb [a,.int .u8 15] (zM zz .eql 5 (.tmp 29) (.const (.int .u8 15)) a (.int .u8 15))) λc=>GD c true (λh=>h d b) (WA c e a f g) b
def Xq:=λa b (c:za) d e (f:LK)=>
 opt (nb [a,.int .u8 99] (zM zz .eql 5 (.tmp 25) (.const (.int .u8 99)) a (.int .u8 99))) λg=>CD g (λh=>YU 42 b 3 3 (.int .i64 4) c λi=>h [] i)
 (WB a d c b e)
 (λk j=>f [] j)
def Z6:=λa b (c:za) d e (f:LK)=>
 opt (nb [a,.int .u8 139] (zM zz .eql 5 (.tmp 21) (.const (.int .u8 139)) a (.int .u8 139))) λg=>CD g (λh=>YU 42 b 3 3 (.int .i64 8) c λi=>h [] i)
 (Xq a b c d e)
 (λk j=>f [] j)
def Gh:=λ(h:za) l m n d (R:VK)=>
 opt (nb [d] (some (Value.cells d).toList)) λo=>nw h o 132 λb p=>kq 42 p λe a=>zD 132 b 0 3 a λf=>zD 132 b 1 3 a λg=>zD 132 b 4 2 a λi=>opt (nb [.int .i64 3,f,g,i] (zN zz 42 [(0,(.int .i64 3)),(1,f),(2,g),(6,i)])) λq=>kq 42 a λc r=>opt (wz 42 c q r) λs=>BK (Z6 m c s n l)
 (λv j=>opt (zf zz 42 c j) λt=>opt (wz 42 e t j) λk=>opt (zf zz 42 e k) λu=>rv [u] k R)
theorem Gi(hw:Gh h t0 t1 t2 t3 R):DC zz 85 [t0,t1,t2,t3] h R:=xM (by kernel_rfl) hw
def lQ:=λc d (R:VK) e (f:LK) g (a:za)=>
 opt (x6 .eql 5 12 13 g c) λh=>CD h (λb=>rv [d] a R)
 (λb=>b [nth e 0] a)
 (λi j=>f [nth i 0] j)
def CF:=λd a (b:za) e (R:VK) (f:LK)=>
 qL 22 d (nth a 1) 3 b λc=>zF zz (fn 51) [c] b (lQ e c R a f)
def CG:=λa (b:LK) c (d:za)=>
 opt (zi .add 3 7 (nth a 1) 1) λe=>b [nth c 0,e] d
def CH:=λd (e:LK) f g (R:VK) a (b:za) (h:LK)=>
 opt (x6 .lss 3 7 6 (nth a 1) d) λi=>CD i (λc=>c [] b)
 (λc=>e [nth a 0] b)
 (λk j=>BK (CF f a j g R)
 (CG a h))
def M7:=λ(h:za) b (R:VK)=>
 zt (nb [.int .i64 11,.int .i64 12,.int .i64 16,.int .i64 17,.int .i64 18] (zd zz 22 5 [(0,(.int .i64 11)),(1,(.int .i64 12)),(2,(.int .i64 16)),(3,(.int .i64 17)),(4,(.int .i64 18))] h)) λa c=>zt (uy 22 a c) λd e=>BK (λf=>LP (CH d f a b R)
 [.int .i64 0,.int .i64 0] e)
 (λi g=>rv [.int .i64 0] g R)
theorem Ll(hw:M7 h t0 R):DC zz 96 [t0] h R:=xM (by kernel_rfl) hw
def Hj:=λb (a:za) c d (R:VK) (j:LK)=>
 zD 132 b 1 3 a λe=>zD 132 b 0 3 a λf=>opt (nb [.int .i64 7,c,e,f] (zN zz 42 [(0,(.int .i64 7)),(3,c),(1,e),(2,f)])) λh=>opt (wz 42 d h a) λg=>opt (zf zz 42 d g) λi=>rv [i] g R
def tE:=λa b (R:VK) c (e:za)=>
 opt (nb [.int .i64 8,.int .i64 13,a,c] (zN zz 42 [(0,(.int .i64 8)),(3,(.int .i64 13)),(1,a),(6,c)])) λf=>opt (wz 42 b f e) λd=>opt (zf zz 42 b d) λg=>rv [g] d R
def tF:=λd a e f (R:VK) g (h:za)=>
 opt (pk d (.bool true) g) λi=>Uh 77 a 2 4 i h λb=>opt (zl zz 132 e 0) λc=>opt (zf zz 3 c b) λj=>VM zz 65 [a,.int .i64 4] 4 [(1,c)] b (tE j f R)
def tG:=λa d e f g (R:VK) h (b:za)=>
 zh a false (zf zz 3 h b) b (λi c=>zh a false (x6 .neq 3 51 53 d i) c (tF a e f g R) c) b
def tH:=λa c e f (R:VK) g (b:za)=>
 zh a false (zf zz 3 g b) b (λh d=>zh a false (zl zz 132 c 1) d (tG a h e c f R) d) b
def Hk:=λb (a:za) c (R:VK) (i:LK)=>
 zD 132 b 0 3 a λd=>zD 132 b 1 3 a λe=>opt (nb [.int .i64 10,.int .i64 3,d,e] (zN zz 42 [(0,(.int .i64 10)),(3,(.int .i64 3)),(1,d),(2,e)])) λg=>opt (wz 42 c g a) λf=>opt (zf zz 42 c f) λh=>rv [h] f R
def Hl:=λb (a:za) c (R:VK) (i:LK)=>
 zD 132 b 0 3 a λd=>zD 132 b 1 3 a λe=>opt (nb [.int .i64 7,.int .i64 13,d,e] (zN zz 42 [(0,(.int .i64 7)),(3,(.int .i64 13)),(1,d),(2,e)])) λg=>opt (wz 42 c g a) λf=>opt (zf zz 42 c f) λh=>rv [h] f R
def tI:=λa c (b:za) d (R:VK) (e:LK)=>
 opt (nb [a,.int .u8 190] (zM zz .eql 5 (.tmp 65) (.const (.int .u8 190)) a (.int .u8 190))) λf=>CD f (Hk c b d R)
 (λg=>g [] b)
 (λi h=>e [] h)
def iA:=λa b (c:za) d (R:VK) (e:LK)=>
 opt (nb [a,.int .u8 175] (zM zz .eql 5 (.tmp 65) (.const (.int .u8 175)) a (.int .u8 175))) λf=>CD f (Hl b c d R)
 (tI a b c d R)
 (λh g=>e [] g)
def C0:=λc a (R:VK) (h:List aaa) (d:za)=>
 Uh 77 c 2 4 (.bool true) d λe=>opt (nb [] (zN zz 42 [])) λf=>opt (wz 42 a f e) λb=>opt (zf zz 42 a b) λg=>rv [g] b R
def lZ:=λb (a:za) c e (R:VK) (f:LK)=>
 Kz 77 b 2 4 a λd=>zh d false (zl zz 132 c 0) a (tH d c b e R) a
def Kl:=λa e f (b:za) c (R:VK) g (h:LK)=>
 opt (nb [a,.int .u8 15] (zM zz .eql 5 (.tmp 20) (.const (.int .u8 15)) a (.int .u8 15))) λi=>CD i (λd=>BK (iA e f b c R)
 (C0 g c R))
 (λd=>d [] b)
 (λk j=>h [] j)
def C1:=λb (a:za) c (R:VK) (i:LK)=>
 zD 132 b 1 3 a λd=>zD 132 b 0 3 a λe=>opt (nb [.int .i64 15,d,e] (zN zz 42 [(0,(.int .i64 15)),(1,d),(2,e)])) λg=>opt (wz 42 c g a) λf=>opt (zf zz 42 c f) λh=>rv [h] f R
def WG:=λa b (c:za) d e (R:VK) f (g:LK)=>
 opt (nb [a,.int .u8 105] (zM zz .eql 5 (.tmp 20) (.const (.int .u8 105)) a (.int .u8 105))) λh=>CD h (lZ b c d e R)
 (Kl a f d c e R b)
 (λj i=>g [] i)
def C3:=λb (a:za) c (R:VK) (i:LK)=>
 zD 132 b 0 3 a λd=>zD 132 b 1 3 a λe=>opt (nb [.int .i64 10,.int .i64 4,d,e] (zN zz 42 [(0,(.int .i64 10)),(3,(.int .i64 4)),(1,d),(2,e)])) λg=>opt (wz 42 c g a) λf=>opt (zf zz 42 c f) λh=>rv [h] f R
def XQ:=λa b (c:za) d (R:VK) e f (g:LK)=>
 opt (nb [a,.int .u8 57] (zM zz .eql 5 (.tmp 20) (.const (.int .u8 57)) a (.int .u8 57))) λh=>CD h (C1 b c d R)
 (WG a e c b d R f)
 (λj i=>g [] i)
def C4:=λb (a:za) c (R:VK) (i:LK)=>
 zD 132 b 1 3 a λd=>zD 132 b 0 3 a λe=>opt (nb [.int .i64 1,d,e] (zN zz 42 [(0,(.int .i64 1)),(1,d),(2,e)])) λg=>opt (wz 42 c g a) λf=>opt (zf zz 42 c f) λh=>rv [h] f R
def YF:=λa b (c:za) d (R:VK) e f (g:LK)=>
 opt (nb [a,.int .u8 99] (zM zz .eql 5 (.tmp 20) (.const (.int .u8 99)) a (.int .u8 99))) λh=>CD h (C3 b c d R)
 (XQ a b c d R e f)
 (λj i=>g [] i)
def ZM:=λa b (c:za) d (R:VK) e f (g:LK)=>
 opt (nb [a,.int .u8 137] (zM zz .eql 5 (.tmp 20) (.const (.int .u8 137)) a (.int .u8 137))) λh=>CD h (C4 b c d R)
 (YF a b c d R e f)
 (λj i=>g [] i)
def C5:=λd e f a (R:VK) (k:List aaa) (b:za)=>
 opt (zf zz 132 d b) λg=>zF zz (fn 97) [e,f,g] b (λh i=>opt (wz 42 a h i) λc=>opt (zf zz 42 a c) λj=>rv [j] c R)
def ko:=λa b (R:VK) c d g e (f:za)=>
 opt (zi .neq 3 12 e 0) λh=>CD h (Hj a f e b R)
 (λi=>i [] f)
 (λk j=>BK (ZM c a j b R d g)
 (C5 a d c b R))
def Sm:=λ(h:za) c a d b (R:VK)=>
 opt (nb [b] (some (Value.cells b).toList)) λe=>nw h e 132 λf g=>kq 42 g λi j=>zF zz (fn 96) [a] j (ko f i R a c d)
theorem Pd(hw:Sm h t0 t1 t2 t3 R):DC zz 86 [t0,t1,t2,t3] h R:=qU mixed (q:=qs) (n:=200) (Eq.mpr (by kernel_rfl) hw)
def fZ:=λa b (R:VK) c (e:za)=>
 opt (nb [.int .i64 2,a,c] (zN zz 42 [(0,(.int .i64 2)),(1,a),(6,c)])) λf=>opt (wz 42 b f e) λd=>opt (zf zz 42 b d) λg=>rv [g] d R
def f9:=λd a e f (R:VK) g (h:za)=>
 opt (pk d (.bool true) g) λi=>Uh 77 a 2 4 i h λb=>opt (zl zz 132 e 1) λc=>opt (zf zz 3 c b) λj=>VM zz 65 [a,.int .i64 4] 4 [(1,c)] b (fZ j f R)
def ga:=λa c d e (R:VK) f (b:za)=>
 zh a false (zi .neq 3 18 f 0) b (f9 a c d e R) b
def tX:=λe (a:za) b (R:VK) (h:LK)=>
 zD 132 e 1 3 a λc=>opt (nb [.int .i64 14,c] (zN zz 42 [(0,(.int .i64 14)),(2,c)])) λf=>opt (wz 42 b f a) λd=>opt (zf zz 42 b d) λg=>rv [g] d R
def tY:=λe (a:za) b (R:VK) (h:LK)=>
 zD 132 e 1 3 a λc=>opt (nb [.int .i64 9,.int .i64 1,c] (zN zz 42 [(0,(.int .i64 9)),(3,(.int .i64 1)),(1,c)])) λf=>opt (wz 42 b f a) λd=>opt (zf zz 42 b d) λg=>rv [g] d R
def gd:=λb c (a:za) d (R:VK) (e:LK)=>
 opt (zi .eql 3 36 b 7) λf=>CD f (tX c a d R)
 (λg=>g [] a)
 (λi h=>e [] h)
def tZ:=λe (a:za) b (R:VK) (h:LK)=>
 zD 132 e 1 3 a λc=>opt (nb [.int .i64 9,.int .i64 2,c] (zN zz 42 [(0,(.int .i64 9)),(3,(.int .i64 2)),(1,c)])) λf=>opt (wz 42 b f a) λd=>opt (zf zz 42 b d) λg=>rv [g] d R
def Ju:=λa b (c:za) d (R:VK) (e:LK)=>
 opt (zi .eql 3 36 a 3) λf=>CD f (tY b c d R)
 (gd a b c d R)
 (λh g=>e [] g)
def UC:=λa b (c:za) d (R:VK) (e:LK)=>
 opt (zi .eql 3 36 a 2) λf=>CD f (tZ b c d R)
 (Ju a b c d R)
 (λh g=>e [] g)
def ba:=λa (c:LK) b (d:za)=>
 zt (nb [b] (yS zz 5 2 b d)) λe f=>YU 42 a 0 3 (.int .i64 11) f λg=>YU 42 a 6 2 e g λh=>c [] h
def Qr:=λi b c d e (R:VK) j (k:za)=>
 opt (pk i (.bool true) j) λl=>Uh 77 b 2 4 l k λf=>opt (nb [c,.int .u8 193] (zM zz .eql 5 (.tmp 79) (.const (.int .u8 193)) c (.int .u8 193))) λm=>CD m (λa=>zF zz (fn 64) [b] f (ba d a))
 (λa=>a [] f)
 (λp g=>opt (zf zz 42 d g) λn=>opt (wz 42 e n g) λh=>opt (zf zz 42 e h) λo=>rv [o] h R)
def Qs:=λa b e f g h (R:VK) i (c:za)=>
 zh a true (zi .neq 3 73 i 7) c (λj d=>zh b false (pk a j (.bool false)) d (Qr b e f g h R) d) c
def Qt:=λd e f g h i (R:VK) a (c:za)=>
 zh a true (zl zz 132 d 0) c (λj b=>zh a true (zf zz 3 j b) b (Qs a e f g h i R) b) c
def Qu:=λa d e f g h (R:VK) i (b:za)=>
 zh a false (zi .neq 3 69 i 4) b (λj c=>GD a false (λk=>k j c) (Qt d a e f g h R) c) b
def bh:=λd e f g h (R:VK) (j:List aaa) (a:za)=>
 Kz 77 d 2 4 a λb=>zh b false (zl zz 132 e 0) a (λi c=>zh b false (zf zz 3 i c) c (Qu b e d f g h R) c) a
def bj:=λa (e:za) g h i (R:VK) (o:LK)=>
 zD 132 a 1 3 e λf=>opt (nb [.int .i64 12,f,.int .i64 19] (zN zz 42 [(0,(.int .i64 12)),(1,f),(3,(.int .i64 19))])) λj=>kq 42 e λb k=>opt (wz 42 b j k) λc=>zD 132 a 0 3 c λl=>opt (zi .eql 3 59 l 7) λm=>CD m (λd=>YU 42 b 3 3 (.int .i64 20) c λn=>d [] n)
 (λd=>d [] c)
 (bh g a h b i R)
def Qv:=λa (c:za) f g h (R:VK) (i:LK)=>
 opt (nb [a,.int .u8 193] (zM zz .eql 5 (.tmp 8) (.const (.int .u8 193)) a (.int .u8 193))) λd=>CD d (λb=>b [d] c)
 (λb=>opt (nb [a,.int .u8 211] (zM zz .eql 5 (.tmp 8) (.const (.int .u8 211)) a (.int .u8 211))) λj=>b [j] c)
 (λk e=>CD (nth k 0) (bj f e g a h R)
 (λl=>l [] e)
 (λn m=>i [] m))
def oQ:=λd (a:za) e b (R:VK) (j:LK)=>
 opt (zf zz 132 d a) λf=>zF zz (fn 114) [e,f] a (λg h=>opt (wz 42 b g h) λc=>opt (zf zz 42 b c) λi=>rv [i] c R)
def Zj:=λa b (c:za) d (R:VK) e (f:LK)=>
 opt (nb [a,.int .u8 247] (zM zz .eql 5 (.tmp 8) (.const (.int .u8 247)) a (.int .u8 247))) λg=>CD g (λh=>zD 132 b 0 3 c λi=>BK (UC i b c d R)
 (λl j=>h [] j))
 (Qv a c b e d R)
 (λm k=>f [] k)
def bk:=λd (a:za) e f (R:VK) (h:LK)=>
 Kz 77 d 2 4 a λb=>zh b false (zl zz 132 e 0) a (λg c=>zh b false (zf zz 3 g c) c (ga b d e f R) c) a
def jg:=λa b (c:za) d e (R:VK) (f:LK)=>
 opt (nb [a,.int .u8 129] (zM zz .eql 5 (.tmp 8) (.const (.int .u8 129)) a (.int .u8 129))) λg=>CD g (oQ b c d e R)
 (Zj a b c e R d)
 (λi h=>f [] h)
def qO:=λa b (c:za) d e (R:VK) (f:LK)=>
 opt (nb [a,.int .u8 199] (zM zz .eql 5 (.tmp 8) (.const (.int .u8 199)) a (.int .u8 199))) λg=>CD g (bk b c d e R)
 (jg a d c b e R)
 (λi h=>f [] h)
def bm:=λc a (R:VK) (h:List aaa) (d:za)=>
 Uh 77 c 2 4 (.bool true) d λe=>opt (nb [] (zN zz 42 [])) λf=>opt (wz 42 a f e) λb=>opt (zf zz 42 a b) λg=>rv [g] b R
def Ht:=λ(h:za) a d b (R:VK)=>
 opt (nb [b] (some (Value.cells b).toList)) λe=>nw h e 132 λf g=>kq 42 g λc i=>BK (qO d a i f c R)
 (bm a c R)
theorem Hu(hw:Ht h t0 t1 t2 R):DC zz 97 [t0,t1,t2] h R:=qU mixed (q:=qs) (n:=200) (Eq.mpr (by kernel_rfl) hw)
def CM:=λa b (d:za) (R:VK) (g:LK)=>
 opt (nb [.int .i64 24,a] (zN zz 42 [(0,(.int .i64 24)),(6,a)])) λe=>opt (wz 42 b e d) λc=>opt (zf zz 42 b c) λf=>rv [f] c R
def cR:=λa d e (R:VK) (f:LK) g (b:za)=>
 zh a true (zi .eql 3 34 g 0) b (λh c=>opt (pk a h (.bool false)) λi=>CD i (CM d e c R)
 (λj=>j [] c)
 (λl k=>f [] k)) b
def CN:=λa b (d:za) (R:VK) (g:LK)=>
 opt (nb [.int .i64 23,a] (zN zz 42 [(0,(.int .i64 23)),(6,a)])) λe=>opt (wz 42 b e d) λc=>opt (zf zz 42 b c) λf=>rv [f] c R
def cS:=λd (a:za) e f (R:VK) (g:LK)=>
 zD 132 d 1 3 a λh=>opt (zi .eql 3 30 h 4) λb=>zh b true (zl zz 132 d 0) a (λi c=>zh b true (zf zz 3 i c) c (cR b e f R g) c) a
def Ki:=λa b c (R:VK) f (g:LK) h (d:za)=>
 zh a true (zi .eql 3 23 h 5) d (λi e=>opt (pk a i (.bool false)) λj=>CD j (CN b c e R)
 (cS f e b c R)
 (λl k=>g [] k)) d
def CO:=λf (a:za) b c (R:VK) (i:LK)=>
 zD 132 f 1 3 a λd=>opt (nb [.int .i64 16,d,b] (zN zz 42 [(0,(.int .i64 16)),(1,d),(6,b)])) λg=>opt (wz 42 c g a) λe=>opt (zf zz 42 c e) λh=>rv [h] e R
def Kj:=λa (b:za) e f (R:VK) (g:LK)=>
 zD 132 a 1 3 b λh=>opt (zi .eql 3 19 h 4) λc=>zh c true (zl zz 132 a 0) b (λi d=>zh c true (zf zz 3 i d) d (Ki c e f R a g) d) b
def Uo:=λa (b:za) c d (R:VK) (e:LK)=>
 zD 132 a 0 3 b λf=>opt (zi .eql 3 11 f 7) λg=>CD g (CO a b c d R)
 (Kj a b c d R)
 (λi h=>e [] h)
def lT:=λg h i a b c (R:VK) j (k:za)=>
 opt (pk g (.bool true) j) λl=>Uh 77 h 2 4 l k λd=>zD 132 i 1 3 d λe=>opt (nb [.int .i64 8,a,e,b] (zN zz 42 [(0,(.int .i64 8)),(3,a),(1,e),(6,b)])) λm=>opt (wz 42 c m d) λf=>opt (zf zz 42 c f) λn=>rv [n] f R
def fI:=λa c d e f g (R:VK) h (b:za)=>
 zh a false (zi .eql 3 51 h 0) b (lT a c d e f g R) b
def fJ:=λb e f g (R:VK) c (a:za)=>
 Kz 77 b 2 4 a λd=>GD d false (λh=>h c a) (fI d b e c f g R) a
def fK:=λa f g h (R:VK) (k:List aaa) (b:za)=>
 zD 132 a 0 3 b λc=>zt (nb [c] (yS zz 3 5 c b)) λd i=>opt (nb [d,.int .u64 3] (zM zz .shl 5 (.tmp 41) (.const (.int .u64 3)) d (.int .u64 3))) λe=>opt (nb [e,.int .u8 1] (zM zz .or 5 (.tmp 42) (.const (.int .u8 1)) e (.int .u8 1))) λj=>zF zz (fn 96) [j] i (fJ f a g h R)
def Nb:=λ(h:za) a b (R:VK)=>
 opt (nb [b] (some (Value.cells b).toList)) λf=>nw h f 132 λc g=>kq 42 g λd i=>zF zz (fn 65) [a,.int .i64 4] i (λe j=>BK (Uo c j e d R)
 (fK c a e d R))
theorem Lp(hw:Nb h t0 t1 R):DC zz 114 [t0,t1] h R:=xM (by kernel_rfl) hw
def fM:=λm n b e f (R:VK) o (p:za)=>
 opt (pk m (.bool true) o) λq=>Uh 77 n 2 4 q p λa=>zD 132 b 0 3 a λg=>zD 132 b 1 3 a λh=>zD 132 b 4 2 a λi=>opt (nb [.int .i64 4,.int .i64 4,g,h,i] (zN zz 42 [(0,(.int .i64 4)),(3,(.int .i64 4)),(1,g),(2,h),(6,i)])) λr=>kq 42 a λc s=>opt (wz 42 c r s) λj=>opt (nb [e,.int .u8 136] (zM zz .eql 5 (.tmp 40) (.const (.int .u8 136)) e (.int .u8 136))) λt=>CD t (λd=>YU 42 c 3 3 (.int .i64 1) j λu=>d [] u)
 (λd=>d [] j)
 (λx k=>opt (zf zz 42 c k) λv=>opt (wz 42 f v k) λl=>opt (zf zz 42 f l) λw=>rv [w] l R)
def fN:=λa d e f g (R:VK) h (b:za)=>
 zh a false (zf zz 4 h b) b (λi c=>zh a false (Dt zz .not i) c (fM a d e f g R) c) b
def fO:=λc e f (R:VK) g (h:za)=>
 kq 132 h λa i=>opt (wz 132 a g i) λb=>Kz 77 c 2 4 b λd=>zh d false (zl zz 132 a 2) b (fN d c a e f R) b
def fP:=λa b (c:LK) d (e:za)=>
 opt (pk a (.bool true) d) λf=>Uh 77 b 2 4 f e λg=>c [] g
def fQ:=λa d (e:LK) f (c:za)=>
 zh a false (zl zz 77 f 2) c (λg b=>zh a false (zf zz 4 g b) b (fP a d e) b) c
def fR:=λe b (f:LK) g (c:za)=>
 opt (x6 .neq 5 91 92 g e) λa=>GD a false (λh=>h b c) (λi d=>zh a false (nck i) d (fQ a b f) d) c
def tt:=λc d (a:za) b (e:LK)=>
 qL 29 c (nth d 0) 5 a λf=>zF zz (fn 64) [b] a (fR f b e)
def tu:=λb a c (d:LK) (h:List aaa) (e:za)=>
 BK (tt b a e c)
 (λi f=>opt (zi .add 3 85 (nth a 0) 1) λg=>d [g] f)
def fS:=λd (e:LK) f g a (b:za) (h:LK)=>
 opt (x6 .lss 3 85 84 (nth a 0) d) λi=>CD i (λc=>c [] b)
 (λc=>e [] b)
 (tu f a g h)
def aY:=λe f a (R:VK) b (g:za)=>
 zt (uy 29 b g) λh i=>BK (λj=>LP (fS h j b e)
 [.int .i64 0] i)
 (λm c=>opt (zf zz 42 f c) λk=>opt (wz 42 a k c) λd=>opt (zf zz 42 a d) λl=>rv [l] d R)
def Qq:=λe c f a g (R:VK) h (i:za)=>
 opt (pk e (.bool true) h) λj=>Uh 77 c 2 4 j i λd=>zD 132 f 1 3 d λk=>YU 42 a 1 3 k d λl=>zt (nb [.int .u8 15,.int .u8 182] (zd zz 29 2 [(0,(.int .u8 15)),(1,(.int .u8 182))] l)) λm b=>zD 42 a 1 3 b λn=>zD 42 a 1 3 b λo=>zF zz (fn 47) [.int .u8 72,m,n,o] b (aY c a g R)
def Vo:=λa c d e f (R:VK) g (b:za)=>
 zh a false (zi .neq 3 70 g 0) b (Qq a c d e f R) b
def Vp:=λe c f g h (R:VK) i (d:za)=>
 opt (pk e (.bool true) i) λa=>zh a false (zl zz 132 c 0) d (λj b=>zh a false (zf zz 3 j b) b (Vo a f c g h R) b) d
def Vq:=λe c f g h (R:VK) i (d:za)=>
 opt (pk e (.bool true) i) λa=>zh a false (zl zz 132 c 3) d (λj b=>zh a false (zf zz 4 j b) b (Vp a c f g h R) b) d
def oN:=λe f g (R:VK) h (i:za)=>
 kq 132 i λa j=>opt (wz 132 a h j) λb=>Kz 77 e 2 4 b λc=>zh c false (zl zz 132 a 2) b (λk d=>zh c false (zf zz 4 k d) d (Vq c a e f g R) d) b
def oO:=λa d e (R:VK) b (f:za)=>
 opt (nb [.int .i64 17,b] (zN zz 42 [(0,(.int .i64 17)),(4,b)])) λg=>kq 42 f λc h=>opt (wz 42 c g h) λi=>zF zz (fn 84) [a,d] i (oN a c e R)
def oP:=λa c d (R:VK) b (e:za)=>
 opt (nb [b,.int .u8 144] (zM zz .sub 5 (.tmp 48) (.const (.int .u8 144)) b (.int .u8 144))) λf=>zF zz (fn 66) [a,f] e (oO a c d R)
def aZ:=λa b (c:za) e f (R:VK) (g:LK)=>
 opt (nb [a,.int .u8 15] (zM zz .eql 5 (.tmp 14) (.const (.int .u8 15)) a (.int .u8 15))) λh=>CD h (λd=>zF zz (fn 64) [b] c (oP b e f R))
 (λd=>d [] c)
 (λj i=>g [] i)
def Vr:=λa b c d (R:VK) (f:LK) g (e:za)=>
 CD (nth g 0) (λi=>zF zz (fn 84) [a,b] e (fO a c d R))
 (aZ c a e b d R)
 (λj h=>f [] h)
def XP:=λa (c:za) e f g (R:VK) (h:LK)=>
 opt (nb [a,.int .u8 136] (zM zz .eql 5 (.tmp 14) (.const (.int .u8 136)) a (.int .u8 136))) λd=>CD d (λb=>b [d] c)
 (λb=>opt (nb [a,.int .u8 137] (zM zz .eql 5 (.tmp 14) (.const (.int .u8 137)) a (.int .u8 137))) λi=>b [i] c)
 (Vr e f a g R h)
def a8:=λc a (R:VK) (h:List aaa) (d:za)=>
 Uh 77 c 2 4 (.bool true) d λe=>opt (nb [] (zN zz 42 [])) λf=>opt (wz 42 a f e) λb=>opt (zf zz 42 a b) λg=>rv [g] b R
def Hb:=λ(h:za) a c (R:VK)=>
 kq 42 h λb d=>zF zz (fn 64) [a] d (λe f=>BK (XP e f a c b R)
 (a8 a b R))
theorem Hc(hw:Hb h t0 t1 R):DC zz 68 [t0,t1] h R:=xM (by kernel_rfl) hw
def Nc:=λa (R:VK) b (d:za)=>
 opt (nb [.int .i64 18,b] (zN zz 42 [(0,(.int .i64 18)),(6,b)])) λe=>opt (wz 42 a e d) λc=>opt (zf zz 42 a c) λf=>rv [f,.bool true] c R
def Nd:=λa (R:VK) b (d:za)=>
 opt (nb [.int .i64 21,b] (zN zz 42 [(0,(.int .i64 21)),(6,b)])) λe=>opt (wz 42 a e d) λc=>opt (zf zz 42 a c) λf=>rv [f,.bool true] c R
def Nf:=λa b (R:VK) e (f:za)=>
 YU 42 a 6 2 e f λc=>opt (zf zz 42 a c) λg=>opt (wz 42 b g c) λd=>opt (zf zz 42 b d) λh=>rv [h,.bool true] d R
def Ng:=λc d (R:VK) a (e:za)=>
 opt (nb [.int .i64 19,a] (zN zz 42 [(0,(.int .i64 19)),(4,a)])) λf=>kq 42 e λb g=>opt (wz 42 b f g) λh=>zF zz (fn 65) [c,.int .i64 4] h (Nf b d R)
def Nh:=λa c (R:VK) b (d:za)=>
 opt (nb [b,.int .u8 128] (zM zz .sub 5 (.tmp 26) (.const (.int .u8 128)) b (.int .u8 128))) λe=>zF zz (fn 66) [a,e] d (Ng a c R)
def Ni:=λa (R:VK) f (g:za)=>
 kq 42 g λb h=>opt (wz 42 b f h) λc=>opt (zf zz 42 b c) λi=>opt (zl zz 42 b 0) λd=>opt (zf zz 3 d c) λj=>opt (zi .eql 3 47 j 6) λk=>(Pp 7 a 1 d/\opt (wz 42 a i c) λe=>opt (zf zz 42 a e) λl=>rv [l,k] e R)
def Nj:=λc d (e:za) a (R:VK) (i:LK)=>
 zF zz (fn 68) [c,d] e (λf g=>opt (wz 42 a f g) λb=>opt (zf zz 42 a b) λh=>rv [h,.bool false] b R)
def EC:=λa d (b:za) e (R:VK) (f:LK)=>
 opt (nb [a,.int .u8 5] (zM zz .andNot 5 (.tmp 50) (.const (.int .u8 5)) a (.int .u8 5))) λc=>opt (nb [c,.int .u8 64] (zM zz .eql 5 (.tmp 51) (.const (.int .u8 64)) c (.int .u8 64))) λg=>CD g (Nj d a b e R)
 (λh=>h [.bool false] b)
 (λi j=>f [nth i 0] j)
def Nk:=λa (c:za) (R:VK) (f:LK)=>
 opt (nb [.int .i64 22] (zN zz 42 [(0,(.int .i64 22))])) λd=>opt (wz 42 a d c) λb=>opt (zf zz 42 a b) λe=>rv [e,.bool false] b R
def ir:=λa b (c:za) d (R:VK) (f:LK)=>
 opt (nb [a,.int .u8 5] (zM zz .andNot 5 (.tmp 39) (.const (.int .u8 5)) a (.int .u8 5))) λe=>opt (nb [e,.int .u8 72] (zM zz .eql 5 (.tmp 40) (.const (.int .u8 72)) e (.int .u8 72))) λg=>CD g (λj=>zF zz (fn 67) [b,a] c (Ni d R))
 (EC a b c d R)
 (λh i=>f [nth h 0] i)
def aW:=λa b (c:za) (R:VK) d (e:LK)=>
 opt (nb [a,.int .u8 195] (zM zz .eql 5 (.tmp 35) (.const (.int .u8 195)) a (.int .u8 195))) λf=>CD f (Nk b c R)
 (ir a d c b R)
 (λg h=>e [nth g 0] h)
def Kk:=λa b (c:za) d (R:VK) (e:LK)=>
 opt (nb [a,.int .u8 15] (zM zz .eql 5 (.tmp 22) (.const (.int .u8 15)) a (.int .u8 15))) λf=>CD f (λi=>zF zz (fn 64) [b] c (Nh b d R))
 (aW a d c R b)
 (λg h=>e [nth g 0] h)
def Uv:=λa b (c:za) d (R:VK) (e:LK)=>
 opt (nb [a,.int .u8 232] (zM zz .eql 5 (.tmp 16) (.const (.int .u8 232)) a (.int .u8 232))) λf=>CD f (λi=>zF zz (fn 65) [b,.int .i64 4] c (Nd d R))
 (Kk a b c d R)
 (λg h=>e [nth g 0] h)
def Vn:=λa b (c:za) d (R:VK) (e:LK)=>
 opt (nb [a,.int .u8 233] (zM zz .eql 5 (.tmp 10) (.const (.int .u8 233)) a (.int .u8 233))) λf=>CD f (λi=>zF zz (fn 65) [b,.int .i64 4] c (Nc d R))
 (Uv a b c d R)
 (λg h=>e [nth g 0] h)
def GC:=λc a (R:VK) (h:List aaa) (d:za)=>
 Uh 77 c 2 4 (.bool true) d λe=>opt (nb [] (zN zz 42 [])) λf=>opt (wz 42 a f e) λb=>opt (zf zz 42 a b) λg=>rv [g,.bool false] b R
def zcC:=λ(h:za) a (R:VK)=>
 kq 42 h λb c=>zF zz (fn 64) [a] c (λd e=>BK (Vn d a e b R)
 (GC a b R))
theorem Sh(hw:zcC h t0 R):DC zz 32 [t0] h R:=qU mixed (q:=qs) (n:=200) (Eq.mpr (by kernel_rfl) hw)
def Ev:=λd (a:za) b (R:VK) (g:LK)=>
 opt (zf zz 42 d a) λe=>opt (wz 42 b e a) λc=>opt (zf zz 42 b c) λf=>rv [f,.bool false] c R
def M4:=λf a b (R:VK) (j:List aaa) (c:za)=>
 opt (zf zz 2 f c) λg=>YU 42 a 5 3 g c λd=>opt (zf zz 42 a d) λh=>opt (wz 42 b h d) λe=>opt (zf zz 42 b e) λi=>rv [i,.bool true] e R
def pM:=λa f b c (R:VK) g h (d:za)=>
 zh a false (x6 .gtr 2 24 27 f h) d (λi e=>opt (pk a (.bool true) i) λj=>CD j (Ev b e c R)
 (λk=>k [.bool false] e)
 (M4 g b c R)) d
def pN:=λa d e f (R:VK) g h (b:za)=>
 zh a false (zf zz 29 h b) b (λi c=>GD a false (λj=>zt (uy 29 i c) λk l=>j k l) (pM a d e f R g) c) b
def M5:=λa b (R:VK) f (g:za)=>
 YU 42 a 3 3 f g λc=>opt (zf zz 42 a c) λh=>opt (zl zz 42 a 3) λd=>opt (zf zz 3 d c) λi=>opt (zi .geq 3 43 i 0) λj=>(Pp 7 b 1 d/\opt (wz 42 b h c) λe=>opt (zf zz 42 b e) λk=>rv [k,j] e R)
def M6:=λc (a:za) b d e (R:VK) (h:LK)=>
 zD 31 c 1 22 a λf=>opt (nb ([]++[b]) (some (Value.func (.func 70) [].toArray [b].toArray))) λg=>zF zz (fn 69) [f,g] a (M5 d e R)
def cJ:=λb (a:za) e f g (R:VK) (j:LK)=>
 opt (zf zz 2 b a) λh=>opt (zi .lss 2 21 h 0) λc=>zh c false (zf zz 2 b a) a (λi d=>zh c false (zl zz 31 e 0) d (pN c i f g R b) d) a
def Ew:=λb c (a:za) d e f (R:VK) (g:LK)=>
 opt (zi .eql 3 17 b 21) λh=>CD h (M6 c a d e f R)
 (λi=>i [.bool false] a)
 (λj k=>g [nth j 0] k)
def gZ:=λa (c:za) d e f g (R:VK) (j:LK)=>
 opt (zi .eql 3 17 a 18) λh=>CD h (λb=>b [h] c)
 (λb=>opt (zi .eql 3 17 a 19) λk=>b [k] c)
 (λl i=>CD (nth l 0) (cJ d i e f g R)
 (Ew a e i d f g R)
 (λm n=>j [nth m 0] n))
def Gj:=λb (c:za) h a i d (R:VK) (o:LK)=>
 opt (zf zz 2 b c) λj=>opt (x6 .sub 2 69 70 j h) λk=>opt (zl zz 42 a 3) λe=>(Pp 1 e 1 b/\opt (wz 3 e (nth i 1) c) λl=>YU 42 a 6 2 k l λf=>opt (zf zz 42 a f) λm=>opt (wz 42 d m f) λg=>opt (zf zz 42 d g) λn=>rv [n,.bool true] g R)
def gT:=λc d e f a g (R:VK) (h:LK) i (b:za)=>
 opt (pk c i (.bool false)) λj=>CD j (Gj d b e f a g R)
 (λk=>k [nth a 0] b)
 (λl m=>h [nth l 0] m)
def gU:=λa c d e f g h (R:VK) (i:LK) j (b:za)=>
 zh a true (x6 .leq 2 60 65 c j) b (gT a d e f g h R i) b
def gV:=λa d e f g h i j (R:VK) (k:LK) l (c:za)=>
 zh a true (vf zz 22 d l) c (λm b=>zh a true (zf zz 3 m b) b (gU a e f g h i j R k) b) c
def gW:=λa c e f g h i (R:VK) (j:LK) k (b:za)=>
 zh a true (zf zz 22 k b) b (λl d=>GD a true (λm=>m (nth c 1) d) (gV a l e f g h c i R j) d) b
def gX:=λa d e f g h i j (R:VK) (k:LK) l (b:za)=>
 zh a true (x6 .sub 2 58 59 d l) b (λm c=>zh a true (zl zz 31 e 2) c (gW a f m g h i j R k) c) b
def gY:=λg e (a:za) b h i j (R:VK) (k:LK)=>
 qL 67 g (nth e 1) 2 a λc=>opt (zf zz 2 b a) λl=>opt (x6 .geq 2 54 55 l c) λd=>zh d true (zf zz 2 b a) a (λm f=>GD d true (λn=>n c f) (gX d m h e b c i j R k) f) a
def sH:=λa (b:LK) c (d:za)=>
 opt (zi .add 3 49 (nth a 1) 1) λe=>b [nth c 0,e] d
def Gk:=λd (e:LK) f g h i j (R:VK) a (b:za) (k:LK)=>
 opt (x6 .lss 3 49 48 (nth a 1) d) λl=>CD l (λc=>c [] b)
 (λc=>e [nth a 0] b)
 (λn m=>BK (gY f a m g h i j R)
 (sH a k))
def Gm:=λd a (R:VK) (g:List aaa) (b:za)=>
 opt (zf zz 42 d b) λe=>opt (wz 42 a e b) λc=>opt (zf zz 42 a c) λf=>rv [f,.bool false] c R
def Gn:=λd e a b (R:VK) f c (g:za)=>
 zt (uy 67 c g) λh i=>BK (λj=>LP (Gk h j c d e a b R)
 [nth f 0,.int .i64 0] i)
 (Gm a b R)
def sI:=λa c d e (R:VK) f (b:za)=>
 zD 31 a 2 22 b λg=>zF zz (fn 25) [g] b (Gn c a d e R f)
def zcz:=λ(h:za) c d j (R:VK)=>
 opt (nb [c] (some (Value.cells c).toList)) λk=>nw h k 31 λe l=>opt (nb [d] (some (Value.cells d).toList)) λm=>nw l m 42 λa n=>kq 42 n λf g=>zD 42 a 6 2 g λo=>opt (x6 .add 2 11 13 j o) λp=>kq 2 g λb q=>opt (wz 2 b p q) λr=>YU 42 a 6 2 (.int .i64 0) r λi=>zD 42 a 0 3 i λs=>BK (gZ s i b e a f R)
 (sI e b a f R)
theorem R8(hw:zcz h t0 t1 t2 R):DC zz 33 [t0,t1,t2] h R:=qU mixed (q:=qs) (n:=200) (Eq.mpr (by kernel_rfl) hw)
def R7:=λ(h:za) a b (R:VK)=>
 opt (zf zz 2 b h) λc=>opt (x6 .eql 2 4 5 a c) λd=>rv [d] h R
theorem O4(hw:R7 h t0 t1 R):DC zz 70 [t0,t1] h R:=xM (by kernel_rfl) hw
def dV:=λe a (b:za) f (R:VK) (g:LK)=>
 qL 22 e (nth a 1) 3 b λh=>zF zz f [h] b (λi c=>CD i (λd=>rv [nth a 1] c R)
 (λd=>d [nth a 0] c)
 (λj k=>g [nth j 0] k))
def dW:=λa (b:LK) c (d:za)=>
 opt (zi .add 3 8 (nth a 1) 1) λe=>b [nth c 0,e] d
def dX:=λd (e:LK) f g (R:VK) a (b:za) (h:LK)=>
 opt (x6 .lss 3 8 7 (nth a 1) d) λi=>CD i (λc=>c [] b)
 (λc=>e [nth a 0] b)
 (λk j=>BK (dV f a j g R)
 (dW a h))
def ou:=λ(h:za) a b (R:VK)=>
 zt (uy 22 a h) λc d=>BK (λe=>LP (dX c e a b R)
 [.int .i64 0,.int .i64 0] d)
 (λg f=>rv [.int .i64 (-1)] f R)
theorem sC(hw:ou h t0 t1 R):DC zz 69 [t0,t1] h R:=xM (by kernel_rfl) hw
def fp:=λa (c:za) (R:VK) (f:LK)=>
 opt (nb [] (zN zz 42 [])) λd=>opt (wz 42 a d c) λb=>opt (zf zz 42 a b) λe=>rv [e,.int .i64 0,.int .i64 1] b R
def sj:=λd (a:za) b e f (g:LK)=>
 opt (zf zz 31 d a) λh=>opt (zf zz 42 b a) λi=>Kz 77 e 1 3 a λj=>opt (x6 .add 3 44 48 f j) λk=>oZ zz 33 [h,i,k] a (λc l=>opt (ak c 0) λm=>opt (ak c 1) λn=>opt (wz 42 b m l) λo=>g [n] o)
def KZ:=λa (c:za) (R:VK) (f:LK)=>
 opt (nb [] (zN zz 42 [])) λd=>opt (wz 42 a d c) λb=>opt (zf zz 42 a b) λe=>rv [e,.int .i64 0,.int .i64 7] b R
def sk:=λe f a (R:VK) (k:List aaa) (b:za)=>
 opt (zf zz 42 e b) λg=>opt (nck f) λh=>opt (zl zz 77 h 1) λc=>opt (zf zz 3 c b) λi=>(Pp 7 a 1 c/\opt (wz 42 a g b) λd=>opt (zf zz 42 a d) λj=>rv [j,i,.int .i64 0] d R)
def K0:=λa b (R:VK) c f g h (d:za)=>
 zh a false (Dt zz .not h) d (λi e=>opt (pk a (.bool true) i) λj=>CD j (KZ b e R)
 (λk=>k [nth c 0,nth c 1] e)
 (sk f g b R)) d
def fq:=λa d e (R:VK) f g h i (b:za)=>
 zh a false (zf zz 22 i b) b (λj c=>GD a false (λk=>zF zz (fn 34) [d,j] c (λl m=>k l m)) (K0 a e R f g h) c) b
def ft:=λc e f (R:VK) g h i (a:za)=>
 opt (Dt zz .not (nth i 0)) λb=>zh b false (zf zz 42 c a) a (λj d=>zh b false (zl zz 31 e 2) d (fq b j f R g c h) d) a
def sl:=λa e h i (R:VK) j f (k:za)=>
 opt (ak f 0) λl=>opt (ak f 1) λm=>kq 42 k λb n=>opt (wz 42 b l n) λc=>Kz 77 a 2 4 c λo=>opt (Dt zz .not o) λd=>GD d true (λp=>p m c) (λq g=>opt (pk d q (.bool false)) λr=>CD r (sj e g b a h)
 (λs=>s [d] g)
 (ft b e i R j a)) c
def so:=λc a h (R:VK) i (b:za)=>
 zD 31 c 0 29 b λd=>opt (nb [d] (cond (pJ (some a)&&pJ none) (Dr zz 29 d (some a) none b) none)) λe=>opt (nb [e] (zN zz 77 [(0,e)])) λf=>opt (nb [f] (some (Value.cells f).toList)) λj=>nw b j 77 λg k=>zF zz (fn 32) [g] k (sl g c a h R i)
def Qd:=λa e b (R:VK) f g h (c:za)=>
 zh a false (x6 .geq 3 14 17 e h) c (λi d=>opt (pk a (.bool true) i) λj=>CD j (fp b d R)
 (λk=>k [.int .i64 0,.int .i64 0] d)
 (so f g b R)) c
def Qe:=λa d e (R:VK) f g h (b:za)=>
 zh a false (zf zz 29 h b) b (λi c=>GD a false (λj=>zt (uy 29 i c) λk l=>j k l) (Qd a d e R f g) c) b
def F4:=λ(h:za) c a (R:VK)=>
 opt (nb [c] (some (Value.cells c).toList)) λg=>nw h g 31 λd i=>kq 42 i λj e=>opt (zi .lss 3 11 a 0) λb=>GD b false (λk=>k a e) (λl f=>zh b false (zl zz 31 d 0) f (Qe b l j R d a) f) e
theorem F5(hw:F4 h t0 t1 R):DC zz 16 [t0,t1] h R:=qU mixed (q:=qs) (n:=200) (Eq.mpr (by kernel_rfl) hw)
def Gx:=λe a (b:za) (f:LK)=>
 qL 29 e (nth a 1) 5 b λc=>zt (nb [c] (yS zz 5 130 c b)) λg h=>opt (nb [.int .i64 8,nth a 1] (zM zz .mul 3 (.const (.int .i64 8)) (.tmp 17) (.int .i64 8) (nth a 1))) λd=>zt (nb [d] (yS zz 3 99 d h)) λi j=>opt (x6 .shl 130 16 19 g i) λk=>opt (x6 .or 130 11 20 (nth a 0) k) λl=>f [l] j
def Gy:=λa (b:LK) c (d:za)=>
 opt (zi .add 3 9 (nth a 1) 1) λe=>b [nth c 0,e] d
def Gz:=λb (e:LK) a (f:za) (g:LK)=>
 zt (uy 29 b f) λh c=>opt (x6 .lss 3 5 7 (nth a 1) h) λi=>CD i (λd=>d [] c)
 (λd=>e [nth a 0] c)
 (λk j=>BK (Gx b a j)
 (Gy a g))
def GA:=λa (d:za) (R:VK) (i:LK)=>
 zt (nb [nth a 0] (yS zz 130 139 (nth a 0) d)) λb e=>zt (nb [b] (yS zz 139 21 b e)) λc f=>zt (nb [c] (yS zz 21 2 c f)) λg h=>rv [g] h R
def GB:=λc (R:VK) a (d:za)=>
 zt (uy 29 c d) λe b=>opt (zi .eql 3 23 e 4) λf=>CD f (GA a b R)
 (λg=>g [.int .i64 0] b)
 (λk h=>zt (nb [nth a 0] (yS zz 130 2 (nth a 0) h)) λi j=>rv [i] j R)
def Sg:=λ(h:za) a (R:VK)=>
 BK (λb=>LP (Gz a b)
 [.int .u64 0,.int .i64 0] h)
 (GB a R)
theorem Pa(hw:Sg h t0 R):DC zz 75 [t0] h R:=xM (by kernel_rfl) hw
def oI:=λa (d:LK) b (e:za)=>
 zt (nb [b] (zd zz 67 1 [(0,b)] e)) λc f=>zt (nb [nth a 0,c] (zB zz .append [67,67] 67 [nth a 0,c] f)) λg h=>d [g] h
def oJ:=λa b (c:za) (e:LK)=>
 opt (zi .add 3 69 (nth a 1) 4) λd=>opt (nb [b] (cond (pJ (some (nth a 1))&&pJ (some d)) (Dr zz 29 b (some (nth a 1)) (some d) c) none)) λf=>zF zz (fn 75) [f] c (oI a e)
def oK:=λa (b:LK) c (d:za)=>
 opt (zi .add 3 64 (nth a 1) 1) λe=>b [nth c 0,e] d
def Qn:=λd (e:LK) a f (g:LK) h (b:za)=>
 opt (pk d h (.bool false)) λi=>CD i (λc=>c [] b)
 (λc=>e [nth a 0] b)
 (λk j=>BK (oJ a f j)
 (oK a g))
def Qo:=λa e (f:LK) g h (i:LK) j (c:za)=>
 GD a true (λk=>zt (uy 29 j c) λb l=>k b l) (λb d=>zh a true (x6 .leq 3 59 61 e b) d (Qn a f g h i) d) c
def Qp:=λa b (e:LK) f (g:LK) h (c:za)=>
 zh a true (zi .add 3 58 h 4) c (λi d=>GD a true (λj=>j b d) (Qo a i e f b g) d) c
def aV:=λd e (f:LK) a (b:za) (g:LK)=>
 opt (zi .add 3 54 (nth d 1) 2) λh=>opt (x6 .leq 3 53 55 (nth a 1) h) λc=>GD c true (λi=>i (nth a 1) b) (Qp c e f a g) b
def oL:=λc d a (e:LK) f (g:za)=>
 zF zz (fn 76) [c,d,nth f 0] g (λb h=>zt (nb [nth a 0,b] (zB zz .append [48,48] 48 [nth a 0,b] h)) λi j=>e [i] j)
def oM:=λa b (c:za) (q:LK)=>
 qL 29 a (nth b 1) 5 c λd=>opt (nb [d,.int .u64 3] (zM zz .shr 5 (.tmp 26) (.const (.int .u64 3)) d (.int .u64 3))) λe=>opt (nb [e,.int .u8 7] (zM zz .and 5 (.tmp 27) (.const (.int .u8 7)) e (.int .u8 7))) λf=>zt (nb [f] (yS zz 5 3 f c)) λr g=>qL 29 a (.int .i64 0) 5 g λh=>opt (nb [h,.int .u64 2] (zM zz .shr 5 (.tmp 32) (.const (.int .u64 2)) h (.int .u64 2))) λi=>opt (nb [i,.int .u8 1] (zM zz .and 5 (.tmp 33) (.const (.int .u8 1)) i (.int .u8 1))) λj=>zt (nb [j] (yS zz 5 3 j g)) λs k=>opt (zi .mul 3 35 s 8) λt=>opt (x6 .add 3 29 36 r t) λu=>qL 29 a (nth b 1) 5 k λl=>opt (nb [l,.int .u8 7] (zM zz .and 5 (.tmp 41) (.const (.int .u8 7)) l (.int .u8 7))) λm=>zt (nb [m] (yS zz 5 3 m k)) λv n=>qL 29 a (.int .i64 0) 5 n λo=>opt (nb [o,.int .u8 1] (zM zz .and 5 (.tmp 46) (.const (.int .u8 1)) o (.int .u8 1))) λp=>zt (nb [p] (yS zz 5 3 p n)) λw x=>opt (zi .mul 3 48 w 8) λy=>opt (x6 .add 3 43 49 v y) λz=>opt (zi .add 3 51 (nth b 1) 1) λA=>BK (λB=>LP (aV b a B)
 [.slice none 0 0,A] x)
 (oL u z b q)
def ik:=λa (b:LK) c (d:za)=>
 opt (zi .add 3 21 (nth a 1) 1) λe=>b [nth c 0,e] d
def V9:=λd (e:LK) a f (g:LK) h (b:za)=>
 opt (pk d h (.bool false)) λi=>CD i (λc=>c [] b)
 (λc=>e [nth a 0] b)
 (λk j=>BK (oM f a j)
 (ik a g))
def Ua:=λa e (f:LK) g h (i:LK) j (c:za)=>
 GD a true (λk=>zt (uy 29 j c) λb l=>k b l) (λb d=>zh a true (x6 .lss 3 16 18 e b) d (V9 a f g h i) d) c
def Jn:=λc (f:LK) a (d:za) (g:LK)=>
 opt (zi .leq 3 13 (nth a 1) 3) λb=>GD b true (λh=>h (nth a 1) d) (λi e=>GD b true (λj=>j c e) (Ua b i f a c g) e) d
def il:=λa (f:za) b (g:LK) c=>
 opt (nb [.int .i64 2,a,c] (zN zz 42 [(0,(.int .i64 2)),(1,a),(6,c)])) λd=>zt (nb [d] (zd zz 48 1 [(0,d)] f)) λe h=>zt (nb [nth b 0,e] (zB zz .append [48,48] 48 [nth b 0,e] h)) λi j=>g [i] j
def im:=λa (c:za) i (j:LK)=>
 qL 29 a (.int .i64 1) 5 c λd=>opt (nb [d,.int .u8 7] (zM zz .and 5 (.tmp 87) (.const (.int .u8 7)) d (.int .u8 7))) λe=>zt (nb [e] (yS zz 5 3 e c)) λk f=>qL 29 a (.int .i64 0) 5 f λg=>opt (nb [g,.int .u8 1] (zM zz .and 5 (.tmp 92) (.const (.int .u8 1)) g (.int .u8 1))) λh=>zt (nb [h] (yS zz 5 3 h f)) λl b=>opt (zi .mul 3 94 l 8) λm=>opt (x6 .add 3 89 95 k m) λn=>opt (nb [a] (cond (pJ (some (.int .i64 2))&&pJ (some (.int .i64 10))) (Dr zz 29 a (some (.int .i64 2)) (some (.int .i64 10)) b) none)) λo=>qt zz 75 [o] b (il n b i j)
def iq:=λa (b:za) c (z:LK)=>
 qL 29 a (.int .i64 2) 5 b λd=>opt (nb [d,.int .u8 7] (zM zz .and 5 (.tmp 109) (.const (.int .u8 7)) d (.int .u8 7))) λe=>zt (nb [e] (yS zz 5 3 e b)) λA f=>qL 29 a (.int .i64 0) 5 f λg=>opt (nb [g,.int .u8 1] (zM zz .and 5 (.tmp 114) (.const (.int .u8 1)) g (.int .u8 1))) λh=>zt (nb [h] (yS zz 5 3 h f)) λB i=>opt (zi .mul 3 116 B 8) λC=>opt (x6 .add 3 111 117 A C) λj=>qL 29 a (.int .i64 3) 5 i λk=>zt (nb [k] (yS zz 5 2 k i)) λl m=>opt (nb [.int .i64 11,j,.int .i64 19,l] (zN zz 42 [(0,(.int .i64 11)),(1,j),(3,(.int .i64 19)),(6,l)])) λn=>qL 29 a (.int .i64 2) 5 m λo=>opt (nb [o,.int .u8 7] (zM zz .and 5 (.tmp 126) (.const (.int .u8 7)) o (.int .u8 7))) λp=>zt (nb [p] (yS zz 5 3 p m)) λD q=>qL 29 a (.int .i64 0) 5 q λr=>opt (nb [r,.int .u8 1] (zM zz .and 5 (.tmp 131) (.const (.int .u8 1)) r (.int .u8 1))) λs=>zt (nb [s] (yS zz 5 3 s q)) λE t=>opt (zi .mul 3 133 E 8) λF=>opt (x6 .add 3 128 134 D F) λu=>qL 29 a (.int .i64 3) 5 t λv=>zt (nb [v] (yS zz 5 2 v t)) λw G=>opt (nb [.int .i64 11,u,.int .i64 20,w] (zN zz 42 [(0,(.int .i64 11)),(1,u),(3,(.int .i64 20)),(6,w)])) λx=>zt (nb [n,x] (zd zz 48 2 [(0,n),(1,x)] G)) λy H=>zt (nb [nth c 0,y] (zB zz .append [48,48] 48 [nth c 0,y] H)) λI J=>z [I] J
def Jo:=λ(R:VK) a (g:za)=>
 opt (nb [.int .i64 13] (zN zz 42 [(0,(.int .i64 13))])) λb=>opt (nb [.int .i64 22] (zN zz 42 [(0,(.int .i64 22))])) λc=>opt (nb [.int .i64 25] (zN zz 42 [(0,(.int .i64 25))])) λd=>opt (nb [.int .i64 26] (zN zz 42 [(0,(.int .i64 26))])) λe=>zt (nb [b,c,d,e] (zd zz 48 4 [(0,b),(1,c),(2,d),(3,e)] g)) λf h=>zt (nb [nth a 0,f] (zB zz .append [48,48] 48 [nth a 0,f] h)) λi j=>rv [i] j R
def Jp:=λa (R:VK) b (d:za)=>
 zt (uy 29 a d) λe c=>opt (zi .geq 3 104 e 4) λf=>CD f (iq a c b)
 (λg=>g [nth b 0] c)
 (Jo R)
def Jq:=λa (R:VK) b (d:za)=>
 zt (uy 29 a d) λe c=>opt (zi .geq 3 82 e 10) λf=>CD f (im a c b)
 (λg=>g [nth b 0] c)
 (Jp a R)
def CU:=λ(h:za) a (R:VK)=>
 zt (Wh zz 67 (.int .i64 0) (.int .i64 0) h) λk d=>zt (uy 29 a d) λe c=>opt (zi .geq 3 11 e 3) λf=>CD f (λb=>BK (λg=>LP (Jn a g)
 [.slice none 0 0,.int .i64 2] c)
 (λi j=>b [nth i 0] j))
 (λb=>b [.slice none 0 0] c)
 (Jq a R)
theorem EB(hw:CU h t0 R):DC zz 35 [t0] h R:=qU mixed (q:=qs) (n:=200) (Eq.mpr (by kernel_rfl) hw)
def C6:=λh a (b:za) c d (i:LK)=>
 qL 22 h (nth a 1) 3 b λe=>opt (nb [.int .i64 7,c,d,e] (zN zz 42 [(0,(.int .i64 7)),(1,c),(2,d),(3,e)])) λf=>zt (nb [f] (zd zz 48 1 [(0,f)] b)) λg j=>zt (nb [nth a 0,g] (zB zz .append [48,48] 48 [nth a 0,g] j)) λk l=>i [k] l
def C7:=λa (b:LK) c (d:za)=>
 opt (zi .add 3 46 (nth a 1) 1) λe=>b [nth c 0,e] d
def l5:=λ(d:LK) e f g a (b:za) (h:LK)=>
 opt (zi .lss 3 44 (nth a 1) 5) λi=>CD i (λc=>c [] b)
 (λc=>d [nth a 0] b)
 (λk j=>BK (C6 e a j f g)
 (C7 a h))
def C8:=λb a (e:za) (f:LK)=>
 opt (nb [.int .i64 17,b,nth a 1] (zN zz 42 [(0,(.int .i64 17)),(1,b),(4,(nth a 1))])) λc=>zt (nb [c] (zd zz 48 1 [(0,c)] e)) λd g=>zt (nb [nth a 0,d] (zB zz .append [48,48] 48 [nth a 0,d] g)) λh i=>f [h] i
def C9:=λa (b:LK) c (d:za)=>
 opt (zi .add 3 60 (nth a 1) 1) λe=>b [nth c 0,e] d
def l6:=λ(d:LK) e a (b:za) (f:LK)=>
 opt (zi .leq 3 58 (nth a 1) 26) λg=>CD g (λc=>c [] b)
 (λc=>d [nth a 0] b)
 (λi h=>BK (C8 e a h)
 (C9 a f))
def Da:=λh a (b:za) c d (i:LK)=>
 qL 22 h (nth a 1) 3 b λe=>opt (nb [.int .i64 8,c,e,d] (zN zz 42 [(0,(.int .i64 8)),(1,c),(3,e),(6,d)])) λf=>zt (nb [f] (zd zz 48 1 [(0,f)] b)) λg j=>zt (nb [nth a 0,g] (zB zz .append [48,48] 48 [nth a 0,g] j)) λk l=>i [k] l
def Db:=λa (b:LK) c (d:za)=>
 opt (zi .add 3 100 (nth a 1) 1) λe=>b [nth c 0,e] d
def l7:=λ(d:LK) e f g a (b:za) (h:LK)=>
 opt (zi .lss 3 98 (nth a 1) 5) λi=>CD i (λc=>c [] b)
 (λc=>d [nth a 0] b)
 (λk j=>BK (Da e a j f g)
 (Db a h))
def tJ:=λb c a d (h:za) (i:LK)=>
 opt (nb [.int .i64 3,b,c,nth a 1,d] (zN zz 42 [(0,(.int .i64 3)),(1,b),(2,c),(3,(nth a 1)),(6,d)])) λe=>opt (nb [.int .i64 4,b,c,nth a 1,d] (zN zz 42 [(0,(.int .i64 4)),(1,b),(2,c),(3,(nth a 1)),(6,d)])) λf=>zt (nb [e,f] (zd zz 48 2 [(0,e),(1,f)] h)) λg j=>zt (nb [nth a 0,g] (zB zz .append [48,48] 48 [nth a 0,g] j)) λk l=>i [k] l
def tK:=λa (b:LK) c (d:za)=>
 opt (zi .mul 3 114 (nth a 1) 2) λe=>b [nth c 0,e] d
def Uy:=λ(d:LK) e f g a (b:za) (h:LK)=>
 opt (zi .leq 3 112 (nth a 1) 8) λi=>CD i (λc=>c [] b)
 (λc=>d [nth a 0] b)
 (λk j=>BK (tJ e f a g j)
 (tK a h))
def tL:=λm c (e:za) b d n (o:LK)=>
 qL 67 m (nth c 1) 2 e λa=>opt (nb [.int .i64 2,b,a] (zN zz 42 [(0,(.int .i64 2)),(1,b),(6,a)])) λf=>opt (nb [.int .i64 16,b,a] (zN zz 42 [(0,(.int .i64 16)),(1,b),(6,a)])) λg=>opt (nb [.int .i64 5,d,b,a] (zN zz 42 [(0,(.int .i64 5)),(1,d),(2,b),(6,a)])) λh=>opt (nb [.int .i64 23,a] (zN zz 42 [(0,(.int .i64 23)),(6,a)])) λi=>opt (nb [.int .i64 24,a] (zN zz 42 [(0,(.int .i64 24)),(6,a)])) λj=>opt (nb [.int .i64 8,b,.int .i64 13,a] (zN zz 42 [(0,(.int .i64 8)),(1,b),(3,(.int .i64 13)),(6,a)])) λk=>zt (nb [f,g,h,i,j,k] (zd zz 48 6 [(0,f),(1,g),(2,h),(3,i),(4,j),(5,k)] e)) λl p=>zt (nb [nth c 0,l] (zB zz .append [48,48] 48 [nth c 0,l] p)) λq r=>BK (λs=>LP (l7 s n b a)
 [q,.int .i64 0] r)
 (λt u=>BK (λv=>LP (Uy v d b a)
 [nth t 0,.int .i64 1] u)
 (λw x=>o [nth w 0] x))
def tM:=λa (b:LK) c (d:za)=>
 opt (zi .add 3 72 (nth a 1) 1) λe=>b [nth c 0,e] d
def fV:=λb (e:LK) f g h a (i:za) (j:LK)=>
 zt (uy 67 b i) λk c=>opt (x6 .lss 3 68 70 (nth a 1) k) λl=>CD l (λd=>d [] c)
 (λd=>e [nth a 0] c)
 (λn m=>BK (tL b a m f g h)
 (tM a j))
def tN:=λa b c d (R:VK) e (f:za)=>
 BK (λg=>LP (l6 g a)
 [nth e 0,.int .i64 21] f)
 (λh i=>BK (λj=>LP (fV b j a c d)
 [nth h 0,.int .i64 0] i)
 (λk l=>rv [nth k 0] l R))
def Nx:=λ(h:za) b a p (R:VK)=>
 opt (nb [.int .i64 1,a,b] (zN zz 42 [(0,(.int .i64 1)),(1,a),(2,b)])) λc=>opt (nb [.int .i64 15,a,b] (zN zz 42 [(0,(.int .i64 15)),(1,a),(2,b)])) λd=>opt (nb [.int .i64 14,a] (zN zz 42 [(0,(.int .i64 14)),(2,a)])) λe=>opt (nb [.int .i64 10,b,a,.int .i64 3] (zN zz 42 [(0,(.int .i64 10)),(1,b),(2,a),(3,(.int .i64 3))])) λf=>opt (nb [.int .i64 10,b,a,.int .i64 4] (zN zz 42 [(0,(.int .i64 10)),(1,b),(2,a),(3,(.int .i64 4))])) λg=>opt (nb [.int .i64 9,a,.int .i64 2] (zN zz 42 [(0,(.int .i64 9)),(1,a),(3,(.int .i64 2))])) λi=>opt (nb [.int .i64 9,a,.int .i64 1] (zN zz 42 [(0,(.int .i64 9)),(1,a),(3,(.int .i64 1))])) λj=>opt (nb [.int .i64 12,a,.int .i64 19] (zN zz 42 [(0,(.int .i64 12)),(1,a),(3,(.int .i64 19))])) λk=>opt (nb [.int .i64 12,a,.int .i64 20] (zN zz 42 [(0,(.int .i64 12)),(1,a),(3,(.int .i64 20))])) λl=>opt (nb [.int .i64 7,b,a,.int .i64 13] (zN zz 42 [(0,(.int .i64 7)),(1,b),(2,a),(3,(.int .i64 13))])) λm=>zt (nb [c,d,e,f,g,i,j,k,l,m] (zd zz 48 10 [(0,c),(1,d),(2,e),(3,f),(4,g),(5,i),(6,j),(7,k),(8,l),(9,m)] h)) λn q=>zt (nb [.slice none 0 0,n] (zB zz .append [48,48] 48 [.slice none 0 0,n] q)) λr s=>zt (nb [.int .i64 11,.int .i64 12,.int .i64 16,.int .i64 17,.int .i64 18] (zd zz 22 5 [(0,(.int .i64 11)),(1,(.int .i64 12)),(2,(.int .i64 16)),(3,(.int .i64 17)),(4,(.int .i64 18))] s)) λo t=>BK (λu=>LP (l5 u o a b)
 [r,.int .i64 0] t)
 (tN a p b o R)
theorem Ls(hw:Nx h t0 t1 t2 R):DC zz 76 [t0,t1,t2] h R:=xM (by kernel_rfl) hw
def oA:=λd e (a:za) f b (R:VK) (k:LK)=>
 qL 48 d (nth e 1) 42 a λg=>zt (uy 29 f a) λh i=>opt (wz 42 b g i) λc=>opt (zf zz 42 b c) λj=>rv [j,h] c R
def oB:=λd e (a:za) b (R:VK) (h:LK)=>
 qL 48 d (nth e 1) 42 a λf=>opt (wz 42 b f a) λc=>opt (zf zz 42 b c) λg=>rv [g,.int .i64 10] c R
def oC:=λb c d e (R:VK) f (g:LK) h (i:za)=>
 zF zz (fn 36) [b,h] i (λj a=>CD j (oB c d a e R)
 (λk=>k [nth f 0] a)
 (λl m=>g [nth l 0] m))
def oD:=λc d (e:za) k l (R:VK) m (n:LK) f=>
 opt (vf zz 48 c (nth d 1)) λo=>zD 42 o 1 3 e λp=>opt (zi .and 3 74 p 7) λg=>opt (nb [.int .i64 184,g] (zM zz .add 3 (.const (.int .i64 184)) (.tmp 75) (.int .i64 184) g)) λh=>zt (nb [h] (yS zz 3 5 h e)) λi b=>zt (nb [f,i] (zd zz 29 2 [(0,f),(1,i)] b)) λq a=>opt (vf zz 48 c (nth d 1)) λr=>opt (zl zz 42 r 6) λs=>opt (zf zz 2 s (cut a b.next a.next)) λt=>kC zz 39 [t,.int .i64 8] (cut a b.next a.next) a (λu j=>JA zz [29,29] 29 [q,u] (some (b.next,a.next)) j j (oC k c d l R m n))
def oE:=λb c (a:za) d e (R:VK) f (g:LK)=>
 opt (vf zz 48 b (nth c 1)) λh=>zD 42 h 1 3 a λi=>qt zz 38 [.int .u8 72,.int .i64 0,i] a (oD b c a d e R f g)
def Vb:=λc d e f g (R:VK) a (h:LK) i (b:za)=>
 opt (pk c i (.bool false)) λj=>CD j (oE d e b f g R a)
 (λk=>k [nth a 0] b)
 (λl m=>h [nth l 0] m)
def Vc:=λa c d e f (R:VK) g (h:LK) i (b:za)=>
 zh a true (zi .geq 3 61 i 10) b (Vb a c d e f R g h) b
def Vd:=λe b f g h (R:VK) i (j:LK) k (c:za)=>
 opt (pk e k (.bool false)) λa=>GD a true (λl=>l b c) (λm d=>GD a true (λn=>zt (uy 29 m d) λo p=>n o p) (Vc a f g b h R i j) d) c
def aR:=λa d e f g (R:VK) h (i:LK) j (b:za)=>
 zh a true (zf zz 2 j b) b (λk c=>GD a true (λl=>zF zz (fn 37) [k] c (λm n=>l m n)) (Vd a d e f g R h i) c) b
def Je:=λa d e f g h (R:VK) i (j:LK) k (b:za)=>
 zh a true (vf zz 48 d k) b (λl c=>zh a true (zl zz 42 l 6) c (aR a e f g h R i j) c) b
def hO:=λa b f g (R:VK) (h:LK) i (c:za)=>
 opt (vf zz 48 a (nth b 1)) λj=>zD 42 j 0 3 c λk=>opt (zi .eql 3 49 k 2) λd=>GD d true (λl=>l a c) (λm e=>GD d true (λn=>n (nth b 1) e) (Je d m f a b g R i h) e) c
def hP:=λb c a d (R:VK) (g:LK) e (h:za)=>
 zF zz (fn 36) [b,e] h (λi f=>CD i (oA c a f e d R)
 (λj=>j [nth a 0] f)
 (hO c a b d R g))
def Jf:=λa b d e (R:VK) (f:LK) (h:List aaa) (c:za)=>
 qL 48 a (nth b 1) 42 c λg=>zF zz (fn 29) [g,.int .i64 0] c (hP d a b e R f)
def hQ:=λb a (c:za) g h (R:VK) (d:LK)=>
 qL 48 b (nth a 1) 42 c λi=>zF zz (fn 27) [i] c (λj e=>opt (Dt zz .not j) λk=>CD k (λf=>d [nth a 0] e)
 (λf=>f [] e)
 (Jf b a g h R d))
def Jg:=λa (b:LK) c (d:za)=>
 opt (zi .add 3 23 (nth a 1) 1) λe=>b [nth c 0,e] d
def hU:=λb (e:LK) f g (R:VK) a (h:za) (i:LK)=>
 zt (uy 48 b h) λj c=>opt (x6 .lss 3 19 21 (nth a 1) j) λk=>CD k (λd=>d [] c)
 (λd=>e [nth a 0] c)
 (λm l=>BK (hQ b a l f g R)
 (Jg a i))
def hX:=λa (R:VK) b (d:za)=>
 opt (ak b 0) λe=>opt (ak b 1) λf=>opt (wz 42 a e d) λc=>opt (zf zz 42 a c) λg=>rv [g,f] c R
def hZ:=λb a (R:VK) c d e f g (h:za)=>
 BK (λi=>LP (hU g i b a R)
 [.int .i64 0,.int .i64 0] h)
 (λk j=>zF zz (fn 40) [c,d,e,f] j (hX a R))
def CI:=λ(h:za) a e f b (R:VK)=>
 kq 42 h λg c=>opt (nb [a] (cond (pJ (some b)&&pJ none) (Dr zz 29 a (some b) none c) none)) λd=>zF zz (fn 35) [d] c (hZ d g R a e f b)
theorem Ez(hw:CI h t0 t1 t2 t3 R):DC zz 17 [t0,t1,t2,t3] h R:=qU mixed (q:=qs) (n:=200) (Eq.mpr (by kernel_rfl) hw)
def K8:=λa c (R:VK) d (b:za)=>
 zh a true (x6 .eql 9 20 22 c d) b (λe f=>opt (pk a e (.bool false)) λg=>rv [g] f R) b
def K9:=λa e (R:VK) f (c:za)=>
 GD a true (λg=>g e c) (λd b=>GD a true (λh=>zt (nb [d] (yS zz 29 9 d b)) λi _=>h i b) (K8 a f R) b) c
def Ja:=λa d g (R:VK) e (b:za)=>
 zh a true (nb [d] (cond (pJ none&&pJ (some e)) (Dr zz 29 d none (some e) b) none)) b (λf c=>GD a true (λh=>zt (nb [f] (yS zz 29 9 f c)) λi _=>h i c) (K9 a g R) c) b
def Jb:=λa c (R:VK) e (d:za)=>
 GD a true (λf=>f c d) (λg b=>GD a true (λh=>zt (uy 29 g b) λi _=>h i b) (Ja a e c R) b) d
def Jc:=λa e f g (R:VK) h (b:za)=>
 zh a true (x6 .leq 3 10 12 e h) b (λi c=>opt (pk a i (.bool false)) λd=>GD d true (λj=>j f c) (Jb d g R) c) b
def Jd:=λa c e (R:VK) f (d:za)=>
 GD a true (λg=>g c d) (λh b=>GD a true (λi=>zt (uy 29 h b) λj _=>i j b) (Jc a f c e R) b) d
def Gp:=λ(h:za) d a (R:VK)=>
 zt (uy 29 a h) λe _=>opt (zi .gtr 3 6 e 0) λb=>GD b true (λf=>f a h) (λg c=>GD b true (λi=>zt (uy 29 g c) λj _=>i j c) (Jd b d a R) c) h
theorem Gq(hw:Gp h t0 t1 R):DC zz 36 [t0,t1] h R:=qU mixed (q:=qs) (n:=200) (Eq.mpr (by kernel_rfl) hw)
def GF:=λa (d:za) (e:LK)=>
 opt (nb [.int .i64 19,nth a 1] (zN zz 42 [(0,(.int .i64 19)),(4,(nth a 1))])) λb=>zt (nb [b] (zd zz 48 1 [(0,b)] d)) λc f=>zt (nb [nth a 0,c] (zB zz .append [48,48] 48 [nth a 0,c] f)) λg h=>e [g] h
def GG:=λa (b:LK) c (d:za)=>
 opt (zi .add 3 51 (nth a 1) 1) λe=>b [nth c 0,e] d
def sV:=λ(d:LK) a (b:za) (e:LK)=>
 opt (zi .leq 3 49 (nth a 1) 26) λf=>CD f (λc=>c [] b)
 (λc=>d [nth a 0] b)
 (λh g=>BK (GF a g)
 (GG a e))
def GH:=λa b (c:za) d (o:LK)=>
 opt (zi .add 3 62 a 2) λp=>qL 29 b p 5 c λe=>opt (nb [e,.int .u64 3] (zM zz .shr 5 (.tmp 65) (.const (.int .u64 3)) e (.int .u64 3))) λf=>opt (nb [f,.int .u8 7] (zM zz .and 5 (.tmp 66) (.const (.int .u8 7)) f (.int .u8 7))) λg=>zt (nb [g] (yS zz 5 3 g c)) λq h=>qL 29 b a 5 h λi=>opt (nb [i,.int .u64 2] (zM zz .shr 5 (.tmp 72) (.const (.int .u64 2)) i (.int .u64 2))) λj=>opt (nb [j,.int .u8 1] (zM zz .and 5 (.tmp 73) (.const (.int .u8 1)) j (.int .u8 1))) λk=>zt (nb [k] (yS zz 5 3 k h)) λr s=>opt (zi .mul 3 75 r 8) λt=>opt (x6 .add 3 68 76 q t) λl=>opt (nb [.int .i64 6,l] (zN zz 42 [(0,(.int .i64 6)),(1,l)])) λm=>zt (nb [m] (zd zz 48 1 [(0,m)] s)) λn u=>zt (nb [nth d 0,n] (zB zz .append [48,48] 48 [nth d 0,n] u)) λv w=>o [v] w
def GI:=λd (a:za) b e (R:VK) (h:LK)=>
 opt (zf zz 42 d a) λf=>opt (wz 42 b f a) λc=>opt (zf zz 42 b c) λg=>rv [g,nth e 1] c R
def GJ:=λa (R:VK) (f:List aaa) (c:za)=>
 opt (nb [] (zN zz 42 [])) λd=>opt (wz 42 a d c) λb=>opt (zf zz 42 a b) λe=>rv [e,.int .i64 0] b R
def GK:=λa e (R:VK) f b (g:za)=>
 opt (ak b 0) λh=>opt (ak b 1) λi=>kq 42 g λc j=>opt (wz 42 c h j) λd=>CD i (GI c d a e R)
 (λk=>k [nth f 0] d)
 (GJ a R)
def GL:=λb c d e f g h (R:VK) i (m:List aaa) (a:za)=>
 opt (zf zz 42 b a) λj=>zt (uy 29 c a) λk l=>zF zz (fn 77) [j,d,k,e,f] l (GK g h R i)
def GM:=λb d c (e:za) (k:LK) f l m n o p (R:VK) g (a:za)=>
 zt (nb [g] (yS zz 29 9 g a)) λq _=>opt (x6 .add 3 97 98 b (nth d 1)) λh=>opt (nb [c] (cond (pJ (some b)&&pJ (some h)) (Dr zz 29 c (some b) (some h) (cut a e.next a.next)) none)) λi=>zt (nb [i] (yS zz 29 9 i (cut a e.next a.next))) λr _=>opt (x6 .neq 9 94 101 q r) λs=>CD s (λj=>k [nth f 0] a)
 (λj=>j [] a)
 (GL l c m n o p d R f)
def lV:=λe c (d:za) f g h i j k l m (R:VK) (n:LK)=>
 qL 48 (nth e 0) (nth c 1) 42 d λo=>kq 42 d λb p=>opt (wz 42 b o p) λa=>opt (zf zz 42 b a) λq=>kC zz 29 [q,f] a a (GM g h i a n c b j k l m R)
def CV:=λa (b:LK) c (d:za)=>
 opt (zi .add 3 85 (nth a 1) 1) λe=>b [nth c 0,e] d
def df:=λb (e:LK) f g h i j k l m (R:VK) a (n:za) (o:LK)=>
 zt (uy 48 (nth b 0) n) λp c=>opt (x6 .lss 3 81 83 (nth a 1) p) λq=>CD q (λd=>d [] c)
 (λd=>e [nth a 0] c)
 (λs r=>BK (lV b a r f g h i j k l m R)
 (CV a o))
def CW:=λa b c f g h i j (R:VK) (k:LK) d (e:za)=>
 opt (zi .eql 3 58 (nth a 1) 7) λl=>CD l (GH b c e d)
 (λm=>m [nth d 0] e)
 (λn o=>BK (λp=>LP (df n p f b a c g h i j R)
 [nth a 0,.int .i64 0] o)
 (λq r=>k [nth q 0] r))
def CX:=λa b f g h i (R:VK) (j:LK) c (k:za)=>
 opt (x6 .add 3 41 42 a (nth b 1)) λl=>opt (x6 .add 2 43 44 l c) λm=>opt (nb [.int .i64 18] (zN zz 42 [(0,(.int .i64 18))])) λd=>opt (nb [.int .i64 21] (zN zz 42 [(0,(.int .i64 21))])) λe=>zt (nb [d,e] (zd zz 48 2 [(0,d),(1,e)] k)) λn o=>BK (λp=>LP (sV p)
 [n,.int .i64 21] o)
 (CW b a f c m g h i R j)
def lW:=λa b c (d:za) g h i (R:VK) (j:LK)=>
 opt (x6 .add 3 32 33 a (nth b 1)) λk=>opt (zi .sub 3 34 k 4) λe=>opt (x6 .add 3 36 37 a (nth b 1)) λf=>opt (nb [c] (cond (pJ (some e)&&pJ (some f)) (Dr zz 29 c (some e) (some f) d) none)) λl=>zF zz (fn 75) [l] d (CX a b c g h i R j)
def CY:=λa (b:LK) c (d:za)=>
 opt (zi .add 3 29 (nth a 1) 1) λe=>b [nth c 0,e] d
def dg:=λd (e:LK) a f g h i j (R:VK) (k:LK) l (b:za)=>
 opt (pk d l (.bool false)) λm=>CD m (λc=>c [] b)
 (λc=>e [nth a 0] b)
 (λo n=>BK (lW f a g n h i j R)
 (CY a k))
def dh:=λa c (d:LK) e f g h i j (R:VK) (k:LK) l (b:za)=>
 zh a true (x6 .leq 3 22 26 c l) b (dg a d e f g h i j R k) b
def di:=λa c d (e:LK) f g h i j k (R:VK) (l:LK) m (b:za)=>
 zh a true (x6 .sub 3 24 25 c m) b (dh a d e f g h i j k R l) b
def dk:=λa c f (g:LK) h i j k l (R:VK) (m:LK) n (d:za)=>
 GD a true (λo=>zt (uy 29 n d) λb p=>o b p) (λb e=>GD a true (λq=>q c e) (di a b f g h c i j k l R m) e) d
def CZ:=λc f (g:LK) h i j (R:VK) a (d:za) (k:LK)=>
 opt (zi .leq 3 19 (nth a 1) 7) λb=>GD b true (λl=>l (nth a 1) d) (λm e=>GD b true (λn=>n c e) (dk b f m g a c h i j R k) e) d
def lX:=λa (R:VK) (f:List aaa) (c:za)=>
 opt (nb [] (zN zz 42 [])) λd=>opt (wz 42 a d c) λb=>opt (zf zz 42 a b) λe=>rv [e,.int .i64 0] b R
def Si:=λ(h:za) b c d e (R:VK)=>
 kq 42 h λa f=>BK (λg=>LP (CZ b e g c d a R)
 [.int .i64 0,.int .i64 5] f)
 (lX a R)
theorem Pb(hw:Si h t0 t1 t2 t3 R):DC zz 40 [t0,t1,t2,t3] h R:=qU mixed (q:=qs) (n:=200) (Eq.mpr (by kernel_rfl) hw)
def ia:=λa e f b (R:VK) g (c:za)=>
 zh a true (x6 .leq 2 26 27 e g) c (λh i=>opt (pk a h (.bool false)) λj=>opt (wz 42 b f i) λd=>opt (zf zz 42 b d) λk=>rv [k,j] d R) c
def Gt:=λa e (f:za) b (R:VK) (i:LK)=>
 YU 42 a 3 3 (nth e 1) f λc=>opt (zf zz 42 a c) λg=>opt (wz 42 b g c) λd=>opt (zf zz 42 b d) λh=>rv [h,.bool true] d R
def sP:=λc a (b:za) d e f (R:VK) (g:LK)=>
 qL 22 c (nth a 1) 3 b λh=>opt (x6 .eql 2 41 42 h d) λi=>CD i (Gt e a b f R)
 (λj=>j [nth a 0] b)
 (λk l=>g [nth k 0] l)
def Gu:=λa (b:LK) c (d:za)=>
 opt (zi .add 3 36 (nth a 1) 1) λe=>b [nth c 0,e] d
def Gv:=λb (e:LK) f g h (R:VK) a (i:za) (j:LK)=>
 zt (uy 22 b i) λk c=>opt (x6 .lss 3 32 34 (nth a 1) k) λl=>CD l (λd=>d [] c)
 (λd=>e [nth a 0] c)
 (λn m=>BK (sP b a m f g h R)
 (Gu a j))
def Gw:=λd a (R:VK) (g:List aaa) (b:za)=>
 opt (zf zz 42 d b) λe=>opt (wz 42 a e b) λc=>opt (zf zz 42 a c) λf=>rv [f,.bool false] c R
def sQ:=λd a (f:za) g h (R:VK) (m:LK)=>
 YU 42 d 5 3 a f λb=>opt (zf zz 42 d b) λi=>opt (zi .geq 2 23 a 0) λc=>GD c true (λj=>j a b) (λk e=>GD c true (λl=>l g e) (ia c k i h R) e) b
def sR:=λe f g a b (R:VK) (c:za) (h:LK)=>
 opt (zi .eql 3 16 e 21) λi=>CD i (λd=>BK (λj=>LP (Gv f j g a b R)
 [.bool false,.int .i64 0] c)
 (Gw a b R))
 (λd=>d [.bool false] c)
 (λk l=>h [nth k 0] l)
def aU:=λa (c:za) d e i f (R:VK) j (k:LK)=>
 opt (zi .eql 3 16 a 18) λg=>CD g (λb=>b [g] c)
 (λb=>opt (zi .eql 3 16 a 19) λl=>b [l] c)
 (λm h=>CD (nth m 0) (sQ d e h i f R)
 (sR a j e d f R h)
 (λn o=>k [nth n 0] o))
def CP:=λd (a:za) b (R:VK) (g:LK)=>
 opt (zf zz 42 d a) λe=>opt (wz 42 b e a) λc=>opt (zf zz 42 b c) λf=>rv [f,.bool false] c R
def CQ:=λa b (g:za) h i c (R:VK) (n:LK)=>
 YU 42 a 3 3 (nth b 1) g λd=>qL 67 h (nth b 1) 2 d λj=>opt (x6 .sub 2 81 85 i j) λk=>YU 42 a 6 2 k d λe=>opt (zf zz 42 a e) λl=>opt (wz 42 c l e) λf=>opt (zf zz 42 c f) λm=>rv [m,.bool true] f R
def cT:=λc d a e f g (R:VK) (h:LK) i (b:za)=>
 opt (pk c i (.bool false)) λj=>CD j (CQ d a b e f g R)
 (λk=>k [nth a 0] b)
 (λl m=>h [nth l 0] m)
def cU:=λa c d e f g h (R:VK) (i:LK) j (b:za)=>
 zh a true (x6 .leq 2 67 76 c j) b (cT a d e f g h R i) b
def cV:=λa c d e f g h i (R:VK) (j:LK) k (b:za)=>
 zh a true (x6 .add 2 71 75 c k) b (cU a d e f g h i R j) b
def cW:=λa d e f g h i j k (R:VK) (l:LK) m (c:za)=>
 zh a true (vf zz 22 d m) c (λn b=>zh a true (zf zz 3 n b) b (cV a e f g h i j k R l) b) c
def cX:=λa f c g h i j k (R:VK) (l:LK) m (b:za)=>
 zh a true (zf zz 2 m b) b (λn d=>GD a true (λo=>o f d) (λp e=>GD a true (λq=>q (nth c 1) e) (cW a p n g h c i j k R l) e) d) b
def cY:=λa b e f g h i j (R:VK) (k:LK) l (c:za)=>
 GD a true (λm=>m (nth b 1) c) (λn d=>zh a true (vf zz 67 l n) d (cX a e b f g h i j R k) d) c
def cZ:=λa e (b:za) c g h i (R:VK) (j:LK)=>
 qL 67 a (nth e 1) 2 b λk=>opt (x6 .geq 2 60 64 c k) λd=>GD d true (λl=>l c b) (λm f=>GD d true (λn=>n a f) (cY d e g m h a c i R j) f) b
def lU:=λa (b:LK) c (d:za)=>
 opt (zi .add 3 58 (nth a 1) 1) λe=>b [nth c 0,e] d
def CR:=λb (e:LK) f g h i (R:VK) a (j:za) (k:LK)=>
 zt (uy 67 b j) λl c=>opt (x6 .lss 3 54 56 (nth a 1) l) λm=>CD m (λd=>d [] c)
 (λd=>e [nth a 0] c)
 (λo n=>BK (cZ b a n f g h i R)
 (lU a k))
def CS:=λd a (R:VK) (g:List aaa) (b:za)=>
 opt (zf zz 42 d b) λe=>opt (wz 42 a e b) λc=>opt (zf zz 42 a c) λf=>rv [f,.bool false] c R
def CT:=λa d b c (R:VK) e (f:za)=>
 zF zz (fn 30) [a] f (λg h=>BK (λi=>LP (CR g i d a b c R)
 [nth e 0,.int .i64 0] h)
 (CS b c R))
def c9:=λa c (R:VK) d e f (b:za)=>
 zD 42 a 1 3 b λg=>opt (zi .eql 3 49 g 4) λh=>CD h (CP a b c R)
 (λi=>i [nth f 0] b)
 (CT d e a c R)
def Sf:=λ(h:za) b c f g i (R:VK)=>
 opt (nb [b] (some (Value.cells b).toList)) λj=>nw h j 42 λa k=>kq 42 k λd e=>zD 42 a 0 3 e λl=>BK (aU l e a c f d R g)
 (c9 a d R i c)
theorem O9(hw:Sf h t0 t1 t2 t3 t4 R):DC zz 77 [t0,t1,t2,t3,t4] h R:=xM (by kernel_rfl) hw
end Go.Ed
namespace Go.Ai
open Go.Ai Go.Proofs
theorem mw:FcN 132 5:=Kw (by kernel_rfl) (by kernel_rfl)
theorem yU:FcL 2:=YJ (by kernel_rfl)
theorem Y6:FcL 4:=YJ (by kernel_rfl)
theorem Vs:FcL 5:=YJ (by kernel_rfl)
theorem Al:FcM 132 5:=UL (by kernel_rfl)
theorem LF:FcI 2:=λb o _ h=>WO (by kernel_rfl) b o _ h rfl
theorem Q1:FcI 3:=λb o _ h=>WO (by kernel_rfl) b o _ h rfl
theorem ZI(b off:Nat)(v:Bool)(h:za):uv Tryz.prog 4 (.pointer (some ⟨b,off,none⟩)) (.bool v) h=Eo h b off [(.bool v)]:=WO (by kernel_rfl) b off _ h rfl
theorem Ap:Y7 Tryz.prog 132=some (.agg #[(.int .i64 0),(.int .i64 0),(.bool false),(.bool false),(.int .i64 0)]):=yN (by kernel_rfl)
theorem zgj:Y7 Tryz.prog 2=some (.int .i64 0):=yN (by kernel_rfl)
theorem LQ(v0:Int)(v1:Int):zN Tryz.prog 132 [(0,(.int .i64 v0)),(1,(.int .i64 v1))]=some (.agg #[(.int .i64 v0),(.int .i64 v1),(.bool false),(.bool false),(.int .i64 0)]):=yN (by kernel_rfl)
theorem bu:zN Tryz.prog 42 []=some (.agg #[(.int .i64 0),(.int .i64 0),(.int .i64 0),(.int .i64 0),(.int .i64 0),(.int .i64 0),(.int .i64 0)]):=yN (by kernel_rfl)
theorem uk(v0:Int):zN Tryz.prog 42 [(0,(.int .i64 v0))]=some (.agg #[(.int .i64 v0),(.int .i64 0),(.int .i64 0),(.int .i64 0),(.int .i64 0),(.int .i64 0),(.int .i64 0)]):=yN (by kernel_rfl)
theorem Px(v0:Int)(v1:Int):zN Tryz.prog 42 [(0,(.int .i64 v0)),(1,(.int .i64 v1))]=some (.agg #[(.int .i64 v0),(.int .i64 v1),(.int .i64 0),(.int .i64 0),(.int .i64 0),(.int .i64 0),(.int .i64 0)]):=yN (by kernel_rfl)
theorem bw(v0:Int)(v1:Int)(v2:Int):zN Tryz.prog 42 [(0,(.int .i64 v0)),(1,(.int .i64 v1)),(2,(.int .i64 v2))]=some (.agg #[(.int .i64 v0),(.int .i64 v1),(.int .i64 v2),(.int .i64 0),(.int .i64 0),(.int .i64 0),(.int .i64 0)]):=yN (by kernel_rfl)
theorem eH(v0:Int)(v1:Int)(v2:Int)(v3:Int):zN Tryz.prog 42 [(0,(.int .i64 v0)),(1,(.int .i64 v1)),(2,(.int .i64 v2)),(3,(.int .i64 v3))]=some (.agg #[(.int .i64 v0),(.int .i64 v1),(.int .i64 v2),(.int .i64 v3),(.int .i64 0),(.int .i64 0),(.int .i64 0)]):=yN (by kernel_rfl)
theorem pE(v0:Int)(v1:Int)(v2:Int)(v3:Int)(v6:Int):zN Tryz.prog 42 [(0,(.int .i64 v0)),(1,(.int .i64 v1)),(2,(.int .i64 v2)),(3,(.int .i64 v3)),(6,(.int .i64 v6))]=some (.agg #[(.int .i64 v0),(.int .i64 v1),(.int .i64 v2),(.int .i64 v3),(.int .i64 0),(.int .i64 0),(.int .i64 v6)]):=yN (by kernel_rfl)
theorem eI(v0:Int)(v1:Int)(v2:Int)(v6:Int):zN Tryz.prog 42 [(0,(.int .i64 v0)),(1,(.int .i64 v1)),(2,(.int .i64 v2)),(6,(.int .i64 v6))]=some (.agg #[(.int .i64 v0),(.int .i64 v1),(.int .i64 v2),(.int .i64 0),(.int .i64 0),(.int .i64 0),(.int .i64 v6)]):=yN (by kernel_rfl)
theorem oV(v0:Int)(v1:Int)(v3:Int):zN Tryz.prog 42 [(0,(.int .i64 v0)),(1,(.int .i64 v1)),(3,(.int .i64 v3))]=some (.agg #[(.int .i64 v0),(.int .i64 v1),(.int .i64 0),(.int .i64 v3),(.int .i64 0),(.int .i64 0),(.int .i64 0)]):=yN (by kernel_rfl)
theorem yH(v0:Int)(v1:Int)(v3:Int)(v6:Int):zN Tryz.prog 42 [(0,(.int .i64 v0)),(1,(.int .i64 v1)),(3,(.int .i64 v3)),(6,(.int .i64 v6))]=some (.agg #[(.int .i64 v0),(.int .i64 v1),(.int .i64 0),(.int .i64 v3),(.int .i64 0),(.int .i64 0),(.int .i64 v6)]):=yN (by kernel_rfl)
theorem HR(v0:Int)(v1:Int)(v4:Int):zN Tryz.prog 42 [(0,(.int .i64 v0)),(1,(.int .i64 v1)),(4,(.int .i64 v4))]=some (.agg #[(.int .i64 v0),(.int .i64 v1),(.int .i64 0),(.int .i64 0),(.int .i64 v4),(.int .i64 0),(.int .i64 0)]):=yN (by kernel_rfl)
theorem yQ(v0:Int)(v1:Int)(v6:Int):zN Tryz.prog 42 [(0,(.int .i64 v0)),(1,(.int .i64 v1)),(6,(.int .i64 v6))]=some (.agg #[(.int .i64 v0),(.int .i64 v1),(.int .i64 0),(.int .i64 0),(.int .i64 0),(.int .i64 0),(.int .i64 v6)]):=yN (by kernel_rfl)
theorem Du(v0:Int)(v2:Int):zN Tryz.prog 42 [(0,(.int .i64 v0)),(2,(.int .i64 v2))]=some (.agg #[(.int .i64 v0),(.int .i64 0),(.int .i64 v2),(.int .i64 0),(.int .i64 0),(.int .i64 0),(.int .i64 0)]):=yN (by kernel_rfl)
theorem oW(v0:Int)(v3:Int)(v1:Int):zN Tryz.prog 42 [(0,(.int .i64 v0)),(3,(.int .i64 v3)),(1,(.int .i64 v1))]=some (.agg #[(.int .i64 v0),(.int .i64 v1),(.int .i64 0),(.int .i64 v3),(.int .i64 0),(.int .i64 0),(.int .i64 0)]):=yN (by kernel_rfl)
theorem W2(v0:Int)(v3:Int)(v1:Int)(v2:Int):zN Tryz.prog 42 [(0,(.int .i64 v0)),(3,(.int .i64 v3)),(1,(.int .i64 v1)),(2,(.int .i64 v2))]=some (.agg #[(.int .i64 v0),(.int .i64 v1),(.int .i64 v2),(.int .i64 v3),(.int .i64 0),(.int .i64 0),(.int .i64 0)]):=yN (by kernel_rfl)
theorem J9(v0:Int)(v3:Int)(v1:Int)(v2:Int)(v6:Int):zN Tryz.prog 42 [(0,(.int .i64 v0)),(3,(.int .i64 v3)),(1,(.int .i64 v1)),(2,(.int .i64 v2)),(6,(.int .i64 v6))]=some (.agg #[(.int .i64 v0),(.int .i64 v1),(.int .i64 v2),(.int .i64 v3),(.int .i64 0),(.int .i64 0),(.int .i64 v6)]):=yN (by kernel_rfl)
theorem Q2(v0:Int)(v3:Int)(v1:Int)(v6:Int):zN Tryz.prog 42 [(0,(.int .i64 v0)),(3,(.int .i64 v3)),(1,(.int .i64 v1)),(6,(.int .i64 v6))]=some (.agg #[(.int .i64 v0),(.int .i64 v1),(.int .i64 0),(.int .i64 v3),(.int .i64 0),(.int .i64 0),(.int .i64 v6)]):=yN (by kernel_rfl)
theorem mE(v0:Int)(v4:Int):zN Tryz.prog 42 [(0,(.int .i64 v0)),(4,(.int .i64 v4))]=some (.agg #[(.int .i64 v0),(.int .i64 0),(.int .i64 0),(.int .i64 0),(.int .i64 v4),(.int .i64 0),(.int .i64 0)]):=yN (by kernel_rfl)
theorem Kx(v0:Int)(v6:Int):zN Tryz.prog 42 [(0,(.int .i64 v0)),(6,(.int .i64 v6))]=some (.agg #[(.int .i64 v0),(.int .i64 0),(.int .i64 0),(.int .i64 0),(.int .i64 0),(.int .i64 0),(.int .i64 v6)]):=yN (by kernel_rfl)
theorem za5(v0:Option Addr)(v0l v0c:Nat):zN Tryz.prog 77 [(0,(.slice v0 v0l v0c))]=some (.agg #[(.slice v0 v0l v0c),(.int .i64 0),(.bool false)]):=yN (by kernel_rfl)
theorem QE(v0:Int)(v1:Int)(v2:Int)(v3:Int)(v4:Int)(h:za):zd Tryz.prog 22 5 [(0,(.int .i64 v0)),(1,(.int .i64 v1)),(2,(.int .i64 v2)),(3,(.int .i64 v3)),(4,(.int .i64 v4))] h=some (.slice (some ⟨h.next,0,none⟩) 5 7,h.push (.cells [(.int .i64 v0),(.int .i64 v1),(.int .i64 v2),(.int .i64 v3),(.int .i64 v4)] 3)):=yN (by kernel_rfl)
theorem dL(v0:Int)(v1:Int)(v2:Int)(v3:Int)(v4:Int)(v5:Int)(h:za):zd Tryz.prog 22 6 [(0,(.int .i64 v0)),(1,(.int .i64 v1)),(2,(.int .i64 v2)),(3,(.int .i64 v3)),(4,(.int .i64 v4)),(5,(.int .i64 v5))] h=some (.slice (some ⟨h.next,0,none⟩) 6 8,h.push (.cells [(.int .i64 v0),(.int .i64 v1),(.int .i64 v2),(.int .i64 v3),(.int .i64 v4),(.int .i64 v5)] 3)):=yN (by kernel_rfl)
theorem xe(v0:Int)(v1:Int)(h:za):zd Tryz.prog 29 2 [(0,(.int .u8 v0)),(1,(.int .u8 v1))] h=some (.slice (some ⟨h.next,0,none⟩) 2 4,h.push (.cells [(.int .u8 v0),(.int .u8 v1)] 5)):=yN (by kernel_rfl)
theorem xI(v00:Int)(v01:Int)(v02:Int)(v03:Int)(v04:Int)(v05:Int)(v06:Int)(v10:Int)(v11:Int)(v12:Int)(v13:Int)(v14:Int)(v15:Int)(v16:Int)(h:za):zd Tryz.prog 48 2 [(0,(.agg #[(.int .i64 v00),(.int .i64 v01),(.int .i64 v02),(.int .i64 v03),(.int .i64 v04),(.int .i64 v05),(.int .i64 v06)])),(1,(.agg #[(.int .i64 v10),(.int .i64 v11),(.int .i64 v12),(.int .i64 v13),(.int .i64 v14),(.int .i64 v15),(.int .i64 v16)]))] h=some (.slice (some ⟨h.next,0,none⟩) 2 4,h.push (.cells [(.int .i64 v00),(.int .i64 v01),(.int .i64 v02),(.int .i64 v03),(.int .i64 v04),(.int .i64 v05),(.int .i64 v06),(.int .i64 v10),(.int .i64 v11),(.int .i64 v12),(.int .i64 v13),(.int .i64 v14),(.int .i64 v15),(.int .i64 v16)] 42)):=yN (by kernel_rfl)
theorem yx(v00:Int)(v01:Int)(v02:Int)(v03:Int)(v04:Int)(v05:Int)(v06:Int)(v10:Int)(v11:Int)(v12:Int)(v13:Int)(v14:Int)(v15:Int)(v16:Int)(v20:Int)(v21:Int)(v22:Int)(v23:Int)(v24:Int)(v25:Int)(v26:Int)(v30:Int)(v31:Int)(v32:Int)(v33:Int)(v34:Int)(v35:Int)(v36:Int)(h:za):zd Tryz.prog 48 4 [(0,(.agg #[(.int .i64 v00),(.int .i64 v01),(.int .i64 v02),(.int .i64 v03),(.int .i64 v04),(.int .i64 v05),(.int .i64 v06)])),(1,(.agg #[(.int .i64 v10),(.int .i64 v11),(.int .i64 v12),(.int .i64 v13),(.int .i64 v14),(.int .i64 v15),(.int .i64 v16)])),(2,(.agg #[(.int .i64 v20),(.int .i64 v21),(.int .i64 v22),(.int .i64 v23),(.int .i64 v24),(.int .i64 v25),(.int .i64 v26)])),(3,(.agg #[(.int .i64 v30),(.int .i64 v31),(.int .i64 v32),(.int .i64 v33),(.int .i64 v34),(.int .i64 v35),(.int .i64 v36)]))] h=some (.slice (some ⟨h.next,0,none⟩) 4 6,h.push (.cells [(.int .i64 v00),(.int .i64 v01),(.int .i64 v02),(.int .i64 v03),(.int .i64 v04),(.int .i64 v05),(.int .i64 v06),(.int .i64 v10),(.int .i64 v11),(.int .i64 v12),(.int .i64 v13),(.int .i64 v14),(.int .i64 v15),(.int .i64 v16),(.int .i64 v20),(.int .i64 v21),(.int .i64 v22),(.int .i64 v23),(.int .i64 v24),(.int .i64 v25),(.int .i64 v26),(.int .i64 v30),(.int .i64 v31),(.int .i64 v32),(.int .i64 v33),(.int .i64 v34),(.int .i64 v35),(.int .i64 v36)] 42)):=yN (by kernel_rfl)
theorem dN(v00:Int)(v01:Int)(v02:Int)(v03:Int)(v04:Int)(v05:Int)(v06:Int)(v10:Int)(v11:Int)(v12:Int)(v13:Int)(v14:Int)(v15:Int)(v16:Int)(v20:Int)(v21:Int)(v22:Int)(v23:Int)(v24:Int)(v25:Int)(v26:Int)(v30:Int)(v31:Int)(v32:Int)(v33:Int)(v34:Int)(v35:Int)(v36:Int)(v40:Int)(v41:Int)(v42:Int)(v43:Int)(v44:Int)(v45:Int)(v46:Int)(v50:Int)(v51:Int)(v52:Int)(v53:Int)(v54:Int)(v55:Int)(v56:Int)(h:za):zd Tryz.prog 48 6 [(0,(.agg #[(.int .i64 v00),(.int .i64 v01),(.int .i64 v02),(.int .i64 v03),(.int .i64 v04),(.int .i64 v05),(.int .i64 v06)])),(1,(.agg #[(.int .i64 v10),(.int .i64 v11),(.int .i64 v12),(.int .i64 v13),(.int .i64 v14),(.int .i64 v15),(.int .i64 v16)])),(2,(.agg #[(.int .i64 v20),(.int .i64 v21),(.int .i64 v22),(.int .i64 v23),(.int .i64 v24),(.int .i64 v25),(.int .i64 v26)])),(3,(.agg #[(.int .i64 v30),(.int .i64 v31),(.int .i64 v32),(.int .i64 v33),(.int .i64 v34),(.int .i64 v35),(.int .i64 v36)])),(4,(.agg #[(.int .i64 v40),(.int .i64 v41),(.int .i64 v42),(.int .i64 v43),(.int .i64 v44),(.int .i64 v45),(.int .i64 v46)])),(5,(.agg #[(.int .i64 v50),(.int .i64 v51),(.int .i64 v52),(.int .i64 v53),(.int .i64 v54),(.int .i64 v55),(.int .i64 v56)]))] h=some (.slice (some ⟨h.next,0,none⟩) 6 8,h.push (.cells [(.int .i64 v00),(.int .i64 v01),(.int .i64 v02),(.int .i64 v03),(.int .i64 v04),(.int .i64 v05),(.int .i64 v06),(.int .i64 v10),(.int .i64 v11),(.int .i64 v12),(.int .i64 v13),(.int .i64 v14),(.int .i64 v15),(.int .i64 v16),(.int .i64 v20),(.int .i64 v21),(.int .i64 v22),(.int .i64 v23),(.int .i64 v24),(.int .i64 v25),(.int .i64 v26),(.int .i64 v30),(.int .i64 v31),(.int .i64 v32),(.int .i64 v33),(.int .i64 v34),(.int .i64 v35),(.int .i64 v36),(.int .i64 v40),(.int .i64 v41),(.int .i64 v42),(.int .i64 v43),(.int .i64 v44),(.int .i64 v45),(.int .i64 v46),(.int .i64 v50),(.int .i64 v51),(.int .i64 v52),(.int .i64 v53),(.int .i64 v54),(.int .i64 v55),(.int .i64 v56)] 42)):=yN (by kernel_rfl)
theorem vm(v0:Int)(h:za):zd Tryz.prog 67 1 [(0,(.int .i64 v0))] h=some (.slice (some ⟨h.next,0,none⟩) 1 3,h.push (.cells [(.int .i64 v0)] 2)):=yN (by kernel_rfl)
theorem LW(n:Int)(h:za):yS Tryz.prog 130 139 (.int .u64 n) h=some (.int .u32 (IntKind.wrap .u32 n),h):=yN (by kernel_rfl)
theorem Tc(n:Int)(h:za):yS Tryz.prog 130 2 (.int .u64 n) h=some (.int .i64 (IntKind.wrap .i64 n),h):=yN (by kernel_rfl)
theorem PD(n:Int)(h:za):yS Tryz.prog 139 21 (.int .u32 n) h=some (.int .i32 (IntKind.wrap .i32 n),h):=yN (by kernel_rfl)
theorem iN(n:Int)(h:za):yS Tryz.prog 21 2 (.int .i32 n) h=some (.int .i64 (IntKind.wrap .i64 n),h):=yN (by kernel_rfl)
theorem Q3(n:Int)(h:za):yS Tryz.prog 3 5 (.int .i64 n) h=some (.int .u8 (IntKind.wrap .u8 n),h):=yN (by kernel_rfl)
theorem N5(n:Int)(h:za):yS Tryz.prog 3 99 (.int .i64 n) h=some (.int .u64 (IntKind.wrap .u64 n),h):=yN (by kernel_rfl)
theorem H3(n:Int)(h:za):yS Tryz.prog 5 130 (.int .u8 n) h=some (.int .u64 (IntKind.wrap .u64 n),h):=yN (by kernel_rfl)
theorem kN(n:Int)(h:za):yS Tryz.prog 5 2 (.int .u8 n) h=some (.int .i64 (IntKind.wrap .i64 n),h):=yN (by kernel_rfl)
theorem qC(n:Int)(h:za):yS Tryz.prog 5 3 (.int .u8 n) h=some (.int .i64 (IntKind.wrap .i64 n),h):=yN (by kernel_rfl)
theorem wB:FcG 132 0:=λb o=>yN (by kernel_rfl)
theorem ve:FP 132 1 1:=λb o=>yN (by kernel_rfl)
theorem UQ:FP 132 2 2:=λb o=>yN (by kernel_rfl)
theorem UR:FP 132 3 3:=λb o=>yN (by kernel_rfl)
theorem KC:FP 132 4 4:=λb o=>yN (by kernel_rfl)
theorem zJ:FP 42 1 1:=λb o=>yN (by kernel_rfl)
theorem zn:FP 42 3 3:=λb o=>yN (by kernel_rfl)
theorem xK:FP 42 5 5:=λb o=>yN (by kernel_rfl)
theorem zw:FP 42 6 6:=λb o=>yN (by kernel_rfl)
theorem E5:FcG 77 0:=λb o=>yN (by kernel_rfl)
theorem iS:FP 77 1 1:=λb o=>yN (by kernel_rfl)
theorem xa:FP 77 2 2:=λb o=>yN (by kernel_rfl)
theorem Wv:FcX 22 1:=λb o l c k i=>YH (e:=3) (by kernel_rfl) (by kernel_rfl)
theorem Yt:FcX 29 1:=λb o l c k i=>YH (e:=5) (by kernel_rfl) (by kernel_rfl)
theorem Fm:FcE 22:=λr a n c h=>yN (by kernel_rfl)
theorem TK:FcE 67:=λr a n c h=>yN (by kernel_rfl)
theorem XZ(k k2:IntKind)(l c:Int)(h:za)(h0:0<=l)(h1:l<=c)(h2:c<2^31):Wh Tryz.prog 67 (.int k l) (.int k2 c) h=some (.slice (some ⟨h.next,0,none⟩) l.toNat (c.toNat+2),h.push (.cells (Yx [(.int .i64 0)] (c.toNat*1)) 2)):=HJ (e:=2) (z:=(.int .i64 0)) (n:=1) (bytes:=8) (by kernel_rfl) (by kernel_rfl) (by kernel_rfl) rfl (by decide) (by decide) rfl h0 h1 h2
theorem zdb(x y:Operand)(a b:ByteArray):zM Tryz.prog .neq 9 x y (.string a) (.string b)=some (.bool (!(a.toList == b.toList))):=yN (by kernel_rfl)
theorem vZ(c:Nat)(lo hi:Option aaa)(h:za):Dr Tryz.prog 29 (.slice none 0 c) lo hi h=(qf hi 0 0).bind λhh=>(qf lo 0 hh).bind λl=>some (.slice none 0 0):=za3 (e:=5) (n:=1) (by kernel_rfl) (by kernel_rfl)
theorem qv(b off len c:Nat)(lo hi:Option aaa)(h:za):Dr Tryz.prog 29 (.slice (some ⟨b,off,none⟩) len c) lo hi h=(qf hi len len).bind λhh=>(qf lo 0 hh).bind λl=>some (.slice (some ⟨b,off+l*1,none⟩) (hh-l) (cond (wide Tryz.prog h b 1) (UO c l) 0)):=Pq (e:=5) (by kernel_rfl) (by kernel_rfl)
end Go.Ai
