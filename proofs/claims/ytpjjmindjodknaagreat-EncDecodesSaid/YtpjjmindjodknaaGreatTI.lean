import Derived.Test.YtpjjmindjodknaaGreatTG
import Derived.Test.YtpjjmindjodknaaGreatTH
import Derived.Test.YtpjjmindjodknaaGreatTE
set_option linter.unusedVariables false
set_option linter.unusedSimpArgs false
set_option maxRecDepth 100000
namespace Go.Ee
open Go.Ai Go.Proofs Go.Proofs.Tryz
noncomputable abbrev zz:=prog
abbrev VK:=aaa->za->Prop
abbrev LK:=List aaa->za->Prop
abbrev ci(n:Int):Operand := .const (.int .i64 n)
abbrev fn(n:Nat):aaa := .func (.func n) #[] #[]
variable {h:za}{t0 t1 t2 t3 t4 t5 t6:aaa}{R:VK}
def qs:FuncId->Nat:=λg=>[0].getD g 0
theorem mixed:prog.follows .mixedOrders=true:=acg Tryz.checked
theorem xp{f:FuncId}{args:List aaa}{X:Prop}(e:Pu zz (ba zz qs) 200 f args h R=X)(hw:X):DC zz f args h R:=Up mixed (q:=qs) (n:=200) (Eq.mpr e hw)
def WR:=λc (R:VK) d (e:LK) f (a:za)=>
 opt (pk c (.bool true) f) λg=>CD g (λb=>rv [.bool false] a R)
 (λb=>b [nth d 0] a)
 (λh i=>e [nth h 0] i)
def WS:=λa (R:VK) d (e:LK) f (b:za)=>
 zg a false (nb [] (zM zz 42 [])) b (λg c=>zg a false (xL .neq 42 65 66 f g) c (WR a R d e) c) b
def WT:=λb e (R:VK) f (g:LK) h (c:za)=>
 zg b false (zi .neq 3 61 h 0) c (λi a=>opt (pk b (.bool true) i) λd=>zg d false (zd zz 42 e a) a (WS d R f g) a) c
def WU:=λc d (a:za) e (R:VK) f (g i:LK)=>
 opt (zi .neq 32 58 c 1) λb=>GD b false (λh=>h d a) (WT b e R f g) a
def Kx:=λc (R:VK) d (e:LK) f (a:za)=>
 opt (pk c (.bool true) f) λg=>CD g (λb=>rv [.bool false] a R)
 (λb=>b [nth d 0] a)
 (λh i=>e [nth h 0] i)
def Ky:=λa (R:VK) d (e:LK) f (b:za)=>
 zg a false (nb [] (zM zz 42 [])) b (λg c=>zg a false (xL .neq 42 89 90 f g) c (Kx a R d e) c) b
def Kz:=λb e (R:VK) f (g:LK) h (c:za)=>
 zg b false (zi .neq 3 85 h 0) c (λi a=>opt (pk b (.bool true) i) λd=>zg d false (zd zz 42 e a) a (Ky d R f g) a) c
def KA:=λc d (a:za) e (R:VK) f (g i:LK)=>
 opt (zi .neq 32 82 c 7) λb=>GD b false (λh=>h d a) (Kz b e R f g) a
def KB:=λc (R:VK) d (e:LK) f (a:za)=>
 opt (pk c (.bool true) f) λg=>CD g (λb=>rv [.bool false] a R)
 (λb=>b [nth d 0] a)
 (λh i=>e [nth h 0] i)
def Q3:=λa c (R:VK) d (e:LK) f (b:za)=>
 zg a false (xL .neq 42 101 102 c f) b (KB a R d e) b
def Q4:=λd e f (R:VK) g (h:LK) i (a:za)=>
 opt (pk d (.bool true) i) λb=>zg b false (zd zz 42 e a) a (λj c=>zg b false (zd zz 42 f c) c (Q3 b j R g h) c) a
def Q5:=λa c d e (R:VK) f (g:LK) h (b:za)=>
 zg a false (xL .neq 3 96 97 c h) b (Q4 a d e R f g) b
def Q6:=λd e f g h (R:VK) (i:LK) j (b:za)=>
 opt (zi .neq 32 93 d 0) λa=>GD a false (λk=>k e b) (λl c=>GD a false (λm=>m f c) (Q5 a l g h R j i) c) b
def Q7:=λa b c (R:VK) d (e:LK) f (j:za)=>
 opt (Kn f 0) λk=>opt (Kn f 1) λg=>jz 42 j λh l=>opt (wg 42 h k l) λi=>opt (zi .eql 3 80 g 0) λm=>CD m (KA a b i c R d e)
 (λn=>n [nth d 0] i)
 (Q6 a b g c h R e)
def Q8:=λb c d e f (R:VK) (g:LK) h (a:za)=>
 zI 31 b 0 29 a λi=>zI 31 b 1 22 a λj=>zI 31 b 2 22 a λk=>zP zz (fn 17) [i,j,k,nth c 1] a (Q7 d e f R h g)
def ZN:=λg b c d (R:VK) a (e:LK) h i (f:za)=>
 opt (pk g (.bool true) i) λj=>CD j (WU b c f d R a e)
 (λk=>k [nth a 0] f)
 (Q8 h a b c d R e)
def ZO:=λa c d e f (R:VK) g (h:LK) i j (b:za)=>
 zg a false (xL .eql 3 52 55 c j) b (ZN a d e f R g h i) b
def ZP:=λa c d e f (R:VK) g (h:LK) i j (b:za)=>
 GD a false (λk=>zD (uy 29 j b) λl m=>k l m) (ZO a c d e f R g h i) b
def ZQ:=λa c e f g (R:VK) h (i:LK) j (d:za)=>
 zg a false (zp zz 31 c 0) d (λk b=>zg a false (zd zz 29 k b) b (ZP a j e f g R h i c) b) d
def X8:=λa f (R:VK) (g:LK) b (h:za)=>
 opt (Kn b 0) λi=>opt (Kn b 1) λj=>opt (Kn b 2) λk=>jz 42 h λc l=>opt (wg 42 c i l) λd=>opt (zi .lss 3 49 (nth a 1) 0) λe=>GD e false (λm=>m (nth a 1) d) (ZQ e f k j c R a g) d
def jF:=λa (b:LK) c (d:za)=>
 opt (zi .add 3 40 (nth a 1) 1) λe=>b [nth c 0,e] d
def Q9:=λb a (R:VK) (d:LK) (g:List aaa) (c:za)=>
 BK (λe=>opt (zd zz 31 b c) λf=>zP zz (fn 16) [f,nth a 1] c (X8 a b R e))
 (jF a d)
def Ka:=λb (f:LK) (R:VK) a (c:za) (g:LK)=>
 zI 31 b 0 29 c λh=>zD (uy 29 h c) λi d=>opt (xL .leq 3 35 38 (nth a 1) i) λj=>CD j (λe=>e [] d)
 (λe=>f [nth a 0] d)
 (Q9 b a R g)
def ZR:=λc (R:VK) d e f (a:za)=>
 opt (pk c (.bool true) f) λg=>CD g (λb=>rv [.bool true] a R)
 (λb=>b [nth d 0] a)
 (λh i=>BK (λj=>LP (Ka e j R)
 [nth h 0,.int .i64 (-1)] i)
 (λl k=>rv [.bool true] k R))
def ZS:=λa (R:VK) c d e (b:za)=>
 zg a false (zi .gtr 3 32 e 400) b (ZR a R c d) b
def ZT:=λa (R:VK) d e f (b:za)=>
 zg a false (zd zz 29 f b) b (λg c=>GD a false (λh=>zD (uy 29 g c) λi j=>h i j) (ZS a R d e) c) b
def Kb:=λ(R:VK) e b (f:za)=>
 opt (Kn b 0) λg=>opt (Kn b 1) λh=>jz 31 f λa i=>opt (wg 31 a g i) λc=>opt (DP zz .not h) λd=>zg d false (zp zz 31 a 0) c (ZT d R e a) c
def Kc:=λ(R:VK) d e f g h (a:za)=>
 opt (DP zz .not h) λi=>CD i (λb=>rv [.bool false] a R)
 (λb=>b [.bool false] a)
 (λj c=>opt (zd zz 25 d c) λk=>zP zz (fn 15) [k,e,f,g] c (Kb R j))
def da:=λ(h:za) a b c d (R:VK)=>
 opt (nb [a] (some (Value.cells a).toList)) λe=>nw h e 25 λf g=>zP zz (fn 7) [] g (Kc R f b c d)
theorem lD(hw:da h t0 t1 t2 t3 R):DC zz 4 [t0,t1,t2,t3] h R:=xp (by kernel_rfl) hw
def fO:=λd (a:za) b (R:VK) (g:LK)=>
 opt (zd zz 31 d a) λe=>opt (wg 31 b e a) λc=>opt (zd zz 31 b c) λf=>rv [f,.bool false] c R
def sW:=λc (d b:za) e f j (k:LK) l g (a:za)=>
 opt (zp zz 25 c 2) λm=>opt (zd zz 3 m (cut (cut a d.next b.next) b.next a.next)) λh=>opt (zp zz 25 c 3) λn=>opt (zd zz 3 n (cut (cut a d.next b.next) b.next a.next)) λi=>opt (nb [e,f,g,h,i] (zM zz 31 [(0,e),(1,f),(2,g),(3,h),(4,i)])) λo=>opt (wg 31 j o a) λp=>k [nth l 0] p
def sX:=λc e (f:LK) g d (b:za)=>
 opt (Kn d 0) λh=>opt (Kn d 1) λi=>zD (nb [] (ze zz 22 0 [] b)) λj a=>opt (zp zz 25 c 0) λk=>opt (zd zz 22 k (cut a b.next a.next)) λl=>cB zz [22,22] 22 [j,l] (some (b.next,a.next)) a a (sW c b a h i e f g)
def JW:=λe a f (R:VK) b (g:LK) h (c:za)=>
 opt (pk e (.bool true) h) λi=>CD i (fO a c f R)
 (λj=>j [.bool false] c)
 (λk d=>opt (zd zz 25 b d) λl=>zP zz (fn 12) [l] d (sX b a g k))
def fP:=λa e f (R:VK) g (h:LK) i (c:za)=>
 GD a false (λj=>zP zz (fn 11) [i] c (λb k=>j b k)) (λb d=>zg a false (DP zz .not b) d (JW a e f R g h) d) c
def sY:=λa (c:za) e f (R:VK) (g:LK)=>
 opt (zd zz 25 a c) λh=>zP zz (fn 8) [h] c (λi b=>opt (DP zz .not i) λd=>zg d false (zd zz 25 a b) b (fP d e f R a g) b)
def sZ:=λb (a:za) c d (e:LK)=>
 zI 31 b 0 29 a λf=>zI 31 b 0 29 a λg=>qk 29 g c 5 a λh=>opt (xL .xor 5 62 63 h d) λi=>opt (xR zz 29 f c) λj=>opt (wg 5 j i a) λk=>e [] k
def fQ:=λc a (R:VK) (l:List aaa) (b:za)=>
 opt (zd zz 31 c b) λf=>opt (zp zz 31 c 0) λd=>opt (zd zz 29 d b) λg=>zD (uy 29 g b) λh i=>opt (zi .leq 3 69 h 2000) λj=>(Hz 5 a 1 d/\opt (wg 31 a f i) λe=>opt (zd zz 31 a e) λk=>rv [k,j] e R)
def JX:=λa e b f g h (R:VK) i (c:za)=>
 zg a true (xL .lss 3 49 52 e i) c (λj d=>opt (pk a j (.bool false)) λk=>CD k (sZ b d f g)
 (λl=>l [] d)
 (fQ b h R)) c
def Qx:=λa d e f g h (R:VK) i (b:za)=>
 zg a true (zd zz 29 i b) b (λj c=>GD a true (λk=>zD (uy 29 j c) λl m=>k l m) (JX a d e f g h R) c) b
def bY:=λa c f g (R:VK) (j:List aaa) (d:za)=>
 opt (zi .geq 3 46 a 0) λb=>GD b true (λh=>h a d) (λi e=>zg b true (zp zz 31 c 0) e (Qx b i c a f g R) e) d
def Hf:=λ(h:za) c a j k (R:VK)=>
 opt (nb [c] (some (Value.cells c).toList)) λl=>nw h l 25 λm n=>jz 31 n λd o=>zD (nb [] (ze zz 29 0 [] o)) λe p=>zD (nb [e,a] (zG zz .append [29,29] 29 [e,a] p)) λf q=>zD (nb [.int .i64 0] (ze zz 22 1 [(0,(.int .i64 0))] q)) λg r=>opt (nb [f,g] (zM zz 31 [(0,f),(1,g)])) λs=>jz 31 r λb t=>opt (wg 31 b s t) λu=>zD (uy 29 a u) λv i=>opt (zi .eql 3 19 v 0) λw=>CD w (sY m i b d R)
 (λx=>x [.bool false] i)
 (bY j b k d R)
theorem Ft(hw:Hf h t0 t1 t2 t3 R):DC zz 15 [t0,t1,t2,t3] h R:=kN mixed (q:=qs) (n:=200) (Eq.mpr (by kernel_rfl) hw)
end Go.Ee
namespace Go.Ai
open Go.Ai Go.Proofs
noncomputable def N4:Array Field:=match Program.underlying Tryz.prog 42 with|some (.struct f)=>f|_ => #[]
theorem qd:Sf 22:=Ye (by kernel_rfl)
theorem Sy:FcN 25 4:=UD (by kernel_rfl) (by kernel_rfl)
theorem YQ:Sf 29:=Ye (by kernel_rfl)
theorem zk:Sf 3:=Ye (by kernel_rfl)
theorem DE:FcN 31 5:=UD (by kernel_rfl) (by kernel_rfl)
theorem uC:FcN 42 7:=UD (by kernel_rfl) (by kernel_rfl)
theorem Xd:Sf 5:=Ye (by kernel_rfl)
theorem SA:FcA 22 3 1 8:=λr v x n w h h1 h2 h3 h4=>UF (e:=3) (e2:=3) (by kernel_rfl) (by kernel_rfl) (by kernel_rfl) (by kernel_rfl) (by decide) h1 h2 h3 h4
theorem DM:FcM 31 5:=QG (by kernel_rfl)
theorem xh:FcM 42 7:=QG (by kernel_rfl)
theorem zcu(b off:Nat)(v:Int)(h:za):ux Tryz.prog 5 (.pointer (some ⟨b,off,none⟩)) (.int .u8 v) h=AK h b off [(.int .u8 v)]:=QH (by kernel_rfl) b off _ h rfl
theorem NB:YT Tryz.prog 31=some (.agg #[(.slice none 0 0),(.slice none 0 0),(.slice none 0 0),(.int .i64 0),(.int .i64 0)]):=yG (by kernel_rfl)
theorem kJ:YT Tryz.prog 42=some (.agg #[(.int .i64 0),(.int .i64 0),(.int .i64 0),(.int .i64 0),(.int .i64 0),(.int .i64 0),(.int .i64 0)]):=yG (by kernel_rfl)
theorem Lu(v0:Option Addr)(v0l v0c:Nat)(v1:Option Addr)(v1l v1c:Nat):zM Tryz.prog 31 [(0,(.slice v0 v0l v0c)),(1,(.slice v1 v1l v1c))]=some (.agg #[(.slice v0 v0l v0c),(.slice v1 v1l v1c),(.slice none 0 0),(.int .i64 0),(.int .i64 0)]):=yG (by kernel_rfl)
theorem lE(v0:Option Addr)(v0l v0c:Nat)(v1:Option Addr)(v1l v1c:Nat)(v2:Option Addr)(v2l v2c:Nat)(v3:Int)(v4:Int):zM Tryz.prog 31 [(0,(.slice v0 v0l v0c)),(1,(.slice v1 v1l v1c)),(2,(.slice v2 v2l v2c)),(3,(.int .i64 v3)),(4,(.int .i64 v4))]=some (.agg #[(.slice v0 v0l v0c),(.slice v1 v1l v1c),(.slice v2 v2l v2c),(.int .i64 v3),(.int .i64 v4)]):=yG (by kernel_rfl)
theorem W7:zM Tryz.prog 42 []=some (.agg #[(.int .i64 0),(.int .i64 0),(.int .i64 0),(.int .i64 0),(.int .i64 0),(.int .i64 0),(.int .i64 0)]):=yG (by kernel_rfl)
theorem NH(h:za):ze Tryz.prog 22 0 [] h=some (.slice (some ⟨h.next,0,none⟩) 0 2,h.push (.cells [] 3)):=yG (by kernel_rfl)
theorem gH(v0:Int)(h:za):ze Tryz.prog 22 1 [(0,(.int .i64 v0))] h=some (.slice (some ⟨h.next,0,none⟩) 1 3,h.push (.cells [(.int .i64 v0)] 3)):=yG (by kernel_rfl)
theorem DU(h:za):ze Tryz.prog 29 0 [] h=some (.slice (some ⟨h.next,0,none⟩) 0 2,h.push (.cells [] 5)):=yG (by kernel_rfl)
theorem vO:FcG 25 0:=λb o=>yG (by kernel_rfl)
theorem J9:Cf 25 2 2:=λb o=>yG (by kernel_rfl)
theorem l5:Cf 25 3 3:=λb o=>yG (by kernel_rfl)
theorem jA:FcG 31 0:=λb o=>yG (by kernel_rfl)
theorem H7:Cf 31 1 1:=λb o=>yG (by kernel_rfl)
theorem eI:Cf 31 2 2:=λb o=>yG (by kernel_rfl)
theorem jS:FcX 29 1:=λb o l c k i=>Zy (e:=5) (by kernel_rfl) (by kernel_rfl)
theorem BQ(x y:Operand)(a0:Int)(a1:Int)(a2:Int)(a3:Int)(a4:Int)(a5:Int)(a6:Int)(b0:Int)(b1:Int)(b2:Int)(b3:Int)(b4:Int)(b5:Int)(b6:Int):zK Tryz.prog .neq 42 x y (.agg #[(.int .i64 a0),(.int .i64 a1),(.int .i64 a2),(.int .i64 a3),(.int .i64 a4),(.int .i64 a5),(.int .i64 a6)]) (.agg #[(.int .i64 b0),(.int .i64 b1),(.int .i64 b2),(.int .i64 b3),(.int .i64 b4),(.int .i64 b5),(.int .i64 b6)])=some (.bool (!((a0 == b0)&&((a1 == b1)&&((a2 == b2)&&((a3 == b3)&&((a4 == b4)&&((a5 == b5)&&((a6 == b6)))))))))):=(A5 (fs:=N4) (r:=(a0 == b0)&&((a1 == b1)&&((a2 == b2)&&((a3 == b3)&&((a4 == b4)&&((a5 == b5)&&((a6 == b6)))))))) (by kernel_rfl) (by kernel_rfl) (by kernel_rfl) rfl rfl (Eq.trans (b:=(cond (a0 == b0) (cond (a1 == b1) (cond (a2 == b2) (cond (a3 == b3) (cond (a4 == b4) (cond (a5 == b5) (cond (a6 == b6) (some true) (some false)) (some false)) (some false)) (some false)) (some false)) (some false)) (some false))) (by kernel_rfl) (by cases (a0 == b0) <;> cases (a1 == b1) <;> cases (a2 == b2) <;> cases (a3 == b3) <;> cases (a4 == b4) <;> cases (a5 == b5) <;> cases (a6 == b6) <;> rfl))).2
end Go.Ai
namespace Go.Ed
open Go.Ai Go.Proofs Go.Proofs.Tryz
noncomputable abbrev zz:=prog
abbrev VK:=aaa->za->Prop
abbrev LK:=List aaa->za->Prop
abbrev ci(n:Int):Operand := .const (.int .i64 n)
abbrev fn(n:Nat):aaa := .func (.func n) #[] #[]
variable {h:za}{t0 t1 t2 t3 t4 t5 t6:aaa}{R:VK}
def qs:FuncId->Nat:=λg=>([(25,3),(27,2),(29,3),(30,3),(34,2),(35,3),(36,2),(37,2),(38,2),(39,3),(40,3),(47,3),(51,2),(75,2),(76,3),(77,3),(83,2),(96,2)].lookup g).getD 0
theorem mixed:prog.follows .mixedOrders=true:=acg Tryz.checked
theorem xp{f:FuncId}{args:List aaa}{X:Prop}(e:Pu zz (ba zz qs) 200 f args h R=X)(hw:X):DC zz f args h R:=Up mixed (q:=qs) (n:=200) (Eq.mpr e hw)
def C6:=λa (h:za) (R:VK) (c:LK)=>
 WE 77 a 2 4 (.bool true) h λb=>rv [.int .u8 0] b R
def C7:=λa (R:VK) (j:List aaa) (c:za)=>
 UI 77 a 1 3 c λd=>opt (zi .add 3 19 d 1) λe=>WE 77 a 1 3 e c λb=>UI 77 a 0 29 b λf=>UI 77 a 1 3 b λg=>opt (zi .sub 3 30 g 1) λh=>qk 29 f h 5 b λi=>rv [i] b R
def MZ:=λ(h:za) a (R:VK)=>
 UI 77 a 1 3 h λb=>UI 77 a 0 29 h λc=>zD (uy 29 c h) λd _=>opt (xL .geq 3 6 11 b d) λe=>CD e (C6 a h R)
 (λf=>f [.int .u8 0] h)
 (C7 a R)
theorem I9(hw:MZ h t0 R):DC zz 64 [t0] h R:=xp (by kernel_rfl) hw
def nM:=λa (c:LK) b (d:za)=>
 zD (nb [b] (xg zz 5 130 b d)) λe f=>opt (nb [.int .i64 8,nth a 1] (zK zz .mul 3 (.const (.int .i64 8)) (.tmp 15) (.int .i64 8) (nth a 1))) λg=>opt (xL .shl 130 14 16 e g) λh=>opt (xL .or 130 11 17 (nth a 0) h) λi=>c [i] f
def nN:=λa (b:LK) c (d:za)=>
 opt (zi .add 3 8 (nth a 1) 1) λe=>b [nth c 0,e] d
def nO:=λd (e:LK) f a (b:za) (g:LK)=>
 opt (xL .lss 3 8 7 (nth a 1) d) λh=>CD h (λc=>c [] b)
 (λc=>e [nth a 0] b)
 (λk i=>BK (λj=>zP zz (fn 64) [f] i (nM a j))
 (nN a g))
def cq:=λe (R:VK) a (b:za)=>
 opt (zi .eql 3 20 e 4) λf=>CD f (λc=>zD (nb [nth a 0] (xg zz 130 21 (nth a 0) b)) λd g=>zD (nb [d] (xg zz 21 2 d g)) λh i=>rv [h] i R)
 (λc=>c [.int .i64 0] b)
 (λm j=>zD (nb [nth a 0] (xg zz 130 2 (nth a 0) j)) λk l=>rv [k] l R)
def C8:=λ(h:za) b a (R:VK)=>
 BK (λc=>LP (nO a c b)
 [.int .u64 0,.int .i64 0] h)
 (cq a R)
theorem C9(hw:C8 h t0 t1 R):DC zz 65 [t0,t1] h R:=xp (by kernel_rfl) hw
def dS:=λa (b:za) (c:LK)=>
 zI 132 a 0 3 b λd=>opt (zi .add 3 21 d 8) λe=>Z1 132 a 0 3 e b λf=>c [] f
def dU:=λa (b:za) (c:LK)=>
 zI 132 a 1 3 b λd=>opt (zi .add 3 28 d 8) λe=>Z1 132 a 1 3 e b λf=>c [] f
def Zv:=λa b (c:LK) (h:List aaa) (d:za)=>
 zP zz (fn 65) [a,.int .i64 4] d (λe f=>Z1 132 b 4 2 e f λg=>c [] g)
def Wx:=λd b e (f:LK) g (c:za)=>
 opt (pk d g (.bool false)) λh=>CD h (λa=>WE 77 b 2 4 (.bool true) c λi=>a [] i)
 (λa=>a [] c)
 (Zv b e f)
def Wy:=λa d e (f:LK) b (c:za)=>
 zg a true (nb [b,.int .u8 36] (zK zz .neq 5 (.tmp 47) (.const (.int .u8 36)) b (.int .u8 36))) c (Wx a d e f) c
def Ys:=λb a c (d:LK) e (f:za)=>
 opt (pk b (.bool true) e) λg=>WE 77 a 2 4 g f λh=>zP zz (fn 65) [a,.int .i64 4] h (λi j=>Z1 132 c 4 2 i j λk=>d [] k)
def Yt:=λa d e (f:LK) b (c:za)=>
 zg a false (nb [b,.int .u8 0] (zK zz .neq 5 (.tmp 71) (.const (.int .u8 0)) b (.int .u8 0))) c (Ys a d e f) c
def Yu:=λa d e (f:LK) b (c:za)=>
 zg a false (nb [b,.int .u8 1] (zK zz .and 5 (.tmp 70) (.const (.int .u8 1)) b (.int .u8 1))) c (Yt a d e f) c
def Yv:=λa f g h (i:LK) b (c:za)=>
 zg a false (nb [b,.int .u8 5] (zK zz .neq 5 (.tmp 66) (.const (.int .u8 5)) b (.int .u8 5))) c (λj d=>opt (pk a (.bool true) j) λe=>GD e false (λk=>k f d) (Yu e g h i) d) c
def ZF:=λa d e f (g:LK) b (c:za)=>
 zg a false (nb [b,.int .u8 7] (zK zz .and 5 (.tmp 65) (.const (.int .u8 7)) b (.int .u8 7))) c (Yv a d e f g) c
def aT:=λb (e:za) c f g (h:LK)=>
 Z1 132 b 3 4 (.bool true) e λa=>UI 77 c 2 4 a λd=>GD d false (λi=>i f a) (ZF d g c b h) a
def aU:=λa (f:za) d (g:LK)=>
 Z1 132 a 2 4 (.bool true) f λb=>zI 132 a 1 3 b λh=>opt (zi .and 3 42 h 7) λi=>opt (zi .eql 3 43 i 4) λc=>GD c true (λj=>j d b) (λk e=>GD c true (λl=>zP zz (fn 64) [k] e (λm n=>l m n)) (Wy c d a g) e) b
def V5:=λa d (b:za) c e f (g:LK)=>
 opt (nb [a,.int .u8 0] (zK zz .eql 5 (.tmp 32) (.const (.int .u8 0)) a (.int .u8 0))) λh=>CD h (aT d b c e f)
 (λi=>WE 77 c 2 4 (.bool true) b λj=>i [] j)
 (λl k=>g [] k)
def Xr:=λa b (c:za) d e f (g:LK)=>
 opt (nb [a,.int .u8 2] (zK zz .eql 5 (.tmp 32) (.const (.int .u8 2)) a (.int .u8 2))) λh=>CD h (aU b c d)
 (V5 a b c d e f)
 (λj i=>g [] i)
def ZG:=λa (b:za) c d e f (g:LK)=>
 opt (nb [a,.int .u8 3] (zK zz .eql 5 (.tmp 32) (.const (.int .u8 3)) a (.int .u8 3))) λh=>CD h (λi=>i [] b)
 (Xr a c b d e f)
 (λk j=>g [] j)
def V6:=λa b f g c (R:VK) (l:List aaa) (h:za)=>
 opt (nb [a,.int .u64 6] (zK zz .shr 5 (.tmp 31) (.const (.int .u64 6)) a (.int .u64 6))) λi=>BK (ZG i h b f a g)
 (λm d=>opt (zd zz 132 b d) λj=>opt (wg 132 c j d) λe=>opt (zd zz 132 c e) λk=>rv [k] e R)
def V7:=λa b e f g (R:VK) (j:List aaa) (c:za)=>
 opt (nb [a,.int .u8 1] (zK zz .and 5 (.tmp 24) (.const (.int .u8 1)) a (.int .u8 1))) λd=>opt (nb [d,.int .u8 0] (zK zz .neq 5 (.tmp 25) (.const (.int .u8 0)) d (.int .u8 0))) λh=>CD h (dU b c)
 (λi=>i [] c)
 (V6 e b f a g R)
def aV:=λb k l (R:VK) a (m:za)=>
 opt (nb [a,.int .u64 3] (zK zz .shr 5 (.tmp 9) (.const (.int .u64 3)) a (.int .u64 3))) λd=>opt (nb [d,.int .u8 7] (zK zz .and 5 (.tmp 10) (.const (.int .u8 7)) d (.int .u8 7))) λe=>zD (nb [e] (xg zz 5 3 e m)) λf n=>opt (nb [a,.int .u8 7] (zK zz .and 5 (.tmp 13) (.const (.int .u8 7)) a (.int .u8 7))) λg=>zD (nb [g] (xg zz 5 3 g n)) λh o=>opt (nb [f,h] (zM zz 132 [(0,f),(1,h)])) λp=>jz 132 o λc q=>opt (wg 132 c p q) λi=>opt (nb [b,.int .u8 4] (zK zz .and 5 (.tmp 17) (.const (.int .u8 4)) b (.int .u8 4))) λj=>opt (nb [j,.int .u8 0] (zK zz .neq 5 (.tmp 18) (.const (.int .u8 0)) j (.int .u8 0))) λr=>CD r (dS c i)
 (λs=>s [] i)
 (V7 b c a k l R)
def nP:=λ(h:za) a b (R:VK)=>
 jz 132 h λc d=>zP zz (fn 64) [a] d (aV b a c R)
theorem rM(hw:nP h t0 t1 R):DC zz 84 [t0,t1] h R:=xp (by kernel_rfl) hw
def X9:=λc d (R:VK) e (f:LK) g (a:za)=>
 opt (xL .eql 5 14 15 g c) λh=>CD h (λb=>rv [d] a R)
 (λb=>b [nth e 0] a)
 (λi j=>f [nth i 0] j)
def Kd:=λd a (b:za) e (R:VK) (f:LK)=>
 qk 22 d (nth a 1) 3 b λc=>zP zz (fn 83) [c] b (X9 e c R a f)
def Ke:=λa (b:LK) c (d:za)=>
 opt (zi .add 3 9 (nth a 1) 1) λe=>b [nth c 0,e] d
def Kf:=λd (e:LK) f g (R:VK) a (b:za) (h:LK)=>
 opt (xL .lss 3 9 8 (nth a 1) d) λi=>CD i (λc=>c [] b)
 (λc=>e [nth a 0] b)
 (λk j=>BK (Kd f a j g R)
 (Ke a h))
def Kg:=λa (R:VK) (d:List aaa) (b:za)=>
 WE 77 a 2 4 (.bool true) b λc=>rv [.int .i64 0] c R
def aN:=λ(h:za) b c (R:VK)=>
 zD (nb [.int .i64 21,.int .i64 22,.int .i64 23,.int .i64 26,.int .i64 24,.int .i64 25] (ze zz 22 6 [(0,(.int .i64 21)),(1,(.int .i64 22)),(2,(.int .i64 23)),(3,(.int .i64 26)),(4,(.int .i64 24)),(5,(.int .i64 25))] h)) λa d=>zD (uy 22 a d) λe f=>BK (λg=>LP (Kf e g a c R)
 [.int .i64 0,.int .i64 0] f)
 (Kg b R)
theorem fK(hw:aN h t0 t1 R):DC zz 66 [t0,t1] h R:=xp (by kernel_rfl) hw
def oj:=λa b (R:VK) c (e:za)=>
 opt (nb [.int .i64 2,a,c] (zM zz 42 [(0,(.int .i64 2)),(1,a),(6,c)])) λf=>opt (wg 42 b f e) λd=>opt (zd zz 42 b d) λg=>rv [g] d R
def dX:=λf a b c g (R:VK) h (i:za)=>
 opt (pk f (.bool true) h) λj=>WE 77 a 2 4 j i λk=>opt (nb [b,.int .u8 184] (zK zz .sub 5 (.tmp 28) (.const (.int .u8 184)) b (.int .u8 184))) λd=>zD (nb [d] (xg zz 5 3 d k)) λl m=>opt (nb [c,.int .u8 1] (zK zz .and 5 (.tmp 31) (.const (.int .u8 1)) c (.int .u8 1))) λe=>zD (nb [e] (xg zz 5 3 e m)) λn o=>opt (zi .mul 3 33 n 8) λp=>opt (xL .add 3 30 34 l p) λq=>zP zz (fn 65) [a,.int .i64 8] o (oj q g R)
def dY:=λa d e f g (R:VK) b (c:za)=>
 zg a false (nb [b,.int .u8 0] (zK zz .neq 5 (.tmp 23) (.const (.int .u8 0)) b (.int .u8 0))) c (dX a d e f g R) c
def dZ:=λa d e f g (R:VK) b (c:za)=>
 zg a false (nb [b,.int .u8 4] (zK zz .and 5 (.tmp 22) (.const (.int .u8 4)) b (.int .u8 4))) c (dY a d e f g R) c
def ee:=λb (a:za) c e f (R:VK) (h:LK)=>
 UI 77 b 2 4 a λd=>GD d false (λg=>g c a) (dZ d b e c f R) a
def Dp:=λa (c:za) (R:VK) (f:LK)=>
 opt (nb [.int .i64 25] (zM zz 42 [(0,(.int .i64 25))])) λd=>opt (wg 42 a d c) λb=>opt (zd zz 42 a b) λe=>rv [e] b R
def Dq:=λa (c:za) (R:VK) (f:LK)=>
 opt (nb [.int .i64 13] (zM zz 42 [(0,(.int .i64 13))])) λd=>opt (wg 42 a d c) λb=>opt (zd zz 42 a b) λe=>rv [e] b R
def oq:=λa c (b:za) (R:VK) (d:LK)=>
 opt (nb [a,.int .u8 237] (zK zz .eql 5 (.tmp 60) (.const (.int .u8 237)) a (.int .u8 237))) λe=>CD e (Dp c b R)
 (λf=>f [] b)
 (λh g=>d [] g)
def KX:=λa b (c:za) (R:VK) (d:LK)=>
 opt (nb [a,.int .u8 153] (zK zz .eql 5 (.tmp 60) (.const (.int .u8 153)) a (.int .u8 153))) λe=>CD e (Dq b c R)
 (oq a b c R)
 (λg f=>d [] f)
def fZ:=λa (R:VK) (f:List aaa) (c:za)=>
 opt (nb [.int .i64 26] (zM zz 42 [(0,(.int .i64 26))])) λd=>opt (wg 42 a d c) λb=>opt (zd zz 42 a b) λe=>rv [e] b R
def f9:=λb c d a (R:VK) e (f:za)=>
 opt (pk b (.bool true) e) λg=>WE 77 c 2 4 g f λh=>BK (KX d a h R)
 (fZ a R)
def ga:=λa d e f (R:VK) b (c:za)=>
 zg a false (nb [b,.int .u8 72] (zK zz .neq 5 (.tmp 55) (.const (.int .u8 72)) b (.int .u8 72))) c (f9 a d e f R) c
def gh:=λb (a:za) d e f (R:VK) (h:LK)=>
 UI 77 b 2 4 a λc=>GD c false (λg=>g d a) (ga c b e f R) a
def gi:=λg h b c (R:VK) i (j:za)=>
 opt (pk g (.bool true) i) λk=>WE 77 h 2 4 k j λa=>zI 132 b 0 3 a λd=>zI 132 b 4 2 a λe=>opt (nb [.int .i64 6,d,e] (zM zz 42 [(0,(.int .i64 6)),(1,d),(6,e)])) λl=>opt (wg 42 c l a) λf=>opt (zd zz 42 c f) λm=>rv [m] f R
def gj:=λa d e f (R:VK) b (c:za)=>
 zg a false (nb [b,.int .u8 141] (zK zz .neq 5 (.tmp 84) (.const (.int .u8 141)) b (.int .u8 141))) c (gi a d e f R) c
def tJ:=λd (a:za) e f g b (R:VK) (l:LK)=>
 opt (zd zz 132 d a) λh=>zP zz (fn 85) [e,f,nth g 0,h] a (λi j=>opt (wg 42 b i j) λc=>opt (zd zz 42 b c) λk=>rv [k] c R)
def gk:=λb (a:za) d e f (R:VK) (h:LK)=>
 UI 77 b 2 4 a λc=>GD c false (λg=>g d a) (gj c b e f R) a
def gp:=λb (a:za) c d e f (R:VK) (g:LK)=>
 zI 132 b 2 4 a λh=>CD h (tJ b a c d e f R)
 (λi=>i [] a)
 (λk j=>g [] j)
def Ux:=λa (b:za) c d e (R:VK) f (g:LK)=>
 zI 132 a 3 4 b λh=>CD h (gk c b d a e R)
 (gp a b c d f e R)
 (λj i=>g [] i)
def tK:=λd e f g a (R:VK) (l:List aaa) (b:za)=>
 opt (zd zz 132 d b) λh=>zP zz (fn 86) [e,f,nth g 0,h] b (λi j=>opt (wg 42 a i j) λc=>opt (zd zz 42 a c) λk=>rv [k] c R)
def gq:=λb c d (R:VK) e f (g:za)=>
 jz 132 g λa h=>opt (wg 132 a f h) λi=>BK (Ux a i b c d R e)
 (tK a b c e d R)
def gu:=λa b e f (R:VK) (l:List aaa) (d:za)=>
 opt (nb [a,.int .u8 15] (zK zz .eql 5 (.tmp 68) (.const (.int .u8 15)) a (.int .u8 15))) λg=>CD g (λc=>zP zz (fn 64) [b] d (λh i=>c [h] i))
 (λc=>c [.int .u8 0] d)
 (λj k=>zP zz (fn 84) [b,e] k (gq b a f R j))
def Uy:=λa b c d e (R:VK) f (g:za)=>
 zg a false (nb [f,.int .u8 239] (zK zz .eql 5 (.tmp 46) (.const (.int .u8 239)) f (.int .u8 239))) g (λi h=>opt (pk a (.bool true) i) λj=>CD j (gh b h c d e R)
 (λk=>k [] h)
 (gu d b c e R)) g
def Uz:=λa b g h i (R:VK) c (d:za)=>
 zg a false (nb [c,.int .u8 237] (zK zz .eql 5 (.tmp 42) (.const (.int .u8 237)) c (.int .u8 237))) d (λj e=>opt (pk a (.bool true) j) λf=>GD f false (λk=>k b e) (Uy f g h b i R) e) d
def gx:=λa d e f (R:VK) (h:List aaa) (b:za)=>
 opt (nb [a,.int .u8 153] (zK zz .eql 5 (.tmp 39) (.const (.int .u8 153)) a (.int .u8 153))) λc=>GD c false (λg=>g a b) (Uz c a d e f R) b
def Y8:=λa b c d e (R:VK) f (g:za)=>
 zg a true (nb [f,.int .u8 191] (zK zz .leq 5 (.tmp 13) (.const (.int .u8 191)) f (.int .u8 191))) g (λi h=>opt (pk a i (.bool false)) λj=>CD j (ee b h c d e R)
 (λk=>k [] h)
 (gx d b c e R)) g
def tL:=λd e f (R:VK) a (b:za)=>
 opt (nb [a,.int .u8 184] (zK zz .geq 5 (.tmp 10) (.const (.int .u8 184)) a (.int .u8 184))) λc=>GD c true (λg=>g a b) (Y8 c d e a f R) b
def M6:=λ(h:za) a b (R:VK)=>
 jz 42 h λc d=>zP zz (fn 64) [a] d (tL a b c R)
theorem Ld(hw:M6 h t0 t1 R):DC zz 67 [t0,t1] h R:=xp (by kernel_rfl) hw
def nn:=λa (b:za) (c:LK)=>
 Z1 42 a 0 3 (.int .i64 4) b λd=>Z1 42 a 3 3 (.int .i64 8) d λe=>c [] e
def U8:=λb d (c:za) e (f:LK)=>
 opt (nb [b,.int .u8 141] (zK zz .eql 5 (.tmp 42) (.const (.int .u8 141)) b (.int .u8 141))) λg=>CD g (λa=>Z1 42 d 0 3 (.int .i64 5) c λh=>a [] h)
 (λa=>WE 77 e 2 4 (.bool true) c λi=>a [] i)
 (λk j=>f [] j)
def WW:=λa b (c:za) d (e:LK)=>
 opt (nb [a,.int .u8 137] (zK zz .eql 5 (.tmp 37) (.const (.int .u8 137)) a (.int .u8 137))) λf=>CD f (nn b c)
 (U8 a b c d)
 (λh g=>e [] g)
def YZ:=λc a d e (f:LK) g (b:za)=>
 opt (pk c g (.bool false)) λh=>CD h (λi=>Z1 42 a 3 3 (.int .i64 1) b λj=>i [] j)
 (WW d a b e)
 (λl k=>f [] k)
def Y0:=λa d e f (g:LK) b (c:za)=>
 zg a true (nb [b,.int .u8 190] (zK zz .eql 5 (.tmp 32) (.const (.int .u8 190)) b (.int .u8 190))) c (YZ a d e f g) c
def Y3:=λa d (b:za) e f (g:LK)=>
 opt (nb [a,.int .u8 15] (zK zz .eql 5 (.tmp 29) (.const (.int .u8 15)) a (.int .u8 15))) λc=>GD c true (λh=>h d b) (Y0 c e a f g) b
def ZZ:=λa b (c:za) d e (f:LK)=>
 opt (nb [a,.int .u8 99] (zK zz .eql 5 (.tmp 25) (.const (.int .u8 99)) a (.int .u8 99))) λg=>CD g (λh=>Z1 42 b 3 3 (.int .i64 4) c λi=>h [] i)
 (Y3 a d c b e)
 (λk j=>f [] j)
def jX:=λa b (c:za) d e (f:LK)=>
 opt (nb [a,.int .u8 139] (zK zz .eql 5 (.tmp 21) (.const (.int .u8 139)) a (.int .u8 139))) λg=>CD g (λh=>Z1 42 b 3 3 (.int .i64 8) c λi=>h [] i)
 (ZZ a b c d e)
 (λk j=>f [] j)
def Cv:=λ(h:za) l m n d (R:VK)=>
 opt (nb [d] (some (Value.cells d).toList)) λo=>nw h o 132 λb p=>jz 42 p λe a=>zI 132 b 0 3 a λf=>zI 132 b 1 3 a λg=>zI 132 b 4 2 a λi=>opt (nb [.int .i64 3,f,g,i] (zM zz 42 [(0,(.int .i64 3)),(1,f),(2,g),(6,i)])) λq=>jz 42 a λc r=>opt (wg 42 c q r) λs=>BK (jX m c s n l)
 (λv j=>opt (zd zz 42 c j) λt=>opt (wg 42 e t j) λk=>opt (zd zz 42 e k) λu=>rv [u] k R)
theorem Cw(hw:Cv h t0 t1 t2 t3 R):DC zz 85 [t0,t1,t2,t3] h R:=xp (by kernel_rfl) hw
def fJ:=λc d (R:VK) e (f:LK) g (a:za)=>
 opt (xL .eql 5 12 13 g c) λh=>CD h (λb=>rv [d] a R)
 (λb=>b [nth e 0] a)
 (λi j=>f [nth i 0] j)
def sE:=λd a (b:za) e (R:VK) (f:LK)=>
 qk 22 d (nth a 1) 3 b λc=>zP zz (fn 51) [c] b (fJ e c R a f)
def sF:=λa (b:LK) c (d:za)=>
 opt (zi .add 3 7 (nth a 1) 1) λe=>b [nth c 0,e] d
def sG:=λd (e:LK) f g (R:VK) a (b:za) (h:LK)=>
 opt (xL .lss 3 7 6 (nth a 1) d) λi=>CD i (λc=>c [] b)
 (λc=>e [nth a 0] b)
 (λk j=>BK (sE f a j g R)
 (sF a h))
def Ha:=λ(h:za) b (R:VK)=>
 zD (nb [.int .i64 11,.int .i64 12,.int .i64 16,.int .i64 17,.int .i64 18] (ze zz 22 5 [(0,(.int .i64 11)),(1,(.int .i64 12)),(2,(.int .i64 16)),(3,(.int .i64 17)),(4,(.int .i64 18))] h)) λa c=>zD (uy 22 a c) λd e=>BK (λf=>LP (sG d f a b R)
 [.int .i64 0,.int .i64 0] e)
 (λi g=>rv [.int .i64 0] g R)
theorem Fo(hw:Ha h t0 R):DC zz 96 [t0] h R:=xp (by kernel_rfl) hw
def Dc:=λb (a:za) c d (R:VK) (j:LK)=>
 zI 132 b 1 3 a λe=>zI 132 b 0 3 a λf=>opt (nb [.int .i64 7,c,e,f] (zM zz 42 [(0,(.int .i64 7)),(3,c),(1,e),(2,f)])) λh=>opt (wg 42 d h a) λg=>opt (zd zz 42 d g) λi=>rv [i] g R
def nQ:=λa b (R:VK) c (e:za)=>
 opt (nb [.int .i64 8,.int .i64 13,a,c] (zM zz 42 [(0,(.int .i64 8)),(3,(.int .i64 13)),(1,a),(6,c)])) λf=>opt (wg 42 b f e) λd=>opt (zd zz 42 b d) λg=>rv [g] d R
def nR:=λd a e f (R:VK) g (h:za)=>
 opt (pk d (.bool true) g) λi=>WE 77 a 2 4 i h λb=>opt (zp zz 132 e 0) λc=>opt (zd zz 3 c b) λj=>Wa zz 65 [a,.int .i64 4] 4 [(1,c)] b (nQ j f R)
def nS:=λa d e f g (R:VK) h (b:za)=>
 zg a false (zd zz 3 h b) b (λi c=>zg a false (xL .neq 3 51 53 d i) c (nR a e f g R) c) b
def nT:=λa c e f (R:VK) g (b:za)=>
 zg a false (zd zz 3 g b) b (λh d=>zg a false (zp zz 132 c 1) d (nS a h e c f R) d) b
def Dd:=λb (a:za) c (R:VK) (i:LK)=>
 zI 132 b 0 3 a λd=>zI 132 b 1 3 a λe=>opt (nb [.int .i64 10,.int .i64 3,d,e] (zM zz 42 [(0,(.int .i64 10)),(3,(.int .i64 3)),(1,d),(2,e)])) λg=>opt (wg 42 c g a) λf=>opt (zd zz 42 c f) λh=>rv [h] f R
def De:=λb (a:za) c (R:VK) (i:LK)=>
 zI 132 b 0 3 a λd=>zI 132 b 1 3 a λe=>opt (nb [.int .i64 7,.int .i64 13,d,e] (zM zz 42 [(0,(.int .i64 7)),(3,(.int .i64 13)),(1,d),(2,e)])) λg=>opt (wg 42 c g a) λf=>opt (zd zz 42 c f) λh=>rv [h] f R
def nU:=λa c (b:za) d (R:VK) (e:LK)=>
 opt (nb [a,.int .u8 190] (zK zz .eql 5 (.tmp 65) (.const (.int .u8 190)) a (.int .u8 190))) λf=>CD f (Dd c b d R)
 (λg=>g [] b)
 (λi h=>e [] h)
def dV:=λa b (c:za) d (R:VK) (e:LK)=>
 opt (nb [a,.int .u8 175] (zK zz .eql 5 (.tmp 65) (.const (.int .u8 175)) a (.int .u8 175))) λf=>CD f (De b c d R)
 (nU a b c d R)
 (λh g=>e [] g)
def tq:=λc a (R:VK) (h:List aaa) (d:za)=>
 WE 77 c 2 4 (.bool true) d λe=>opt (nb [] (zM zz 42 [])) λf=>opt (wg 42 a f e) λb=>opt (zd zz 42 a b) λg=>rv [g] b R
def fV:=λb (a:za) c e (R:VK) (f:LK)=>
 UI 77 b 2 4 a λd=>zg d false (zp zz 132 c 0) a (nT d c b e R) a
def Uv:=λa e f (b:za) c (R:VK) g (h:LK)=>
 opt (nb [a,.int .u8 15] (zK zz .eql 5 (.tmp 20) (.const (.int .u8 15)) a (.int .u8 15))) λi=>CD i (λd=>BK (dV e f b c R)
 (tq g c R))
 (λd=>d [] b)
 (λk j=>h [] j)
def tt:=λb (a:za) c (R:VK) (i:LK)=>
 zI 132 b 1 3 a λd=>zI 132 b 0 3 a λe=>opt (nb [.int .i64 15,d,e] (zM zz 42 [(0,(.int .i64 15)),(1,d),(2,e)])) λg=>opt (wg 42 c g a) λf=>opt (zd zz 42 c f) λh=>rv [h] f R
def Y7:=λa b (c:za) d e (R:VK) f (g:LK)=>
 opt (nb [a,.int .u8 105] (zK zz .eql 5 (.tmp 20) (.const (.int .u8 105)) a (.int .u8 105))) λh=>CD h (fV b c d e R)
 (Uv a f d c e R b)
 (λj i=>g [] i)
def tu:=λb (a:za) c (R:VK) (i:LK)=>
 zI 132 b 0 3 a λd=>zI 132 b 1 3 a λe=>opt (nb [.int .i64 10,.int .i64 4,d,e] (zM zz 42 [(0,(.int .i64 10)),(3,(.int .i64 4)),(1,d),(2,e)])) λg=>opt (wg 42 c g a) λf=>opt (zd zz 42 c f) λh=>rv [h] f R
def Yb:=λa b (c:za) d (R:VK) e f (g:LK)=>
 opt (nb [a,.int .u8 57] (zK zz .eql 5 (.tmp 20) (.const (.int .u8 57)) a (.int .u8 57))) λh=>CD h (tt b c d R)
 (Y7 a e c b d R f)
 (λj i=>g [] i)
def tA:=λb (a:za) c (R:VK) (i:LK)=>
 zI 132 b 1 3 a λd=>zI 132 b 0 3 a λe=>opt (nb [.int .i64 1,d,e] (zM zz 42 [(0,(.int .i64 1)),(1,d),(2,e)])) λg=>opt (wg 42 c g a) λf=>opt (zd zz 42 c f) λh=>rv [h] f R
def Zw:=λa b (c:za) d (R:VK) e f (g:LK)=>
 opt (nb [a,.int .u8 99] (zK zz .eql 5 (.tmp 20) (.const (.int .u8 99)) a (.int .u8 99))) λh=>CD h (tu b c d R)
 (Yb a b c d R e f)
 (λj i=>g [] i)
def jM:=λa b (c:za) d (R:VK) e f (g:LK)=>
 opt (nb [a,.int .u8 137] (zK zz .eql 5 (.tmp 20) (.const (.int .u8 137)) a (.int .u8 137))) λh=>CD h (tA b c d R)
 (Zw a b c d R e f)
 (λj i=>g [] i)
def tB:=λd e f a (R:VK) (k:List aaa) (b:za)=>
 opt (zd zz 132 d b) λg=>zP zz (fn 97) [e,f,g] b (λh i=>opt (wg 42 a h i) λc=>opt (zd zz 42 a c) λj=>rv [j] c R)
def qB:=λa b (R:VK) c d g e (f:za)=>
 opt (zi .neq 3 12 e 0) λh=>CD h (Dc a f e b R)
 (λi=>i [] f)
 (λk j=>BK (jM c a j b R d g)
 (tB a d c b R))
def M0:=λ(h:za) c a d b (R:VK)=>
 opt (nb [b] (some (Value.cells b).toList)) λe=>nw h e 132 λf g=>jz 42 g λi j=>zP zz (fn 96) [a] j (qB f i R a c d)
theorem La(hw:M0 h t0 t1 t2 t3 R):DC zz 86 [t0,t1,t2,t3] h R:=kN mixed (q:=qs) (n:=200) (Eq.mpr (by kernel_rfl) hw)
def cu:=λa b (R:VK) c (e:za)=>
 opt (nb [.int .i64 2,a,c] (zM zz 42 [(0,(.int .i64 2)),(1,a),(6,c)])) λf=>opt (wg 42 b f e) λd=>opt (zd zz 42 b d) λg=>rv [g] d R
def cw:=λd a e f (R:VK) g (h:za)=>
 opt (pk d (.bool true) g) λi=>WE 77 a 2 4 i h λb=>opt (zp zz 132 e 1) λc=>opt (zd zz 3 c b) λj=>Wa zz 65 [a,.int .i64 4] 4 [(1,c)] b (cu j f R)
def cx:=λa c d e (R:VK) f (b:za)=>
 zg a false (zi .neq 3 18 f 0) b (cw a c d e R) b
def oe:=λe (a:za) b (R:VK) (h:LK)=>
 zI 132 e 1 3 a λc=>opt (nb [.int .i64 14,c] (zM zz 42 [(0,(.int .i64 14)),(2,c)])) λf=>opt (wg 42 b f a) λd=>opt (zd zz 42 b d) λg=>rv [g] d R
def og:=λe (a:za) b (R:VK) (h:LK)=>
 zI 132 e 1 3 a λc=>opt (nb [.int .i64 9,.int .i64 1,c] (zM zz 42 [(0,(.int .i64 9)),(3,(.int .i64 1)),(1,c)])) λf=>opt (wg 42 b f a) λd=>opt (zd zz 42 b d) λg=>rv [g] d R
def cy:=λb c (a:za) d (R:VK) (e:LK)=>
 opt (zi .eql 3 36 b 7) λf=>CD f (oe c a d R)
 (λg=>g [] a)
 (λi h=>e [] h)
def oh:=λe (a:za) b (R:VK) (h:LK)=>
 zI 132 e 1 3 a λc=>opt (nb [.int .i64 9,.int .i64 2,c] (zM zz 42 [(0,(.int .i64 9)),(3,(.int .i64 2)),(1,c)])) λf=>opt (wg 42 b f a) λd=>opt (zd zz 42 b d) λg=>rv [g] d R
def QA:=λa b (c:za) d (R:VK) (e:LK)=>
 opt (zi .eql 3 36 a 3) λf=>CD f (og b c d R)
 (cy a b c d R)
 (λh g=>e [] g)
def W1:=λa b (c:za) d (R:VK) (e:LK)=>
 opt (zi .eql 3 36 a 2) λf=>CD f (oh b c d R)
 (QA a b c d R)
 (λh g=>e [] g)
def KR:=λa (c:LK) b (d:za)=>
 zD (nb [b] (xg zz 5 2 b d)) λe f=>Z1 42 a 0 3 (.int .i64 11) f λg=>Z1 42 a 6 2 e g λh=>c [] h
def VH:=λi b c d e (R:VK) j (k:za)=>
 opt (pk i (.bool true) j) λl=>WE 77 b 2 4 l k λf=>opt (nb [c,.int .u8 193] (zK zz .eql 5 (.tmp 79) (.const (.int .u8 193)) c (.int .u8 193))) λm=>CD m (λa=>zP zz (fn 64) [b] f (KR d a))
 (λa=>a [] f)
 (λp g=>opt (zd zz 42 d g) λn=>opt (wg 42 e n g) λh=>opt (zd zz 42 e h) λo=>rv [o] h R)
def VI:=λa b e f g h (R:VK) i (c:za)=>
 zg a true (zi .neq 3 73 i 7) c (λj d=>zg b false (pk a j (.bool false)) d (VH b e f g h R) d) c
def VJ:=λd e f g h i (R:VK) a (c:za)=>
 zg a true (zp zz 132 d 0) c (λj b=>zg a true (zd zz 3 j b) b (VI a e f g h i R) b) c
def VL:=λa d e f g h (R:VK) i (b:za)=>
 zg a false (zi .neq 3 69 i 4) b (λj c=>GD a false (λk=>k j c) (VJ d a e f g h R) c) b
def KT:=λd e f g h (R:VK) (j:List aaa) (a:za)=>
 UI 77 d 2 4 a λb=>zg b false (zp zz 132 e 0) a (λi c=>zg b false (zd zz 3 i c) c (VL b e d f g h R) c) a
def KU:=λa (e:za) g h i (R:VK) (o:LK)=>
 zI 132 a 1 3 e λf=>opt (nb [.int .i64 12,f,.int .i64 19] (zM zz 42 [(0,(.int .i64 12)),(1,f),(3,(.int .i64 19))])) λj=>jz 42 e λb k=>opt (wg 42 b j k) λc=>zI 132 a 0 3 c λl=>opt (zi .eql 3 59 l 7) λm=>CD m (λd=>Z1 42 b 3 3 (.int .i64 20) c λn=>d [] n)
 (λd=>d [] c)
 (KT g a h b i R)
def VM:=λa (c:za) f g h (R:VK) (i:LK)=>
 opt (nb [a,.int .u8 193] (zK zz .eql 5 (.tmp 8) (.const (.int .u8 193)) a (.int .u8 193))) λd=>CD d (λb=>b [d] c)
 (λb=>opt (nb [a,.int .u8 211] (zK zz .eql 5 (.tmp 8) (.const (.int .u8 211)) a (.int .u8 211))) λj=>b [j] c)
 (λk e=>CD (nth k 0) (KU f e g a h R)
 (λl=>l [] e)
 (λn m=>i [] m))
def iR:=λd (a:za) e b (R:VK) (j:LK)=>
 opt (zd zz 132 d a) λf=>zP zz (fn 114) [e,f] a (λg h=>opt (wg 42 b g h) λc=>opt (zd zz 42 b c) λi=>rv [i] c R)
def jl:=λa b (c:za) d (R:VK) e (f:LK)=>
 opt (nb [a,.int .u8 247] (zK zz .eql 5 (.tmp 8) (.const (.int .u8 247)) a (.int .u8 247))) λg=>CD g (λh=>zI 132 b 0 3 c λi=>BK (W1 i b c d R)
 (λl j=>h [] j))
 (VM a c b e d R)
 (λm k=>f [] k)
def KV:=λd (a:za) e f (R:VK) (h:LK)=>
 UI 77 d 2 4 a λb=>zg b false (zp zz 132 e 0) a (λg c=>zg b false (zd zz 3 g c) c (cx b d e f R) c) a
def ki:=λa b (c:za) d e (R:VK) (f:LK)=>
 opt (nb [a,.int .u8 129] (zK zz .eql 5 (.tmp 8) (.const (.int .u8 129)) a (.int .u8 129))) λg=>CD g (iR b c d e R)
 (jl a b c e R d)
 (λi h=>f [] h)
def qc:=λa b (c:za) d e (R:VK) (f:LK)=>
 opt (nb [a,.int .u8 199] (zK zz .eql 5 (.tmp 8) (.const (.int .u8 199)) a (.int .u8 199))) λg=>CD g (KV b c d e R)
 (ki a d c b e R)
 (λi h=>f [] h)
def KW:=λc a (R:VK) (h:List aaa) (d:za)=>
 WE 77 c 2 4 (.bool true) d λe=>opt (nb [] (zM zz 42 [])) λf=>opt (wg 42 a f e) λb=>opt (zd zz 42 a b) λg=>rv [g] b R
def Dm:=λ(h:za) a d b (R:VK)=>
 opt (nb [b] (some (Value.cells b).toList)) λe=>nw h e 132 λf g=>jz 42 g λc i=>BK (qc d a i f c R)
 (KW a c R)
theorem Dn(hw:Dm h t0 t1 t2 R):DC zz 97 [t0,t1,t2] h R:=kN mixed (q:=qs) (n:=200) (Eq.mpr (by kernel_rfl) hw)
def sM:=λa b (d:za) (R:VK) (g:LK)=>
 opt (nb [.int .i64 24,a] (zM zz 42 [(0,(.int .i64 24)),(6,a)])) λe=>opt (wg 42 b e d) λc=>opt (zd zz 42 b c) λf=>rv [f] c R
def JM:=λa d e (R:VK) (f:LK) g (b:za)=>
 zg a true (zi .eql 3 34 g 0) b (λh c=>opt (pk a h (.bool false)) λi=>CD i (sM d e c R)
 (λj=>j [] c)
 (λl k=>f [] k)) b
def sN:=λa b (d:za) (R:VK) (g:LK)=>
 opt (nb [.int .i64 23,a] (zM zz 42 [(0,(.int .i64 23)),(6,a)])) λe=>opt (wg 42 b e d) λc=>opt (zd zz 42 b c) λf=>rv [f] c R
def JN:=λd (a:za) e f (R:VK) (g:LK)=>
 zI 132 d 1 3 a λh=>opt (zi .eql 3 30 h 4) λb=>zg b true (zp zz 132 d 0) a (λi c=>zg b true (zd zz 3 i c) c (JM b e f R g) c) a
def Us:=λa b c (R:VK) f (g:LK) h (d:za)=>
 zg a true (zi .eql 3 23 h 5) d (λi e=>opt (pk a i (.bool false)) λj=>CD j (sN b c e R)
 (JN f e b c R)
 (λl k=>g [] k)) d
def sO:=λf (a:za) b c (R:VK) (i:LK)=>
 zI 132 f 1 3 a λd=>opt (nb [.int .i64 16,d,b] (zM zz 42 [(0,(.int .i64 16)),(1,d),(6,b)])) λg=>opt (wg 42 c g a) λe=>opt (zd zz 42 c e) λh=>rv [h] e R
def Ut:=λa (b:za) e f (R:VK) (g:LK)=>
 zI 132 a 1 3 b λh=>opt (zi .eql 3 19 h 4) λc=>zg c true (zp zz 132 a 0) b (λi d=>zg c true (zd zz 3 i d) d (Us c e f R a g) d) b
def WL:=λa (b:za) c d (R:VK) (e:LK)=>
 zI 132 a 0 3 b λf=>opt (zi .eql 3 11 f 7) λg=>CD g (sO a b c d R)
 (Ut a b c d R)
 (λi h=>e [] h)
def fM:=λg h i a b c (R:VK) j (k:za)=>
 opt (pk g (.bool true) j) λl=>WE 77 h 2 4 l k λd=>zI 132 i 1 3 d λe=>opt (nb [.int .i64 8,a,e,b] (zM zz 42 [(0,(.int .i64 8)),(3,a),(1,e),(6,b)])) λm=>opt (wg 42 c m d) λf=>opt (zd zz 42 c f) λn=>rv [n] f R
def bV:=λa c d e f g (R:VK) h (b:za)=>
 zg a false (zi .eql 3 51 h 0) b (fM a c d e f g R) b
def bW:=λb e f g (R:VK) c (a:za)=>
 UI 77 b 2 4 a λd=>GD d false (λh=>h c a) (bV d b e c f g R) a
def bX:=λa f g h (R:VK) (k:List aaa) (b:za)=>
 zI 132 a 0 3 b λc=>zD (nb [c] (xg zz 3 5 c b)) λd i=>opt (nb [d,.int .u64 3] (zK zz .shl 5 (.tmp 41) (.const (.int .u64 3)) d (.int .u64 3))) λe=>opt (nb [e,.int .u8 1] (zK zz .or 5 (.tmp 42) (.const (.int .u8 1)) e (.int .u8 1))) λj=>zP zz (fn 96) [j] i (bW f a g h R)
def He:=λ(h:za) a b (R:VK)=>
 opt (nb [b] (some (Value.cells b).toList)) λf=>nw h f 132 λc g=>jz 42 g λd i=>zP zz (fn 65) [a,.int .i64 4] i (λe j=>BK (WL c j e d R)
 (bX c a e d R))
theorem Fs(hw:He h t0 t1 R):DC zz 114 [t0,t1] h R:=xp (by kernel_rfl) hw
def bZ:=λm n b e f (R:VK) o (p:za)=>
 opt (pk m (.bool true) o) λq=>WE 77 n 2 4 q p λa=>zI 132 b 0 3 a λg=>zI 132 b 1 3 a λh=>zI 132 b 4 2 a λi=>opt (nb [.int .i64 4,.int .i64 4,g,h,i] (zM zz 42 [(0,(.int .i64 4)),(3,(.int .i64 4)),(1,g),(2,h),(6,i)])) λr=>jz 42 a λc s=>opt (wg 42 c r s) λj=>opt (nb [e,.int .u8 136] (zK zz .eql 5 (.tmp 40) (.const (.int .u8 136)) e (.int .u8 136))) λt=>CD t (λd=>Z1 42 c 3 3 (.int .i64 1) j λu=>d [] u)
 (λd=>d [] j)
 (λx k=>opt (zd zz 42 c k) λv=>opt (wg 42 f v k) λl=>opt (zd zz 42 f l) λw=>rv [w] l R)
def ca:=λa d e f g (R:VK) h (b:za)=>
 zg a false (zd zz 4 h b) b (λi c=>zg a false (DP zz .not i) c (bZ a d e f g R) c) b
def cg:=λc e f (R:VK) g (h:za)=>
 jz 132 h λa i=>opt (wg 132 a g i) λb=>UI 77 c 2 4 b λd=>zg d false (zp zz 132 a 2) b (ca d c a e f R) b
def ch:=λa b (c:LK) d (e:za)=>
 opt (pk a (.bool true) d) λf=>WE 77 b 2 4 f e λg=>c [] g
def cj:=λa d (e:LK) f (c:za)=>
 zg a false (zp zz 77 f 2) c (λg b=>zg a false (zd zz 4 g b) b (ch a d e) b) c
def ck:=λe b (f:LK) g (c:za)=>
 opt (xL .neq 5 91 92 g e) λa=>GD a false (λh=>h b c) (λi d=>zg a false (Ps i) d (cj a b f) d) c
def nK:=λc d (a:za) b (e:LK)=>
 qk 29 c (nth d 0) 5 a λf=>zP zz (fn 64) [b] a (ck f b e)
def nL:=λb a c (d:LK) (h:List aaa) (e:za)=>
 BK (nK b a e c)
 (λi f=>opt (zi .add 3 85 (nth a 0) 1) λg=>d [g] f)
def cm:=λd (e:LK) f g a (b:za) (h:LK)=>
 opt (xL .lss 3 85 84 (nth a 0) d) λi=>CD i (λc=>c [] b)
 (λc=>e [] b)
 (nL f a g h)
def KN:=λe f a (R:VK) b (g:za)=>
 zD (uy 29 b g) λh i=>BK (λj=>LP (cm h j b e)
 [.int .i64 0] i)
 (λm c=>opt (zd zz 42 f c) λk=>opt (wg 42 a k c) λd=>opt (zd zz 42 a d) λl=>rv [l] d R)
def VG:=λe c f a g (R:VK) h (i:za)=>
 opt (pk e (.bool true) h) λj=>WE 77 c 2 4 j i λd=>zI 132 f 1 3 d λk=>Z1 42 a 1 3 k d λl=>zD (nb [.int .u8 15,.int .u8 182] (ze zz 29 2 [(0,(.int .u8 15)),(1,(.int .u8 182))] l)) λm b=>zI 42 a 1 3 b λn=>zI 42 a 1 3 b λo=>zP zz (fn 47) [.int .u8 72,m,n,o] b (KN c a g R)
def XN:=λa c d e f (R:VK) g (b:za)=>
 zg a false (zi .neq 3 70 g 0) b (VG a c d e f R) b
def XO:=λe c f g h (R:VK) i (d:za)=>
 opt (pk e (.bool true) i) λa=>zg a false (zp zz 132 c 0) d (λj b=>zg a false (zd zz 3 j b) b (XN a f c g h R) b) d
def XP:=λe c f g h (R:VK) i (d:za)=>
 opt (pk e (.bool true) i) λa=>zg a false (zp zz 132 c 3) d (λj b=>zg a false (zd zz 4 j b) b (XO a c f g h R) b) d
def iO:=λe f g (R:VK) h (i:za)=>
 jz 132 i λa j=>opt (wg 132 a h j) λb=>UI 77 e 2 4 b λc=>zg c false (zp zz 132 a 2) b (λk d=>zg c false (zd zz 4 k d) d (XP c a e f g R) d) b
def iP:=λa d e (R:VK) b (f:za)=>
 opt (nb [.int .i64 17,b] (zM zz 42 [(0,(.int .i64 17)),(4,b)])) λg=>jz 42 f λc h=>opt (wg 42 c g h) λi=>zP zz (fn 84) [a,d] i (iO a c e R)
def iQ:=λa c d (R:VK) b (e:za)=>
 opt (nb [b,.int .u8 144] (zK zz .sub 5 (.tmp 48) (.const (.int .u8 144)) b (.int .u8 144))) λf=>zP zz (fn 66) [a,f] e (iP a c d R)
def KO:=λa b (c:za) e f (R:VK) (g:LK)=>
 opt (nb [a,.int .u8 15] (zK zz .eql 5 (.tmp 14) (.const (.int .u8 15)) a (.int .u8 15))) λh=>CD h (λd=>zP zz (fn 64) [b] c (iQ b e f R))
 (λd=>d [] c)
 (λj i=>g [] i)
def XQ:=λa b c d (R:VK) (f:LK) g (e:za)=>
 CD (nth g 0) (λi=>zP zz (fn 84) [a,b] e (cg a c d R))
 (KO c a e b d R)
 (λj h=>f [] h)
def Ya:=λa (c:za) e f g (R:VK) (h:LK)=>
 opt (nb [a,.int .u8 136] (zK zz .eql 5 (.tmp 14) (.const (.int .u8 136)) a (.int .u8 136))) λd=>CD d (λb=>b [d] c)
 (λb=>opt (nb [a,.int .u8 137] (zK zz .eql 5 (.tmp 14) (.const (.int .u8 137)) a (.int .u8 137))) λi=>b [i] c)
 (XQ e f a g R h)
def KP:=λc a (R:VK) (h:List aaa) (d:za)=>
 WE 77 c 2 4 (.bool true) d λe=>opt (nb [] (zM zz 42 [])) λf=>opt (wg 42 a f e) λb=>opt (zd zz 42 a b) λg=>rv [g] b R
def C4:=λ(h:za) a c (R:VK)=>
 jz 42 h λb d=>zP zz (fn 64) [a] d (λe f=>BK (Ya e f a c b R)
 (KP a b R))
theorem C5(hw:C4 h t0 t1 R):DC zz 68 [t0,t1] h R:=xp (by kernel_rfl) hw
def Hg:=λa (R:VK) b (d:za)=>
 opt (nb [.int .i64 18,b] (zM zz 42 [(0,(.int .i64 18)),(6,b)])) λe=>opt (wg 42 a e d) λc=>opt (zd zz 42 a c) λf=>rv [f,.bool true] c R
def Hh:=λa (R:VK) b (d:za)=>
 opt (nb [.int .i64 21,b] (zM zz 42 [(0,(.int .i64 21)),(6,b)])) λe=>opt (wg 42 a e d) λc=>opt (zd zz 42 a c) λf=>rv [f,.bool true] c R
def Hi:=λa b (R:VK) e (f:za)=>
 Z1 42 a 6 2 e f λc=>opt (zd zz 42 a c) λg=>opt (wg 42 b g c) λd=>opt (zd zz 42 b d) λh=>rv [h,.bool true] d R
def Hj:=λc d (R:VK) a (e:za)=>
 opt (nb [.int .i64 19,a] (zM zz 42 [(0,(.int .i64 19)),(4,a)])) λf=>jz 42 e λb g=>opt (wg 42 b f g) λh=>zP zz (fn 65) [c,.int .i64 4] h (Hi b d R)
def Hk:=λa c (R:VK) b (d:za)=>
 opt (nb [b,.int .u8 128] (zK zz .sub 5 (.tmp 26) (.const (.int .u8 128)) b (.int .u8 128))) λe=>zP zz (fn 66) [a,e] d (Hj a c R)
def Hl:=λa (R:VK) f (g:za)=>
 jz 42 g λb h=>opt (wg 42 b f h) λc=>opt (zd zz 42 b c) λi=>opt (zp zz 42 b 0) λd=>opt (zd zz 3 d c) λj=>opt (zi .eql 3 47 j 6) λk=>(Hz 7 a 1 d/\opt (wg 42 a i c) λe=>opt (zd zz 42 a e) λl=>rv [l,k] e R)
def Hm:=λc d (e:za) a (R:VK) (i:LK)=>
 zP zz (fn 68) [c,d] e (λf g=>opt (wg 42 a f g) λb=>opt (zd zz 42 a b) λh=>rv [h,.bool false] b R)
def AZ:=λa d (b:za) e (R:VK) (f:LK)=>
 opt (nb [a,.int .u8 5] (zK zz .andNot 5 (.tmp 50) (.const (.int .u8 5)) a (.int .u8 5))) λc=>opt (nb [c,.int .u8 64] (zK zz .eql 5 (.tmp 51) (.const (.int .u8 64)) c (.int .u8 64))) λg=>CD g (Hm d a b e R)
 (λh=>h [.bool false] b)
 (λi j=>f [nth i 0] j)
def Hn:=λa (c:za) (R:VK) (f:LK)=>
 opt (nb [.int .i64 22] (zM zz 42 [(0,(.int .i64 22))])) λd=>opt (wg 42 a d c) λb=>opt (zd zz 42 a b) λe=>rv [e,.bool false] b R
def dR:=λa b (c:za) d (R:VK) (f:LK)=>
 opt (nb [a,.int .u8 5] (zK zz .andNot 5 (.tmp 39) (.const (.int .u8 5)) a (.int .u8 5))) λe=>opt (nb [e,.int .u8 72] (zK zz .eql 5 (.tmp 40) (.const (.int .u8 72)) e (.int .u8 72))) λg=>CD g (λj=>zP zz (fn 67) [b,a] c (Hl d R))
 (AZ a b c d R)
 (λh i=>f [nth h 0] i)
def KM:=λa b (c:za) (R:VK) d (e:LK)=>
 opt (nb [a,.int .u8 195] (zK zz .eql 5 (.tmp 35) (.const (.int .u8 195)) a (.int .u8 195))) λf=>CD f (Hn b c R)
 (dR a d c b R)
 (λg h=>e [nth g 0] h)
def Uu:=λa b (c:za) d (R:VK) (e:LK)=>
 opt (nb [a,.int .u8 15] (zK zz .eql 5 (.tmp 22) (.const (.int .u8 15)) a (.int .u8 15))) λf=>CD f (λi=>zP zz (fn 64) [b] c (Hk b d R))
 (KM a d c R b)
 (λg h=>e [nth g 0] h)
def WX:=λa b (c:za) d (R:VK) (e:LK)=>
 opt (nb [a,.int .u8 232] (zK zz .eql 5 (.tmp 16) (.const (.int .u8 232)) a (.int .u8 232))) λf=>CD f (λi=>zP zz (fn 65) [b,.int .i64 4] c (Hh d R))
 (Uu a b c d R)
 (λg h=>e [nth g 0] h)
def XM:=λa b (c:za) d (R:VK) (e:LK)=>
 opt (nb [a,.int .u8 233] (zK zz .eql 5 (.tmp 10) (.const (.int .u8 233)) a (.int .u8 233))) λf=>CD f (λi=>zP zz (fn 65) [b,.int .i64 4] c (Hg d R))
 (WX a b c d R)
 (λg h=>e [nth g 0] h)
def CU:=λc a (R:VK) (h:List aaa) (d:za)=>
 WE 77 c 2 4 (.bool true) d λe=>opt (nb [] (zM zz 42 [])) λf=>opt (wg 42 a f e) λb=>opt (zd zz 42 a b) λg=>rv [g,.bool false] b R
def Su:=λ(h:za) a (R:VK)=>
 jz 42 h λb c=>zP zz (fn 64) [a] c (λd e=>BK (XM d a e b R)
 (CU a b R))
theorem MW(hw:Su h t0 R):DC zz 32 [t0] h R:=kN mixed (q:=qs) (n:=200) (Eq.mpr (by kernel_rfl) hw)
def AR:=λd (a:za) b (R:VK) (g:LK)=>
 opt (zd zz 42 d a) λe=>opt (wg 42 b e a) λc=>opt (zd zz 42 b c) λf=>rv [f,.bool false] c R
def G7:=λf a b (R:VK) (j:List aaa) (c:za)=>
 opt (zd zz 2 f c) λg=>Z1 42 a 5 3 g c λd=>opt (zd zz 42 a d) λh=>opt (wg 42 b h d) λe=>opt (zd zz 42 b e) λi=>rv [i,.bool true] e R
def lN:=λa f b c (R:VK) g h (d:za)=>
 zg a false (xL .gtr 2 24 27 f h) d (λi e=>opt (pk a (.bool true) i) λj=>CD j (AR b e c R)
 (λk=>k [.bool false] e)
 (G7 g b c R)) d
def lO:=λa d e f (R:VK) g h (b:za)=>
 zg a false (zd zz 29 h b) b (λi c=>GD a false (λj=>zD (uy 29 i c) λk l=>j k l) (lN a d e f R g) c) b
def G8:=λa b (R:VK) f (g:za)=>
 Z1 42 a 3 3 f g λc=>opt (zd zz 42 a c) λh=>opt (zp zz 42 a 3) λd=>opt (zd zz 3 d c) λi=>opt (zi .geq 3 43 i 0) λj=>(Hz 7 b 1 d/\opt (wg 42 b h c) λe=>opt (zd zz 42 b e) λk=>rv [k,j] e R)
def G9:=λc (a:za) b d e (R:VK) (h:LK)=>
 zI 31 c 1 22 a λf=>opt (nb ([]++[b]) (some (Value.func (.func 70) [].toArray [b].toArray))) λg=>zP zz (fn 69) [f,g] a (G8 d e R)
def JE:=λb (a:za) e f g (R:VK) (j:LK)=>
 opt (zd zz 2 b a) λh=>opt (zi .lss 2 21 h 0) λc=>zg c false (zd zz 2 b a) a (λi d=>zg c false (zp zz 31 e 0) d (lO c i f g R b) d) a
def AS:=λb c (a:za) d e f (R:VK) (g:LK)=>
 opt (zi .eql 3 17 b 21) λh=>CD h (G9 c a d e f R)
 (λi=>i [.bool false] a)
 (λj k=>g [nth j 0] k)
def dq:=λa (c:za) d e f g (R:VK) (j:LK)=>
 opt (zi .eql 3 17 a 18) λh=>CD h (λb=>b [h] c)
 (λb=>opt (zi .eql 3 17 a 19) λk=>b [k] c)
 (λl i=>CD (nth l 0) (JE d i e f g R)
 (AS a e i d f g R)
 (λm n=>j [nth m 0] n))
def Cx:=λb (c:za) h a i d (R:VK) (o:LK)=>
 opt (zd zz 2 b c) λj=>opt (xL .sub 2 69 70 j h) λk=>opt (zp zz 42 a 3) λe=>(Hz 1 e 1 b/\opt (wg 3 e (nth i 1) c) λl=>Z1 42 a 6 2 k l λf=>opt (zd zz 42 a f) λm=>opt (wg 42 d m f) λg=>opt (zd zz 42 d g) λn=>rv [n,.bool true] g R)
def dg:=λc d e f a g (R:VK) (h:LK) i (b:za)=>
 opt (pk c i (.bool false)) λj=>CD j (Cx d b e f a g R)
 (λk=>k [nth a 0] b)
 (λl m=>h [nth l 0] m)
def dh:=λa c d e f g h (R:VK) (i:LK) j (b:za)=>
 zg a true (xL .leq 2 60 65 c j) b (dg a d e f g h R i) b
def di:=λa d e f g h i j (R:VK) (k:LK) l (c:za)=>
 zg a true (xR zz 22 d l) c (λm b=>zg a true (zd zz 3 m b) b (dh a e f g h i j R k) b) c
def dk:=λa c e f g h i (R:VK) (j:LK) k (b:za)=>
 zg a true (zd zz 22 k b) b (λl d=>GD a true (λm=>m (nth c 1) d) (di a l e f g h c i R j) d) b
def dm:=λa d e f g h i j (R:VK) (k:LK) l (b:za)=>
 zg a true (xL .sub 2 58 59 d l) b (λm c=>zg a true (zp zz 31 e 2) c (dk a f m g h i j R k) c) b
def dp:=λg e (a:za) b h i j (R:VK) (k:LK)=>
 qk 67 g (nth e 1) 2 a λc=>opt (zd zz 2 b a) λl=>opt (xL .geq 2 54 55 l c) λd=>zg d true (zd zz 2 b a) a (λm f=>GD d true (λn=>n c f) (dm d m h e b c i j R k) f) a
def np:=λa (b:LK) c (d:za)=>
 opt (zi .add 3 49 (nth a 1) 1) λe=>b [nth c 0,e] d
def Cy:=λd (e:LK) f g h i j (R:VK) a (b:za) (k:LK)=>
 opt (xL .lss 3 49 48 (nth a 1) d) λl=>CD l (λc=>c [] b)
 (λc=>e [nth a 0] b)
 (λn m=>BK (dp f a m g h i j R)
 (np a k))
def Cz:=λd a (R:VK) (g:List aaa) (b:za)=>
 opt (zd zz 42 d b) λe=>opt (wg 42 a e b) λc=>opt (zd zz 42 a c) λf=>rv [f,.bool false] c R
def CA:=λd e a b (R:VK) f c (g:za)=>
 zD (uy 67 c g) λh i=>BK (λj=>LP (Cy h j c d e a b R)
 [nth f 0,.int .i64 0] i)
 (Cz a b R)
def nq:=λa c d e (R:VK) f (b:za)=>
 zI 31 a 2 22 b λg=>zP zz (fn 25) [g] b (CA c a d e R f)
def Sq:=λ(h:za) c d j (R:VK)=>
 opt (nb [c] (some (Value.cells c).toList)) λk=>nw h k 31 λe l=>opt (nb [d] (some (Value.cells d).toList)) λm=>nw l m 42 λa n=>jz 42 n λf g=>zI 42 a 6 2 g λo=>opt (xL .add 2 11 13 j o) λp=>jz 2 g λb q=>opt (wg 2 b p q) λr=>Z1 42 a 6 2 (.int .i64 0) r λi=>zI 42 a 0 3 i λs=>BK (dq s i b e a f R)
 (nq e b a f R)
theorem ML(hw:Sq h t0 t1 t2 R):DC zz 33 [t0,t1,t2] h R:=kN mixed (q:=qs) (n:=200) (Eq.mpr (by kernel_rfl) hw)
def MK:=λ(h:za) a b (R:VK)=>
 opt (zd zz 2 b h) λc=>opt (xL .eql 2 4 5 a c) λd=>rv [d] h R
theorem IZ(hw:MK h t0 t1 R):DC zz 70 [t0,t1] h R:=xp (by kernel_rfl) hw
def aK:=λe a (b:za) f (R:VK) (g:LK)=>
 qk 22 e (nth a 1) 3 b λh=>zP zz f [h] b (λi c=>CD i (λd=>rv [nth a 1] c R)
 (λd=>d [nth a 0] c)
 (λj k=>g [nth j 0] k))
def aL:=λa (b:LK) c (d:za)=>
 opt (zi .add 3 8 (nth a 1) 1) λe=>b [nth c 0,e] d
def aM:=λd (e:LK) f g (R:VK) a (b:za) (h:LK)=>
 opt (xL .lss 3 8 7 (nth a 1) d) λi=>CD i (λc=>c [] b)
 (λc=>e [nth a 0] b)
 (λk j=>BK (aK f a j g R)
 (aL a h))
def im:=λ(h:za) a b (R:VK)=>
 zD (uy 22 a h) λc d=>BK (λe=>LP (aM c e a b R)
 [.int .i64 0,.int .i64 0] d)
 (λg f=>rv [.int .i64 (-1)] f R)
theorem nh(hw:im h t0 t1 R):DC zz 69 [t0,t1] h R:=xp (by kernel_rfl) hw
def bK:=λa (c:za) (R:VK) (f:LK)=>
 opt (nb [] (zM zz 42 [])) λd=>opt (wg 42 a d c) λb=>opt (zd zz 42 a b) λe=>rv [e,.int .i64 0,.int .i64 1] b R
def na:=λd (a:za) b e f (g:LK)=>
 opt (zd zz 31 d a) λh=>opt (zd zz 42 b a) λi=>UI 77 e 1 3 a λj=>opt (xL .add 3 44 48 f j) λk=>i5 zz 33 [h,i,k] a (λc l=>opt (Kn c 0) λm=>opt (Kn c 1) λn=>opt (wg 42 b m l) λo=>g [n] o)
def U2:=λa (c:za) (R:VK) (f:LK)=>
 opt (nb [] (zM zz 42 [])) λd=>opt (wg 42 a d c) λb=>opt (zd zz 42 a b) λe=>rv [e,.int .i64 0,.int .i64 7] b R
def nc:=λe f a (R:VK) (k:List aaa) (b:za)=>
 opt (zd zz 42 e b) λg=>opt (Ps f) λh=>opt (zp zz 77 h 1) λc=>opt (zd zz 3 c b) λi=>(Hz 7 a 1 c/\opt (wg 42 a g b) λd=>opt (zd zz 42 a d) λj=>rv [j,i,.int .i64 0] d R)
def U3:=λa b (R:VK) c f g h (d:za)=>
 zg a false (DP zz .not h) d (λi e=>opt (pk a (.bool true) i) λj=>CD j (U2 b e R)
 (λk=>k [nth c 0,nth c 1] e)
 (nc f g b R)) d
def bL:=λa d e (R:VK) f g h i (b:za)=>
 zg a false (zd zz 22 i b) b (λj c=>GD a false (λk=>zP zz (fn 34) [d,j] c (λl m=>k l m)) (U3 a e R f g h) c) b
def bM:=λc e f (R:VK) g h i (a:za)=>
 opt (DP zz .not (nth i 0)) λb=>zg b false (zd zz 42 c a) a (λj d=>zg b false (zp zz 31 e 2) d (bL b j f R g c h) d) a
def nd:=λa e h i (R:VK) j f (k:za)=>
 opt (Kn f 0) λl=>opt (Kn f 1) λm=>jz 42 k λb n=>opt (wg 42 b l n) λc=>UI 77 a 2 4 c λo=>opt (DP zz .not o) λd=>GD d true (λp=>p m c) (λq g=>opt (pk d q (.bool false)) λr=>CD r (na e g b a h)
 (λs=>s [d] g)
 (bM b e i R j a)) c
def nf:=λc a h (R:VK) i (b:za)=>
 zI 31 c 0 29 b λd=>opt (nb [d] (cond (sj (some a)&&sj none) (Cg zz 29 d (some a) none b) none)) λe=>opt (nb [e] (zM zz 77 [(0,e)])) λf=>opt (nb [f] (some (Value.cells f).toList)) λj=>nw b j 77 λg k=>zP zz (fn 32) [g] k (nd g c a h R i)
def Vv:=λa e b (R:VK) f g h (c:za)=>
 zg a false (xL .geq 3 14 17 e h) c (λi d=>opt (pk a (.bool true) i) λj=>CD j (bK b d R)
 (λk=>k [.int .i64 0,.int .i64 0] d)
 (nf f g b R)) c
def Vw:=λa d e (R:VK) f g h (b:za)=>
 zg a false (zd zz 29 h b) b (λi c=>GD a false (λj=>zD (uy 29 i c) λk l=>j k l) (Vv a d e R f g) c) b
def Cr:=λ(h:za) c a (R:VK)=>
 opt (nb [c] (some (Value.cells c).toList)) λg=>nw h g 31 λd i=>jz 42 i λj e=>opt (zi .lss 3 11 a 0) λb=>GD b false (λk=>k a e) (λl f=>zg b false (zp zz 31 d 0) f (Vw b l j R d a) f) e
theorem Cs(hw:Cr h t0 t1 R):DC zz 16 [t0,t1] h R:=kN mixed (q:=qs) (n:=200) (Eq.mpr (by kernel_rfl) hw)
def CP:=λe a (b:za) (f:LK)=>
 qk 29 e (nth a 1) 5 b λc=>zD (nb [c] (xg zz 5 130 c b)) λg h=>opt (nb [.int .i64 8,nth a 1] (zK zz .mul 3 (.const (.int .i64 8)) (.tmp 17) (.int .i64 8) (nth a 1))) λd=>zD (nb [d] (xg zz 3 99 d h)) λi j=>opt (xL .shl 130 16 19 g i) λk=>opt (xL .or 130 11 20 (nth a 0) k) λl=>f [l] j
def CQ:=λa (b:LK) c (d:za)=>
 opt (zi .add 3 9 (nth a 1) 1) λe=>b [nth c 0,e] d
def CR:=λb (e:LK) a (f:za) (g:LK)=>
 zD (uy 29 b f) λh c=>opt (xL .lss 3 5 7 (nth a 1) h) λi=>CD i (λd=>d [] c)
 (λd=>e [nth a 0] c)
 (λk j=>BK (CP b a j)
 (CQ a g))
def CS:=λa (d:za) (R:VK) (i:LK)=>
 zD (nb [nth a 0] (xg zz 130 139 (nth a 0) d)) λb e=>zD (nb [b] (xg zz 139 21 b e)) λc f=>zD (nb [c] (xg zz 21 2 c f)) λg h=>rv [g] h R
def CT:=λc (R:VK) a (d:za)=>
 zD (uy 29 c d) λe b=>opt (zi .eql 3 23 e 4) λf=>CD f (CS a b R)
 (λg=>g [.int .i64 0] b)
 (λk h=>zD (nb [nth a 0] (xg zz 130 2 (nth a 0) h)) λi j=>rv [i] j R)
def MV:=λ(h:za) a (R:VK)=>
 BK (λb=>LP (CR a b)
 [.int .u64 0,.int .i64 0] h)
 (CT a R)
theorem I7(hw:MV h t0 R):DC zz 75 [t0] h R:=xp (by kernel_rfl) hw
def iJ:=λa (d:LK) b (e:za)=>
 zD (nb [b] (ze zz 67 1 [(0,b)] e)) λc f=>zD (nb [nth a 0,c] (zG zz .append [67,67] 67 [nth a 0,c] f)) λg h=>d [g] h
def iK:=λa b (c:za) (e:LK)=>
 opt (zi .add 3 69 (nth a 1) 4) λd=>opt (nb [b] (cond (sj (some (nth a 1))&&sj (some d)) (Cg zz 29 b (some (nth a 1)) (some d) c) none)) λf=>zP zz (fn 75) [f] c (iJ a e)
def iL:=λa (b:LK) c (d:za)=>
 opt (zi .add 3 64 (nth a 1) 1) λe=>b [nth c 0,e] d
def VD:=λd (e:LK) a f (g:LK) h (b:za)=>
 opt (pk d h (.bool false)) λi=>CD i (λc=>c [] b)
 (λc=>e [nth a 0] b)
 (λk j=>BK (iK a f j)
 (iL a g))
def VE:=λa e (f:LK) g h (i:LK) j (c:za)=>
 GD a true (λk=>zD (uy 29 j c) λb l=>k b l) (λb d=>zg a true (xL .leq 3 59 61 e b) d (VD a f g h i) d) c
def VF:=λa b (e:LK) f (g:LK) h (c:za)=>
 zg a true (zi .add 3 58 h 4) c (λi d=>GD a true (λj=>j b d) (VE a i e f b g) d) c
def KL:=λd e (f:LK) a (b:za) (g:LK)=>
 opt (zi .add 3 54 (nth d 1) 2) λh=>opt (xL .leq 3 53 55 (nth a 1) h) λc=>GD c true (λi=>i (nth a 1) b) (VF c e f a g) b
def iM:=λc d a (e:LK) f (g:za)=>
 zP zz (fn 76) [c,d,nth f 0] g (λb h=>zD (nb [nth a 0,b] (zG zz .append [48,48] 48 [nth a 0,b] h)) λi j=>e [i] j)
def iN:=λa b (c:za) (q:LK)=>
 qk 29 a (nth b 1) 5 c λd=>opt (nb [d,.int .u64 3] (zK zz .shr 5 (.tmp 26) (.const (.int .u64 3)) d (.int .u64 3))) λe=>opt (nb [e,.int .u8 7] (zK zz .and 5 (.tmp 27) (.const (.int .u8 7)) e (.int .u8 7))) λf=>zD (nb [f] (xg zz 5 3 f c)) λr g=>qk 29 a (.int .i64 0) 5 g λh=>opt (nb [h,.int .u64 2] (zK zz .shr 5 (.tmp 32) (.const (.int .u64 2)) h (.int .u64 2))) λi=>opt (nb [i,.int .u8 1] (zK zz .and 5 (.tmp 33) (.const (.int .u8 1)) i (.int .u8 1))) λj=>zD (nb [j] (xg zz 5 3 j g)) λs k=>opt (zi .mul 3 35 s 8) λt=>opt (xL .add 3 29 36 r t) λu=>qk 29 a (nth b 1) 5 k λl=>opt (nb [l,.int .u8 7] (zK zz .and 5 (.tmp 41) (.const (.int .u8 7)) l (.int .u8 7))) λm=>zD (nb [m] (xg zz 5 3 m k)) λv n=>qk 29 a (.int .i64 0) 5 n λo=>opt (nb [o,.int .u8 1] (zK zz .and 5 (.tmp 46) (.const (.int .u8 1)) o (.int .u8 1))) λp=>zD (nb [p] (xg zz 5 3 p n)) λw x=>opt (zi .mul 3 48 w 8) λy=>opt (xL .add 3 43 49 v y) λz=>opt (zi .add 3 51 (nth b 1) 1) λA=>BK (λB=>LP (KL b a B)
 [.slice none 0 0,A] x)
 (iM u z b q)
def dN:=λa (b:LK) c (d:za)=>
 opt (zi .add 3 21 (nth a 1) 1) λe=>b [nth c 0,e] d
def Wv:=λd (e:LK) a f (g:LK) h (b:za)=>
 opt (pk d h (.bool false)) λi=>CD i (λc=>c [] b)
 (λc=>e [nth a 0] b)
 (λk j=>BK (iN f a j)
 (dN a g))
def Ww:=λa e (f:LK) g h (i:LK) j (c:za)=>
 GD a true (λk=>zD (uy 29 j c) λb l=>k b l) (λb d=>zg a true (xL .lss 3 16 18 e b) d (Wv a f g h i) d) c
def Qt:=λc (f:LK) a (d:za) (g:LK)=>
 opt (zi .leq 3 13 (nth a 1) 3) λb=>GD b true (λh=>h (nth a 1) d) (λi e=>GD b true (λj=>j c e) (Ww b i f a c g) e) d
def dO:=λa (f:za) b (g:LK) c=>
 opt (nb [.int .i64 2,a,c] (zM zz 42 [(0,(.int .i64 2)),(1,a),(6,c)])) λd=>zD (nb [d] (ze zz 48 1 [(0,d)] f)) λe h=>zD (nb [nth b 0,e] (zG zz .append [48,48] 48 [nth b 0,e] h)) λi j=>g [i] j
def dP:=λa (c:za) i (j:LK)=>
 qk 29 a (.int .i64 1) 5 c λd=>opt (nb [d,.int .u8 7] (zK zz .and 5 (.tmp 87) (.const (.int .u8 7)) d (.int .u8 7))) λe=>zD (nb [e] (xg zz 5 3 e c)) λk f=>qk 29 a (.int .i64 0) 5 f λg=>opt (nb [g,.int .u8 1] (zK zz .and 5 (.tmp 92) (.const (.int .u8 1)) g (.int .u8 1))) λh=>zD (nb [h] (xg zz 5 3 h f)) λl b=>opt (zi .mul 3 94 l 8) λm=>opt (xL .add 3 89 95 k m) λn=>opt (nb [a] (cond (sj (some (.int .i64 2))&&sj (some (.int .i64 10))) (Cg zz 29 a (some (.int .i64 2)) (some (.int .i64 10)) b) none)) λo=>qu zz 75 [o] b (dO n b i j)
def dQ:=λa (b:za) c (z:LK)=>
 qk 29 a (.int .i64 2) 5 b λd=>opt (nb [d,.int .u8 7] (zK zz .and 5 (.tmp 109) (.const (.int .u8 7)) d (.int .u8 7))) λe=>zD (nb [e] (xg zz 5 3 e b)) λA f=>qk 29 a (.int .i64 0) 5 f λg=>opt (nb [g,.int .u8 1] (zK zz .and 5 (.tmp 114) (.const (.int .u8 1)) g (.int .u8 1))) λh=>zD (nb [h] (xg zz 5 3 h f)) λB i=>opt (zi .mul 3 116 B 8) λC=>opt (xL .add 3 111 117 A C) λj=>qk 29 a (.int .i64 3) 5 i λk=>zD (nb [k] (xg zz 5 2 k i)) λl m=>opt (nb [.int .i64 11,j,.int .i64 19,l] (zM zz 42 [(0,(.int .i64 11)),(1,j),(3,(.int .i64 19)),(6,l)])) λn=>qk 29 a (.int .i64 2) 5 m λo=>opt (nb [o,.int .u8 7] (zK zz .and 5 (.tmp 126) (.const (.int .u8 7)) o (.int .u8 7))) λp=>zD (nb [p] (xg zz 5 3 p m)) λD q=>qk 29 a (.int .i64 0) 5 q λr=>opt (nb [r,.int .u8 1] (zK zz .and 5 (.tmp 131) (.const (.int .u8 1)) r (.int .u8 1))) λs=>zD (nb [s] (xg zz 5 3 s q)) λE t=>opt (zi .mul 3 133 E 8) λF=>opt (xL .add 3 128 134 D F) λu=>qk 29 a (.int .i64 3) 5 t λv=>zD (nb [v] (xg zz 5 2 v t)) λw G=>opt (nb [.int .i64 11,u,.int .i64 20,w] (zM zz 42 [(0,(.int .i64 11)),(1,u),(3,(.int .i64 20)),(6,w)])) λx=>zD (nb [n,x] (ze zz 48 2 [(0,n),(1,x)] G)) λy H=>zD (nb [nth c 0,y] (zG zz .append [48,48] 48 [nth c 0,y] H)) λI J=>z [I] J
def Qu:=λ(R:VK) a (g:za)=>
 opt (nb [.int .i64 13] (zM zz 42 [(0,(.int .i64 13))])) λb=>opt (nb [.int .i64 22] (zM zz 42 [(0,(.int .i64 22))])) λc=>opt (nb [.int .i64 25] (zM zz 42 [(0,(.int .i64 25))])) λd=>opt (nb [.int .i64 26] (zM zz 42 [(0,(.int .i64 26))])) λe=>zD (nb [b,c,d,e] (ze zz 48 4 [(0,b),(1,c),(2,d),(3,e)] g)) λf h=>zD (nb [nth a 0,f] (zG zz .append [48,48] 48 [nth a 0,f] h)) λi j=>rv [i] j R
def Qv:=λa (R:VK) b (d:za)=>
 zD (uy 29 a d) λe c=>opt (zi .geq 3 104 e 4) λf=>CD f (dQ a c b)
 (λg=>g [nth b 0] c)
 (Qu R)
def Qw:=λa (R:VK) b (d:za)=>
 zD (uy 29 a d) λe c=>opt (zi .geq 3 82 e 10) λf=>CD f (dP a c b)
 (λg=>g [nth b 0] c)
 (Qv a R)
def sV:=λ(h:za) a (R:VK)=>
 zD (YS zz 67 (.int .i64 0) (.int .i64 0) h) λk d=>zD (uy 29 a d) λe c=>opt (zi .geq 3 11 e 3) λf=>CD f (λb=>BK (λg=>LP (Qt a g)
 [.slice none 0 0,.int .i64 2] c)
 (λi j=>b [nth i 0] j))
 (λb=>b [.slice none 0 0] c)
 (Qw a R)
theorem AY(hw:sV h t0 R):DC zz 35 [t0] h R:=kN mixed (q:=qs) (n:=200) (Eq.mpr (by kernel_rfl) hw)
def tC:=λh a (b:za) c d (i:LK)=>
 qk 22 h (nth a 1) 3 b λe=>opt (nb [.int .i64 7,c,d,e] (zM zz 42 [(0,(.int .i64 7)),(1,c),(2,d),(3,e)])) λf=>zD (nb [f] (ze zz 48 1 [(0,f)] b)) λg j=>zD (nb [nth a 0,g] (zG zz .append [48,48] 48 [nth a 0,g] j)) λk l=>i [k] l
def tD:=λa (b:LK) c (d:za)=>
 opt (zi .add 3 46 (nth a 1) 1) λe=>b [nth c 0,e] d
def fW:=λ(d:LK) e f g a (b:za) (h:LK)=>
 opt (zi .lss 3 44 (nth a 1) 5) λi=>CD i (λc=>c [] b)
 (λc=>d [nth a 0] b)
 (λk j=>BK (tC e a j f g)
 (tD a h))
def tE:=λb a (e:za) (f:LK)=>
 opt (nb [.int .i64 17,b,nth a 1] (zM zz 42 [(0,(.int .i64 17)),(1,b),(4,(nth a 1))])) λc=>zD (nb [c] (ze zz 48 1 [(0,c)] e)) λd g=>zD (nb [nth a 0,d] (zG zz .append [48,48] 48 [nth a 0,d] g)) λh i=>f [h] i
def tF:=λa (b:LK) c (d:za)=>
 opt (zi .add 3 60 (nth a 1) 1) λe=>b [nth c 0,e] d
def fX:=λ(d:LK) e a (b:za) (f:LK)=>
 opt (zi .leq 3 58 (nth a 1) 26) λg=>CD g (λc=>c [] b)
 (λc=>d [nth a 0] b)
 (λi h=>BK (tE e a h)
 (tF a f))
def tG:=λh a (b:za) c d (i:LK)=>
 qk 22 h (nth a 1) 3 b λe=>opt (nb [.int .i64 8,c,e,d] (zM zz 42 [(0,(.int .i64 8)),(1,c),(3,e),(6,d)])) λf=>zD (nb [f] (ze zz 48 1 [(0,f)] b)) λg j=>zD (nb [nth a 0,g] (zG zz .append [48,48] 48 [nth a 0,g] j)) λk l=>i [k] l
def tH:=λa (b:LK) c (d:za)=>
 opt (zi .add 3 100 (nth a 1) 1) λe=>b [nth c 0,e] d
def fY:=λ(d:LK) e f g a (b:za) (h:LK)=>
 opt (zi .lss 3 98 (nth a 1) 5) λi=>CD i (λc=>c [] b)
 (λc=>d [nth a 0] b)
 (λk j=>BK (tG e a j f g)
 (tH a h))
def nV:=λb c a d (h:za) (i:LK)=>
 opt (nb [.int .i64 3,b,c,nth a 1,d] (zM zz 42 [(0,(.int .i64 3)),(1,b),(2,c),(3,(nth a 1)),(6,d)])) λe=>opt (nb [.int .i64 4,b,c,nth a 1,d] (zM zz 42 [(0,(.int .i64 4)),(1,b),(2,c),(3,(nth a 1)),(6,d)])) λf=>zD (nb [e,f] (ze zz 48 2 [(0,e),(1,f)] h)) λg j=>zD (nb [nth a 0,g] (zG zz .append [48,48] 48 [nth a 0,g] j)) λk l=>i [k] l
def nW:=λa (b:LK) c (d:za)=>
 opt (zi .mul 3 114 (nth a 1) 2) λe=>b [nth c 0,e] d
def WZ:=λ(d:LK) e f g a (b:za) (h:LK)=>
 opt (zi .leq 3 112 (nth a 1) 8) λi=>CD i (λc=>c [] b)
 (λc=>d [nth a 0] b)
 (λk j=>BK (nV e f a g j)
 (nW a h))
def nX:=λm c (e:za) b d n (o:LK)=>
 qk 67 m (nth c 1) 2 e λa=>opt (nb [.int .i64 2,b,a] (zM zz 42 [(0,(.int .i64 2)),(1,b),(6,a)])) λf=>opt (nb [.int .i64 16,b,a] (zM zz 42 [(0,(.int .i64 16)),(1,b),(6,a)])) λg=>opt (nb [.int .i64 5,d,b,a] (zM zz 42 [(0,(.int .i64 5)),(1,d),(2,b),(6,a)])) λh=>opt (nb [.int .i64 23,a] (zM zz 42 [(0,(.int .i64 23)),(6,a)])) λi=>opt (nb [.int .i64 24,a] (zM zz 42 [(0,(.int .i64 24)),(6,a)])) λj=>opt (nb [.int .i64 8,b,.int .i64 13,a] (zM zz 42 [(0,(.int .i64 8)),(1,b),(3,(.int .i64 13)),(6,a)])) λk=>zD (nb [f,g,h,i,j,k] (ze zz 48 6 [(0,f),(1,g),(2,h),(3,i),(4,j),(5,k)] e)) λl p=>zD (nb [nth c 0,l] (zG zz .append [48,48] 48 [nth c 0,l] p)) λq r=>BK (λs=>LP (fY s n b a)
 [q,.int .i64 0] r)
 (λt u=>BK (λv=>LP (WZ v d b a)
 [nth t 0,.int .i64 1] u)
 (λw x=>o [nth w 0] x))
def nY:=λa (b:LK) c (d:za)=>
 opt (zi .add 3 72 (nth a 1) 1) λe=>b [nth c 0,e] d
def ct:=λb (e:LK) f g h a (i:za) (j:LK)=>
 zD (uy 67 b i) λk c=>opt (xL .lss 3 68 70 (nth a 1) k) λl=>CD l (λd=>d [] c)
 (λd=>e [nth a 0] c)
 (λn m=>BK (nX b a m f g h)
 (nY a j))
def nZ:=λa b c d (R:VK) e (f:za)=>
 BK (λg=>LP (fX g a)
 [nth e 0,.int .i64 21] f)
 (λh i=>BK (λj=>LP (ct b j a c d)
 [nth h 0,.int .i64 0] i)
 (λk l=>rv [nth k 0] l R))
def Ht:=λ(h:za) b a p (R:VK)=>
 opt (nb [.int .i64 1,a,b] (zM zz 42 [(0,(.int .i64 1)),(1,a),(2,b)])) λc=>opt (nb [.int .i64 15,a,b] (zM zz 42 [(0,(.int .i64 15)),(1,a),(2,b)])) λd=>opt (nb [.int .i64 14,a] (zM zz 42 [(0,(.int .i64 14)),(2,a)])) λe=>opt (nb [.int .i64 10,b,a,.int .i64 3] (zM zz 42 [(0,(.int .i64 10)),(1,b),(2,a),(3,(.int .i64 3))])) λf=>opt (nb [.int .i64 10,b,a,.int .i64 4] (zM zz 42 [(0,(.int .i64 10)),(1,b),(2,a),(3,(.int .i64 4))])) λg=>opt (nb [.int .i64 9,a,.int .i64 2] (zM zz 42 [(0,(.int .i64 9)),(1,a),(3,(.int .i64 2))])) λi=>opt (nb [.int .i64 9,a,.int .i64 1] (zM zz 42 [(0,(.int .i64 9)),(1,a),(3,(.int .i64 1))])) λj=>opt (nb [.int .i64 12,a,.int .i64 19] (zM zz 42 [(0,(.int .i64 12)),(1,a),(3,(.int .i64 19))])) λk=>opt (nb [.int .i64 12,a,.int .i64 20] (zM zz 42 [(0,(.int .i64 12)),(1,a),(3,(.int .i64 20))])) λl=>opt (nb [.int .i64 7,b,a,.int .i64 13] (zM zz 42 [(0,(.int .i64 7)),(1,b),(2,a),(3,(.int .i64 13))])) λm=>zD (nb [c,d,e,f,g,i,j,k,l,m] (ze zz 48 10 [(0,c),(1,d),(2,e),(3,f),(4,g),(5,i),(6,j),(7,k),(8,l),(9,m)] h)) λn q=>zD (nb [.slice none 0 0,n] (zG zz .append [48,48] 48 [.slice none 0 0,n] q)) λr s=>zD (nb [.int .i64 11,.int .i64 12,.int .i64 16,.int .i64 17,.int .i64 18] (ze zz 22 5 [(0,(.int .i64 11)),(1,(.int .i64 12)),(2,(.int .i64 16)),(3,(.int .i64 17)),(4,(.int .i64 18))] s)) λo t=>BK (λu=>LP (fW u o a b)
 [r,.int .i64 0] t)
 (nZ a p b o R)
theorem Fw(hw:Ht h t0 t1 t2 R):DC zz 76 [t0,t1,t2] h R:=xp (by kernel_rfl) hw
def ir:=λd e (a:za) f b (R:VK) (k:LK)=>
 qk 48 d (nth e 1) 42 a λg=>zD (uy 29 f a) λh i=>opt (wg 42 b g i) λc=>opt (zd zz 42 b c) λj=>rv [j,h] c R
def iu:=λd e (a:za) b (R:VK) (h:LK)=>
 qk 48 d (nth e 1) 42 a λf=>opt (wg 42 b f a) λc=>opt (zd zz 42 b c) λg=>rv [g,.int .i64 10] c R
def iw:=λb c d e (R:VK) f (g:LK) h (i:za)=>
 zP zz (fn 36) [b,h] i (λj a=>CD j (iu c d a e R)
 (λk=>k [nth f 0] a)
 (λl m=>g [nth l 0] m))
def iy:=λc d (e:za) k l (R:VK) m (n:LK) f=>
 opt (xR zz 48 c (nth d 1)) λo=>zI 42 o 1 3 e λp=>opt (zi .and 3 74 p 7) λg=>opt (nb [.int .i64 184,g] (zK zz .add 3 (.const (.int .i64 184)) (.tmp 75) (.int .i64 184) g)) λh=>zD (nb [h] (xg zz 3 5 h e)) λi b=>zD (nb [f,i] (ze zz 29 2 [(0,f),(1,i)] b)) λq a=>opt (xR zz 48 c (nth d 1)) λr=>opt (zp zz 42 r 6) λs=>opt (zd zz 2 s (cut a b.next a.next)) λt=>Yy zz 39 [t,.int .i64 8] (cut a b.next a.next) a (λu j=>cB zz [29,29] 29 [q,u] (some (b.next,a.next)) j j (iw k c d l R m n))
def iz:=λb c (a:za) d e (R:VK) f (g:LK)=>
 opt (xR zz 48 b (nth c 1)) λh=>zI 42 h 1 3 a λi=>qu zz 38 [.int .u8 72,.int .i64 0,i] a (iy b c a d e R f g)
def XA:=λc d e f g (R:VK) a (h:LK) i (b:za)=>
 opt (pk c i (.bool false)) λj=>CD j (iz d e b f g R a)
 (λk=>k [nth a 0] b)
 (λl m=>h [nth l 0] m)
def XB:=λa c d e f (R:VK) g (h:LK) i (b:za)=>
 zg a true (zi .geq 3 61 i 10) b (XA a c d e f R g h) b
def XC:=λe b f g h (R:VK) i (j:LK) k (c:za)=>
 opt (pk e k (.bool false)) λa=>GD a true (λl=>l b c) (λm d=>GD a true (λn=>zD (uy 29 m d) λo p=>n o p) (XB a f g b h R i j) d) c
def KE:=λa d e f g (R:VK) h (i:LK) j (b:za)=>
 zg a true (zd zz 2 j b) b (λk c=>GD a true (λl=>zP zz (fn 37) [k] c (λm n=>l m n)) (XC a d e f g R h i) c) b
def Qg:=λa d e f g h (R:VK) i (j:LK) k (b:za)=>
 zg a true (xR zz 48 d k) b (λl c=>zg a true (zp zz 42 l 6) c (KE a e f g h R i j) c) b
def dt:=λa b f g (R:VK) (h:LK) i (c:za)=>
 opt (xR zz 48 a (nth b 1)) λj=>zI 42 j 0 3 c λk=>opt (zi .eql 3 49 k 2) λd=>GD d true (λl=>l a c) (λm e=>GD d true (λn=>n (nth b 1) e) (Qg d m f a b g R i h) e) c
def du:=λb c a d (R:VK) (g:LK) e (h:za)=>
 zP zz (fn 36) [b,e] h (λi f=>CD i (ir c a f e d R)
 (λj=>j [nth a 0] f)
 (dt c a b d R g))
def Qh:=λa b d e (R:VK) (f:LK) (h:List aaa) (c:za)=>
 qk 48 a (nth b 1) 42 c λg=>zP zz (fn 29) [g,.int .i64 0] c (du d a b e R f)
def dv:=λb a (c:za) g h (R:VK) (d:LK)=>
 qk 48 b (nth a 1) 42 c λi=>zP zz (fn 27) [i] c (λj e=>opt (DP zz .not j) λk=>CD k (λf=>d [nth a 0] e)
 (λf=>f [] e)
 (Qh b a g h R d))
def Qi:=λa (b:LK) c (d:za)=>
 opt (zi .add 3 23 (nth a 1) 1) λe=>b [nth c 0,e] d
def dw:=λb (e:LK) f g (R:VK) a (h:za) (i:LK)=>
 zD (uy 48 b h) λj c=>opt (xL .lss 3 19 21 (nth a 1) j) λk=>CD k (λd=>d [] c)
 (λd=>e [nth a 0] c)
 (λm l=>BK (dv b a l f g R)
 (Qi a i))
def dx:=λa (R:VK) b (d:za)=>
 opt (Kn b 0) λe=>opt (Kn b 1) λf=>opt (wg 42 a e d) λc=>opt (zd zz 42 a c) λg=>rv [g,f] c R
def dy:=λb a (R:VK) c d e f g (h:za)=>
 BK (λi=>LP (dw g i b a R)
 [.int .i64 0,.int .i64 0] h)
 (λk j=>zP zz (fn 40) [c,d,e,f] j (dx a R))
def sH:=λ(h:za) a e f b (R:VK)=>
 jz 42 h λg c=>opt (nb [a] (cond (sj (some b)&&sj none) (Cg zz 29 a (some b) none c) none)) λd=>zP zz (fn 35) [d] c (dy d g R a e f b)
theorem AU(hw:sH h t0 t1 t2 t3 R):DC zz 17 [t0,t1,t2,t3] h R:=kN mixed (q:=qs) (n:=200) (Eq.mpr (by kernel_rfl) hw)
def Qa:=λa c (R:VK) d (b:za)=>
 zg a true (xL .eql 9 20 22 c d) b (λe f=>opt (pk a e (.bool false)) λg=>rv [g] f R) b
def Qb:=λa e (R:VK) f (c:za)=>
 GD a true (λg=>g e c) (λd b=>GD a true (λh=>zD (nb [d] (xg zz 29 9 d b)) λi _=>h i b) (Qa a f R) b) c
def Qc:=λa d g (R:VK) e (b:za)=>
 zg a true (nb [d] (cond (sj none&&sj (some e)) (Cg zz 29 d none (some e) b) none)) b (λf c=>GD a true (λh=>zD (nb [f] (xg zz 29 9 f c)) λi _=>h i c) (Qb a g R) c) b
def Qd:=λa c (R:VK) e (d:za)=>
 GD a true (λf=>f c d) (λg b=>GD a true (λh=>zD (uy 29 g b) λi _=>h i b) (Qc a e c R) b) d
def Qe:=λa e f g (R:VK) h (b:za)=>
 zg a true (xL .leq 3 10 12 e h) b (λi c=>opt (pk a i (.bool false)) λd=>GD d true (λj=>j f c) (Qd d g R) c) b
def Qf:=λa c e (R:VK) f (d:za)=>
 GD a true (λg=>g c d) (λh b=>GD a true (λi=>zD (uy 29 h b) λj _=>i j b) (Qe a f c e R) b) d
def CB:=λ(h:za) d a (R:VK)=>
 zD (uy 29 a h) λe _=>opt (zi .gtr 3 6 e 0) λb=>GD b true (λf=>f a h) (λg c=>GD b true (λi=>zD (uy 29 g c) λj _=>i j c) (Qf b d a R) c) h
theorem CC(hw:CB h t0 t1 R):DC zz 36 [t0,t1] h R:=kN mixed (q:=qs) (n:=200) (Eq.mpr (by kernel_rfl) hw)
def CV:=λa (d:za) (e:LK)=>
 opt (nb [.int .i64 19,nth a 1] (zM zz 42 [(0,(.int .i64 19)),(4,(nth a 1))])) λb=>zD (nb [b] (ze zz 48 1 [(0,b)] d)) λc f=>zD (nb [nth a 0,c] (zG zz .append [48,48] 48 [nth a 0,c] f)) λg h=>e [g] h
def CW:=λa (b:LK) c (d:za)=>
 opt (zi .add 3 51 (nth a 1) 1) λe=>b [nth c 0,e] d
def nJ:=λ(d:LK) a (b:za) (e:LK)=>
 opt (zi .leq 3 49 (nth a 1) 26) λf=>CD f (λc=>c [] b)
 (λc=>d [nth a 0] b)
 (λh g=>BK (CV a g)
 (CW a e))
def CX:=λa b (c:za) d (o:LK)=>
 opt (zi .add 3 62 a 2) λp=>qk 29 b p 5 c λe=>opt (nb [e,.int .u64 3] (zK zz .shr 5 (.tmp 65) (.const (.int .u64 3)) e (.int .u64 3))) λf=>opt (nb [f,.int .u8 7] (zK zz .and 5 (.tmp 66) (.const (.int .u8 7)) f (.int .u8 7))) λg=>zD (nb [g] (xg zz 5 3 g c)) λq h=>qk 29 b a 5 h λi=>opt (nb [i,.int .u64 2] (zK zz .shr 5 (.tmp 72) (.const (.int .u64 2)) i (.int .u64 2))) λj=>opt (nb [j,.int .u8 1] (zK zz .and 5 (.tmp 73) (.const (.int .u8 1)) j (.int .u8 1))) λk=>zD (nb [k] (xg zz 5 3 k h)) λr s=>opt (zi .mul 3 75 r 8) λt=>opt (xL .add 3 68 76 q t) λl=>opt (nb [.int .i64 6,l] (zM zz 42 [(0,(.int .i64 6)),(1,l)])) λm=>zD (nb [m] (ze zz 48 1 [(0,m)] s)) λn u=>zD (nb [nth d 0,n] (zG zz .append [48,48] 48 [nth d 0,n] u)) λv w=>o [v] w
def CY:=λd (a:za) b e (R:VK) (h:LK)=>
 opt (zd zz 42 d a) λf=>opt (wg 42 b f a) λc=>opt (zd zz 42 b c) λg=>rv [g,nth e 1] c R
def CZ:=λa (R:VK) (f:List aaa) (c:za)=>
 opt (nb [] (zM zz 42 [])) λd=>opt (wg 42 a d c) λb=>opt (zd zz 42 a b) λe=>rv [e,.int .i64 0] b R
def C0:=λa e (R:VK) f b (g:za)=>
 opt (Kn b 0) λh=>opt (Kn b 1) λi=>jz 42 g λc j=>opt (wg 42 c h j) λd=>CD i (CY c d a e R)
 (λk=>k [nth f 0] d)
 (CZ a R)
def C1:=λb c d e f g h (R:VK) i (m:List aaa) (a:za)=>
 opt (zd zz 42 b a) λj=>zD (uy 29 c a) λk l=>zP zz (fn 77) [j,d,k,e,f] l (C0 g h R i)
def C3:=λb d c (e:za) (k:LK) f l m n o p (R:VK) g (a:za)=>
 zD (nb [g] (xg zz 29 9 g a)) λq _=>opt (xL .add 3 97 98 b (nth d 1)) λh=>opt (nb [c] (cond (sj (some b)&&sj (some h)) (Cg zz 29 c (some b) (some h) (cut a e.next a.next)) none)) λi=>zD (nb [i] (xg zz 29 9 i (cut a e.next a.next))) λr _=>opt (xL .neq 9 94 101 q r) λs=>CD s (λj=>k [nth f 0] a)
 (λj=>j [] a)
 (C1 l c m n o p d R f)
def fR:=λe c (d:za) f g h i j k l m (R:VK) (n:LK)=>
 qk 48 (nth e 0) (nth c 1) 42 d λo=>jz 42 d λb p=>opt (wg 42 b o p) λa=>opt (zd zz 42 b a) λq=>Yy zz 29 [q,f] a a (C3 g h i a n c b j k l m R)
def ta:=λa (b:LK) c (d:za)=>
 opt (zi .add 3 85 (nth a 1) 1) λe=>b [nth c 0,e] d
def JY:=λb (e:LK) f g h i j k l m (R:VK) a (n:za) (o:LK)=>
 zD (uy 48 (nth b 0) n) λp c=>opt (xL .lss 3 81 83 (nth a 1) p) λq=>CD q (λd=>d [] c)
 (λd=>e [nth a 0] c)
 (λs r=>BK (fR b a r f g h i j k l m R)
 (ta a o))
def td:=λa b c f g h i j (R:VK) (k:LK) d (e:za)=>
 opt (zi .eql 3 58 (nth a 1) 7) λl=>CD l (CX b c e d)
 (λm=>m [nth d 0] e)
 (λn o=>BK (λp=>LP (JY n p f b a c g h i j R)
 [nth a 0,.int .i64 0] o)
 (λq r=>k [nth q 0] r))
def tg:=λa b f g h i (R:VK) (j:LK) c (k:za)=>
 opt (xL .add 3 41 42 a (nth b 1)) λl=>opt (xL .add 2 43 44 l c) λm=>opt (nb [.int .i64 18] (zM zz 42 [(0,(.int .i64 18))])) λd=>opt (nb [.int .i64 21] (zM zz 42 [(0,(.int .i64 21))])) λe=>zD (nb [d,e] (ze zz 48 2 [(0,d),(1,e)] k)) λn o=>BK (λp=>LP (nJ p)
 [n,.int .i64 21] o)
 (td b a f c m g h i R j)
def fS:=λa b c (d:za) g h i (R:VK) (j:LK)=>
 opt (xL .add 3 32 33 a (nth b 1)) λk=>opt (zi .sub 3 34 k 4) λe=>opt (xL .add 3 36 37 a (nth b 1)) λf=>opt (nb [c] (cond (sj (some e)&&sj (some f)) (Cg zz 29 c (some e) (some f) d) none)) λl=>zP zz (fn 75) [l] d (tg a b c g h i R j)
def th:=λa (b:LK) c (d:za)=>
 opt (zi .add 3 29 (nth a 1) 1) λe=>b [nth c 0,e] d
def JZ:=λd (e:LK) a f g h i j (R:VK) (k:LK) l (b:za)=>
 opt (pk d l (.bool false)) λm=>CD m (λc=>c [] b)
 (λc=>e [nth a 0] b)
 (λo n=>BK (fS f a g n h i j R)
 (th a k))
def J1:=λa c (d:LK) e f g h i j (R:VK) (k:LK) l (b:za)=>
 zg a true (xL .leq 3 22 26 c l) b (JZ a d e f g h i j R k) b
def J2:=λa c d (e:LK) f g h i j k (R:VK) (l:LK) m (b:za)=>
 zg a true (xL .sub 3 24 25 c m) b (J1 a d e f g h i j k R l) b
def J3:=λa c f (g:LK) h i j k l (R:VK) (m:LK) n (d:za)=>
 GD a true (λo=>zD (uy 29 n d) λb p=>o b p) (λb e=>GD a true (λq=>q c e) (J2 a b f g h c i j k l R m) e) d
def tj:=λc f (g:LK) h i j (R:VK) a (d:za) (k:LK)=>
 opt (zi .leq 3 19 (nth a 1) 7) λb=>GD b true (λl=>l (nth a 1) d) (λm e=>GD b true (λn=>n c e) (J3 b f m g a c h i j R k) e) d
def fT:=λa (R:VK) (f:List aaa) (c:za)=>
 opt (nb [] (zM zz 42 [])) λd=>opt (wg 42 a d c) λb=>opt (zd zz 42 a b) λe=>rv [e,.int .i64 0] b R
def MX:=λ(h:za) b c d e (R:VK)=>
 jz 42 h λa f=>BK (λg=>LP (tj b e g c d a R)
 [.int .i64 0,.int .i64 5] f)
 (fT a R)
theorem I8(hw:MX h t0 t1 t2 t3 R):DC zz 40 [t0,t1,t2,t3] h R:=kN mixed (q:=qs) (n:=200) (Eq.mpr (by kernel_rfl) hw)
def dM:=λa e f b (R:VK) g (c:za)=>
 zg a true (xL .leq 2 26 27 e g) c (λh i=>opt (pk a h (.bool false)) λj=>opt (wg 42 b f i) λd=>opt (zd zz 42 b d) λk=>rv [k,j] d R) c
def CL:=λa e (f:za) b (R:VK) (i:LK)=>
 Z1 42 a 3 3 (nth e 1) f λc=>opt (zd zz 42 a c) λg=>opt (wg 42 b g c) λd=>opt (zd zz 42 b d) λh=>rv [h,.bool true] d R
def nF:=λc a (b:za) d e f (R:VK) (g:LK)=>
 qk 22 c (nth a 1) 3 b λh=>opt (xL .eql 2 41 42 h d) λi=>CD i (CL e a b f R)
 (λj=>j [nth a 0] b)
 (λk l=>g [nth k 0] l)
def CM:=λa (b:LK) c (d:za)=>
 opt (zi .add 3 36 (nth a 1) 1) λe=>b [nth c 0,e] d
def CN:=λb (e:LK) f g h (R:VK) a (i:za) (j:LK)=>
 zD (uy 22 b i) λk c=>opt (xL .lss 3 32 34 (nth a 1) k) λl=>CD l (λd=>d [] c)
 (λd=>e [nth a 0] c)
 (λn m=>BK (nF b a m f g h R)
 (CM a j))
def CO:=λd a (R:VK) (g:List aaa) (b:za)=>
 opt (zd zz 42 d b) λe=>opt (wg 42 a e b) λc=>opt (zd zz 42 a c) λf=>rv [f,.bool false] c R
def nG:=λd a (f:za) g h (R:VK) (m:LK)=>
 Z1 42 d 5 3 a f λb=>opt (zd zz 42 d b) λi=>opt (zi .geq 2 23 a 0) λc=>GD c true (λj=>j a b) (λk e=>GD c true (λl=>l g e) (dM c k i h R) e) b
def nH:=λe f g a b (R:VK) (c:za) (h:LK)=>
 opt (zi .eql 3 16 e 21) λi=>CD i (λd=>BK (λj=>LP (CN f j g a b R)
 [.bool false,.int .i64 0] c)
 (CO a b R))
 (λd=>d [.bool false] c)
 (λk l=>h [nth k 0] l)
def KK:=λa (c:za) d e i f (R:VK) j (k:LK)=>
 opt (zi .eql 3 16 a 18) λg=>CD g (λb=>b [g] c)
 (λb=>opt (zi .eql 3 16 a 19) λl=>b [l] c)
 (λm h=>CD (nth m 0) (nG d e h i f R)
 (nH a j e d f R h)
 (λn o=>k [nth n 0] o))
def sP:=λd (a:za) b (R:VK) (g:LK)=>
 opt (zd zz 42 d a) λe=>opt (wg 42 b e a) λc=>opt (zd zz 42 b c) λf=>rv [f,.bool false] c R
def sQ:=λa b (g:za) h i c (R:VK) (n:LK)=>
 Z1 42 a 3 3 (nth b 1) g λd=>qk 67 h (nth b 1) 2 d λj=>opt (xL .sub 2 81 85 i j) λk=>Z1 42 a 6 2 k d λe=>opt (zd zz 42 a e) λl=>opt (wg 42 c l e) λf=>opt (zd zz 42 c f) λm=>rv [m,.bool true] f R
def JO:=λc d a e f g (R:VK) (h:LK) i (b:za)=>
 opt (pk c i (.bool false)) λj=>CD j (sQ d a b e f g R)
 (λk=>k [nth a 0] b)
 (λl m=>h [nth l 0] m)
def JP:=λa c d e f g h (R:VK) (i:LK) j (b:za)=>
 zg a true (xL .leq 2 67 76 c j) b (JO a d e f g h R i) b
def JQ:=λa c d e f g h i (R:VK) (j:LK) k (b:za)=>
 zg a true (xL .add 2 71 75 c k) b (JP a d e f g h i R j) b
def JR:=λa d e f g h i j k (R:VK) (l:LK) m (c:za)=>
 zg a true (xR zz 22 d m) c (λn b=>zg a true (zd zz 3 n b) b (JQ a e f g h i j k R l) b) c
def JS:=λa f c g h i j k (R:VK) (l:LK) m (b:za)=>
 zg a true (zd zz 2 m b) b (λn d=>GD a true (λo=>o f d) (λp e=>GD a true (λq=>q (nth c 1) e) (JR a p n g h c i j k R l) e) d) b
def JT:=λa b e f g h i j (R:VK) (k:LK) l (c:za)=>
 GD a true (λm=>m (nth b 1) c) (λn d=>zg a true (xR zz 67 l n) d (JS a e b f g h i j R k) d) c
def JU:=λa e (b:za) c g h i (R:VK) (j:LK)=>
 qk 67 a (nth e 1) 2 b λk=>opt (xL .geq 2 60 64 c k) λd=>GD d true (λl=>l c b) (λm f=>GD d true (λn=>n a f) (JT d e g m h a c i R j) f) b
def fN:=λa (b:LK) c (d:za)=>
 opt (zi .add 3 58 (nth a 1) 1) λe=>b [nth c 0,e] d
def sR:=λb (e:LK) f g h i (R:VK) a (j:za) (k:LK)=>
 zD (uy 67 b j) λl c=>opt (xL .lss 3 54 56 (nth a 1) l) λm=>CD m (λd=>d [] c)
 (λd=>e [nth a 0] c)
 (λo n=>BK (JU b a n f g h i R)
 (fN a k))
def sS:=λd a (R:VK) (g:List aaa) (b:za)=>
 opt (zd zz 42 d b) λe=>opt (wg 42 a e b) λc=>opt (zd zz 42 a c) λf=>rv [f,.bool false] c R
def sU:=λa d b c (R:VK) e (f:za)=>
 zP zz (fn 30) [a] f (λg h=>BK (λi=>LP (sR g i d a b c R)
 [nth e 0,.int .i64 0] h)
 (sS b c R))
def JV:=λa c (R:VK) d e f (b:za)=>
 zI 42 a 1 3 b λg=>opt (zi .eql 3 49 g 4) λh=>CD h (sP a b c R)
 (λi=>i [nth f 0] b)
 (sU d e a c R)
def MU:=λ(h:za) b c f g i (R:VK)=>
 opt (nb [b] (some (Value.cells b).toList)) λj=>nw h j 42 λa k=>jz 42 k λd e=>zI 42 a 0 3 e λl=>BK (KK l e a c f d R g)
 (JV a d R i c)
theorem I6(hw:MU h t0 t1 t2 t3 t4 R):DC zz 77 [t0,t1,t2,t3,t4] h R:=xp (by kernel_rfl) hw
end Go.Ed
namespace Go.Ai
open Go.Ai Go.Proofs
theorem gy:FcN 132 5:=UD (by kernel_rfl) (by kernel_rfl)
theorem xY:Sf 2:=Ye (by kernel_rfl)
theorem ZH:Sf 4:=Ye (by kernel_rfl)
theorem Ze:FcA 48 42 7 56:=λr v x n w h h1 h2 h3 h4=>UF (e:=42) (e2:=42) (by kernel_rfl) (by kernel_rfl) (by kernel_rfl) (by kernel_rfl) (by decide) h1 h2 h3 h4
theorem oF:FcM 132 5:=QG (by kernel_rfl)
theorem FJ:FcI 2:=λb o _ h=>QH (by kernel_rfl) b o _ h rfl
theorem V9:FcI 3:=λb o _ h=>QH (by kernel_rfl) b o _ h rfl
theorem jH(b off:Nat)(v:Bool)(h:za):ux Tryz.prog 4 (.pointer (some ⟨b,off,none⟩)) (.bool v) h=AK h b off [(.bool v)]:=QH (by kernel_rfl) b off _ h rfl
theorem oJ:YT Tryz.prog 132=some (.agg #[(.int .i64 0),(.int .i64 0),(.bool false),(.bool false),(.int .i64 0)]):=yG (by kernel_rfl)
theorem zcw:YT Tryz.prog 2=some (.int .i64 0):=yG (by kernel_rfl)
theorem FM(v0:Int)(v1:Int):zM Tryz.prog 132 [(0,(.int .i64 v0)),(1,(.int .i64 v1))]=some (.agg #[(.int .i64 v0),(.int .i64 v1),(.bool false),(.bool false),(.int .i64 0)]):=yG (by kernel_rfl)
theorem vL(v0:Int):zM Tryz.prog 42 [(0,(.int .i64 v0))]=some (.agg #[(.int .i64 v0),(.int .i64 0),(.int .i64 0),(.int .i64 0),(.int .i64 0),(.int .i64 0),(.int .i64 0)]):=yG (by kernel_rfl)
theorem Lv(v0:Int)(v1:Int):zM Tryz.prog 42 [(0,(.int .i64 v0)),(1,(.int .i64 v1))]=some (.agg #[(.int .i64 v0),(.int .i64 v1),(.int .i64 0),(.int .i64 0),(.int .i64 0),(.int .i64 0),(.int .i64 0)]):=yG (by kernel_rfl)
theorem K1(v0:Int)(v1:Int)(v2:Int):zM Tryz.prog 42 [(0,(.int .i64 v0)),(1,(.int .i64 v1)),(2,(.int .i64 v2))]=some (.agg #[(.int .i64 v0),(.int .i64 v1),(.int .i64 v2),(.int .i64 0),(.int .i64 0),(.int .i64 0),(.int .i64 0)]):=yG (by kernel_rfl)
theorem aY(v0:Int)(v1:Int)(v2:Int)(v3:Int):zM Tryz.prog 42 [(0,(.int .i64 v0)),(1,(.int .i64 v1)),(2,(.int .i64 v2)),(3,(.int .i64 v3))]=some (.agg #[(.int .i64 v0),(.int .i64 v1),(.int .i64 v2),(.int .i64 v3),(.int .i64 0),(.int .i64 0),(.int .i64 0)]):=yG (by kernel_rfl)
theorem lF(v0:Int)(v1:Int)(v2:Int)(v3:Int)(v6:Int):zM Tryz.prog 42 [(0,(.int .i64 v0)),(1,(.int .i64 v1)),(2,(.int .i64 v2)),(3,(.int .i64 v3)),(6,(.int .i64 v6))]=some (.agg #[(.int .i64 v0),(.int .i64 v1),(.int .i64 v2),(.int .i64 v3),(.int .i64 0),(.int .i64 0),(.int .i64 v6)]):=yG (by kernel_rfl)
theorem aZ(v0:Int)(v1:Int)(v2:Int)(v6:Int):zM Tryz.prog 42 [(0,(.int .i64 v0)),(1,(.int .i64 v1)),(2,(.int .i64 v2)),(6,(.int .i64 v6))]=some (.agg #[(.int .i64 v0),(.int .i64 v1),(.int .i64 v2),(.int .i64 0),(.int .i64 0),(.int .i64 0),(.int .i64 v6)]):=yG (by kernel_rfl)
theorem iX(v0:Int)(v1:Int)(v3:Int):zM Tryz.prog 42 [(0,(.int .i64 v0)),(1,(.int .i64 v1)),(3,(.int .i64 v3))]=some (.agg #[(.int .i64 v0),(.int .i64 v1),(.int .i64 0),(.int .i64 v3),(.int .i64 0),(.int .i64 0),(.int .i64 0)]):=yG (by kernel_rfl)
theorem yw(v0:Int)(v1:Int)(v3:Int)(v6:Int):zM Tryz.prog 42 [(0,(.int .i64 v0)),(1,(.int .i64 v1)),(3,(.int .i64 v3)),(6,(.int .i64 v6))]=some (.agg #[(.int .i64 v0),(.int .i64 v1),(.int .i64 0),(.int .i64 v3),(.int .i64 0),(.int .i64 0),(.int .i64 v6)]):=yG (by kernel_rfl)
theorem DR(v0:Int)(v1:Int)(v4:Int):zM Tryz.prog 42 [(0,(.int .i64 v0)),(1,(.int .i64 v1)),(4,(.int .i64 v4))]=some (.agg #[(.int .i64 v0),(.int .i64 v1),(.int .i64 0),(.int .i64 0),(.int .i64 v4),(.int .i64 0),(.int .i64 0)]):=yG (by kernel_rfl)
theorem yE(v0:Int)(v1:Int)(v6:Int):zM Tryz.prog 42 [(0,(.int .i64 v0)),(1,(.int .i64 v1)),(6,(.int .i64 v6))]=some (.agg #[(.int .i64 v0),(.int .i64 v1),(.int .i64 0),(.int .i64 0),(.int .i64 0),(.int .i64 0),(.int .i64 v6)]):=yG (by kernel_rfl)
theorem tS(v0:Int)(v2:Int):zM Tryz.prog 42 [(0,(.int .i64 v0)),(2,(.int .i64 v2))]=some (.agg #[(.int .i64 v0),(.int .i64 0),(.int .i64 v2),(.int .i64 0),(.int .i64 0),(.int .i64 0),(.int .i64 0)]):=yG (by kernel_rfl)
theorem iY(v0:Int)(v3:Int)(v1:Int):zM Tryz.prog 42 [(0,(.int .i64 v0)),(3,(.int .i64 v3)),(1,(.int .i64 v1))]=some (.agg #[(.int .i64 v0),(.int .i64 v1),(.int .i64 0),(.int .i64 v3),(.int .i64 0),(.int .i64 0),(.int .i64 0)]):=yG (by kernel_rfl)
theorem Xs(v0:Int)(v3:Int)(v1:Int)(v2:Int):zM Tryz.prog 42 [(0,(.int .i64 v0)),(3,(.int .i64 v3)),(1,(.int .i64 v1)),(2,(.int .i64 v2))]=some (.agg #[(.int .i64 v0),(.int .i64 v1),(.int .i64 v2),(.int .i64 v3),(.int .i64 0),(.int .i64 0),(.int .i64 0)]):=yG (by kernel_rfl)
theorem Kh(v0:Int)(v3:Int)(v1:Int)(v2:Int)(v6:Int):zM Tryz.prog 42 [(0,(.int .i64 v0)),(3,(.int .i64 v3)),(1,(.int .i64 v1)),(2,(.int .i64 v2)),(6,(.int .i64 v6))]=some (.agg #[(.int .i64 v0),(.int .i64 v1),(.int .i64 v2),(.int .i64 v3),(.int .i64 0),(.int .i64 0),(.int .i64 v6)]):=yG (by kernel_rfl)
theorem Ua(v0:Int)(v3:Int)(v1:Int)(v6:Int):zM Tryz.prog 42 [(0,(.int .i64 v0)),(3,(.int .i64 v3)),(1,(.int .i64 v1)),(6,(.int .i64 v6))]=some (.agg #[(.int .i64 v0),(.int .i64 v1),(.int .i64 0),(.int .i64 v3),(.int .i64 0),(.int .i64 0),(.int .i64 v6)]):=yG (by kernel_rfl)
theorem gF(v0:Int)(v4:Int):zM Tryz.prog 42 [(0,(.int .i64 v0)),(4,(.int .i64 v4))]=some (.agg #[(.int .i64 v0),(.int .i64 0),(.int .i64 0),(.int .i64 0),(.int .i64 v4),(.int .i64 0),(.int .i64 0)]):=yG (by kernel_rfl)
theorem UG(v0:Int)(v6:Int):zM Tryz.prog 42 [(0,(.int .i64 v0)),(6,(.int .i64 v6))]=some (.agg #[(.int .i64 v0),(.int .i64 0),(.int .i64 0),(.int .i64 0),(.int .i64 0),(.int .i64 0),(.int .i64 v6)]):=yG (by kernel_rfl)
theorem PD(v0:Option Addr)(v0l v0c:Nat):zM Tryz.prog 77 [(0,(.slice v0 v0l v0c))]=some (.agg #[(.slice v0 v0l v0c),(.int .i64 0),(.bool false)]):=yG (by kernel_rfl)
theorem VR(v0:Int)(v1:Int)(v2:Int)(v3:Int)(v4:Int)(h:za):ze Tryz.prog 22 5 [(0,(.int .i64 v0)),(1,(.int .i64 v1)),(2,(.int .i64 v2)),(3,(.int .i64 v3)),(4,(.int .i64 v4))] h=some (.slice (some ⟨h.next,0,none⟩) 5 7,h.push (.cells [(.int .i64 v0),(.int .i64 v1),(.int .i64 v2),(.int .i64 v3),(.int .i64 v4)] 3)):=yG (by kernel_rfl)
theorem aC(v0:Int)(v1:Int)(v2:Int)(v3:Int)(v4:Int)(v5:Int)(h:za):ze Tryz.prog 22 6 [(0,(.int .i64 v0)),(1,(.int .i64 v1)),(2,(.int .i64 v2)),(3,(.int .i64 v3)),(4,(.int .i64 v4)),(5,(.int .i64 v5))] h=some (.slice (some ⟨h.next,0,none⟩) 6 8,h.push (.cells [(.int .i64 v0),(.int .i64 v1),(.int .i64 v2),(.int .i64 v3),(.int .i64 v4),(.int .i64 v5)] 3)):=yG (by kernel_rfl)
theorem vM(v0:Int)(v1:Int)(h:za):ze Tryz.prog 29 2 [(0,(.int .u8 v0)),(1,(.int .u8 v1))] h=some (.slice (some ⟨h.next,0,none⟩) 2 4,h.push (.cells [(.int .u8 v0),(.int .u8 v1)] 5)):=yG (by kernel_rfl)
theorem xW(v00:Int)(v01:Int)(v02:Int)(v03:Int)(v04:Int)(v05:Int)(v06:Int)(h:za):ze Tryz.prog 48 1 [(0,(.agg #[(.int .i64 v00),(.int .i64 v01),(.int .i64 v02),(.int .i64 v03),(.int .i64 v04),(.int .i64 v05),(.int .i64 v06)]))] h=some (.slice (some ⟨h.next,0,none⟩) 1 3,h.push (.cells [(.int .i64 v00),(.int .i64 v01),(.int .i64 v02),(.int .i64 v03),(.int .i64 v04),(.int .i64 v05),(.int .i64 v06)] 42)):=yG (by kernel_rfl)
theorem xi(v00:Int)(v01:Int)(v02:Int)(v03:Int)(v04:Int)(v05:Int)(v06:Int)(v10:Int)(v11:Int)(v12:Int)(v13:Int)(v14:Int)(v15:Int)(v16:Int)(h:za):ze Tryz.prog 48 2 [(0,(.agg #[(.int .i64 v00),(.int .i64 v01),(.int .i64 v02),(.int .i64 v03),(.int .i64 v04),(.int .i64 v05),(.int .i64 v06)])),(1,(.agg #[(.int .i64 v10),(.int .i64 v11),(.int .i64 v12),(.int .i64 v13),(.int .i64 v14),(.int .i64 v15),(.int .i64 v16)]))] h=some (.slice (some ⟨h.next,0,none⟩) 2 4,h.push (.cells [(.int .i64 v00),(.int .i64 v01),(.int .i64 v02),(.int .i64 v03),(.int .i64 v04),(.int .i64 v05),(.int .i64 v06),(.int .i64 v10),(.int .i64 v11),(.int .i64 v12),(.int .i64 v13),(.int .i64 v14),(.int .i64 v15),(.int .i64 v16)] 42)):=yG (by kernel_rfl)
theorem yh(v00:Int)(v01:Int)(v02:Int)(v03:Int)(v04:Int)(v05:Int)(v06:Int)(v10:Int)(v11:Int)(v12:Int)(v13:Int)(v14:Int)(v15:Int)(v16:Int)(v20:Int)(v21:Int)(v22:Int)(v23:Int)(v24:Int)(v25:Int)(v26:Int)(v30:Int)(v31:Int)(v32:Int)(v33:Int)(v34:Int)(v35:Int)(v36:Int)(h:za):ze Tryz.prog 48 4 [(0,(.agg #[(.int .i64 v00),(.int .i64 v01),(.int .i64 v02),(.int .i64 v03),(.int .i64 v04),(.int .i64 v05),(.int .i64 v06)])),(1,(.agg #[(.int .i64 v10),(.int .i64 v11),(.int .i64 v12),(.int .i64 v13),(.int .i64 v14),(.int .i64 v15),(.int .i64 v16)])),(2,(.agg #[(.int .i64 v20),(.int .i64 v21),(.int .i64 v22),(.int .i64 v23),(.int .i64 v24),(.int .i64 v25),(.int .i64 v26)])),(3,(.agg #[(.int .i64 v30),(.int .i64 v31),(.int .i64 v32),(.int .i64 v33),(.int .i64 v34),(.int .i64 v35),(.int .i64 v36)]))] h=some (.slice (some ⟨h.next,0,none⟩) 4 6,h.push (.cells [(.int .i64 v00),(.int .i64 v01),(.int .i64 v02),(.int .i64 v03),(.int .i64 v04),(.int .i64 v05),(.int .i64 v06),(.int .i64 v10),(.int .i64 v11),(.int .i64 v12),(.int .i64 v13),(.int .i64 v14),(.int .i64 v15),(.int .i64 v16),(.int .i64 v20),(.int .i64 v21),(.int .i64 v22),(.int .i64 v23),(.int .i64 v24),(.int .i64 v25),(.int .i64 v26),(.int .i64 v30),(.int .i64 v31),(.int .i64 v32),(.int .i64 v33),(.int .i64 v34),(.int .i64 v35),(.int .i64 v36)] 42)):=yG (by kernel_rfl)
theorem aE(v00:Int)(v01:Int)(v02:Int)(v03:Int)(v04:Int)(v05:Int)(v06:Int)(v10:Int)(v11:Int)(v12:Int)(v13:Int)(v14:Int)(v15:Int)(v16:Int)(v20:Int)(v21:Int)(v22:Int)(v23:Int)(v24:Int)(v25:Int)(v26:Int)(v30:Int)(v31:Int)(v32:Int)(v33:Int)(v34:Int)(v35:Int)(v36:Int)(v40:Int)(v41:Int)(v42:Int)(v43:Int)(v44:Int)(v45:Int)(v46:Int)(v50:Int)(v51:Int)(v52:Int)(v53:Int)(v54:Int)(v55:Int)(v56:Int)(h:za):ze Tryz.prog 48 6 [(0,(.agg #[(.int .i64 v00),(.int .i64 v01),(.int .i64 v02),(.int .i64 v03),(.int .i64 v04),(.int .i64 v05),(.int .i64 v06)])),(1,(.agg #[(.int .i64 v10),(.int .i64 v11),(.int .i64 v12),(.int .i64 v13),(.int .i64 v14),(.int .i64 v15),(.int .i64 v16)])),(2,(.agg #[(.int .i64 v20),(.int .i64 v21),(.int .i64 v22),(.int .i64 v23),(.int .i64 v24),(.int .i64 v25),(.int .i64 v26)])),(3,(.agg #[(.int .i64 v30),(.int .i64 v31),(.int .i64 v32),(.int .i64 v33),(.int .i64 v34),(.int .i64 v35),(.int .i64 v36)])),(4,(.agg #[(.int .i64 v40),(.int .i64 v41),(.int .i64 v42),(.int .i64 v43),(.int .i64 v44),(.int .i64 v45),(.int .i64 v46)])),(5,(.agg #[(.int .i64 v50),(.int .i64 v51),(.int .i64 v52),(.int .i64 v53),(.int .i64 v54),(.int .i64 v55),(.int .i64 v56)]))] h=some (.slice (some ⟨h.next,0,none⟩) 6 8,h.push (.cells [(.int .i64 v00),(.int .i64 v01),(.int .i64 v02),(.int .i64 v03),(.int .i64 v04),(.int .i64 v05),(.int .i64 v06),(.int .i64 v10),(.int .i64 v11),(.int .i64 v12),(.int .i64 v13),(.int .i64 v14),(.int .i64 v15),(.int .i64 v16),(.int .i64 v20),(.int .i64 v21),(.int .i64 v22),(.int .i64 v23),(.int .i64 v24),(.int .i64 v25),(.int .i64 v26),(.int .i64 v30),(.int .i64 v31),(.int .i64 v32),(.int .i64 v33),(.int .i64 v34),(.int .i64 v35),(.int .i64 v36),(.int .i64 v40),(.int .i64 v41),(.int .i64 v42),(.int .i64 v43),(.int .i64 v44),(.int .i64 v45),(.int .i64 v46),(.int .i64 v50),(.int .i64 v51),(.int .i64 v52),(.int .i64 v53),(.int .i64 v54),(.int .i64 v55),(.int .i64 v56)] 42)):=yG (by kernel_rfl)
theorem wM(v0:Int)(h:za):ze Tryz.prog 67 1 [(0,(.int .i64 v0))] h=some (.slice (some ⟨h.next,0,none⟩) 1 3,h.push (.cells [(.int .i64 v0)] 2)):=yG (by kernel_rfl)
theorem FR(n:Int)(h:za):xg Tryz.prog 130 139 (.int .u64 n) h=some (.int .u32 (IntKind.wrap .u32 n),h):=yG (by kernel_rfl)
theorem NR(n:Int)(h:za):xg Tryz.prog 130 2 (.int .u64 n) h=some (.int .i64 (IntKind.wrap .i64 n),h):=yG (by kernel_rfl)
theorem LB(n:Int)(h:za):xg Tryz.prog 139 21 (.int .u32 n) h=some (.int .i32 (IntKind.wrap .i32 n),h):=yG (by kernel_rfl)
theorem Bv(n:Int)(h:za):xg Tryz.prog 21 2 (.int .i32 n) h=some (.int .i64 (IntKind.wrap .i64 n),h):=yG (by kernel_rfl)
theorem cD(n:Int)(h:za):xg Tryz.prog 3 5 (.int .i64 n) h=some (.int .u8 (IntKind.wrap .u8 n),h):=yG (by kernel_rfl)
theorem H2(n:Int)(h:za):xg Tryz.prog 3 99 (.int .i64 n) h=some (.int .u64 (IntKind.wrap .u64 n),h):=yG (by kernel_rfl)
theorem D4(n:Int)(h:za):xg Tryz.prog 5 130 (.int .u8 n) h=some (.int .u64 (IntKind.wrap .u64 n),h):=yG (by kernel_rfl)
theorem qO(n:Int)(h:za):xg Tryz.prog 5 2 (.int .u8 n) h=some (.int .i64 (IntKind.wrap .i64 n),h):=yG (by kernel_rfl)
theorem qf(n:Int)(h:za):xg Tryz.prog 5 3 (.int .u8 n) h=some (.int .i64 (IntKind.wrap .i64 n),h):=yG (by kernel_rfl)
theorem zbD(x y:Operand)(a b:ByteArray):zK Tryz.prog .eql 9 x y (.string a) (.string b)=some (.bool (a.toList == b.toList)):=yG (by kernel_rfl)
theorem xU:FcG 132 0:=λb o=>yG (by kernel_rfl)
theorem wH:Cf 132 1 1:=λb o=>yG (by kernel_rfl)
theorem Vd:Cf 132 2 2:=λb o=>yG (by kernel_rfl)
theorem Ve:Cf 132 3 3:=λb o=>yG (by kernel_rfl)
theorem UM:Cf 132 4 4:=λb o=>yG (by kernel_rfl)
theorem zc:FcG 42 0:=λb o=>yG (by kernel_rfl)
theorem z8:Cf 42 1 1:=λb o=>yG (by kernel_rfl)
theorem zq:Cf 42 3 3:=λb o=>yG (by kernel_rfl)
theorem uv:Cf 42 5 5:=λb o=>yG (by kernel_rfl)
theorem zL:Cf 42 6 6:=λb o=>yG (by kernel_rfl)
theorem Bz:FcG 77 0:=λb o=>yG (by kernel_rfl)
theorem eJ:Cf 77 1 1:=λb o=>yG (by kernel_rfl)
theorem yN:Cf 77 2 2:=λb o=>yG (by kernel_rfl)
theorem Ep:FcX 22 1:=λb o l c k i=>Zy (e:=3) (by kernel_rfl) (by kernel_rfl)
theorem BN:FcE 22:=λr a n c h=>yG (by kernel_rfl)
theorem On:FcE 67:=λr a n c h=>yG (by kernel_rfl)
theorem Yk(k k2:IntKind)(l c:Int)(h:za)(h0:0<=l)(h1:l<=c)(h2:c<2^31):YS Tryz.prog 67 (.int k l) (.int k2 c) h=some (.slice (some ⟨h.next,0,none⟩) l.toNat (c.toNat+2),h.push (.cells (YK [(.int .i64 0)] (c.toNat*1)) 2)):=Np (e:=2) (z:=(.int .i64 0)) (n:=1) (bytes:=8) (by kernel_rfl) (by kernel_rfl) (by kernel_rfl) rfl (by decide) (by decide) rfl h0 h1 h2
theorem Th(x y:Operand)(a b:ByteArray):zK Tryz.prog .neq 9 x y (.string a) (.string b)=some (.bool (!(a.toList == b.toList))):=yG (by kernel_rfl)
theorem qQ(c:Nat)(lo hi:Option aaa)(h:za):Cg Tryz.prog 29 (.slice none 0 c) lo hi h=(uB hi 0 0).bind λhh=>(uB lo 0 hh).bind λl=>some (.slice none 0 0):=PB (e:=5) (n:=1) (by kernel_rfl) (by kernel_rfl)
theorem Zl(b off len c:Nat)(lo hi:Option aaa)(h:za):Cg Tryz.prog 29 (.slice (some ⟨b,off,none⟩) len c) lo hi h=(uB hi len len).bind λhh=>(uB lo 0 hh).bind λl=>some (.slice (some ⟨b,off+l*1,none⟩) (hh-l) (cond (wide Tryz.prog h b 1) (Uc c l) 0)):=Ln (e:=5) (by kernel_rfl) (by kernel_rfl)
end Go.Ai
namespace Go.Eb
open Go.Ai Go.Proofs Go.Proofs.Tryz
noncomputable abbrev zz:=prog
abbrev VK:=aaa->za->Prop
abbrev LK:=List aaa->za->Prop
abbrev ci(n:Int):Operand := .const (.int .i64 n)
abbrev fn(n:Nat):aaa := .func (.func n) #[] #[]
variable {h:za}{t0 t1 t2 t3 t4 t5 t6:aaa}{R:VK}
def qs:FuncId->Nat:=λg=>[0,0,0,0,0,0,0,0,0,0,0,0,0,0,0,0,0,0,0,0,0,0,0,2,3,3,3,0,2,3,3,0,0,0,0,0,0,2,2,3,0,0,0,0,0,0,0,3,2,2,3,2,3,0,0,0,0,2,3,2,2,2,2,3,0,0,0,0,0,0,0,0,0,0,0,0,0,0,0,0,0,0,0,2].getD g 0
theorem mixed:prog.follows .mixedOrders=true:=acg Tryz.checked
theorem xp{f:FuncId}{args:List aaa}{X:Prop}(e:Pu zz (ba zz qs) 200 f args h R=X)(hw:X):DC zz f args h R:=Up mixed (q:=qs) (n:=200) (Eq.mpr e hw)
def Wz:=λd (R:VK) a (c:za)=>
 opt (zi .geq 3 11 d 8) λe=>CD e (λb=>opt (nb [nth a 0,.int .u8 1] (zK zz .or 5 (.tmp 13) (.const (.int .u8 1)) (nth a 0) (.int .u8 1))) λf=>b [f] c)
 (λb=>b [nth a 0] c)
 (λg h=>rv [nth g 0] h R)
def Sw:=λ(h:za) a c d (R:VK)=>
 opt (zi .geq 3 7 c 8) λe=>CD e (λb=>opt (nb [a,.int .u8 4] (zK zz .or 5 (.tmp 9) (.const (.int .u8 4)) a (.int .u8 4))) λf=>b [f] h)
 (λb=>b [a] h)
 (Wz d R)
theorem M4(hw:Sw h t0 t1 t2 R):DC zz 49 [t0,t1,t2] h R:=xp (by kernel_rfl) hw
def Dh:=λa k l (R:VK) b (m:za)=>
 zD (nb [b] (ze zz 29 1 [(0,b)] m)) λc n=>zD (nb [c,a] (zG zz .append [29,29] 29 [c,a] n)) λd o=>opt (zi .and 3 18 k 7) λe=>zD (nb [e] (xg zz 3 5 e o)) λf p=>opt (nb [f,.int .u64 3] (zK zz .shl 5 (.tmp 20) (.const (.int .u64 3)) f (.int .u64 3))) λg=>opt (nb [.int .u8 192,g] (zK zz .or 5 (.const (.int .u8 192)) (.tmp 21) (.int .u8 192) g)) λq=>opt (zi .and 3 23 l 7) λh=>zD (nb [h] (xg zz 3 5 h p)) λr s=>opt (xL .or 5 22 25 q r) λi=>zD (nb [i] (ze zz 29 1 [(0,i)] s)) λj t=>zD (nb [d,j] (zG zz .append [29,29] 29 [d,j] t)) λu v=>rv [u] v R
def M1:=λ(h:za) c d a b (R:VK)=>
 zP zz (fn 49) [c,a,b] h (Dh d a b R)
theorem Lb(hw:M1 h t0 t1 t2 t3 R):DC zz 47 [t0,t1,t2,t3] h R:=xp (by kernel_rfl) hw
def aO:=λb (h:za) (R:VK) (c:LK)=>
 opt (zi .eql 3 3 b 24) λd=>CD d (λa=>rv [.int .u8 14] h R)
 (λa=>a [.int .u8 0] h)
 (λe f=>c [nth e 0] f)
def aP:=λa (h:za) (R:VK) (b:LK)=>
 opt (zi .eql 3 3 a 26) λc=>CD c (λf=>rv [.int .u8 13] h R)
 (aO a h R)
 (λd e=>b [nth d 0] e)
def aQ:=λa (h:za) (R:VK) (b:LK)=>
 opt (zi .eql 3 3 a 23) λc=>CD c (λf=>rv [.int .u8 12] h R)
 (aP a h R)
 (λd e=>b [nth d 0] e)
def aR:=λa (h:za) (R:VK) (b:LK)=>
 opt (zi .eql 3 3 a 22) λc=>CD c (λf=>rv [.int .u8 5] h R)
 (aQ a h R)
 (λd e=>b [nth d 0] e)
def aS:=λa (h:za) (R:VK) (b:LK)=>
 opt (zi .eql 3 3 a 21) λc=>CD c (λf=>rv [.int .u8 4] h R)
 (aR a h R)
 (λd e=>b [nth d 0] e)
def iq:=λ(h:za) a (R:VK)=>
 BK (aS a h R)
 (λc b=>rv [.int .u8 15] b R)
theorem nu(hw:iq h t0 R):DC zz 83 [t0] h R:=xp (by kernel_rfl) hw
def KD:=λb (h:za) (R:VK) (c:LK)=>
 opt (zi .eql 3 3 b 17) λd=>CD d (λa=>rv [.int .u8 9] h R)
 (λa=>a [.int .u8 0] h)
 (λe f=>c [nth e 0] f)
def Vx:=λa (h:za) (R:VK) (b:LK)=>
 opt (zi .eql 3 3 a 16) λc=>CD c (λf=>rv [.int .u8 33] h R)
 (KD a h R)
 (λd e=>b [nth d 0] e)
def Xz:=λa (h:za) (R:VK) (b:LK)=>
 opt (zi .eql 3 3 a 12) λc=>CD c (λf=>rv [.int .u8 41] h R)
 (Vx a h R)
 (λd e=>b [nth d 0] e)
def Z8:=λa (h:za) (R:VK) (b:LK)=>
 opt (zi .eql 3 3 a 11) λc=>CD c (λf=>rv [.int .u8 1] h R)
 (Xz a h R)
 (λd e=>b [nth d 0] e)
def sD:=λ(h:za) a (R:VK)=>
 BK (Z8 a h R)
 (λc b=>rv [.int .u8 49] b R)
theorem AT(hw:sD h t0 R):DC zz 51 [t0] h R:=xp (by kernel_rfl) hw
def n6:=λd a (b:za) (e:LK)=>
 qk 22 d (nth a 2) 3 b λf=>zD (nb [nth a 0] (ze zz 67 1 [(0,(nth a 0))] b)) λc g=>zD (nb [nth a 1,c] (zG zz .append [67,67] 67 [nth a 1,c] g)) λh i=>opt (zi .add 2 18 f 16) λj=>opt (zi .add 2 19 j 16) λk=>opt (zi .sub 2 20 k 1) λl=>opt (zi .quo 2 21 l 16) λm=>opt (zi .mul 2 22 m 16) λn=>opt (xL .add 2 17 23 (nth a 0) n) λo=>e [o,h] i
def n7:=λb (c:LK) a (d:za)=>
 opt (zi .add 3 9 (nth b 2) 1) λe=>c [nth a 0,nth a 1,e] d
def oc:=λd (e:LK) f a (b:za) (g:LK)=>
 opt (xL .lss 3 9 8 (nth a 2) d) λh=>CD h (λc=>c [] b)
 (λc=>e [nth a 1] b)
 (λj i=>BK (n6 f a i)
 (n7 a g))
def Df:=λ(h:za) a (R:VK)=>
 zD (uy 22 a h) λb c=>BK (λd=>LP (oc b d a)
 [.int .i64 16777216,.slice none 0 0,.int .i64 0] c)
 (λe f=>rv [nth e 0] f R)
theorem Dg(hw:Df h t0 R):DC zz 25 [t0] h R:=xp (by kernel_rfl) hw
def Ho:=λa (f:za) g (h:LK)=>
 opt (nb [.int .i64 8,nth a 1] (zK zz .mul 3 (.const (.int .i64 8)) (.tmp 15) (.int .i64 8) (nth a 1))) λb=>zD (nb [b] (xg zz 3 99 b f)) λi j=>opt (xL .shr 2 14 17 g i) λc=>zD (nb [c] (xg zz 2 5 c j)) λd k=>zD (nb [d] (ze zz 29 1 [(0,d)] k)) λe l=>zD (nb [nth a 0,e] (zG zz .append [29,29] 29 [nth a 0,e] l)) λm n=>h [m] n
def Hp:=λa (b:LK) c (d:za)=>
 opt (zi .add 3 11 (nth a 1) 1) λe=>b [nth c 0,e] d
def Hq:=λd (e:LK) f a (b:za) (g:LK)=>
 opt (xL .lss 3 8 9 (nth a 1) d) λh=>CD h (λc=>c [] b)
 (λc=>e [nth a 0] b)
 (λj i=>BK (Ho a i f)
 (Hp a g))
def Sv:=λ(h:za) a b (R:VK)=>
 zD (YS zz 29 (.int .i64 0) (.int .i64 0) h) λc d=>BK (λe=>LP (Hq b e a)
 [c,.int .i64 0] d)
 (λf g=>rv [nth f 0] g R)
theorem MY(hw:Sv h t0 t1 R):DC zz 39 [t0,t1] h R:=xp (by kernel_rfl) hw
def Yr:=λd (R:VK) a (c:za)=>
 opt (zi .geq 3 11 d 8) λe=>CD e (λb=>opt (nb [nth a 0,.int .u8 1] (zK zz .or 5 (.tmp 13) (.const (.int .u8 1)) (nth a 0) (.int .u8 1))) λf=>b [f] c)
 (λb=>b [nth a 0] c)
 (λg h=>rv [nth g 0] h R)
def MR:=λ(h:za) a c d (R:VK)=>
 opt (zi .geq 3 7 c 8) λe=>CD e (λb=>opt (nb [a,.int .u8 4] (zK zz .or 5 (.tmp 9) (.const (.int .u8 4)) a (.int .u8 4))) λf=>b [f] h)
 (λb=>b [a] h)
 (Yr d R)
theorem I4(hw:MR h t0 t1 t2 R):DC zz 38 [t0,t1,t2] h R:=xp (by kernel_rfl) hw
def Sx:=λ(h:za) d e (R:VK)=>
 opt (zi .and 3 5 d 7) λa=>opt (nb [a,.int .u64 3] (zK zz .shl 3 (.tmp 6) (.const (.int .u64 3)) a (.int .u64 3))) λb=>opt (nb [.int .i64 192,b] (zK zz .or 3 (.const (.int .i64 192)) (.tmp 7) (.int .i64 192) b)) λf=>opt (zi .and 3 9 e 7) λg=>opt (xL .or 3 8 10 f g) λc=>zD (nb [c] (xg zz 3 5 c h)) λi j=>rv [i] j R
theorem M5(hw:Sx h t0 t1 R):DC zz 57 [t0,t1] h R:=xp (by kernel_rfl) hw
def iG:=λ(c:za) a (d:LK)=>
 zD (nb [.int .u8 36] (ze zz 29 1 [(0,(.int .u8 36))] c)) λb e=>zD (nb [a,b] (zG zz .append [29,29] 29 [a,b] e)) λf g=>d [f] g
def KI:=λc (R:VK) a (d:za)=>
 zP zz (fn 39) [c,.int .i64 4] d (λb e=>zD (nb [nth a 0,b] (zG zz .append [29,29] 29 [nth a 0,b] e)) λf g=>rv [f] g R)
def sL:=λ(h:za) i a j (R:VK)=>
 opt (zi .and 3 8 i 7) λb=>opt (nb [b,.int .u64 3] (zK zz .shl 3 (.tmp 9) (.const (.int .u64 3)) b (.int .u64 3))) λc=>opt (nb [.int .i64 128,c] (zK zz .or 3 (.const (.int .i64 128)) (.tmp 10) (.int .i64 128) c)) λk=>opt (zi .and 3 12 a 7) λl=>opt (xL .or 3 11 13 k l) λd=>zD (nb [d] (xg zz 3 5 d h)) λe m=>zD (nb [e] (ze zz 29 1 [(0,e)] m)) λf g=>opt (zi .and 3 17 a 7) λn=>opt (zi .eql 3 18 n 4) λo=>CD o (iG g f)
 (λp=>p [f] g)
 (KI j R)
theorem AW(hw:sL h t0 t1 t2 R):DC zz 58 [t0,t1,t2] h R:=xp (by kernel_rfl) hw
def MO:=λ(h:za) b (R:VK)=>
 zD (nb [.int .u8 4,.int .u8 5,.int .u8 12,.int .u8 14,.int .u8 15,.int .u8 13] (ze zz 29 6 [(0,(.int .u8 4)),(1,(.int .u8 5)),(2,(.int .u8 12)),(3,(.int .u8 14)),(4,(.int .u8 15)),(5,(.int .u8 13))] h)) λc a=>opt (zi .sub 3 4 b 21) λd=>qk 29 c d 5 a λe=>rv [e] a R
theorem I0(hw:MO h t0 R):DC zz 62 [t0] h R:=xp (by kernel_rfl) hw
def fL:=λb (h:za) (R:VK) (c:LK)=>
 opt (zi .eql 3 3 b 12) λd=>CD d (λa=>rv [.int .i64 5] h R)
 (λa=>a [.int .i64 0] h)
 (λe f=>c [nth e 0] f)
def JL:=λa (h:za) (R:VK) (b:LK)=>
 opt (zi .eql 3 3 a 16) λc=>CD c (λf=>rv [.int .i64 4] h R)
 (fL a h R)
 (λd e=>b [nth d 0] e)
def Ur:=λa (h:za) (R:VK) (b:LK)=>
 opt (zi .eql 3 3 a 17) λc=>CD c (λf=>rv [.int .i64 1] h R)
 (JL a h R)
 (λd e=>b [nth d 0] e)
def WK:=λa (h:za) (R:VK) (b:LK)=>
 opt (zi .eql 3 3 a 11) λc=>CD c (λf=>rv [.int .i64 0] h R)
 (Ur a h R)
 (λd e=>b [nth d 0] e)
def Hc:=λ(h:za) a (R:VK)=>
 BK (WK a h R)
 (λc b=>rv [.int .i64 6] b R)
theorem Fq(hw:Hc h t0 R):DC zz 60 [t0] h R:=xp (by kernel_rfl) hw
def cr:=λb (h:za) (R:VK) (c:LK)=>
 opt (zi .eql 3 3 b 12) λd=>CD d (λa=>rv [.int .u8 41] h R)
 (λa=>a [.int .u8 0] h)
 (λe f=>c [nth e 0] f)
def Qz:=λa (h:za) (R:VK) (b:LK)=>
 opt (zi .eql 3 3 a 16) λc=>CD c (λf=>rv [.int .u8 33] h R)
 (cr a h R)
 (λd e=>b [nth d 0] e)
def WY:=λa (h:za) (R:VK) (b:LK)=>
 opt (zi .eql 3 3 a 17) λc=>CD c (λf=>rv [.int .u8 9] h R)
 (Qz a h R)
 (λd e=>b [nth d 0] e)
def Y6:=λa (h:za) (R:VK) (b:LK)=>
 opt (zi .eql 3 3 a 11) λc=>CD c (λf=>rv [.int .u8 1] h R)
 (WY a h R)
 (λd e=>b [nth d 0] e)
def Da:=λ(h:za) a (R:VK)=>
 BK (Y6 a h R)
 (λc b=>rv [.int .u8 49] b R)
theorem Db(hw:Da h t0 R):DC zz 59 [t0] h R:=xp (by kernel_rfl) hw
def Hu:=λ(h:za) b (R:VK)=>
 opt (zi .eql 3 3 b 19) λc=>CD c (λa=>rv [.int .i64 4] h R)
 (λa=>a [.int .i64 0] h)
 (λe d=>rv [.int .i64 7] d R)
theorem Fy(hw:Hu h t0 R):DC zz 61 [t0] h R:=xp (by kernel_rfl) hw
def sq:=λc (b:za) f (R:VK) d=>
 zD (nb [c,.int .u8 199,d] (ze zz 29 3 [(0,c),(1,(.int .u8 199)),(2,d)] b)) λg a=>opt (zp zz 42 f 6) λh=>opt (zd zz 2 h (cut a b.next a.next)) λi=>Yy zz 39 [i,.int .i64 4] (cut a b.next a.next) a (λj e=>cB zz [29,29] 29 [g,j] (some (b.next,a.next)) e e (λk l=>rv [k] l R))
def sr:=λc d (R:VK) (q:List aaa) (e:za)=>
 zI 42 c 1 3 e λj=>opt (zi .and 3 48 j 7) λf=>opt (nb [.int .i64 184,f] (zK zz .add 3 (.const (.int .i64 184)) (.tmp 49) (.int .i64 184) f)) λg=>zD (nb [g] (xg zz 3 5 g e)) λh b=>zD (nb [d,h] (ze zz 29 2 [(0,d),(1,h)] b)) λk a=>opt (zp zz 42 c 6) λl=>opt (zd zz 2 l (cut a b.next a.next)) λm=>Yy zz 39 [m,.int .i64 8] (cut a b.next a.next) a (λn i=>cB zz [29,29] 29 [k,n] (some (b.next,a.next)) i i (λo p=>rv [o] p R))
def fG:=λb c (R:VK) e (a:za)=>
 CD e (λd=>zI 42 b 1 3 a λf=>qu zz 57 [.int .i64 0,f] a (sq c a b R))
 (λd=>d [.slice none 0 0] a)
 (sr b c R)
def su:=λc (f:za) b (R:VK) (m:LK)=>
 zD (nb [c,.int .u8 99] (ze zz 29 2 [(0,c),(1,(.int .u8 99))] f)) λd a=>zI 42 b 1 3 a λg=>zI 42 b 2 3 a λh=>zI 42 b 6 2 a λi=>zP zz (fn 58) [g,h,i] a (λe j=>zD (nb [d,e] (zG zz .append [29,29] 29 [d,e] j)) λk l=>rv [k] l R)
def sw:=λc (f:za) b (R:VK) (m:LK)=>
 zD (nb [c,.int .u8 139] (ze zz 29 2 [(0,c),(1,(.int .u8 139))] f)) λd a=>zI 42 b 1 3 a λg=>zI 42 b 2 3 a λh=>zI 42 b 6 2 a λi=>zP zz (fn 58) [g,h,i] a (λe j=>zD (nb [d,e] (zG zz .append [29,29] 29 [d,e] j)) λk l=>rv [k] l R)
def fH:=λb c (a:za) d (R:VK) (e:LK)=>
 opt (zi .eql 3 60 b 4) λf=>CD f (su c a d R)
 (λg=>g [.slice none 0 0] a)
 (λh i=>e [nth h 0] i)
def Jy:=λa b (c:za) d (R:VK) (e:LK)=>
 opt (zi .eql 3 60 a 8) λf=>CD f (sw b c d R)
 (fH a b c d R)
 (λg h=>e [nth g 0] h)
def sy:=λc b (R:VK) (m:List aaa) (f:za)=>
 zD (nb [c,.int .u8 15,.int .u8 190] (ze zz 29 3 [(0,c),(1,(.int .u8 15)),(2,(.int .u8 190))] f)) λd a=>zI 42 b 1 3 a λg=>zI 42 b 2 3 a λh=>zI 42 b 6 2 a λi=>zP zz (fn 58) [g,h,i] a (λe j=>zD (nb [d,e] (zG zz .append [29,29] 29 [d,e] j)) λk l=>rv [k] l R)
def sA:=λ(b:za) c (R:VK) d=>
 zD (nb [d,.int .u8 137] (ze zz 29 2 [(0,d),(1,(.int .u8 137))] b)) λf a=>opt (zp zz 42 c 1) λg=>opt (zd zz 3 g (cut a b.next a.next)) λh=>opt (zp zz 42 c 2) λi=>opt (zd zz 3 i (cut a b.next a.next)) λj=>opt (zp zz 42 c 6) λk=>opt (zd zz 2 k (cut a b.next a.next)) λl=>Yy zz 58 [h,j,l] (cut a b.next a.next) a (λm e=>cB zz [29,29] 29 [f,m] (some (b.next,a.next)) e e (λn o=>rv [n] o R))
def mw:=λb (a:za) (R:VK) (e:LK)=>
 zI 42 b 1 3 a λc=>zI 42 b 2 3 a λd=>qu zz 38 [.int .u8 64,c,d] a (sA a b R)
def mz:=λc (f:za) b (R:VK) (m:LK)=>
 zD (nb [c,.int .u8 137] (ze zz 29 2 [(0,c),(1,(.int .u8 137))] f)) λd a=>zI 42 b 1 3 a λg=>zI 42 b 2 3 a λh=>zI 42 b 6 2 a λi=>zP zz (fn 58) [g,h,i] a (λe j=>zD (nb [d,e] (zG zz .append [29,29] 29 [d,e] j)) λk l=>rv [k] l R)
def bB:=λb c (a:za) (R:VK) (d:LK)=>
 opt (zi .eql 3 98 b 4) λe=>CD e (mw c a R)
 (λf=>f [.slice none 0 0] a)
 (λg h=>d [nth g 0] h)
def U0:=λa d (b:za) c (R:VK) (e:LK)=>
 opt (zi .eql 3 98 a 8) λf=>CD f (mz d b c R)
 (bB a c b R)
 (λg h=>e [nth g 0] h)
def mA:=λ(b:za) c (R:VK) d=>
 zD (nb [d,.int .u8 136] (ze zz 29 2 [(0,d),(1,(.int .u8 136))] b)) λf a=>opt (zp zz 42 c 1) λg=>opt (zd zz 3 g (cut a b.next a.next)) λh=>opt (zp zz 42 c 2) λi=>opt (zd zz 3 i (cut a b.next a.next)) λj=>opt (zp zz 42 c 6) λk=>opt (zd zz 2 k (cut a b.next a.next)) λl=>Yy zz 58 [h,j,l] (cut a b.next a.next) a (λm e=>cB zz [29,29] 29 [f,m] (some (b.next,a.next)) e e (λn o=>rv [n] o R))
def mB:=λb (R:VK) (e:List aaa) (a:za)=>
 zI 42 b 1 3 a λc=>zI 42 b 2 3 a λd=>qu zz 38 [.int .u8 64,c,d] a (mA a b R)
def mC:=λj (c:za) k (R:VK) d=>
 zI 42 j 1 3 c λl=>opt (zi .and 3 159 l 7) λe=>opt (nb [e,.int .u64 3] (zK zz .shl 3 (.tmp 160) (.const (.int .u64 3)) e (.int .u64 3))) λf=>opt (nb [.int .i64 5,f] (zK zz .or 3 (.const (.int .i64 5)) (.tmp 161) (.int .i64 5) f)) λg=>zD (nb [g] (xg zz 3 5 g c)) λh b=>zD (nb [d,.int .u8 141,h] (ze zz 29 3 [(0,d),(1,(.int .u8 141)),(2,h)] b)) λm a=>Yy zz 39 [k,.int .i64 4] (cut a b.next a.next) a (λn i=>cB zz [29,29] 29 [m,n] (some (b.next,a.next)) i i (λo p=>rv [o] p R))
def mD:=λa (R:VK) b (c:za)=>
 zD (nb [a,.int .u8 15,.int .u8 175,b] (ze zz 29 4 [(0,a),(1,(.int .u8 15)),(2,(.int .u8 175)),(3,b)] c)) λd e=>rv [d] e R
def mE:=λb (a:za) c (R:VK) (f:LK)=>
 zI 42 b 1 3 a λd=>zI 42 b 2 3 a λe=>zP zz (fn 57) [d,e] a (mD c R)
def mF:=λb (a:za) c (R:VK) d=>
 zI 42 b 2 3 a λf=>zI 42 b 1 3 a λg=>qu zz 57 [f,g] a (λe=>zD (nb [c,d,e] (ze zz 29 3 [(0,c),(1,d),(2,e)] a)) λh i=>rv [h] i R)
def mG:=λc (b:za) f (R:VK) d=>
 zD (nb [c,.int .u8 105,d] (ze zz 29 3 [(0,c),(1,(.int .u8 105)),(2,d)] b)) λg a=>opt (zp zz 42 f 6) λh=>opt (zd zz 2 h (cut a b.next a.next)) λi=>Yy zz 39 [i,.int .i64 4] (cut a b.next a.next) a (λj e=>cB zz [29,29] 29 [g,j] (some (b.next,a.next)) e e (λk l=>rv [k] l R))
def mH:=λb (a:za) (R:VK) c=>
 zI 42 b 1 3 a λd=>zI 42 b 1 3 a λe=>qu zz 57 [d,e] a (mG c a b R)
def mI:=λb (a:za) (R:VK) (e:LK)=>
 zI 42 b 1 3 a λc=>zI 42 b 1 3 a λd=>qu zz 38 [.int .u8 72,c,d] a (mH b a R)
def mJ:=λc (b:za) f (R:VK) d=>
 zD (nb [c,.int .u8 129,d] (ze zz 29 3 [(0,c),(1,(.int .u8 129)),(2,d)] b)) λg a=>opt (zp zz 42 f 6) λh=>opt (zd zz 2 h (cut a b.next a.next)) λi=>Yy zz 39 [i,.int .i64 4] (cut a b.next a.next) a (λj e=>cB zz [29,29] 29 [g,j] (some (b.next,a.next)) e e (λk l=>rv [k] l R))
def mK:=λb c (R:VK) (g:List aaa) (a:za)=>
 zI 42 b 3 3 a λd=>qu zz 60 [d] a (λe=>zI 42 b 1 3 a λf=>qu zz 57 [e,f] a (mJ c a b R))
def mL:=λd (a:za) b (R:VK) (i:LK)=>
 zI 42 d 1 3 a λe=>zP zz (fn 57) [.int .i64 2,e] a (λc f=>zD (nb [b,.int .u8 247,c] (ze zz 29 3 [(0,b),(1,(.int .u8 247)),(2,c)] f)) λg h=>rv [g] h R)
def mM:=λd a (R:VK) (i:List aaa) (b:za)=>
 zI 42 d 1 3 b λe=>zP zz (fn 57) [.int .i64 3,e] b (λc f=>zD (nb [a,.int .u8 247,c] (ze zz 29 3 [(0,a),(1,(.int .u8 247)),(2,c)] f)) λg h=>rv [g] h R)
def mN:=λa (R:VK) b (c:za)=>
 zD (nb [a,.int .u8 15,.int .u8 190,b] (ze zz 29 4 [(0,a),(1,(.int .u8 15)),(2,(.int .u8 190)),(3,b)] c)) λd e=>rv [d] e R
def mO:=λb (a:za) c (R:VK) (f:LK)=>
 zI 42 b 1 3 a λd=>zI 42 b 2 3 a λe=>zP zz (fn 57) [d,e] a (mN c R)
def mP:=λb c (R:VK) (j:List aaa) (a:za)=>
 zI 42 b 1 3 a λe=>zI 42 b 2 3 a λf=>zP zz (fn 57) [e,f] a (λd g=>zD (nb [c,.int .u8 99,d] (ze zz 29 3 [(0,c),(1,(.int .u8 99)),(2,d)] g)) λh i=>rv [h] i R)
def bC:=λf (a:za) b (R:VK) c=>
 zI 42 f 6 2 a λd=>zD (nb [d] (xg zz 2 5 d a)) λe g=>zD (nb [b,.int .u8 193,c,e] (ze zz 29 4 [(0,b),(1,(.int .u8 193)),(2,c),(3,e)] g)) λh i=>rv [h] i R
def bD:=λd (a:za) b (R:VK) e=>
 zI 42 d 1 3 a λf=>qu zz 57 [e,f] a (λc=>zD (nb [b,.int .u8 211,c] (ze zz 29 3 [(0,b),(1,(.int .u8 211)),(2,c)] a)) λg h=>rv [g] h R)
def mQ:=λd (a:za) (R:VK) b=>
 zI 42 d 2 3 a λe=>qu zz 57 [.int .i64 7,e] a (λc=>zD (nb [b,.int .u8 247,c] (ze zz 29 3 [(0,b),(1,(.int .u8 247)),(2,c)] a)) λf g=>rv [f] g R)
def mR:=λc (b:za) f (R:VK) d=>
 zD (nb [c,.int .u8 129,d] (ze zz 29 3 [(0,c),(1,(.int .u8 129)),(2,d)] b)) λg a=>opt (zp zz 42 f 6) λh=>opt (zd zz 2 h (cut a b.next a.next)) λi=>Yy zz 39 [i,.int .i64 4] (cut a b.next a.next) a (λj e=>cB zz [29,29] 29 [g,j] (some (b.next,a.next)) e e (λk l=>rv [k] l R))
def mS:=λa b c d (f:za) (R:VK) e=>
 zD (nb [a,.int .u8 15,b,c,d,.int .u8 15,.int .u8 182,e] (ze zz 29 8 [(0,a),(1,(.int .u8 15)),(2,b),(3,c),(4,d),(5,(.int .u8 15)),(6,(.int .u8 182)),(7,e)] f)) λg h=>rv [g] h R
def mT:=λb (a:za) c d e (R:VK) f=>
 zI 42 b 1 3 a λg=>zI 42 b 1 3 a λh=>qu zz 57 [g,h] a (mS c d e f a R)
def mU:=λb (a:za) c d (R:VK) e=>
 zI 42 b 1 3 a λf=>zI 42 b 1 3 a λg=>qu zz 38 [.int .u8 72,f,g] a (mT b a c d e R)
def mV:=λb (a:za) d (R:VK) c=>
 opt (nb [.int .u8 144,c] (zK zz .add 5 (.const (.int .u8 144)) (.tmp 318) (.int .u8 144) c)) λe=>zI 42 b 1 3 a λf=>qu zz 57 [.int .i64 0,f] a (mU b a d e R)
def mW:=λb (a:za) (R:VK) (f:LK)=>
 zI 42 b 1 3 a λc=>qu zz 38 [.int .u8 64,.int .i64 0,c] a (λd=>zI 42 b 4 3 a λe=>qu zz 62 [e] a (mV b a d R))
def bE:=λb c (a:za) (R:VK) (d:LK)=>
 opt (zi .eql 3 22 b 17) λe=>CD e (mW c a R)
 (λf=>f [.slice none 0 0] a)
 (λg h=>d [nth g 0] h)
def mX:=λb (a:za) c (R:VK) (j:LK)=>
 zI 42 b 2 3 a λe=>zI 42 b 1 3 a λf=>zP zz (fn 57) [e,f] a (λd g=>zD (nb [c,.int .u8 57,d] (ze zz 29 3 [(0,c),(1,(.int .u8 57)),(2,d)] g)) λh i=>rv [h] i R)
def U1:=λc b (a:za) d (R:VK) (e:LK)=>
 opt (zi .eql 3 22 c 16) λf=>CD f (λj=>zI 42 b 1 3 a λg=>qu zz 57 [.int .i64 7,g] a (mR d a b R))
 (bE c b a R)
 (λh i=>e [nth h 0] i)
def mY:=λb (a:za) (R:VK) (d:LK)=>
 zI 42 b 2 3 a λc=>qu zz 38 [.int .u8 72,.int .i64 0,c] a (mQ b a R)
def WQ:=λa b (c:za) d (R:VK) e (f:LK)=>
 opt (zi .eql 3 22 a 15) λg=>CD g (mX b c d R)
 (U1 a b c e R)
 (λh i=>f [nth h 0] i)
def YY:=λa b (c:za) (R:VK) d e (f:LK)=>
 opt (zi .eql 3 22 a 14) λg=>CD g (mY b c R)
 (WQ a b c d R e)
 (λh i=>f [nth h 0] i)
def ZY:=λa (b:za) (R:VK) c d e (f:LK)=>
 opt (zi .eql 3 22 a 13) λg=>CD g (λl=>zD (nb [.int .u8 72,.int .u8 153] (ze zz 29 2 [(0,(.int .u8 72)),(1,(.int .u8 153))] b)) λh i=>rv [h] i R)
 (YY a c b R d e)
 (λj k=>f [nth j 0] k)
def bF:=λb (a:za) c (R:VK) (g:LK)=>
 zI 42 b 3 3 a λd=>qu zz 61 [d] a (λe=>zI 42 b 1 3 a λf=>qu zz 57 [e,f] a (bC b a c R))
def jn:=λc b (a:za) d (R:VK) e (f:LK)=>
 opt (zi .eql 3 22 c 12) λg=>CD g (λk=>zI 42 b 3 3 a λh=>qu zz 61 [h] a (bD b a d R))
 (ZY c a R b e d)
 (λi j=>f [nth i 0] j)
def bG:=λa (b:za) c (R:VK) (g:LK)=>
 zI 42 a 3 3 b λd=>opt (zi .eql 3 240 d 3) λe=>CD e (mO a b c R)
 (λf=>f [.slice none 0 0] b)
 (mP a c R)
def qD:=λa b (c:za) d (R:VK) e (f:LK)=>
 opt (zi .eql 3 22 a 11) λg=>CD g (bF b c d R)
 (jn a b c d R e)
 (λh i=>f [nth h 0] i)
def bH:=λa (b:za) c (R:VK) (g:LK)=>
 zI 42 a 3 3 b λd=>opt (zi .eql 3 225 d 2) λe=>CD e (mL a b c R)
 (λf=>f [.slice none 0 0] b)
 (mM a c R)
def uQ:=λa b (c:za) d (R:VK) e f (g:LK)=>
 opt (zi .eql 3 22 a 10) λh=>CD h (bG b c d R)
 (qD a b c e R f)
 (λi j=>g [nth i 0] j)
def bI:=λa (b:za) (R:VK) c (g:LK)=>
 zI 42 a 3 3 b λd=>opt (zi .eql 3 193 d 13) λe=>CD e (mI a b R)
 (λf=>f [.slice none 0 0] b)
 (mK a c R)
def vV:=λa b (c:za) d (R:VK) e f (g:LK)=>
 opt (zi .eql 3 22 a 9) λh=>CD h (bH b c d R)
 (uQ a b c e R d f)
 (λi j=>g [nth i 0] j)
def bJ:=λa (b:za) d (R:VK) e (j:LK)=>
 zI 42 a 3 3 b λf=>opt (zi .eql 3 171 f 13) λg=>CD g (mE a b d R)
 (λh=>h [.slice none 0 0] b)
 (λk c=>zI 42 a 3 3 c λi=>qu zz 59 [i] c (mF a c e R))
def vw:=λa b (c:za) (R:VK) d e f (g:LK)=>
 opt (zi .eql 3 22 a 8) λh=>CD h (bI b c R d)
 (vV a b c d R e f)
 (λi j=>g [nth i 0] j)
def mZ:=λb (a:za) c (R:VK) (e:LK)=>
 zI 42 b 1 3 a λd=>qu zz 38 [.int .u8 72,d,.int .i64 0] a (mC b a c R)
def wP:=λa b (c:za) d (R:VK) e f (g:LK)=>
 opt (zi .eql 3 22 a 7) λh=>CD h (bJ b c d R e)
 (vw a b c R f d e)
 (λi j=>g [nth i 0] j)
def m5:=λc (f:za) b (R:VK) (m:LK)=>
 zD (nb [c,.int .u8 141] (ze zz 29 2 [(0,c),(1,(.int .u8 141))] f)) λd a=>zI 42 b 1 3 a λg=>zI 42 b 2 3 a λh=>zI 42 b 6 2 a λi=>zP zz (fn 58) [g,h,i] a (λe j=>zD (nb [d,e] (zG zz .append [29,29] 29 [d,e] j)) λk l=>rv [k] l R)
def wL:=λa b (c:za) d (R:VK) e f g (h:LK)=>
 opt (zi .eql 3 22 a 6) λi=>CD i (mZ b c d R)
 (wP a b c e R f g)
 (λj k=>h [nth j 0] k)
def wh:=λa b (c:za) d (R:VK) e f g (h:LK)=>
 opt (zi .eql 3 22 a 5) λi=>CD i (m5 b c d R)
 (wL a d c e R b f g)
 (λj k=>h [nth j 0] k)
def xM:=λc a (b:za) d (R:VK) e f g (h:LK)=>
 opt (zi .eql 3 22 c 4) λi=>CD i (λm=>zI 42 a 3 3 b λj=>BK (U0 j d b a R)
 (mB a R))
 (wh c d b a R e f g)
 (λk l=>h [nth k 0] l)
def yQ:=λd a (b:za) c (R:VK) e f g (h:LK)=>
 opt (zi .eql 3 22 d 3) λi=>CD i (λm=>zI 42 a 3 3 b λj=>BK (Jy j c b a R)
 (sy c a R))
 (xM d a b c R e f g)
 (λk l=>h [nth k 0] l)
def m6:=λb (a:za) c (R:VK) (j:LK)=>
 zI 42 b 2 3 a λe=>zI 42 b 1 3 a λf=>zP zz (fn 57) [e,f] a (λd g=>zD (nb [c,.int .u8 137,d] (ze zz 29 3 [(0,c),(1,(.int .u8 137)),(2,d)] g)) λh i=>rv [h] i R)
def yK:=λc a (b:za) d (R:VK) e f g (h:LK)=>
 opt (zi .eql 3 22 c 2) λi=>CD i (λm=>zI 42 a 6 2 b λj=>zP zz (fn 37) [j] b (fG a d R))
 (yQ c a b e R f g d)
 (λk l=>h [nth k 0] l)
def zB:=λa b (c:za) d (R:VK) e f g (h:LK)=>
 opt (zi .eql 3 22 a 1) λi=>CD i (m6 b c d R)
 (yK a b c e R f g d)
 (λj k=>h [nth j 0] k)
def m7:=λa e (R:VK) f b g (c:za)=>
 zI 42 a 0 3 c λh=>BK (zB h a c e R g f b)
 (λl d=>opt (zd zz 42 a d) λi=>zP zz (fn 63) [i,b] d (λj k=>rv [j] k R))
def m8:=λa (R:VK) c d e (b:za)=>
 zI 42 a 1 3 b λf=>zP zz (fn 38) [.int .u8 72,.int .i64 0,f] b (m7 a e R c d)
def m9:=λa (R:VK) c d (b:za)=>
 zI 42 a 2 3 b λe=>zI 42 a 1 3 b λf=>zP zz (fn 38) [.int .u8 72,e,f] b (m8 a R d c)
def G5:=λ(h:za) c d (R:VK)=>
 opt (nb [c] (some (Value.cells c).toList)) λe=>nw h e 42 λa b=>zI 42 a 1 3 b λf=>zI 42 a 2 3 b λg=>zP zz (fn 38) [.int .u8 72,f,g] b (m9 a R d)
theorem Fl(hw:G5 h t0 t1 R):DC zz 29 [t0,t1] h R:=kN mixed (q:=qs) (n:=200) (Eq.mpr (by kernel_rfl) hw)
def Di:=λe (R:VK) a (f:za)=>
 opt (nb [.int .u8 128,a] (zK zz .add 5 (.const (.int .u8 128)) (.tmp 17) (.int .u8 128) a)) λb=>zD (nb [.int .u8 15,b] (ze zz 29 2 [(0,(.int .u8 15)),(1,b)] f)) λc g=>zP zz (fn 39) [e,.int .i64 4] g (λd h=>zD (nb [c,d] (zG zz .append [29,29] 29 [c,d] h)) λi j=>rv [i] j R)
def od:=λc (a:za) (R:VK) (d:LK)=>
 opt (zi .eql 3 6 c 26) λe=>CD e (λb=>zD (nb [.int .u8 72,.int .u8 239] (ze zz 29 2 [(0,(.int .u8 72)),(1,(.int .u8 239))] a)) λf g=>rv [f] g R)
 (λb=>b [.slice none 0 0] a)
 (λh i=>d [nth h 0] i)
def Dj:=λ(d:za) e (R:VK) (j:LK)=>
 zD (nb [.int .u8 72,.int .u8 129,.int .u8 196] (ze zz 29 3 [(0,(.int .u8 72)),(1,(.int .u8 129)),(2,(.int .u8 196))] d)) λa b=>zI 42 e 6 2 b λf=>zP zz (fn 39) [f,.int .i64 4] b (λc g=>zD (nb [a,c] (zG zz .append [29,29] 29 [a,c] g)) λh i=>rv [h] i R)
def dW:=λa (b:za) (R:VK) (c:LK)=>
 opt (zi .eql 3 6 a 25) λd=>CD d (λi=>zD (nb [.int .u8 72,.int .u8 237] (ze zz 29 2 [(0,(.int .u8 72)),(1,(.int .u8 237))] b)) λe f=>rv [e] f R)
 (od a b R)
 (λg h=>c [nth g 0] h)
def Dk:=λ(d:za) e (R:VK) (j:LK)=>
 zD (nb [.int .u8 72,.int .u8 129,.int .u8 236] (ze zz 29 3 [(0,(.int .u8 72)),(1,(.int .u8 129)),(2,(.int .u8 236))] d)) λa b=>zI 42 e 6 2 b λf=>zP zz (fn 39) [f,.int .i64 4] b (λc g=>zD (nb [a,c] (zG zz .append [29,29] 29 [a,c] g)) λh i=>rv [h] i R)
def KQ:=λa (b:za) c (R:VK) (d:LK)=>
 opt (zi .eql 3 6 a 24) λe=>CD e (Dj b c R)
 (dW a b R)
 (λf g=>d [nth f 0] g)
def Uw:=λa (b:za) c (R:VK) (d:LK)=>
 opt (zi .eql 3 6 a 23) λe=>CD e (Dk b c R)
 (KQ a b c R)
 (λf g=>d [nth f 0] g)
def Dl:=λ(c:za) d (R:VK) (i:LK)=>
 zD (nb [.int .u8 232] (ze zz 29 1 [(0,(.int .u8 232))] c)) λa e=>zP zz (fn 39) [d,.int .i64 4] e (λb f=>zD (nb [a,b] (zG zz .append [29,29] 29 [a,b] f)) λg h=>rv [g] h R)
def W0:=λa (b:za) (R:VK) c (d:LK)=>
 opt (zi .eql 3 6 a 22) λe=>CD e (λj=>zD (nb [.int .u8 195] (ze zz 29 1 [(0,(.int .u8 195))] b)) λf g=>rv [f] g R)
 (Uw a b c R)
 (λh i=>d [nth h 0] i)
def Yc:=λa (b:za) c (R:VK) d (e:LK)=>
 opt (zi .eql 3 6 a 21) λf=>CD f (Dl b c R)
 (W0 a b R d)
 (λg h=>e [nth g 0] h)
def tI:=λ(c:za) d (R:VK) (i:LK)=>
 zD (nb [.int .u8 233] (ze zz 29 1 [(0,(.int .u8 233))] c)) λa e=>zP zz (fn 39) [d,.int .i64 4] e (λb f=>zD (nb [a,b] (zG zz .append [29,29] 29 [a,b] f)) λg h=>rv [g] h R)
def Zx:=λb c (a:za) d (R:VK) (e:LK)=>
 opt (zi .eql 3 6 b 19) λf=>CD f (λj=>zI 42 c 4 3 a λg=>zP zz (fn 62) [g] a (Di d R))
 (Yc b a d R c)
 (λh i=>e [nth h 0] i)
def vD:=λa (b:za) c (R:VK) d (e:LK)=>
 opt (zi .eql 3 6 a 18) λf=>CD f (tI b c R)
 (Zx a d b c R)
 (λg h=>e [nth g 0] h)
def M3:=λ(h:za) a d (R:VK)=>
 opt (nb [a] (some (Value.cells a).toList)) λe=>nw h e 42 λb c=>zI 42 b 0 3 c λf=>BK (vD f c d R b)
 (λk g=>zD (nb [] (ze zz 29 0 [] g)) λi j=>rv [i] j R)
theorem Lc(hw:M3 h t0 t1 R):DC zz 63 [t0,t1] h R:=xp (by kernel_rfl) hw
def ni:=λa (d:za) e (f:LK)=>
 zD (nb [nth a 1] (ze zz 67 1 [(0,(nth a 1))] d)) λb g=>zD (nb [nth a 0,b] (zG zz .append [67,67] 67 [nth a 0,b] g)) λh c=>qk 22 e (nth a 2) 3 c λi=>opt (zi .add 3 21 i 16) λj=>opt (zi .add 3 22 j 15) λk=>opt (zi .quo 2 23 k 16) λl=>opt (zi .mul 2 24 l 16) λm=>opt (xL .add 2 17 25 (nth a 1) m) λn=>f [h,n] c
def nj:=λb (c:LK) a (d:za)=>
 opt (zi .add 3 11 (nth b 2) 1) λe=>c [nth a 0,nth a 1,e] d
def nk:=λb (e:LK) a (f:za) (g:LK)=>
 zD (uy 22 b f) λh c=>opt (xL .lss 3 7 9 (nth a 2) h) λi=>CD i (λd=>d [] c)
 (λd=>e [nth a 0] c)
 (λk j=>BK (ni a j b)
 (nj a g))
def Ct:=λ(h:za) a (R:VK)=>
 zD (YS zz 67 (.int .i64 0) (.int .i64 0) h) λb c=>BK (λd=>LP (nk a d)
 [b,.int .i64 16777216,.int .i64 0] c)
 (λe f=>rv [nth e 0] f R)
theorem Cu(hw:Ct h t0 R):DC zz 30 [t0] h R:=xp (by kernel_rfl) hw
def iA:=λa (b:LK) c d (e:za)=>
 zD (uy 29 d e) λf g=>opt (xL .add 3 44 55 (nth a 0) f) λh=>b [h,c] g
def iB:=λa (d:za) e f (g:LK)=>
 zD (nb [nth a 0] (ze zz 22 1 [(0,(nth a 0))] d)) λc h=>zD (nb [nth a 1,c] (zG zz .append [22,22] 22 [nth a 1,c] h)) λi b=>zI 25 e 1 23 b λj=>opt (xR zz 23 j (nth f 3)) λk=>zI 50 k 1 48 b λl=>qk 48 l (nth a 2) 42 b λm=>zP zz (fn 29) [m,.int .i64 0] b (iA a g i)
def iC:=λb (c:LK) a (d:za)=>
 opt (zi .add 3 38 (nth b 2) 1) λe=>c [nth a 0,nth a 1,e] d
def KF:=λc d (g:LK) a (b:za) (h:LK)=>
 zI 25 c 1 23 b λi=>opt (xR zz 23 i (nth d 3)) λj=>zI 50 j 1 48 b λk=>zD (uy 48 k b) λl e=>opt (xL .lss 3 29 36 (nth a 2) l) λm=>CD m (λf=>f [] e)
 (λf=>g [nth a 0,nth a 1] e)
 (λo n=>BK (iB a n c d)
 (iC a h))
def iD:=λb (d:LK) e a (f:za)=>
 zD (nb [nth a 1] (ze zz 72 1 [(0,(nth a 1))] f)) λc g=>zD (nb [nth b 1,c] (zG zz .append [72,72] 72 [nth b 1,c] g)) λh i=>d [e,h,nth a 0] i
def iE:=λa (c:za) d (e:LK)=>
 zD (nb [nth a 2] (ze zz 22 1 [(0,(nth a 2))] c)) λb f=>zD (nb [nth a 0,b] (zG zz .append [22,22] 22 [nth a 0,b] f)) λg h=>BK (λi=>LP (KF d a i)
 [nth a 2,.slice none 0 0,.int .i64 0] h)
 (iD a e g)
def iF:=λb (c:LK) a (d:za)=>
 opt (zi .add 3 23 (nth b 3) 1) λe=>c [nth a 0,nth a 1,nth a 2,e] d
def KG:=λb (f:LK) a (c:za) (g:LK)=>
 zI 25 b 1 23 c λh=>zD (uy 23 h c) λi d=>opt (xL .lss 3 18 21 (nth a 3) i) λj=>CD j (λe=>e [] d)
 (λe=>f [nth a 0,nth a 1] d)
 (λl k=>BK (iE a k b)
 (iF a g))
def KH:=λb (a:za) c (d:LK) e=>
 qk 22 b e 3 a λf=>opt (xL .sub 2 114 115 f c) λg=>d [g] a
def dz:=λb (a:za) c d (e:LK)=>
 zI 42 b 3 3 a λf=>qk 67 c f 2 a λg=>zI 42 b 6 2 a λh=>opt (xL .add 2 132 134 g h) λi=>opt (xL .sub 2 135 136 i d) λj=>e [j] a
def dC:=λb (a:za) c d (e:LK)=>
 zI 42 b 3 3 a λf=>qk 22 (nth c 0) f 3 a λg=>opt (xL .sub 2 123 124 g d) λh=>e [h] a
def Qj:=λb c (a:za) d e (f:LK)=>
 opt (zi .eql 3 101 b 6) λg=>CD g (dz c a d e)
 (λh=>h [.int .i64 0] a)
 (λi j=>f [nth i 0] j)
def Qk:=λb c (a:za) d e f (g:LK)=>
 qk 72 (nth b 1) (nth c 1) 22 a λh=>opt (zd zz 50 d a) λi=>zI 42 e 5 3 a λj=>qu zz 28 [i,j] a (KH h a f g)
def Wu:=λa b (c:za) e d f (g:LK)=>
 opt (zi .eql 3 101 a 21) λh=>CD h (dC b c e d)
 (Qj a b c f d)
 (λi j=>g [nth i 0] j)
def Ql:=λa (c:za) d i j e f k (l:LK)=>
 opt (zi .eql 3 101 a 18) λg=>CD g (λb=>b [g] c)
 (λb=>opt (zi .eql 3 101 a 19) λm=>b [m] c)
 (λn h=>CD (nth n 0) (Qk d i h j e f)
 (Wu a e h d f k)
 (λo p=>l [nth o 0] p))
def dD:=λd a (e:LK) f (b:za)=>
 opt (zd zz 42 d b) λg=>zP zz (fn 29) [g,nth f 0] b (λc h=>zD (nb [nth a 0,c] (zG zz .append [29,29] 29 [nth a 0,c] h)) λi j=>e [i] j)
def dE:=λc a d e f g h (i:LK) j (b:za)=>
 zD (uy 29 j b) λk _=>opt (xL .add 3 95 98 c k) λl=>zI 42 a 0 3 b λm=>BK (Ql m b d e f a l g)
 (dD a h i)
def dF:=λe (b:za) c f g h (i:LK)=>
 zI 50 e 1 48 b λj=>qk 48 j (nth c 1) 42 b λk=>jz 42 b λd l=>opt (wg 42 d k l) λa=>qk 72 (nth f 1) (nth g 1) 22 a λm=>qk 22 m (nth c 1) 3 a λn=>opt (zd zz 42 d a) λo=>DX zz 29 [o,.int .i64 0] a (dE n d f g e h c i)
def dG:=λa (b:LK) c (d:za)=>
 opt (zi .add 3 82 (nth a 1) 1) λe=>b [nth c 0,e] d
def Qm:=λb (f:LK) g h i a (c:za) (j:LK)=>
 zI 50 b 1 48 c λk=>zD (uy 48 k c) λl d=>opt (xL .lss 3 77 80 (nth a 1) l) λm=>CD m (λe=>e [] d)
 (λe=>f [nth a 0] d)
 (λo n=>BK (dF b n a g h i)
 (dG a j))
def dH:=λd (a:za) b e f (g:LK)=>
 zI 25 d 1 23 a λh=>qk 23 h (nth b 1) 50 a λi=>jz 50 a λc j=>opt (wg 50 c i j) λk=>BK (λl=>LP (Qm c l e b f)
 [nth b 0,.int .i64 0] k)
 (λm n=>g [nth m 0] n)
def dI:=λa (b:LK) c (d:za)=>
 opt (zi .add 3 70 (nth a 1) 1) λe=>b [nth c 0,e] d
def Qn:=λb (f:LK) g h a (c:za) (i:LK)=>
 zI 25 b 1 23 c λj=>zD (uy 23 j c) λk d=>opt (xL .lss 3 65 68 (nth a 1) k) λl=>CD l (λe=>e [] d)
 (λe=>f [nth a 0] d)
 (λn m=>BK (dH b m a g h)
 (dI a i))
def dJ:=λb a (R:VK) c (d:za)=>
 zD (YS zz 29 (.int .i64 0) (.int .i64 0) d) λe f=>BK (λg=>LP (Qn b g a c)
 [e,.int .i64 0] f)
 (λh i=>rv [nth h 0,nth a 0] i R)
def sI:=λ(h:za) b (R:VK)=>
 opt (nb [b] (some (Value.cells b).toList)) λd=>nw h d 25 λa e=>BK (λf=>LP (KG a f)
 [.slice none 0 0,.slice none 0 0,.int .i64 0,.int .i64 0] e)
 (λg c=>zI 25 a 0 22 c λi=>zP zz (fn 30) [i] c (dJ a g R))
theorem AV(hw:sI h t0 R):DC zz 12 [t0] h R:=xp (by kernel_rfl) hw
end Go.Eb
namespace Go.Ai
open Go.Ai Go.Proofs
theorem kI:Sf 23:=Ye (by kernel_rfl)
theorem Yw:Sf 48:=Ye (by kernel_rfl)
theorem aW:FcN 50 2:=UD (by kernel_rfl) (by kernel_rfl)
theorem zbc:FcA 29 5 1 1:=λr v x n w h h1 h2 h3 h4=>UF (e:=5) (e2:=5) (by kernel_rfl) (by kernel_rfl) (by kernel_rfl) (by kernel_rfl) (by decide) h1 h2 h3 h4
theorem ZB:FcA 67 2 1 8:=λr v x n w h h1 h2 h3 h4=>UF (e:=2) (e2:=2) (by kernel_rfl) (by kernel_rfl) (by kernel_rfl) (by kernel_rfl) (by decide) h1 h2 h3 h4
theorem zbd:FcA 72 22 1 24:=λr v x n w h h1 h2 h3 h4=>UF (e:=22) (e2:=22) (by kernel_rfl) (by kernel_rfl) (by kernel_rfl) (by kernel_rfl) (by decide) h1 h2 h3 h4
theorem SB:FcM 50 2:=QG (by kernel_rfl)
theorem SC:YT Tryz.prog 50=some (.agg #[(.string ⟨#[]⟩),(.slice none 0 0)]):=yG (by kernel_rfl)
theorem Xh(v0:Int)(h:za):ze Tryz.prog 29 1 [(0,(.int .u8 v0))] h=some (.slice (some ⟨h.next,0,none⟩) 1 3,h.push (.cells [(.int .u8 v0)] 5)):=yG (by kernel_rfl)
theorem xQ(v0:Int)(v1:Int)(v2:Int)(h:za):ze Tryz.prog 29 3 [(0,(.int .u8 v0)),(1,(.int .u8 v1)),(2,(.int .u8 v2))] h=some (.slice (some ⟨h.next,0,none⟩) 3 5,h.push (.cells [(.int .u8 v0),(.int .u8 v1),(.int .u8 v2)] 5)):=yG (by kernel_rfl)
theorem ZU(v0:Int)(v1:Int)(v2:Int)(v3:Int)(h:za):ze Tryz.prog 29 4 [(0,(.int .u8 v0)),(1,(.int .u8 v1)),(2,(.int .u8 v2)),(3,(.int .u8 v3))] h=some (.slice (some ⟨h.next,0,none⟩) 4 6,h.push (.cells [(.int .u8 v0),(.int .u8 v1),(.int .u8 v2),(.int .u8 v3)] 5)):=yG (by kernel_rfl)
theorem aD(v0:Int)(v1:Int)(v2:Int)(v3:Int)(v4:Int)(v5:Int)(h:za):ze Tryz.prog 29 6 [(0,(.int .u8 v0)),(1,(.int .u8 v1)),(2,(.int .u8 v2)),(3,(.int .u8 v3)),(4,(.int .u8 v4)),(5,(.int .u8 v5))] h=some (.slice (some ⟨h.next,0,none⟩) 6 8,h.push (.cells [(.int .u8 v0),(.int .u8 v1),(.int .u8 v2),(.int .u8 v3),(.int .u8 v4),(.int .u8 v5)] 5)):=yG (by kernel_rfl)
theorem UH(v0:Int)(v1:Int)(v2:Int)(v3:Int)(v4:Int)(v5:Int)(v6:Int)(v7:Int)(h:za):ze Tryz.prog 29 8 [(0,(.int .u8 v0)),(1,(.int .u8 v1)),(2,(.int .u8 v2)),(3,(.int .u8 v3)),(4,(.int .u8 v4)),(5,(.int .u8 v5)),(6,(.int .u8 v6)),(7,(.int .u8 v7))] h=some (.slice (some ⟨h.next,0,none⟩) 8 10,h.push (.cells [(.int .u8 v0),(.int .u8 v1),(.int .u8 v2),(.int .u8 v3),(.int .u8 v4),(.int .u8 v5),(.int .u8 v6),(.int .u8 v7)] 5)):=yG (by kernel_rfl)
theorem Lw(v0:Option Addr)(v0l v0c:Nat)(h:za):ze Tryz.prog 72 1 [(0,(.slice v0 v0l v0c))] h=some (.slice (some ⟨h.next,0,none⟩) 1 3,h.push (.cells [(.slice v0 v0l v0c)] 22)):=yG (by kernel_rfl)
theorem FT(n:Int)(h:za):xg Tryz.prog 2 5 (.int .i64 n) h=some (.int .u8 (IntKind.wrap .u8 n),h):=yG (by kernel_rfl)
theorem vu:Cf 25 1 1:=λb o=>yG (by kernel_rfl)
theorem yx:Cf 42 2 2:=λb o=>yG (by kernel_rfl)
theorem aa:Cf 42 4 4:=λb o=>yG (by kernel_rfl)
theorem qy:Cf 50 1 1:=λb o=>yG (by kernel_rfl)
theorem zbW:FcX 67 1:=λb o l c k i=>Zy (e:=2) (by kernel_rfl) (by kernel_rfl)
theorem zbX:FcX 72 1:=λb o l c k i=>Zy (e:=22) (by kernel_rfl) (by kernel_rfl)
end Go.Ai
