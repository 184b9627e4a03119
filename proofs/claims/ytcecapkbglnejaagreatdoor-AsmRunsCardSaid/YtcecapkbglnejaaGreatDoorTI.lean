import Derived.Test.YtcecapkbglnejaaGreatDoorTH
import Derived.Test.YtcecapkbglnejaaGreatDoorTG
set_option linter.unusedVariables false
set_option linter.unusedSimpArgs false
set_option maxRecDepth 100000
namespace Go.Ao
open Go.Ai Go.Proofs Go.Proofs.Tryz
noncomputable abbrev zz:=prog
abbrev VK:=aaa->za->Prop
abbrev LK:=List aaa->za->Prop
abbrev ci(n:Int):Operand := .const (pm n)
abbrev fn(n:Nat):aaa := .func (.func n) #[] #[]
variable {h:za}{t0 t1 t2 t3 t4 t5 t6:aaa}{R:VK}
def qs:FuncId->Nat:=λg=>([(15,2),(24,2),(25,2),(30,2),(40,2),(43,2),(45,2),(46,2),(68,2),(69,2),(70,2),(71,2),(72,2),(97,2),(98,2)].lookup g).getD 0
theorem mixed:prog.follows .mixedOrders=true:=ab4 Tryz.checked
theorem zT{f:FuncId}{args:List aaa}{X:Prop}(e:Rx zz (bJ zz qs) 200 f args h R=X)(hw:X):DC zz f args h R:=VQ mixed (q:=qs) (n:=200) (Eq.mpr e hw)
def pF:=λb d (R:VK) e (c:za)=>
 GD b true (λf=>zq zz (fn 14) [d,e] c (λa g=>f a g)) (λa h=>opt (pk b a (.bool false)) λi=>rv [i] h R) c
def pG:=λd e f (R:VK) g (a:za)=>
 opt (pk d g (.bool false)) λb=>zg b true (zd zz 25 e a) a (λh c=>zg b true (zd zz 25 f c) c (pF b h R) c) a
def pH:=λa d e f (R:VK) g (b:za)=>
 GD a true (λh=>h d b) (λi c=>zg a true (yz .eql 3 95 96 g i) c (pG a e f R) c) b
def pI:=λa e f g h i (R:VK) j (b:za)=>
 zg a true (yz .eql 3 90 91 e j) b (λk c=>opt (pk a k (.bool false)) λd=>GD d true (λl=>l f c) (pH d g h i R) c) b
def pJ:=λd e f g h i j (R:VK) k (b:za)=>
 opt (pk d k (.bool false)) λa=>GD a true (λl=>l e b) (λm c=>GD a true (λn=>n f c) (pI a m g h i j R) c) b
def pK:=λa c d e f g h i (R:VK) j (b:za)=>
 zg a true (yz .eql 3 84 86 c j) b (pJ a d e f g h i R) b
def pL:=λa d e f g h i j (R:VK) k (c:za)=>
 zg a true (ze zz 33 d 4) c (λl b=>zg a true (zd zz 3 l b) b (pK a k e f g h i j R) b) c
def pM:=λd e f g h i j k l (R:VK) m (c:za)=>
 opt (pk d m (.bool false)) λa=>zg a true (ze zz 33 e 4) c (λn b=>zg a true (zd zz 3 n b) b (pL a f g h i j k l R) b) c
def pN:=λa c d e f g h i j k (R:VK) l (b:za)=>
 GD a true (λm=>zq zz (fn 13) [c,l] b (λn o=>m n o)) (pM a d e f g h i j k R) b
def lA:=λf d e g h i j k l (R:VK) m (a:za)=>
 opt (pk f m (.bool false)) λb=>zg b true (zd zz 33 d a) a (λn c=>zg b true (zd zz 33 e c) c (pN b n d e g h i j k l R) c) a
def lB:=λa c d e f g h i j k (R:VK) l (b:za)=>
 GD a true (λm=>zq zz (fn 12) [c,l] b (λn o=>m n o)) (lA a d e f g h i j k R) b
def lC:=λg h e f i j k l (R:VK) a (m:za)=>
 opt (kV a 0) λn=>opt (kV a 1) λo=>opt (kV a 2) λp=>qa 33 m λq r=>opt (yn 33 q n r) λb=>opt (yz .eql 3 69 70 g h) λc=>zg c true (zd zz 33 e b) b (λs d=>zg c true (zd zz 33 f d) d (lB c s e f i p j o k l R) d) b
def lD:=λa d e f g h i j k (R:VK) b (c:za)=>
 opt (kV b 0) λl=>opt (kV b 1) λm=>opt (zd zz 25 a c) λn=>zq zz (fn 10) [n,d,e,f,pm 2147483647,.bool false] c (lC g h i j m l k a R)
def lE:=λb c d e h i j (R:VK) a (k:za)=>
 opt (kV a 0) λl=>opt (kV a 1) λp=>opt (kV a 2) λm=>qa 33 k λf n=>opt (yn 33 f l n) λg=>opt (zd zz 25 b g) λo=>zq zz (fn 11) [o,c,d,e] g (lD h c d e i m j f b R)
def lF:=λa b c d h i (R:VK) e (j:za)=>
 opt (kV e 0) λk=>opt (kV e 1) λl=>qa 33 j λf m=>opt (yn 33 f k m) λg=>opt (zd zz 25 a g) λn=>zq zz (fn 10) [n,b,c,d,h,.bool false] g (lE i b c d a l f R)
def lG:=λa b c d e (R:VK) h (i:za)=>
 qa 25 i λf j=>opt (yn 25 f h j) λg=>opt (zd zz 25 a g) λk=>zq zz (fn 9) [k,b,c,d,e] g (lF f b c d e a R)
def UM:=λe (R:VK) f a g h i j k (b:za)=>
 opt (pk e (.bool true) k) λl=>CD l (λc=>rv [.bool true] b R)
 (λc=>c [nth f 0] b)
 (λn d=>opt (zd zz 25 a d) λm=>zq zz (fn 8) [m] d (lG a g h i j R))
def WE:=λa (R:VK) c d e f g h i (b:za)=>
 zg a false (zh .gtr 3 28 i 1500) b (UM a R c d e f g h) b
def lH:=λa b (R:VK) f g h i (c:za)=>
 opt (zd zz 25 a c) λj=>zq zz (fn 7) [j] c (λk d=>opt (Vx zz .not k) λe=>GD e false (λl=>l b d) (WE e R i a f g b h) d)
def Ck:=λ(h:za) a d e f g (R:VK)=>
 opt (nb [a] (some (Value.cells a).toList)) λi=>nw h i 25 λj k=>zq zz (fn 6) [] k (λl b=>opt (Vx zz .not l) λm=>CD m (λc=>rv [.bool false] b R)
 (λc=>c [.bool false] b)
 (lH j f R d e g))
theorem D0(hw:Ck h t0 t1 t2 t3 t4 R):DC zz 3 [t0,t1,t2,t3,t4] h R:=zT (by kernel_rfl) hw
def CE:=λd (a:za) b e (R:VK) (f:LK)=>
 zt 25 d 0 22 a λg=>vx 22 g (nth b 1) 3 a λh=>zt 25 e 0 22 a λi=>vx 22 i (nth b 1) 3 a λj=>opt (yz .neq 3 48 53 h j) λk=>CD k (λc=>rv [.bool false] a R)
 (λc=>c [nth b 0] a)
 (λl m=>f [nth l 0] m)
def CF:=λa (b:LK) c (d:za)=>
 opt (zh .add 3 42 (nth a 1) 1) λe=>b [nth c 0,e] d
def CG:=λb (f:LK) g (R:VK) a (c:za) (h:LK)=>
 zt 25 b 0 22 c λi=>yp (v8 22 i c) λj d=>opt (yz .lss 3 37 40 (nth a 1) j) λk=>CD k (λe=>e [] d)
 (λe=>f [nth a 0] d)
 (λm l=>BK (CE b l a g R)
 (CF a h))
def CH:=λc (R:VK) d (e:LK) f (a:za)=>
 opt (pk c (.bool true) f) λg=>CD g (λb=>rv [.bool false] a R)
 (λb=>b [nth d 0] a)
 (λh i=>e [nth h 0] i)
def CI:=λa e (R:VK) f (g:LK) h (c:za)=>
 GD a false (λi=>jN zz 28 [e,h] c (λb j=>i b j)) (λb d=>zg a false (Vx zz .not b) d (CH a R f g) d) c
def CJ:=λa d (R:VK) e (f:LK) g (c:za)=>
 zg a false (ze zz 47 g 1) c (λh b=>zg a false (zd zz 45 h b) b (CI a d R e f) b) c
def CK:=λa b e (R:VK) (f:LK) g (c:za)=>
 GD a false (λh=>h (nth b 1) c) (λi d=>zg a false (zJ zz 23 g i) d (CJ a e R b f) d) c
def CL:=λa d e (R:VK) (f:LK) g (c:za)=>
 zg a false (ze zz 25 d 1) c (λh b=>zg a false (zd zz 23 h b) b (CK a e g R f) b) c
def CM:=λa d e (R:VK) (f:LK) g (c:za)=>
 zg a false (ze zz 47 g 1) c (λh b=>zg a false (zd zz 45 h b) b (CL a d e R f) b) c
def sN:=λa b e (R:VK) (f:LK) g (c:za)=>
 GD a false (λh=>h (nth b 1) c) (λi d=>zg a false (zJ zz 23 g i) d (CM a e b R f) d) c
def sO:=λe (a:za) b f (R:VK) (g:LK)=>
 zt 25 e 1 23 a λh=>opt (zJ zz 23 h (nth b 1)) λi=>zt 47 i 0 9 a λj=>zt 25 f 1 23 a λk=>opt (zJ zz 23 k (nth b 1)) λl=>zt 47 l 0 9 a λm=>opt (yz .neq 9 67 73 j m) λc=>zg c false (ze zz 25 e 1) a (λn d=>zg c false (zd zz 23 n d) d (sN c b f R g) d) a
def sQ:=λa (b:LK) c (d:za)=>
 opt (zh .add 3 60 (nth a 1) 1) λe=>b [nth c 0,e] d
def sR:=λb (f:LK) g (R:VK) a (c:za) (h:LK)=>
 zt 25 b 1 23 c λi=>yp (v8 23 i c) λj d=>opt (yz .lss 3 55 58 (nth a 1) j) λk=>CD k (λe=>e [] d)
 (λe=>f [nth a 0] d)
 (λm l=>BK (sO b l a g R)
 (sQ a h))
def sS:=λa b (R:VK) c (d:za)=>
 BK (λe=>LP (CG a e b R)
 [nth c 0,pm 0] d)
 (λf g=>BK (λh=>LP (sR a h b R)
 [nth f 0,pm 0] g)
 (λj i=>rv [.bool true] i R))
def sU:=λa e (R:VK) f g h (b:za)=>
 zg a false (yz .neq 3 31 34 e h) b (λi c=>opt (pk a (.bool true) i) λj=>CD j (λd=>rv [.bool false] c R)
 (λd=>d [.bool false] c)
 (sS f g R)) b
def sV:=λa d (R:VK) e f g (b:za)=>
 zg a false (zd zz 22 g b) b (λh c=>GD a false (λi=>yp (v8 22 h c) λj k=>i j k) (sU a d R e f) c) b
def sW:=λa c (R:VK) f g (d:za)=>
 GD a false (λh=>yp (v8 22 g d) λb i=>h b i) (λb e=>zg a false (ze zz 25 c 0) e (sV a b R f c) e) d
def sX:=λe c f (R:VK) g (d:za)=>
 opt (pk e (.bool true) g) λa=>zg a false (ze zz 25 c 0) d (λh b=>zg a false (zd zz 22 h b) b (sW a f R c) b) d
def sY:=λa e f g (R:VK) h (c:za)=>
 GD a false (λi=>yp (v8 23 h c) λb j=>i b j) (λb d=>zg a false (yz .neq 3 22 25 e b) d (sX a f g R) d) c
def sZ:=λa c e (R:VK) f (d:za)=>
 zg a false (ze zz 25 c 1) d (λg b=>zg a false (zd zz 23 g b) b (sY a f e c R) b) d
def ta:=λa d e (R:VK) f (b:za)=>
 zg a false (zd zz 23 f b) b (λg c=>GD a false (λh=>yp (v8 23 g c) λi j=>h i j) (sZ a d e R) c) b
def td:=λa f b g (R:VK) h (c:za)=>
 zg a false (yz .neq 3 14 16 f h) c (λi d=>opt (pk a (.bool true) i) λe=>zg e false (ze zz 25 b 1) d (ta e g b R) d) c
def th:=λa c e (R:VK) f (d:za)=>
 zg a false (ze zz 25 c 3) d (λg b=>zg a false (zd zz 3 g b) b (td a f e c R) b) d
def MX:=λ(h:za) e f (R:VK)=>
 opt (nb [e] (some (Value.cells e).toList)) λi=>nw h i 25 λb j=>opt (nb [f] (some (Value.cells f).toList)) λk=>nw j k 25 λg a=>zt 25 b 2 3 a λl=>zt 25 g 2 3 a λm=>opt (yz .neq 3 8 10 l m) λc=>zg c false (ze zz 25 b 3) a (λn d=>zg c false (zd zz 3 n d) d (th c g b R) d) a
theorem IL(hw:MX h t0 t1 R):DC zz 14 [t0,t1] h R:=zT (by kernel_rfl) hw
def lP:=λd b (a:za) e (R:VK) (f:LK)=>
 vx 45 d (nth b 1) 50 a λg=>vx 45 e (nth b 1) 50 a λh=>opt (yz .neq 50 20 24 g h) λi=>CD i (λc=>rv [.bool false] a R)
 (λc=>c [nth b 0] a)
 (λj k=>f [nth j 0] k)
def lQ:=λa (b:LK) c (d:za)=>
 opt (zh .add 3 15 (nth a 1) 1) λe=>b [nth c 0,e] d
def lR:=λb (e:LK) f (R:VK) a (g:za) (h:LK)=>
 yp (v8 45 b g) λi c=>opt (yz .lss 3 11 13 (nth a 1) i) λj=>CD j (λd=>d [] c)
 (λd=>e [nth a 0] c)
 (λl k=>BK (lP b a k f R)
 (lQ a h))
def sM:=λ(h:za) a b (R:VK)=>
 yp (v8 45 a h) λe f=>yp (v8 45 b f) λg c=>opt (yz .neq 3 7 9 e g) λi=>CD i (λd=>rv [.bool false] c R)
 (λd=>d [.bool false] c)
 (λj k=>BK (λl=>LP (lR a l b R)
 [nth j 0,pm 0] k)
 (λn m=>rv [.bool true] m R))
theorem BV(hw:sM h t0 t1 R):DC zz 28 [t0,t1] h R:=zT (by kernel_rfl) hw
end Go.Ao
namespace Go.Ai
open Go.Ai Go.Proofs
noncomputable def TN:Array Field:=match Program.underlying pu 50 with|some (.struct f)=>f|_ => #[]
theorem w9:rG 22:=wG (by kernel_rfl)
theorem vZ:rG 23:=wG (by kernel_rfl)
theorem Um:FcN 25 4:=Wq (by kernel_rfl) (by kernel_rfl)
theorem bD:FcN 33 5:=Wq (by kernel_rfl) (by kernel_rfl)
theorem Yd:rG 45:=wG (by kernel_rfl)
theorem xx:FcN 50 7:=Wq (by kernel_rfl) (by kernel_rfl)
theorem zfX:rG 9:=wG (by kernel_rfl)
theorem S7:FcM 25 4:=XV (by kernel_rfl)
theorem Jn:FcM 33 5:=XV (by kernel_rfl)
theorem Tc:Ye pu 25=some (.agg #[(pp),(pp),(pm 0),(pm 0)]):=zG (by kernel_rfl)
theorem gi:Ye pu 33=some (.agg #[(pm 0),(pm 0),(pp),(pp),(pm 0)]):=zG (by kernel_rfl)
theorem xZ:Iy 25 0:=λb o=>zG (by kernel_rfl)
theorem yZ:WX 25 1 1:=λb o=>zG (by kernel_rfl)
theorem jR:WX 25 2 2:=λb o=>zG (by kernel_rfl)
theorem ku:WX 25 3 3:=λb o=>zG (by kernel_rfl)
theorem mJ:WX 33 4 4:=λb o=>zG (by kernel_rfl)
theorem NT:Iy 47 0:=λb o=>zG (by kernel_rfl)
theorem uB:WX 47 1 1:=λb o=>zG (by kernel_rfl)
theorem Ku:Mx 22 1:=λb o l c k i=>vA (e:=3) (by kernel_rfl) (by kernel_rfl)
theorem zgA:Mx 23 2:=λb o l c k i=>vA (e:=47) (by kernel_rfl) (by kernel_rfl)
theorem zgD:Mx 45 7:=λb o l c k i=>vA (e:=50) (by kernel_rfl) (by kernel_rfl)
theorem E0:Rz 22:=λr a n c h=>zG (by kernel_rfl)
theorem T3:Rz 23:=λr a n c h=>zG (by kernel_rfl)
theorem T4:Rz 45:=λr a n c h=>zG (by kernel_rfl)
theorem zeM(x y:Operand)(a0:Int)(a1:Int)(a2:Int)(a3:Int)(a4:Int)(a5:Int)(a6:Int)(b0:Int)(b1:Int)(b2:Int)(b3:Int)(b4:Int)(b5:Int)(b6:Int):zS pu .neq 50 x y (.agg #[(pm a0),(pm a1),(pm a2),(pm a3),(pm a4),(pm a5),(pm a6)]) (.agg #[(pm b0),(pm b1),(pm b2),(pm b3),(pm b4),(pm b5),(pm b6)])=some (.bool (!((a0 == b0)&&((a1 == b1)&&((a2 == b2)&&((a3 == b3)&&((a4 == b4)&&((a5 == b5)&&((a6 == b6)))))))))):=(WJ (fs:=TN) (r:=(a0 == b0)&&((a1 == b1)&&((a2 == b2)&&((a3 == b3)&&((a4 == b4)&&((a5 == b5)&&((a6 == b6)))))))) (by kernel_rfl) (by kernel_rfl) (by kernel_rfl) rfl rfl (Eq.trans (b:=(cond (a0 == b0) (cond (a1 == b1) (cond (a2 == b2) (cond (a3 == b3) (cond (a4 == b4) (cond (a5 == b5) (cond (a6 == b6) (some true) (some false)) (some false)) (some false)) (some false)) (some false)) (some false)) (some false))) (by kernel_rfl) (by cases (a0 == b0) <;> cases (a1 == b1) <;> cases (a2 == b2) <;> cases (a3 == b3) <;> cases (a4 == b4) <;> cases (a5 == b5) <;> cases (a6 == b6) <;> rfl))).2
theorem zgW(x y:Operand)(a b:ByteArray):zS pu .neq 9 x y (.string a) (.string b)=some (.bool (!(a.toList == b.toList))):=zG (by kernel_rfl)
end Go.Ai
namespace Go.An
open Go.Ai Go.Proofs Go.Proofs.Tryz
noncomputable abbrev zz:=prog
abbrev VK:=aaa->za->Prop
abbrev LK:=List aaa->za->Prop
abbrev ci(n:Int):Operand := .const (pm n)
abbrev fn(n:Nat):aaa := .func (.func n) #[] #[]
variable {h:za}{t0 t1 t2 t3 t4 t5 t6:aaa}{R:VK}
def qs:FuncId->Nat:=λg=>([(15,2),(24,2),(25,2),(30,2),(40,2),(43,2),(45,2),(46,2),(68,2),(69,2),(70,2),(71,2),(72,2),(97,2),(98,2)].lookup g).getD 0
theorem mixed:prog.follows .mixedOrders=true:=ab4 Tryz.checked
theorem zT{f:FuncId}{args:List aaa}{X:Prop}(e:Rx zz (bJ zz qs) 200 f args h R=X)(hw:X):DC zz f args h R:=VQ mixed (q:=qs) (n:=200) (Eq.mpr e hw)
def JN:=λa (c:za) (R:VK) (f:LK)=>
 opt (nb [] (yd zz 33 [])) λd=>opt (yn 33 a d c) λb=>opt (zd zz 33 a b) λe=>rv [e,pm 0,pm 1] b R
def MQ:=λa b (f:LK) (k:aaa) (c:za)=>
 xD 68 a 13 22 c λd=>yp (nb [b] (zZ zz 22 1 [(0,b)] c)) λe g=>yp (nb [d,e] (zP zz .append [22,22] 22 [d,e] g)) λh i=>kG 68 a 13 22 h i λj=>f [] j
def MR:=λa (e:LK) b (c:za)=>
 opt (kV b 0) λd=>opt (kV b 1) λg=>xD 68 a 1 58 c λf=>zq zz (fn 23) [f,d] c (MQ a d e)
def MS:=λb (a:za) c d (e:LK)=>
 xD 68 b 1 58 a λf=>zt 25 c 0 22 a λg=>vx 22 g (nth d 0) 3 a λh=>jN zz 22 [f,h] a (MR b e)
def MT:=λb c a (d:LK) (h:List aaa) (e:za)=>
 BK (MS b e c a)
 (λi f=>opt (zh .add 3 62 (nth a 0) 1) λg=>d [g] f)
def D6:=λa (f:LK) g b (c:za) (h:LK)=>
 zt 25 a 0 22 c λi=>yp (v8 22 i c) λj d=>opt (yz .lss 3 57 60 (nth b 0) j) λk=>CD k (λe=>e [] d)
 (λe=>f [] d)
 (MT g a b h)
def MU:=λa b (c:za) (d:LK) e=>
 opt (vy a) λf=>opt (ze zz 68 f 5) λg=>opt (zJ zz 65 g b) λh=>opt (yn 64 h e c) λi=>d [] i
def MV:=λb (a:za) c d (e:LK)=>
 vL zz 25 [nth b 0] a (λf=>vx 26 c (nth b 0) 2 a λg=>vL zz 24 [g] a (MU d f a e))
def MW:=λa b c (d:LK) (h:List aaa) (e:za)=>
 BK (MV a e b c)
 (λi f=>opt (zh .add 3 97 (nth a 0) 1) λg=>d [g] f)
def sI:=λa (e:LK) f b (g:za) (h:LK)=>
 yp (v8 26 a g) λi c=>opt (yz .lss 3 93 95 (nth b 0) i) λj=>CD j (λd=>d [] c)
 (λd=>e [] c)
 (MW b a f h)
def F6:=λa (b:za) (c g:LK)=>
 xD 77 a 1 3 b λd=>opt (zh .add 3 167 d 1) λe=>kG 77 a 1 3 e b λf=>c [] f
def F7:=λa (b:za) (c g:LK)=>
 opt (vy a) λd=>opt (ze zz 68 d 2) λe=>UF 33 e 0 3 (pm 3) b λf=>c [] f
def F8:=λa (b:za) (c g:LK)=>
 opt (vy a) λd=>opt (ze zz 68 d 2) λe=>UF 33 e 0 3 (pm 2) b λf=>c [] f
def F9:=λa (b:za) (c:LK)=>
 opt (vy a) λd=>opt (ze zz 68 d 2) λe=>UF 33 e 0 3 (pm 3) b λf=>c [] f
def cD:=λa d (e:LK) f (b:za)=>
 zg a true (zh .eql 3 226 f 0) b (λg c=>opt (pk a g (.bool false)) λh=>CD h (F9 d c)
 (λi=>i [] c)
 (λk j=>e [] j)) b
def cE:=λa d (e:LK) f (c:za)=>
 zg a true (ze zz 33 f 0) c (λg b=>zg a true (zd zz 3 g b) b (cD a d e) b) c
def Qp:=λa d (e:LK) f (b:za)=>
 zg a true (vy f) b (λg c=>zg a true (ze zz 68 g 2) c (cE a d e) c) b
def Ga:=λa b h (i:LK) (w:List aaa) (d:za)=>
 opt (vy a) λj=>opt (ze zz 68 j 2) λk=>zt 33 k 4 3 d λl=>opt (zh .add 3 197 l 1) λm=>opt (vy a) λn=>opt (ze zz 68 n 2) λo=>UF 33 o 4 3 m d λe=>xD 77 b 1 3 e λp=>opt (zh .add 3 205 p 1) λq=>kG 77 b 1 3 q e λc=>xD 77 b 1 3 c λr=>opt (zh .sub 3 215 r 1) λs=>vx 45 h s 50 c λt=>zq zz (fn 27) [a,b,t] c (λu f=>opt (Vx zz .not u) λg=>GD g true (λv=>v a f) (Qp g a i) f)
def sJ:=λa c (d:LK) e f (g:LK) (m:List aaa) (b:za)=>
 opt (vy a) λh=>opt (ze zz 68 h 2) λi=>zt 33 i 4 3 b λj=>opt (yz .eql 3 186 187 j c) λk=>CD k (F8 a b d)
 (λl=>l [] b)
 (Ga a e f g)
def lN:=λa b c (d:LK) g (h:LK) (m:List aaa) (e:za)=>
 xD 77 a 1 3 e λi=>yp (v8 45 b e) λj f=>opt (yz .geq 3 174 176 i j) λk=>CD k (F7 c f d)
 (λl=>l [] f)
 (sJ c g d a b h)
def cF:=λa b (c:LK) f g (h:LK) i j (d:za)=>
 zg a true (zh .eql 3 161 j 20) d (λk e=>opt (pk a k (.bool false)) λl=>CD l (F6 b e c)
 (λm=>m [] e)
 (lN b f g h i c)) d
def cG:=λa d (e:LK) f g (h:LK) i j (c:za)=>
 zg a true (ze zz 50 j 0) c (λk b=>zg a true (zd zz 3 k b) b (cF a d e f g h i) b) c
def cH:=λa d e (f:LK) g h (i:LK) j k (b:za)=>
 zg a true (zd zz 3 k b) b (λl c=>zg a true (zJ zz 45 d l) c (cG a e f g h i j) c) b
def cI:=λa d e (f:LK) g h (i:LK) j k (b:za)=>
 zg a true (vy k) b (λl c=>zg a true (ze zz 77 l 1) c (cH a d e f g h i j) c) b
def cJ:=λf b c (g:LK) h (i:LK) j k (d:za)=>
 opt (pk f k (.bool false)) λa=>GD a true (λl=>l b d) (λm e=>GD a true (λn=>n c e) (cI a m c g b h i j) e) d
def cK:=λa c d e (f:LK) g (h:LK) i j (b:za)=>
 zg a true (yz .lss 3 148 150 c j) b (cJ a d e f g h i) b
def cL:=λa c d e (f:LK) g (h:LK) i j (b:za)=>
 GD a true (λk=>yp (v8 45 j b) λl m=>k l m) (cK a c d e f g h i) b
def cM:=λa c e (f:LK) g (h:LK) i j (b:za)=>
 zg a true (zd zz 3 j b) b (λk d=>GD a true (λl=>l c d) (cL a k c e f g h i) d) b
def cO:=λa d e (f:LK) g (h:LK) i j (b:za)=>
 zg a true (vy j) b (λk c=>zg a true (ze zz 77 k 1) c (cM a d e f g h i) c) b
def cP:=λb (a:za) d (e:LK) f (g:LK)=>
 xD 68 b 9 66 a λh=>xD 68 b 9 66 a λi=>yp (v8 66 i a) λj _=>opt (zh .sub 3 128 j 1) λk=>opt (zJ zz 66 h k) λc=>opt (vy b) λl=>opt (ze zz 68 l 0) λm=>zt 25 m 1 23 a λn=>xD 77 c 0 3 a λo=>opt (zJ zz 23 n o) λp=>zt 47 p 1 45 a λq=>GD d true (λr=>r c a) (cO d q c g b e f) a
def lO:=λb (c:LK) e f (n:List aaa) (a:za) (g:LK)=>
 opt (vy b) λh=>opt (ze zz 68 h 2) λi=>zt 33 i 0 3 a λj=>opt (zh .eql 3 118 j 0) λk=>CD k (λd=>d [] a)
 (λd=>c [] a)
 (λo l=>BK (cP b l e c f)
 (λp m=>g [] m))
def sK:=λc a (R:VK) (j:List aaa) (b:za)=>
 xD 68 c 2 33 b λf=>opt (vy c) λg=>opt (ze zz 68 g 11) λd=>opt (zd zz 3 d b) λh=>(Po 5 a 1 d/\opt (yn 33 a f b) λe=>opt (zd zz 33 a e) λi=>rv [i,h,pm 0] e R)
def Gb:=λc a d e f (R:VK) (j:List aaa) (b:za)=>
 zt 25 c 2 3 b λg=>zq zz (fn 26) [a,g] b (λk h=>BK (λi=>LP (lO a i d e)
 [] h)
 (sK a f R))
def Gc:=λa d e b k l m (R:VK) (u:List aaa) (f:za)=>
 opt (zd zz 25 a f) λg=>opt (nb [] (yd zz 62 [])) λh=>opt (nb [h] (some (Value.cells h).toList)) λn=>nw f n 62 λi o=>opt (nb [g,i,d,e,b] (yd zz 68 [(0,g),(1,i),(3,d),(12,e),(14,b)])) λj=>opt (nb [j] (some (Value.cells j).toList)) λp=>nw o p 68 λc q=>BK (λr=>LP (D6 a r c)
 [pm 0] q)
 (λv s=>BK (λt=>LP (sI k t c)
 [pm 0] s)
 (Gb a c b l m R))
def V6:=λa b (R:VK) e f g h i j k (c:za)=>
 zg a false (zh .gtr 3 45 k 2147483647) c (λl d=>opt (pk a (.bool true) l) λm=>CD m (JN b d R)
 (λn=>n [pm 0,pm 0] d)
 (Gc e f g h i j b R)) c
def V7:=λa b f (R:VK) g h i j k l (c:za)=>
 zg a false (zh .lss 3 41 l 0) c (λm d=>opt (pk a (.bool true) m) λe=>GD e false (λn=>n b d) (V6 e f R g h b i j k) d) c
def V8:=λa b f (R:VK) g h i j k l (c:za)=>
 zg a false (zh .gtr 3 37 l 100000000) c (λm d=>opt (pk a (.bool true) m) λe=>GD e false (λn=>n b d) (V7 e b f R g h i j k) d) c
def V9:=λa b f g (R:VK) h i j k l (c:za)=>
 zg a false (zh .lss 3 33 l 0) c (λm d=>opt (pk a (.bool true) m) λe=>GD e false (λn=>n b d) (V8 e f g R h i j k b) d) c
def Ua:=λa f b g h (R:VK) i j k l m (c:za)=>
 zg a false (yz .neq 3 27 29 f m) c (λn d=>opt (pk a (.bool true) n) λe=>GD e false (λo=>o b d) (V9 e b g h R i j k l) d) c
def Ub:=λa c e f g (R:VK) h i j k (d:za)=>
 zg a false (ze zz 25 c 3) d (λl b=>zg a false (zd zz 3 l b) b (Ua a k e f g R c h i j) b) d
def Uc:=λb e f g h (R:VK) i j k (c:za)=>
 opt (Vx zz .not k) λa=>GD a false (λl=>l b c) (λm d=>GD a false (λn=>yp (v8 26 m d) λo p=>n o p) (Ub a e f g h R i j b) d) c
def F5:=λ(h:za) a d e f g i (R:VK)=>
 opt (nb [a] (some (Value.cells a).toList)) λj=>nw h j 25 λb k=>qa 33 k λl c=>opt (zd zz 25 b c) λm=>zq zz (fn 15) [m] c (Uc d b f g l R e i)
theorem sL(hw:F5 h t0 t1 t2 t3 t4 t5 R):DC zz 10 [t0,t1,t2,t3,t4,t5] h R:=eG mixed (q:=qs) (n:=200) (Eq.mpr (by kernel_rfl) hw)
def cY:=λa (h:za) (R:VK) (e:LK)=>
 opt (vy a) λb=>opt (ze zz 68 b 2) λc=>UF 33 c 0 3 (pm 4) h λd=>rv [.bool false] d R
def cZ:=λa (b:za) (c:LK)=>
 xD 68 a 10 3 b λd=>kG 68 a 11 3 d b λe=>c [] e
def Gu:=λa d (R:VK) (l:List aaa) (c:za)=>
 xD 68 a 10 3 c λe=>opt (yz .add 3 24 25 e d) λf=>kG 68 a 10 3 f c λb=>xD 68 a 10 3 b λg=>xD 68 a 11 3 b λh=>opt (yz .gtr 3 32 36 g h) λi=>CD i (cZ a b)
 (λj=>j [] b)
 (λm k=>rv [.bool true] k R)
def tT:=λ(h:za) a b (R:VK)=>
 xD 68 a 12 3 h λc=>xD 68 a 10 3 h λd=>opt (yz .sub 3 9 13 c d) λe=>opt (yz .gtr 3 5 14 b e) λf=>CD f (cY a h R)
 (λg=>g [.bool false] h)
 (Gu a b R)
theorem oc(hw:tT h t0 t1 R):DC zz 41 [t0,t1] h R:=zT (by kernel_rfl) hw
def K5:=λa b (R:VK) (l:List aaa) (c:za)=>
 xD 68 a 9 66 c λd=>opt (nb [b] (yd zz 77 [(0,b)])) λe=>yp (nb [e] (zZ zz 66 1 [(0,e)] c)) λf g=>yp (nb [d,f] (zP zz .append [66,66] 66 [d,f] g)) λh i=>kG 68 a 9 66 h i λj=>kG 68 a 8 4 (.bool false) j λk=>rv [.bool true] k R
def lT:=λ(h:za) a d (R:VK)=>
 zq zz (fn 41) [a,pm 8] h (λe b=>opt (Vx zz .not e) λf=>CD f (λc=>rv [.bool false] b R)
 (λc=>c [.bool false] b)
 (K5 a d R))
theorem iM(hw:lT h t0 t1 R):DC zz 26 [t0,t1] h R:=zT (by kernel_rfl) hw
def tV:=λ(h:za) a b c d (R:VK)=>
 opt (vy a) λi=>opt (ze zz 68 i 2) λj=>zt 33 j 3 31 h λe=>opt (nb [b,c,d] (yd zz 80 [(0,b),(1,c),(2,d)])) λf=>yp (nb [f] (zZ zz 31 1 [(0,f)] h)) λg k=>yp (nb [e,g] (zP zz .append [31,31] 31 [e,g] k)) λl m=>opt (vy a) λn=>opt (ze zz 68 n 2) λo=>UF 33 o 3 31 l m λp=>rv [] p R
theorem oh(hw:tV h t0 t1 t2 t3 R):DC zz 48 [t0,t1,t2,t3] h R:=zT (by kernel_rfl) hw
def Ni:=λb (a:za) c d (e:LK)=>
 opt (zd zz 64 b a) λf=>opt (vy c) λg=>opt (ze zz 68 g 5) λh=>opt (zJ zz 65 h d) λi=>opt (yn 64 i f a) λj=>e [] j
def zcR:=λ(h:za) d e a b (R:VK)=>
 opt (nb [a] (some (Value.cells a).toList)) λf=>nw h f 64 λg c=>CD b (Ni g c d e)
 (λi=>i [] c)
 (λk j=>rv [b] j R)
theorem Sq(hw:zcR h t0 t1 t2 t3 R):DC zz 44 [t0,t1,t2,t3] h R:=zT (by kernel_rfl) hw
def Jd:=λ(d:za) e f (R:VK) b=>
 opt (kV b 0) λg=>opt (kV b 1) λh=>qa 64 d λc i=>opt (yn 64 c g i) λa=>zt 50 e 1 3 a λj=>opt (zd zz 64 c a) λk=>zq zz (fn 44) [f,j,k,h] a (λl m=>rv [l] m R)
def dm:=λa b (c:za) (d:LK) e=>
 opt (vy a) λf=>opt (ze zz 68 f 5) λg=>opt (zJ zz 65 g b) λh=>opt (yn 64 h e c) λi=>d [.bool false] i
def dp:=λ(d:za) e f (R:VK) b=>
 opt (kV b 0) λg=>opt (kV b 1) λh=>qa 64 d λc i=>opt (yn 64 c g i) λa=>zt 50 e 1 3 a λj=>opt (zd zz 64 c a) λk=>zq zz (fn 44) [f,j,k,h] a (λl m=>rv [l] m R)
def dq:=λ(d:za) e f (R:VK) b=>
 opt (kV b 0) λg=>opt (kV b 1) λh=>qa 64 d λc i=>opt (yn 64 c g i) λa=>zt 50 e 1 3 a λj=>opt (zd zz 64 c a) λk=>zq zz (fn 44) [f,j,k,h] a (λl m=>rv [l] m R)
def dr:=λ(d:za) e f (R:VK) b=>
 opt (kV b 0) λg=>opt (kV b 1) λh=>qa 64 d λc i=>opt (yn 64 c g i) λa=>zt 50 e 1 3 a λj=>opt (zd zz 64 c a) λk=>zq zz (fn 44) [f,j,k,h] a (λl m=>rv [l] m R)
def dt:=λ(d:za) e f (R:VK) b=>
 opt (kV b 0) λg=>opt (kV b 1) λh=>qa 64 d λc i=>opt (yn 64 c g i) λa=>zt 50 e 1 3 a λj=>opt (zd zz 64 c a) λk=>zq zz (fn 44) [f,j,k,h] a (λl m=>rv [l] m R)
def du:=λ(d:za) e f (R:VK) b=>
 opt (kV b 0) λg=>opt (kV b 1) λh=>qa 64 d λc i=>opt (yn 64 c g i) λa=>zt 50 e 1 3 a λj=>opt (zd zz 64 c a) λk=>zq zz (fn 44) [f,j,k,h] a (λl m=>rv [l] m R)
def Jh:=λb c (R:VK) (o:List aaa) (a:za)=>
 zt 50 b 3 3 a λd=>zt 50 b 1 3 a λe=>opt (vy c) λf=>opt (ze zz 68 f 5) λg=>vx 65 g e 64 a λh=>opt (vy c) λi=>opt (ze zz 68 i 5) λj=>opt (zJ zz 65 j (pm 1)) λk=>zt 64 k 1 2 a λl=>opt (zh .and 2 218 l 63) λm=>vL zz 24 [m] a (λn=>vL zz 43 [d,h,n] a (du a b c R))
def Ji:=λ(d:za) e (R:VK) a=>
 opt (kV a 0) λf=>opt (kV a 1) λg=>qa 64 d λb h=>opt (yn 64 b f h) λc=>opt (zd zz 64 b c) λi=>zq zz (fn 44) [e,pm 2,i,g] c (λj k=>rv [j] k R)
def Qb:=λc (a:za) b (d:LK)=>
 zt 50 c 2 3 a λe=>opt (vy b) λf=>opt (ze zz 68 f 5) λg=>vx 65 g e 64 a λh=>kG 68 b 7 64 h a λi=>d [] i
def Qc:=λa (b:LK) (e:List aaa) (c:za)=>
 kG 68 a 8 4 (.bool true) c λd=>b [.bool false] d
def Vn:=λb c d e (R:VK) f (a:za)=>
 zg b true (zd zz 4 f a) a (λg h=>opt (pk b g (.bool false)) λi=>jN zz 44 [c,d,e,i] h (λj k=>rv [j] k R)) a
def Wk:=λa d e f (R:VK) g (b:za)=>
 zg a true (vy g) b (λh c=>zg a true (ze zz 68 h 8) c (Vn a d e f R) c) b
def Qd:=λ(f:za) g b (R:VK) c=>
 opt (kV c 0) λh=>opt (kV c 1) λd=>qa 64 f λe i=>opt (yn 64 e h i) λa=>zt 50 g 1 3 a λj=>opt (zd zz 64 e a) λk=>GD d true (λl=>l b a) (Wk d b j k R) a
def Qe:=λc (a:za) b d (e:LK)=>
 opt (vy c) λf=>opt (ze zz 68 f 0) λg=>zt 25 g 1 23 a λh=>xD 77 b 0 3 a λi=>vx 23 h i 47 a λj=>zt 50 d 5 3 a λk=>vL zz 30 [j,k] a (λl=>kG 77 b 1 3 l a λm=>e [] m)
def Vo:=λb c d e (f:LK) g (l:aaa) (a:za)=>
 zt 64 b 1 2 a λh=>opt (zh .eql 2 367 h 1) λi=>CD i (Qe c a d e)
 (λj=>j [] a)
 (λm k=>f [nth g 0] k)
def Qf:=λa b d e (f:LK) g (c:za)=>
 zt 64 a 1 2 c λh=>zq zz (fn 48) [b,pm 1,h,pm 0] c (Vo a b d e f g)
def Wl:=λc (R:VK) d e f g (h:LK) i (a:za)=>
 opt (pk c (.bool true) i) λj=>CD j (λb=>rv [.bool false] a R)
 (λb=>b [.bool false] a)
 (Qf d e f g h)
def Wm:=λa (R:VK) d e f g (h:LK) i (b:za)=>
 zg a false (zd zz 4 i b) b (λj c=>zg a false (Vx zz .not j) c (Wl a R d e f g h) c) b
def Vp:=λa (R:VK) d e f g (h:LK) i (b:za)=>
 zg a false (vy i) b (λj c=>zg a false (ze zz 68 j 8) c (Wm a R d e f g h) c) b
def Qg:=λ(f:za) a (R:VK) g h (i:LK) b=>
 opt (kV b 0) λj=>opt (kV b 1) λk=>qa 64 f λc l=>opt (yn 64 c j l) λd=>opt (Vx zz .not k) λe=>GD e false (λm=>m a d) (Vp e R c a g h i) d
def Je:=λb c (R:VK) (g:aaa) (a:za)=>
 zt 50 b 3 3 a λd=>zq zz (fn 26) [c,d] a (λe f=>rv [e] f R)
def Vq:=λb (a:za) (c:LK)=>
 xD 68 b 3 26 a λd=>xD 68 b 4 3 a λe=>vx 26 d e 2 a λf=>c [f] a
def Vr:=λa (b:za) (c:LK) d=>
 opt (vy a) λe=>opt (ze zz 68 e 5) λf=>opt (zJ zz 65 f (pm 0)) λg=>opt (yn 64 g d b) λh=>c [.bool false] h
def Wn:=λa (i:LK) b (c:za)=>
 xD 68 a 4 3 c λj=>opt (zh .add 3 433 j 1) λk=>kG 68 a 4 3 k c λd=>opt (vy a) λl=>opt (ze zz 68 l 2) λm=>zt 33 m 2 30 d λe=>opt (nb [pm 1,nth b 0] (yd zz 85 [(0,(pm 1)),(1,(nth b 0))])) λf=>yp (nb [f] (zZ zz 30 1 [(0,f)] d)) λg n=>yp (nb [e,g] (zP zz .append [30,30] 30 [e,g] n)) λo p=>opt (vy a) λq=>opt (ze zz 68 q 2) λr=>UF 33 r 2 30 o p λh=>vL zz 24 [nth b 0] h (Vr a h i)
def Jf:=λa (g:LK) h (b:za)=>
 opt (vy a) λi=>opt (ze zz 68 i 2) λj=>zt 33 j 2 30 b λc=>opt (vy a) λk=>opt (ze zz 68 k 5) λl=>opt (zJ zz 65 l (pm 0)) λm=>zt 64 m 1 2 b λd=>opt (nb [pm 2,d] (yd zz 85 [(0,(pm 2)),(1,d)])) λe=>yp (nb [e] (zZ zz 30 1 [(0,e)] b)) λf n=>yp (nb [c,f] (zP zz .append [30,30] 30 [c,f] n)) λo p=>opt (vy a) λq=>opt (ze zz 68 q 2) λr=>UF 33 r 2 30 o p λs=>g [nth h 0] s
def Qh:=λb (a:za) (R:VK) (d:LK)=>
 opt (vy b) λe=>opt (ze zz 68 e 5) λf=>opt (zJ zz 65 f (pm 0)) λg=>zt 64 g 0 3 a λh=>opt (zh .neq 3 463 h 1) λi=>CD i (λc=>rv [.bool false] a R)
 (λc=>c [.bool false] a)
 (Jf b d)
def Qi:=λb (a:za) (c:LK)=>
 xD 68 b 4 3 a λd=>xD 68 b 3 26 a λe=>yp (v8 26 e a) λf _=>opt (yz .lss 3 413 418 d f) λg=>CD g (Vq b a)
 (λh=>h [pm 0] a)
 (Wn b c)
def Vs:=λb c (a:za) (R:VK) (d:LK)=>
 opt (zh .eql 3 31 b 26) λe=>CD e (Qh c a R)
 (λf=>f [.bool false] a)
 (λg h=>d [nth g 0] h)
def Yo:=λa b (c:za) (R:VK) (d:LK)=>
 opt (zh .eql 3 31 a 25) λe=>CD e (Qi b c)
 (Vs a b c R)
 (λf g=>d [nth f 0] g)
def Zo:=λc b d (R:VK) e (f:LK) g (a:za)=>
 CD (nth g 0) (λm=>opt (zd zz 50 c a) λh=>zq zz (fn 50) [b,d,h] a (λi j=>rv [i] j R))
 (Yo e b a R)
 (λk l=>f [nth k 0] l)
def k9:=λa (c:za) e f g (R:VK) (h:LK)=>
 opt (zh .eql 3 31 a 23) λd=>CD d (λb=>b [d] c)
 (λb=>opt (zh .eql 3 31 a 24) λi=>b [i] c)
 (Zo e f g R a h)
def Wo:=λa (b:za) c (R:VK) (e:LK)=>
 zt 50 a 3 3 b λd=>zq zz (fn 48) [c,pm 4,d,pm 0] b (Je a c R)
def u3:=λa b c (d:za) (R:VK) e (f:LK)=>
 opt (zh .eql 3 31 a 22) λg=>CD g (λl=>zq zz (fn 49) [b,c] d (λh i=>rv [h] i R))
 (k9 a d e b c R)
 (λj k=>f [nth j 0] k)
def Yp:=λc (a:za) b (R:VK) d (e:LK)=>
 zt 50 c 4 3 a λf=>xD 68 b 6 64 a λg=>xD 68 b 7 64 a λh=>vL zz 43 [f,g,h] a (Qg a b R d c e)
def ja:=λa b (c:za) d (R:VK) e (f:LK)=>
 opt (zh .eql 3 31 a 21) λg=>CD g (Wo b c d R)
 (u3 a d e c R b)
 (λh i=>f [nth h 0] i)
def Zp:=λc (a:za) b d (e:LK)=>
 opt (vy c) λf=>opt (ze zz 68 f 0) λg=>zt 25 g 1 23 a λh=>xD 77 b 0 3 a λi=>vx 23 h i 47 a λj=>zt 50 d 5 3 a λk=>vL zz 30 [j,k] a (λl=>kG 77 b 1 3 l a λm=>e [.bool false] m)
def ki:=λa b (c:za) d (R:VK) e (f:LK)=>
 opt (zh .eql 3 31 a 19) λg=>CD g (Yp b c d R e)
 (ja a b c d R e)
 (λh i=>f [nth h 0] i)
def jv:=λc (a:za) b (R:VK) (g:LK)=>
 zt 50 c 4 3 a λd=>xD 68 b 6 64 a λe=>xD 68 b 7 64 a λf=>vL zz 43 [d,e,f] a (Qd a c b R)
def qM:=λa b (c:za) d e (R:VK) (f:LK)=>
 opt (zh .eql 3 31 a 18) λg=>CD g (Zp b c d e)
 (ki a e c b R d)
 (λh i=>f [nth h 0] i)
def km:=λb (c:za) a f (g:LK)=>
 zt 50 b 1 3 c λh=>opt (vy a) λi=>opt (ze zz 68 i 5) λj=>vx 65 j h 64 c λk=>kG 68 a 6 64 k c λe=>opt (zd zz 64 f e) λl=>kG 68 a 7 64 l e λd=>zt 50 b 0 3 d λm=>opt (zh .eql 3 275 m 15) λn=>CD n (Qb b d a)
 (λo=>o [] d)
 (Qc a g)
def u4:=λa b (c:za) d (R:VK) e (f:LK)=>
 opt (zh .eql 3 31 a 17) λg=>CD g (jv b c d R)
 (qM a d c e b R)
 (λh i=>f [nth h 0] i)
def ko:=λc (a:za) b (R:VK) (j:LK)=>
 zt 50 c 2 3 a λd=>opt (vy b) λe=>opt (ze zz 68 e 5) λf=>vx 65 f d 64 a λg=>jN zz 47 [b,g] a (λh i=>rv [h] i R)
def uu:=λa (c:za) d e h (R:VK) i (j:LK)=>
 opt (zh .eql 3 31 a 15) λf=>CD f (λb=>b [f] c)
 (λb=>opt (zh .eql 3 31 a 16) λk=>b [k] c)
 (λl g=>CD (nth l 0) (km d g e h)
 (u4 a d g e R i)
 (λm n=>j [nth m 0] n))
def qw:=λb (a:za) (R:VK) (g:LK)=>
 opt (vy b) λc=>opt (ze zz 68 c 5) λd=>vx 65 d (pm 0) 64 a λe=>vL zz 24 [pm 63] a (λf=>vL zz 43 [pm 20,e,f] a (Ji a b R))
def vT:=λa b (c:za) d (R:VK) e f (g:LK)=>
 opt (zh .eql 3 31 a 14) λh=>CD h (ko b c d R)
 (uu a c b d e R f)
 (λi j=>g [nth i 0] j)
def uv:=λb (a:za) (R:VK) d (j:LK)=>
 opt (vy b) λe=>opt (ze zz 68 e 5) λf=>opt (zJ zz 65 f (pm 1)) λg=>zt 64 g 0 3 a λh=>opt (zh .neq 3 201 h 1) λi=>CD i (λc=>rv [.bool false] a R)
 (λc=>c [.bool false] a)
 (Jh d b R)
def vH:=λa b (c:za) (R:VK) d e f (g:LK)=>
 opt (zh .eql 3 31 a 13) λh=>CD h (qw b c R)
 (vT a d c b R e f)
 (λi j=>g [nth i 0] j)
def uw:=λb (a:za) c (R:VK) (i:LK)=>
 zt 50 b 3 3 a λd=>zt 50 b 2 3 a λe=>opt (vy c) λf=>opt (ze zz 68 f 5) λg=>vx 65 g e 64 a λh=>vL zz 46 [d,h] a (dt a b c R)
def wZ:=λa b (c:za) (R:VK) d e f (g:LK)=>
 opt (zh .eql 3 31 a 12) λh=>CD h (uv b c R d)
 (vH a b c R d e f)
 (λi j=>g [nth i 0] j)
def vU:=λb (a:za) c (R:VK) (i:LK)=>
 zt 50 b 3 3 a λd=>zt 50 b 1 3 a λe=>opt (vy c) λf=>opt (ze zz 68 f 5) λg=>vx 65 g e 64 a λh=>vL zz 46 [d,h] a (dr a b c R)
def wM:=λa b (c:za) d (R:VK) e f (g:LK)=>
 opt (zh .eql 3 31 a 10) λh=>CD h (uw b c d R)
 (wZ a d c R b e f)
 (λi j=>g [nth i 0] j)
def vh:=λb (a:za) c d (R:VK) (k:LK)=>
 zt 50 b 3 3 a λe=>zt 50 b 1 3 a λf=>opt (vy c) λg=>opt (ze zz 68 g 5) λh=>vx 65 h f 64 a λi=>opt (zd zz 64 d a) λj=>vL zz 43 [e,i,j] a (dq a b c R)
def wF:=λa b (c:za) d (R:VK) e f (g:LK)=>
 opt (zh .eql 3 31 a 9) λh=>CD h (vU b c d R)
 (wM a b c d R e f)
 (λi j=>g [nth i 0] j)
def vi:=λb (a:za) c (R:VK) (m:LK)=>
 zt 50 b 3 3 a λd=>zt 50 b 1 3 a λe=>opt (vy c) λf=>opt (ze zz 68 f 5) λg=>vx 65 g e 64 a λh=>zt 50 b 2 3 a λi=>opt (vy c) λj=>opt (ze zz 68 j 5) λk=>vx 65 k i 64 a λl=>vL zz 43 [d,h,l] a (dp a b c R)
def wh:=λa (c:za) d e f (R:VK) i (j:LK)=>
 opt (zh .eql 3 31 a 8) λg=>CD g (λb=>b [g] c)
 (λb=>opt (zh .eql 3 31 a 11) λk=>b [k] c)
 (λl h=>CD (nth l 0) (vh d h e f R)
 (wF a d h e R f i)
 (λm n=>j [nth m 0] n))
def w6:=λb (a:za) c (d:LK)=>
 zt 50 b 1 3 a λe=>xD 68 c 13 22 a λf=>zt 50 b 3 3 a λg=>vx 22 f g 3 a λh=>zt 50 b 6 2 a λi=>vL zz 45 [h,i] a (dm c e a d)
def xK:=λa b (c:za) d (R:VK) e f (g:LK)=>
 opt (zh .eql 3 31 a 7) λh=>CD h (vi b c d R)
 (wh a c b d e R f)
 (λi j=>g [nth i 0] j)
def wN:=λb (a:za) c d (R:VK) (j:LK)=>
 zt 50 b 2 3 a λe=>opt (vy c) λf=>opt (ze zz 68 f 5) λg=>vx 65 g e 64 a λh=>opt (zd zz 64 d a) λi=>vL zz 43 [pm 11,h,i] a (Jd a b c R)
def xL:=λa b (c:za) d (R:VK) e f (g:LK)=>
 opt (zh .eql 3 31 a 6) λh=>CD h (w6 b c d)
 (xK a b c d R e f)
 (λi j=>g [nth i 0] j)
def ya:=λa b (c:za) d e (R:VK) f (g:LK)=>
 opt (zh .eql 3 31 a 5) λh=>CD h (wN b c d e R)
 (xL a b c d R e f)
 (λi j=>g [nth i 0] j)
def y9:=λb c (R:VK) d e f (g:LK) h (a:za)=>
 CD (nth h 0) (λn=>opt (zd zz 50 b a) λi=>zq zz (fn 42) [c,i] a (λj k=>rv [j] k R))
 (ya d b a c e R f)
 (λl m=>g [nth l 0] m)
def wi:=λb (a:za) c d (e:LK)=>
 zt 50 b 1 3 a λf=>opt (zd zz 64 c a) λg=>opt (vy d) λh=>opt (ze zz 68 h 5) λi=>opt (zJ zz 65 i f) λj=>opt (yn 64 j g a) λk=>e [.bool false] k
def xc:=λa (c:za) e f (R:VK) g h (i:LK)=>
 opt (zh .eql 3 31 a 3) λd=>CD d (λb=>b [d] c)
 (λb=>opt (zh .eql 3 31 a 4) λj=>b [j] c)
 (y9 e f R a g h i)
def xR:=λb (a:za) c (d:LK)=>
 zt 50 b 1 3 a λe=>zt 50 b 2 3 a λf=>opt (vy c) λg=>opt (ze zz 68 g 5) λh=>vx 65 h f 64 a λi=>opt (vy c) λj=>opt (ze zz 68 j 5) λk=>opt (zJ zz 65 k e) λl=>opt (yn 64 l i a) λm=>d [.bool false] m
def zQ:=λa b (c:za) d e (R:VK) f (g:LK)=>
 opt (zh .eql 3 31 a 2) λh=>CD h (wi b c d e)
 (xc a c b e R d f)
 (λi j=>g [nth i 0] j)
def zL:=λa b (c:za) d e (R:VK) f (g:LK)=>
 opt (zh .eql 3 31 a 1) λh=>CD h (xR b c d)
 (zQ a b c e d R f)
 (λi j=>g [nth i 0] j)
def Jg:=λa d (R:VK) e f (g:za)=>
 qa 64 g λb h=>opt (yn 64 b f h) λc=>zt 50 a 0 3 c λi=>BK (zL i a c d b R e)
 (λk j=>rv [.bool true] j R)
def tX:=λ(h:za) d e a (R:VK)=>
 opt (nb [a] (some (Value.cells a).toList)) λf=>nw h f 50 λb c=>zt 50 b 6 2 c λg=>zq zz (fn 24) [g] c (Jg b d R e)
theorem ot(hw:tX h t0 t1 t2 R):DC zz 27 [t0,t1,t2] h R:=zT (by kernel_rfl) hw
def Qq:=λb (a:za) c d (R:VK) (n:LK)=>
 xD 68 b 1 58 a λe=>zt 50 c 3 3 a λf=>opt (zd zz 64 d a) λg=>zt 50 c 1 3 a λh=>opt (vy b) λi=>opt (ze zz 68 i 5) λj=>vx 65 j h 64 a λk=>jN zz 67 [e,f,g,k] a (λl m=>rv [l] m R)
def Qr:=λ(d:za) e f (R:VK) b=>
 opt (kV b 0) λg=>opt (kV b 1) λh=>qa 64 d λc i=>opt (yn 64 c g i) λa=>zt 50 e 1 3 a λj=>opt (zd zz 64 c a) λk=>zq zz (fn 44) [f,j,k,h] a (λl m=>rv [l] m R)
def Qs:=λb c d (R:VK) (h:List aaa) (a:za)=>
 xD 68 b 1 58 a λe=>zt 50 c 3 3 a λf=>opt (zd zz 64 d a) λg=>vL zz 68 [e,f,g] a (Qr a c b R)
def XO:=λa c d (R:VK) e (i:aaa) (b:za)=>
 zt 50 a 0 3 b λf=>opt (zh .eql 3 36 f 4) λg=>CD g (Qq c b a d R)
 (λh=>h [nth e 0] b)
 (Qs c a d R)
def Qt:=λa c d (R:VK) e (b:za)=>
 zt 64 a 2 3 b λf=>zt 64 a 1 2 b λg=>zq zz (fn 48) [c,pm 2,f,g] b (XO d c a R e)
def ZR:=λa (R:VK) e f g h (b:za)=>
 zg a false (zh .neq 3 26 h 2) b (λi c=>opt (pk a (.bool true) i) λj=>CD j (λd=>rv [.bool false] c R)
 (λd=>d [.bool false] c)
 (Qt e f g R)) b
def Qu:=λ(f:za) (R:VK) g h d=>
 opt (kV d 0) λi=>opt (kV d 1) λj=>qa 64 f λa k=>opt (yn 64 a i k) λe=>opt (Vx zz .not j) λb=>zg b false (ze zz 64 a 0) e (λl c=>zg b false (zd zz 3 l c) c (ZR b R a g h) c) e
def cR:=λ(h:za) c d (R:VK)=>
 opt (nb [d] (some (Value.cells d).toList)) λe=>nw h e 50 λb a=>zt 50 b 2 3 a λf=>opt (vy c) λg=>opt (ze zz 68 g 5) λi=>vx 65 i f 64 a λj=>zt 50 b 6 2 a λk=>vL zz 24 [k] a (λl=>vL zz 43 [pm 11,j,l] a (Qu a R c b))
theorem cS(hw:cR h t0 t1 R):DC zz 42 [t0,t1] h R:=zT (by kernel_rfl) hw
def Vf:=λb (a:za) c d (e:LK)=>
 zt 64 b 1 2 a λf=>zt 64 c 1 2 a λg=>zq zz (fn 48) [d,pm 3,f,g] a (λi h=>e [] h)
def Vg:=λd a e (R:VK) (o:List aaa) (b:za)=>
 opt (zd zz 64 d b) λf=>opt (vy a) λg=>opt (ze zz 68 g 5) λh=>opt (zJ zz 65 h (pm 0)) λi=>opt (yn 64 i f b) λc=>opt (zd zz 64 e c) λj=>opt (vy a) λk=>opt (ze zz 68 k 5) λl=>opt (zJ zz 65 l (pm 2)) λm=>opt (yn 64 m j c) λn=>rv [.bool true] n R
def Vh:=λa e (R:VK) f g h i (b:za)=>
 zg a false (yz .neq 64 56 57 e i) b (λj c=>opt (pk a (.bool true) j) λk=>CD k (λd=>rv [.bool false] c R)
 (λd=>d [.bool false] c)
 (Vg f g h R)) b
def XR:=λa d (R:VK) e f g h (b:za)=>
 zg a false (zd zz 64 h b) b (λi c=>zg a false (zd zz 64 d c) c (Vh a i R e f g) c) b
def Vi:=λa d (R:VK) e f g h (b:za)=>
 zg a false (ze zz 68 h 5) b (λi c=>zg a false (zJ zz 65 i (pm 2)) c (XR a d R e f g) c) b
def Qy:=λg b h (R:VK) i c (j:za)=>
 opt (kV c 0) λk=>opt (kV c 1) λo=>qa 64 j λd l=>opt (yn 64 d k l) λe=>opt (Vx zz .not g) λa=>GD a false (λm=>m b e) (λn f=>zg a false (vy n) f (Vi a h R i b d) f) e
def XS:=λd e f g (R:VK) b (h:za)=>
 opt (kV b 0) λi=>opt (kV b 1) λj=>qa 64 h λc k=>opt (yn 64 c i k) λa=>opt (zd zz 64 d a) λl=>opt (zd zz 64 e a) λm=>zq zz (fn 43) [pm 15,l,m] a (Qy j f g R c)
def tN:=λ(f:za) b c g (R:VK) d=>
 opt (kV d 0) λh=>opt (kV d 1) λl=>qa 64 f λe i=>opt (yn 64 e h i) λa=>opt (zd zz 64 b a) λj=>opt (zd zz 64 c a) λk=>zq zz (fn 43) [pm 14,j,k] a (XS b c g e R)
def JT:=λb c d (R:VK) (g:List aaa) (a:za)=>
 opt (zd zz 64 b a) λe=>vL zz 24 [pm 63] a (λf=>vL zz 43 [pm 20,e,f] a (tN a b c d R))
def Ka:=λa b c d (R:VK) g (e:za)=>
 zg a true (zh .eql 3 22 g 1) e (λh f=>opt (pk a h (.bool false)) λi=>CD i (Vf b f c d)
 (λj=>j [] f)
 (JT b c d R)) e
def cT:=λ(h:za) e f (R:VK)=>
 opt (nb [f] (some (Value.cells f).toList)) λj=>nw h j 64 λg i=>opt (vy e) λk=>opt (ze zz 68 k 5) λl=>vx 65 l (pm 0) 64 i λm=>qa 64 i λa n=>opt (yn 64 a m n) λb=>zt 64 a 0 3 b λo=>opt (zh .eql 3 18 o 1) λc=>zg c true (ze zz 64 g 0) b (λp d=>zg c true (zd zz 3 p d) d (Ka c a g e R) d) b
theorem cU(hw:cT h t0 t1 R):DC zz 47 [t0,t1] h R:=zT (by kernel_rfl) hw
def Nf:=λa (R:VK) (m:List aaa) (c:za)=>
 opt (vy a) λd=>opt (ze zz 68 d 2) λe=>UF 33 e 0 3 (pm 1) c λb=>opt (vy a) λf=>opt (ze zz 68 f 5) λg=>opt (zJ zz 65 g (pm 0)) λh=>zt 64 h 1 2 b λi=>opt (vy a) λj=>opt (ze zz 68 j 2) λk=>UF 33 k 1 2 i b λl=>rv [.bool true] l R
def Ng:=λb (R:VK) d (a:za)=>
 opt (vy b) λe=>opt (ze zz 68 e 5) λf=>opt (zJ zz 65 f (pm 0)) λg=>zt 64 g 0 3 a λh=>opt (zh .neq 3 46 h 1) λi=>CD i (λc=>rv [.bool false] a R)
 (λc=>c [nth d 0] a)
 (Nf b R)
def Nh:=λa (R:VK) i (c:za)=>
 xD 68 a 10 3 c λj=>opt (zh .sub 3 14 j 8) λk=>kG 68 a 10 3 k c λl=>kG 68 a 8 4 (.bool false) l λb=>xD 68 a 9 66 b λd=>xD 68 a 9 66 b λm=>yp (v8 66 m b) λn _=>opt (zh .sub 3 30 n 1) λe=>opt (nb [d] (cond (HX none&&HX (some e)) (B7 zz 66 d none (some e) b) none)) λo=>kG 68 a 9 66 o b λf=>xD 68 a 9 66 f λp=>yp (v8 66 p f) λq g=>opt (zh .gtr 3 39 q 0) λr=>CD r (λh=>rv [.bool true] g R)
 (λh=>h [nth i 0] g)
 (Ng a R)
def zcQ:=λ(h:za) b c (R:VK)=>
 xD 77 c 2 3 h λd=>opt (zh .gtr 3 8 d 0) λe=>CD e (λa=>rv [.bool false] h R)
 (λa=>a [.bool false] h)
 (Nh b R)
theorem Sp(hw:zcQ h t0 t1 R):DC zz 49 [t0,t1] h R:=zT (by kernel_rfl) hw
def K6:=λa b (R:VK) (n:aaa) (d:za)=>
 xD 77 a 4 64 d λe=>opt (vy b) λf=>opt (ze zz 68 f 5) λg=>opt (zJ zz 65 g (pm 4)) λh=>opt (yn 64 h e d) λc=>xD 68 b 10 3 c λi=>xD 77 a 3 3 c λj=>opt (yz .sub 3 47 51 i j) λk=>kG 68 b 10 3 k c λl=>kG 77 a 2 3 (pm 0) l λm=>rv [.bool true] m R
def K7:=λb c (R:VK) (f:List aaa) (a:za)=>
 xD 68 b 1 58 a λd=>xD 77 c 2 3 a λe=>jN zz 73 [d,e] a (K6 c b R)
def Xg:=λa e (R:VK) f g h (b:za)=>
 zg a false (yz .neq 3 21 23 e h) b (λi c=>opt (pk a (.bool true) i) λj=>CD j (λd=>rv [.bool false] c R)
 (λd=>d [.bool false] c)
 (K7 f g R)) b
def Xh:=λa d (R:VK) e f g (c:za)=>
 zg a false (ze zz 50 d 6) c (λh b=>zg a false (zd zz 2 h b) b (Xg a g R e f) b) c
def Xi:=λa d (R:VK) e f g (c:za)=>
 zg a false (ze zz 77 g 3) c (λh b=>zg a false (zd zz 3 h b) b (Xh a d R e f) b) c
def K8:=λa (b:za) e (R:VK) f (j:LK)=>
 xD 77 a 2 3 b λg=>opt (zh .eql 3 15 g 0) λc=>GD c false (λh=>h a b) (λi d=>zg c false (vy i) d (Xi c e R f a) d) b
def K9:=λa (b:za) (R:VK) c=>
 opt (vy a) λd=>opt (ze zz 68 d 5) λe=>opt (zJ zz 65 e (pm 4)) λf=>opt (yn 64 f c b) λg=>rv [.bool true] g R
def Ja:=λa b g c (R:VK) (m:List aaa) (h:za)=>
 kG 77 a 2 3 b h λd=>zt 50 g 6 2 d λi=>kG 77 a 3 3 i d λe=>opt (vy c) λj=>opt (ze zz 68 j 5) λk=>vx 65 k (pm 4) 64 e λl=>kG 77 a 4 64 l e λf=>vL zz 45 [b,pm 0] f (K9 c f R)
def U8:=λ(R:VK) d e f g a (b:za)=>
 opt (kV a 0) λh=>opt (kV a 1) λi=>opt (zh .neq 3 80 i 0) λj=>CD j (λc=>rv [.bool false] b R)
 (λc=>c [nth d 0] b)
 (Ja e h f g R)
def Qz:=λb c (R:VK) d e (a:za)=>
 xD 68 b 1 58 a λf=>zt 50 c 6 2 a λg=>jN zz 22 [f,g] a (U8 R e d c b)
def XT:=λa (R:VK) e f g h i (b:za)=>
 zg a false (Vx zz .not i) b (λj c=>opt (pk a (.bool true) j) λk=>CD k (λd=>rv [.bool false] c R)
 (λd=>d [nth e 0] c)
 (Qz f g R h)) b
def iN:=λa d (R:VK) e f g h i (b:za)=>
 zg a false (zd zz 2 i b) b (λj c=>GD a false (λk=>zq zz (fn 41) [d,j] c (λl m=>k l m)) (XT a R e f g h) c) b
def tQ:=λc d e (R:VK) g (a:za)=>
 xD 77 c 2 3 a λh=>opt (zh .gtr 3 61 h 0) λb=>GD b false (λi=>i d a) (λj f=>zg b false (ze zz 50 e 6) f (iN b j R g d e c) f) a
def lU:=λ(h:za) c d e (R:VK)=>
 opt (nb [e] (some (Value.cells e).toList)) λf=>nw h f 50 λa b=>zt 50 a 0 3 b λg=>opt (zh .eql 3 10 g 24) λi=>CD i (K8 d b a R c)
 (λj=>j [.bool false] b)
 (tQ d c a R)
theorem iO(hw:lU h t0 t1 t2 R):DC zz 50 [t0,t1,t2] h R:=zT (by kernel_rfl) hw
def MN:=λ(h:za) b (R:VK)=>
 yp (nb [pm 7,pm 6,pm 2,pm 1,pm 8,pm 9] (zZ zz 22 6 [(0,(pm 7)),(1,(pm 6)),(2,(pm 2)),(3,(pm 1)),(4,(pm 8)),(5,(pm 9))] h)) λc a=>vx 22 c b 3 a λd=>rv [d] a R
theorem II(hw:MN h t0 R):DC zz 25 [t0] h R:=zT (by kernel_rfl) hw
end Go.An
namespace Go.Ai
open Go.Ai Go.Proofs
theorem No:rG 26:=wG (by kernel_rfl)
theorem Np:rG 30:=wG (by kernel_rfl)
theorem GQ:rG 31:=wG (by kernel_rfl)
theorem bE:FcN 47 2:=Wq (by kernel_rfl) (by kernel_rfl)
theorem C4:rG 58:=wG (by kernel_rfl)
theorem Ad:rG 66:=wG (by kernel_rfl)
theorem SU:Ry 22 3 1 8:=λr v x n w h h1 h2 h3 h4=>jw (e:=3) (e2:=3) (by kernel_rfl) (by kernel_rfl) (by kernel_rfl) (by kernel_rfl) (by decide) h1 h2 h3 h4
theorem zcT:Ry 30 85 2 16:=λr v x n w h h1 h2 h3 h4=>jw (e:=85) (e2:=85) (by kernel_rfl) (by kernel_rfl) (by kernel_rfl) (by kernel_rfl) (by decide) h1 h2 h3 h4
theorem zcU:Ry 31 80 3 24:=λr v x n w h h1 h2 h3 h4=>jw (e:=80) (e2:=80) (by kernel_rfl) (by kernel_rfl) (by kernel_rfl) (by kernel_rfl) (by decide) h1 h2 h3 h4
theorem zf3:Ry 66 77 7 56:=λr v x n w h h1 h2 h3 h4=>jw (e:=77) (e2:=77) (by kernel_rfl) (by kernel_rfl) (by kernel_rfl) (by kernel_rfl) (by decide) h1 h2 h3 h4
theorem zf5:FcI 2:=λb o _ h=>uc (by kernel_rfl) b o _ h rfl
theorem zcV:RG 22:=λb o _ _ _ h=>uc (by kernel_rfl) b o _ h rfl
theorem S8:RG 30:=λb o _ _ _ h=>uc (by kernel_rfl) b o _ h rfl
theorem zcW:RG 31:=λb o _ _ _ h=>uc (by kernel_rfl) b o _ h rfl
theorem Es(b off:Nat)(v:Bool)(h:za):wx pu 4 (.pointer (some ⟨b,off,none⟩)) (.bool v) h=xw h b off [(.bool v)]:=uc (by kernel_rfl) b off _ h rfl
theorem zcX:RG 66:=λb o _ _ _ h=>uc (by kernel_rfl) b o _ h rfl
theorem Ti:yd pu 33 []=some (.agg #[(pm 0),(pm 0),(pp),(pp),(pm 0)]):=zG (by kernel_rfl)
theorem zd6:yd pu 62 []=some (.agg #[(pp),(pp)]):=zG (by kernel_rfl)
theorem zbz(v0:Int):yd pu 77 [(0,(pm v0))]=some (.agg #[(pm v0),(pm 0),(pm 0),(pm 0),(pm 0),(pm 0),(pm 0)]):=zG (by kernel_rfl)
theorem pW(v0:Int)(v1:Int)(v2:Int):yd pu 80 [(0,(pm v0)),(1,(pm v1)),(2,(pm v2))]=some (.agg #[(pm v0),(pm v1),(pm v2)]):=zG (by kernel_rfl)
theorem oF(v0:Int)(v1:Int):yd pu 85 [(0,(pm v0)),(1,(pm v1))]=some (.agg #[(pm v0),(pm v1)]):=zG (by kernel_rfl)
theorem Dg(v0:Int)(h:za):zZ pu 22 1 [(0,(pm v0))] h=some (.slice (some ⟨h.next,0,none⟩) 1 3,h.push (.cells [(pm v0)] 3)):=zG (by kernel_rfl)
theorem fU(v0:Int)(v1:Int)(v2:Int)(v3:Int)(v4:Int)(v5:Int)(h:za):zZ pu 22 6 [(0,(pm v0)),(1,(pm v1)),(2,(pm v2)),(3,(pm v3)),(4,(pm v4)),(5,(pm v5))] h=some (.slice (some ⟨h.next,0,none⟩) 6 8,h.push (.cells [(pm v0),(pm v1),(pm v2),(pm v3),(pm v4),(pm v5)] 3)):=zG (by kernel_rfl)
theorem oG(v00:Int)(v01:Int)(h:za):zZ pu 30 1 [(0,(.agg #[(pm v00),(pm v01)]))] h=some (.slice (some ⟨h.next,0,none⟩) 1 3,h.push (.cells [(pm v00),(pm v01)] 85)):=zG (by kernel_rfl)
theorem Dh(v00:Int)(v01:Int)(v02:Int)(h:za):zZ pu 31 1 [(0,(.agg #[(pm v00),(pm v01),(pm v02)]))] h=some (.slice (some ⟨h.next,0,none⟩) 1 3,h.push (.cells [(pm v00),(pm v01),(pm v02)] 80)):=zG (by kernel_rfl)
theorem PB(v00:Int)(v01:Int)(v02:Int)(v03:Int)(v040:Int)(v041:Int)(v042:Int)(h:za):zZ pu 66 1 [(0,(.agg #[(pm v00),(pm v01),(pm v02),(pm v03),(pm v040),(pm v041),(pm v042)]))] h=some (.slice (some ⟨h.next,0,none⟩) 1 3,h.push (.cells [(pm v00),(pm v01),(pm v02),(pm v03),(pm v040),(pm v041),(pm v042)] 77)):=zG (by kernel_rfl)
theorem kx:Iy 33 0:=λb o=>zG (by kernel_rfl)
theorem EG:WX 33 1 1:=λb o=>zG (by kernel_rfl)
theorem rT:WX 33 2 2:=λb o=>zG (by kernel_rfl)
theorem mI:WX 33 3 3:=λb o=>zG (by kernel_rfl)
theorem zf:Iy 50 0:=λb o=>zG (by kernel_rfl)
theorem yQ:WX 50 1 1:=λb o=>zG (by kernel_rfl)
theorem y5:WX 50 2 2:=λb o=>zG (by kernel_rfl)
theorem zB:WX 50 3 3:=λb o=>zG (by kernel_rfl)
theorem Kl:WX 50 4 4:=λb o=>zG (by kernel_rfl)
theorem vB:WX 50 5 5:=λb o=>zG (by kernel_rfl)
theorem zX:WX 50 6 6:=λb o=>zG (by kernel_rfl)
theorem fG:Iy 68 0:=λb o=>zG (by kernel_rfl)
theorem fH:WX 68 1 4:=λb o=>zG (by kernel_rfl)
theorem Jw:WX 68 10 68:=λb o=>zG (by kernel_rfl)
theorem AH:WX 68 11 69:=λb o=>zG (by kernel_rfl)
theorem Hy:WX 68 12 70:=λb o=>zG (by kernel_rfl)
theorem Hz:WX 68 13 71:=λb o=>zG (by kernel_rfl)
theorem jS:WX 68 2 5:=λb o=>zG (by kernel_rfl)
theorem NU:WX 68 3 10:=λb o=>zG (by kernel_rfl)
theorem EH:WX 68 4 11:=λb o=>zG (by kernel_rfl)
theorem wP:WX 68 5 12:=λb o=>zG (by kernel_rfl)
theorem rU:WX 68 6 60:=λb o=>zG (by kernel_rfl)
theorem mL:WX 68 7 63:=λb o=>zG (by kernel_rfl)
theorem Km:WX 68 8 66:=λb o=>zG (by kernel_rfl)
theorem aE:WX 68 9 67:=λb o=>zG (by kernel_rfl)
theorem fI:Iy 77 0:=λb o=>zG (by kernel_rfl)
theorem VM:WX 77 1 1:=λb o=>zG (by kernel_rfl)
theorem aF:WX 77 2 2:=λb o=>zG (by kernel_rfl)
theorem rV:WX 77 3 3:=λb o=>zG (by kernel_rfl)
theorem NV:WX 77 4 4:=λb o=>zG (by kernel_rfl)
theorem zdb:Mx 26 1:=λb o l c k i=>vA (e:=2) (by kernel_rfl) (by kernel_rfl)
theorem xW(b off:Nat)(k:IntKind)(i:Int):zJ pu 65 (.pointer (some ⟨b,off,none⟩)) (.int k i)=if 0<=i/\i<16 then some (.pointer (some ⟨b,off+i.toNat*3,none⟩)) else none:=J0 (e:=64) (len:=16) (by kernel_rfl) (by kernel_rfl)
theorem N8:Mx 66 7:=λb o l c k i=>vA (e:=77) (by kernel_rfl) (by kernel_rfl)
theorem E1:Rz 26:=λr a n c h=>zG (by kernel_rfl)
theorem oS:Rz 66:=λr a n c h=>zG (by kernel_rfl)
theorem L3(x y:Operand)(a0:Int)(a1:Int)(a2:Int)(b0:Int)(b1:Int)(b2:Int):zS pu .neq 64 x y (.agg #[(pm a0),(pm a1),(pm a2)]) (.agg #[(pm b0),(pm b1),(pm b2)])=some (.bool (!((a0 == b0)&&((a1 == b1)&&((a2 == b2)))))):=(WJ (fs:=HB) (r:=(a0 == b0)&&((a1 == b1)&&((a2 == b2)))) (by kernel_rfl) (by kernel_rfl) (by kernel_rfl) rfl rfl (Eq.trans (b:=(cond (a0 == b0) (cond (a1 == b1) (cond (a2 == b2) (some true) (some false)) (some false)) (some false))) (by kernel_rfl) (by cases (a0 == b0) <;> cases (a1 == b1) <;> cases (a2 == b2) <;> rfl))).2
theorem zhl(b off len c:Nat)(lo hi:Option aaa)(h:za):B7 pu 66 (.slice (some ⟨b,off,none⟩) len c) lo hi h=(vV hi len len).bind λhh=>(vV lo 0 hh).bind λl=>some (.slice (some ⟨b,off+l*7,none⟩) (hh-l) (cond (wide pu h b 7) (aC c l) 0)):=oE (e:=77) (by kernel_rfl) (by kernel_rfl)
end Go.Ai
namespace Go.Rm
open Go.Ai Go.Proofs Go.Proofs.Tryz
noncomputable abbrev zz:=prog
abbrev VK:=aaa->za->Prop
abbrev LK:=List aaa->za->Prop
abbrev ci(n:Int):Operand := .const (pm n)
abbrev fn(n:Nat):aaa := .func (.func n) #[] #[]
variable {h:za}{t0 t1 t2 t3 t4 t5 t6:aaa}{R:VK}
def qs:FuncId->Nat:=λg=>([(60,3),(61,3),(64,2),(87,2),(91,2),(109,2)].lookup g).getD 0
theorem mixed:prog.follows .mixedOrders=true:=ab4 Tryz.checked
theorem zT{f:FuncId}{args:List aaa}{X:Prop}(e:Rx zz (bJ zz qs) 200 f args h R=X)(hw:X):DC zz f args h R:=VQ mixed (q:=qs) (n:=200) (Eq.mpr e hw)
def nT:=λa (c:za) (R:VK) (f:LK)=>
 opt (nb [] (yd zz 64 [])) λd=>opt (yn 64 a d c) λb=>opt (zd zz 64 a b) λe=>rv [e,.bool false] b R
def tk:=λf (a:za) b (R:VK) (m:LK)=>
 zt 64 f 1 2 a λc=>yp (nb [c] (vY zz 2 21 c a)) λd g=>yp (nb [d] (vY zz 21 2 d g)) λh i=>zq zz (fn 64) [h] i (λj k=>opt (yn 64 b j k) λe=>opt (zd zz 64 b e) λl=>rv [l,.bool true] e R)
def tn:=λf (a:za) b (R:VK) (m:LK)=>
 zt 64 f 1 2 a λc=>yp (nb [c] (vY zz 2 196 c a)) λd g=>yp (nb [d] (vY zz 196 2 d g)) λh i=>zq zz (fn 64) [h] i (λj k=>opt (yn 64 b j k) λe=>opt (zd zz 64 b e) λl=>rv [l,.bool true] e R)
def nU:=λb c (a:za) d (R:VK) e (f:LK)=>
 opt (zh .eql 3 10 b 4) λg=>CD g (tk c a d R)
 (λh=>h [nth e 0] a)
 (λi j=>f [nth i 0] j)
def tp:=λd (a:za) b (R:VK) (j:LK)=>
 zt 64 d 1 2 a λe=>opt (Vx zz .xor e) λf=>zq zz (fn 64) [f] a (λg h=>opt (yn 64 b g h) λc=>opt (zd zz 64 b c) λi=>rv [i,.bool true] c R)
def cQ:=λa b (c:za) d (R:VK) e (f:LK)=>
 opt (zh .eql 3 10 a 3) λg=>CD g (tn b c d R)
 (nU a b c d R e)
 (λh i=>f [nth h 0] i)
def tt:=λd (a:za) b (R:VK) (j:LK)=>
 zt 64 d 1 2 a λe=>opt (Vx zz .neg e) λf=>zq zz (fn 64) [f] a (λg h=>opt (yn 64 b g h) λc=>opt (zd zz 64 b c) λi=>rv [i,.bool true] c R)
def KF:=λa b (c:za) d (R:VK) e (f:LK)=>
 opt (zh .eql 3 10 a 2) λg=>CD g (tp b c d R)
 (cQ a b c d R e)
 (λh i=>f [nth h 0] i)
def JO:=λa b (c:za) d (R:VK) e (f:LK)=>
 opt (zh .eql 3 10 a 1) λg=>CD g (tt b c d R)
 (KF a b c d R e)
 (λh i=>f [nth h 0] i)
def Q5:=λa (R:VK) (f:List aaa) (c:za)=>
 opt (nb [] (yd zz 64 [])) λd=>opt (yn 64 a d c) λb=>opt (zd zz 64 a b) λe=>rv [e,.bool false] b R
def Sf:=λ(h:za) f b (R:VK)=>
 opt (nb [b] (some (Value.cells b).toList)) λg=>nw h g 64 λc i=>qa 64 i λa d=>opt (zd zz 64 c d) λj=>zq zz (fn 110) [j] d (λk e=>opt (Vx zz .not k) λl=>CD l (nT a e R)
 (λm=>m [.bool false] e)
 (λn o=>BK (JO f c o a R n)
 (Q5 a R)))
theorem D7(hw:Sf h t0 t1 R):DC zz 109 [t0,t1] h R:=zT (by kernel_rfl) hw
def ZO:=λa (R:VK) b (d:za)=>
 opt (kV b 0) λe=>opt (kV b 1) λf=>opt (yn 64 a e d) λc=>opt (zd zz 64 a c) λg=>rv [g,f] c R
def qA:=λa (R:VK) b (d:za)=>
 opt (kV b 0) λe=>opt (kV b 1) λf=>opt (yn 64 a e d) λc=>opt (zd zz 64 a c) λg=>rv [g,f] c R
def eI:=λc d e f g (R:VK) (h:LK) i (a:za)=>
 opt (pk c (.bool true) i) λj=>CD j (λb=>opt (zd zz 64 d a) λk=>opt (zd zz 64 e a) λl=>zq zz (fn 113) [f,k,l] a (qA g R))
 (λb=>b [.bool false] a)
 (λm n=>h [nth m 0] n)
def eJ:=λa c d e f (R:VK) (g:LK) h (b:za)=>
 zg a false (zh .eql 3 84 h 22) b (eI a c d e f R g) b
def JH:=λb (a:za) e c (R:VK) (m:LK)=>
 zt 64 b 2 3 a λf=>zt 64 b 1 2 a λg=>zt 64 e 1 2 a λh=>opt (yz .sub 2 75 77 g h) λi=>zq zz (fn 87) [f,i] a (λj k=>opt (yn 64 c j k) λd=>opt (zd zz 64 c d) λl=>rv [l,.bool true] d R)
def eK:=λa (b:za) d e f (R:VK) (g:LK)=>
 opt (zh .eql 3 81 a 21) λc=>GD c false (λh=>h a b) (eJ c d e a f R g) b
def Yv:=λb c d e (R:VK) h (i:LK) j (f:za)=>
 GD b true (λk=>zq zz (fn 110) [j] f (λa l=>k a l)) (λa g=>opt (pk b a (.bool false)) λm=>CD m (JH c g d e R)
 (eK h g c d e R)
 (λn o=>i [nth n 0] o)) f
def JI:=λc d g h (R:VK) i (j:LK) k (e:za)=>
 GD c true (λl=>zq zz (fn 112) [k] e (λa m=>l a m)) (λa b=>opt (pk c a (.bool false)) λf=>zg f true (zd zz 64 d b) b (Yv f g d h R i j) b) e
def VI:=λb (a:za) e c (R:VK) (m:LK)=>
 zt 64 b 2 3 a λf=>zt 64 e 1 2 a λg=>zt 64 b 1 2 a λh=>opt (yz .add 2 56 58 g h) λi=>zq zz (fn 87) [f,i] a (λj k=>opt (yn 64 c j k) λd=>opt (zd zz 64 c d) λl=>rv [l,.bool true] d R)
def WG:=λb c (a:za) e f (R:VK) (g:LK)=>
 opt (zh .eql 3 62 b 12) λd=>zg d true (zd zz 64 c a) a (JI d e c f R b g) a
def jc:=λb c d e (R:VK) h (i:LK) j (f:za)=>
 GD b true (λk=>zq zz (fn 112) [j] f (λa l=>k a l)) (λa g=>opt (pk b a (.bool false)) λm=>CD m (VI c g d e R)
 (WG h d g c e R)
 (λn o=>i [nth n 0] o)) f
def jd:=λc d g h (R:VK) i (j:LK) k (e:za)=>
 GD c true (λl=>zq zz (fn 110) [k] e (λa m=>l a m)) (λa b=>opt (pk c a (.bool false)) λf=>zg f true (zd zz 64 d b) b (jc f d g h R i j) b) e
def jy:=λb (a:za) e c (R:VK) (m:LK)=>
 zt 64 b 2 3 a λf=>zt 64 b 1 2 a λg=>zt 64 e 1 2 a λh=>opt (yz .add 2 37 39 g h) λi=>zq zz (fn 87) [f,i] a (λj k=>opt (yn 64 c j k) λd=>opt (zd zz 64 c d) λl=>rv [l,.bool true] d R)
def jf:=λb c (a:za) e f (R:VK) (g:LK)=>
 opt (zh .eql 3 43 b 11) λd=>zg d true (zd zz 64 c a) a (jd d e c f R b g) a
def kM:=λb c d e (R:VK) h (i:LK) j (f:za)=>
 GD b true (λk=>zq zz (fn 110) [j] f (λa l=>k a l)) (λa g=>opt (pk b a (.bool false)) λm=>CD m (jy c g d e R)
 (jf h c g d e R)
 (λn o=>i [nth n 0] o)) f
def jg:=λc d g h (R:VK) i (j:LK) k (e:za)=>
 GD c true (λl=>zq zz (fn 112) [k] e (λa m=>l a m)) (λa b=>opt (pk c a (.bool false)) λf=>zg f true (zd zz 64 d b) b (kM f g d h R i j) b) e
def qC:=λb (a:za) c d e (R:VK) (h:LK)=>
 zt 64 b 1 2 a λf=>zt 64 c 1 2 a λg=>zq zz (fn 111) [d,f,g] a (ZO e R)
def qW:=λb c (a:za) e f (R:VK) (g:LK)=>
 opt (zh .eql 3 24 b 11) λd=>zg d true (zd zz 64 c a) a (jg d e c f R b g) a
def wj:=λb c d e f (R:VK) (i:LK) j (g:za)=>
 GD b true (λk=>zq zz (fn 110) [j] g (λa l=>k a l)) (λa h=>opt (pk b a (.bool false)) λm=>CD m (qC c h d e f R)
 (qW e c h d f R)
 (λn o=>i [nth n 0] o)) g
def vX:=λb (c:za) d f g (R:VK) (h:LK)=>
 opt (zd zz 64 b c) λi=>zq zz (fn 110) [i] c (λe a=>zg e true (zd zz 64 d a) a (wj e b d f g R h) a)
def uy:=λa (R:VK) (f:List aaa) (c:za)=>
 opt (nb [] (yd zz 64 [])) λd=>opt (yn 64 a d c) λb=>opt (zd zz 64 a b) λe=>rv [e,.bool false] b R
def FG:=λ(h:za) d a b (R:VK)=>
 opt (nb [a] (some (Value.cells a).toList)) λe=>nw h e 64 λf g=>opt (nb [b] (some (Value.cells b).toList)) λi=>nw g i 64 λj k=>qa 64 k λc l=>BK (vX f l j d c R)
 (uy c R)
theorem sy(hw:FG h t0 t1 t2 R):DC zz 91 [t0,t1,t2] h R:=zT (by kernel_rfl) hw
def Nl:=λa b c (R:VK) (h:List aaa) (e:za)=>
 opt (nb [pm 2,a,b] (yd zz 64 [(0,(pm 2)),(1,a),(2,b)])) λf=>opt (yn 64 c f e) λd=>opt (zd zz 64 c d) λg=>rv [g] d R
def zcS:=λ(h:za) b f (R:VK)=>
 qa 64 h λa c=>opt (zh .lss 3 5 b 1) λg=>CD g (λd=>opt (nb [] (yd zz 64 [])) λi=>opt (yn 64 a i c) λe=>opt (zd zz 64 a e) λj=>rv [j] e R)
 (λd=>d [] c)
 (Nl f b a R)
theorem Sv(hw:zcS h t0 t1 R):DC zz 87 [t0,t1] h R:=zT (by kernel_rfl) hw
def FY:=λb (R:VK) (g:List aaa) (a:za)=>
 xD 151 b 0 26 a λc=>xD 151 b 1 3 a λd=>opt (zh .sub 3 27 d 1) λe=>vx 26 c e 2 a λf=>rv [f] a R
def Sb:=λ(h:za) a (R:VK)=>
 xD 151 a 1 3 h λd=>opt (zh .add 3 6 d 1) λe=>kG 151 a 1 3 e h λb=>xD 151 a 1 3 b λf=>xD 151 a 0 26 b λg=>yp (v8 26 g b) λi _=>opt (yz .gtr 3 13 18 f i) λj=>CD j (λc=>rv [pm 0] b R)
 (λc=>c [pm 0] b)
 (FY a R)
theorem O6(hw:Sb h t0 R):DC zz 95 [t0] h R:=zT (by kernel_rfl) hw
def oe:=λb (R:VK) d (c:za)=>
 GD b true (λe=>zq zz (fn 125) [d] c (λa f=>e a f)) (λa g=>opt (pk b a (.bool false)) λh=>rv [h] g R) c
def M9:=λ(h:za) b (R:VK)=>
 opt (nb [b] (some (Value.cells b).toList)) λe=>nw h e 64 λc a=>zt 64 c 0 3 a λf=>opt (zh .eql 3 4 f 1) λd=>zg d true (zd zz 64 c a) a (oe d R) a
theorem IT(hw:M9 h t0 R):DC zz 110 [t0] h R:=zT (by kernel_rfl) hw
def og:=λb (R:VK) d (c:za)=>
 GD b true (λe=>zq zz (fn 125) [d] c (λa f=>e a f)) (λa g=>opt (pk b a (.bool false)) λh=>rv [h] g R) c
def Na:=λ(h:za) b (R:VK)=>
 opt (nb [b] (some (Value.cells b).toList)) λe=>nw h e 64 λc a=>zt 64 c 0 3 a λf=>opt (zh .eql 3 4 f 2) λd=>zg d true (zd zz 64 c a) a (og d R) a
theorem IU(hw:Na h t0 R):DC zz 112 [t0] h R:=zT (by kernel_rfl) hw
def WI:=λa (c:za) (R:VK) (f:LK)=>
 opt (nb [] (yd zz 64 [])) λd=>opt (yn 64 a d c) λb=>opt (zd zz 64 a b) λe=>rv [e,.bool false] b R
def QA:=λc d (e:za) a (R:VK) (j:LK)=>
 opt (yz .quo 2 43 44 c d) λf=>zq zz (fn 64) [f] e (λg h=>opt (yn 64 a g h) λb=>opt (zd zz 64 a b) λi=>rv [i,.bool true] b R)
def QB:=λc d a (R:VK) (j:List aaa) (e:za)=>
 opt (yz .rem 2 47 48 c d) λf=>zq zz (fn 64) [f] e (λg h=>opt (yn 64 a g h) λb=>opt (zd zz 64 a b) λi=>rv [i,.bool true] b R)
def YY:=λe a b c (R:VK) f (d:za)=>
 opt (zh .eql 3 41 e 14) λg=>CD g (QA a b d c R)
 (λh=>h [nth f 0] d)
 (QB a b c R)
def Yb:=λa e b (R:VK) f g h i (c:za)=>
 zg a false (pk e i (.bool false)) c (λj d=>opt (pk a (.bool true) j) λk=>CD k (WI b d R)
 (λl=>l [.bool false] d)
 (YY f g h b R)) c
def Zl:=λa c d (R:VK) e f g h (b:za)=>
 zg a true (zh .eql 2 36 h (-1)) b (Yb c a d R e f g) b
def Zm:=λa b g (R:VK) h i j (c:za)=>
 zg a false (zh .eql 2 33 j (-9223372036854775808)) c (λk d=>GD a false (λl=>l k d) (λe f=>GD e true (λm=>m b f) (Zl e a g R h i b) f) d) c
def YZ:=λa (c:za) (R:VK) (f:LK)=>
 opt (nb [] (yd zz 64 [])) λd=>opt (yn 64 a d c) λb=>opt (zd zz 64 a b) λe=>rv [e,.bool false] b R
def Jc:=λc d (e:za) a (R:VK) (j:LK)=>
 opt (yz .shl 2 81 82 c d) λf=>zq zz (fn 64) [f] e (λg h=>opt (yn 64 a g h) λb=>opt (zd zz 64 a b) λi=>rv [i,.bool true] b R)
def Yk:=λc d a (R:VK) (j:List aaa) (e:za)=>
 opt (yz .shr 2 85 86 c d) λf=>zq zz (fn 64) [f] e (λg h=>opt (yn 64 a g h) λb=>opt (zd zz 64 a b) λi=>rv [i,.bool true] b R)
def Zj:=λe a b c (R:VK) f (d:za)=>
 opt (zh .eql 3 79 e 19) λg=>CD g (Jc a b d c R)
 (λh=>h [nth f 0] d)
 (Yk a b c R)
def Yl:=λa b (R:VK) e f g h (c:za)=>
 zg a false (zh .gtr 2 75 h 63) c (λi d=>opt (pk a (.bool true) i) λj=>CD j (YZ b d R)
 (λk=>k [.bool false] d)
 (Zj e f g b R)) c
def Jb:=λc d (e:za) a (R:VK) (j:LK)=>
 opt (yz .geq 2 121 122 c d) λf=>zq zz (fn 127) [f] e (λg h=>opt (yn 64 a g h) λb=>opt (zd zz 64 a b) λi=>rv [i,.bool true] b R)
def U9:=λc d (e:za) a (R:VK) (j:LK)=>
 opt (yz .gtr 2 115 116 c d) λf=>zq zz (fn 127) [f] e (λg h=>opt (yn 64 a g h) λb=>opt (zd zz 64 a b) λi=>rv [i,.bool true] b R)
def Qa:=λb c d (a:za) e (R:VK) (f:LK)=>
 opt (zh .eql 3 8 b 26) λg=>CD g (Jb c d a e R)
 (λh=>h [.bool false] a)
 (λi j=>f [nth i 0] j)
def Vj:=λc d (e:za) a (R:VK) (j:LK)=>
 opt (yz .leq 2 109 110 c d) λf=>zq zz (fn 127) [f] e (λg h=>opt (yn 64 a g h) λb=>opt (zd zz 64 a b) λi=>rv [i,.bool true] b R)
def Vk:=λa b c (d:za) e (R:VK) (f:LK)=>
 opt (zh .eql 3 8 a 25) λg=>CD g (U9 b c d e R)
 (Qa a b c d e R)
 (λh i=>f [nth h 0] i)
def Wh:=λc d (e:za) a (R:VK) (j:LK)=>
 opt (yz .lss 2 103 104 c d) λf=>zq zz (fn 127) [f] e (λg h=>opt (yn 64 a g h) λb=>opt (zd zz 64 a b) λi=>rv [i,.bool true] b R)
def Wi:=λa b c (d:za) e (R:VK) (f:LK)=>
 opt (zh .eql 3 8 a 24) λg=>CD g (Vj b c d e R)
 (Vk a b c d e R)
 (λh i=>f [nth h 0] i)
def Xj:=λc d (e:za) a (R:VK) (j:LK)=>
 opt (yz .neq 2 97 98 c d) λf=>zq zz (fn 127) [f] e (λg h=>opt (yn 64 a g h) λb=>opt (zd zz 64 a b) λi=>rv [i,.bool true] b R)
def Xk:=λa b c (d:za) e (R:VK) (f:LK)=>
 opt (zh .eql 3 8 a 23) λg=>CD g (Wh b c d e R)
 (Wi a b c d e R)
 (λh i=>f [nth h 0] i)
def Ym:=λc d (e:za) a (R:VK) (j:LK)=>
 opt (yz .eql 2 91 92 c d) λf=>zq zz (fn 127) [f] e (λg h=>opt (yn 64 a g h) λb=>opt (zd zz 64 a b) λi=>rv [i,.bool true] b R)
def qH:=λa b c (d:za) e (R:VK) (f:LK)=>
 opt (zh .eql 3 8 a 22) λg=>CD g (Xj b c d e R)
 (Xk a b c d e R)
 (λh i=>f [nth h 0] i)
def qt:=λa (b:za) d (R:VK) e f (h:LK)=>
 opt (zh .lss 2 72 a 0) λc=>GD c false (λg=>g a b) (Yl c d R e f a) b
def Zk:=λa b c (d:za) e (R:VK) (f:LK)=>
 opt (zh .eql 3 8 a 21) λg=>CD g (Ym b c d e R)
 (qH a b c d e R)
 (λh i=>f [nth h 0] i)
def uX:=λc d (e:za) a (R:VK) (j:LK)=>
 opt (yz .xor 2 65 66 c d) λf=>zq zz (fn 64) [f] e (λg h=>opt (yn 64 a g h) λb=>opt (zd zz 64 a b) λi=>rv [i,.bool true] b R)
def uY:=λa (c:za) d e (R:VK) f (i:LK)=>
 opt (zh .eql 3 8 a 19) λg=>CD g (λb=>b [g] c)
 (λb=>opt (zh .eql 3 8 a 20) λj=>b [j] c)
 (λk h=>CD (nth k 0) (qt d h e R a f)
 (Zk a f d h e R)
 (λl m=>i [nth l 0] m))
def uk:=λc d (e:za) a (R:VK) (j:LK)=>
 opt (yz .or 2 59 60 c d) λf=>zq zz (fn 64) [f] e (λg h=>opt (yn 64 a g h) λb=>opt (zd zz 64 a b) λi=>rv [i,.bool true] b R)
def um:=λa b c (d:za) e (R:VK) (f:LK)=>
 opt (zh .eql 3 8 a 18) λg=>CD g (uX b c d e R)
 (uY a d c e R b)
 (λh i=>f [nth h 0] i)
def vS:=λc d (e:za) a (R:VK) (j:LK)=>
 opt (yz .and 2 53 54 c d) λf=>zq zz (fn 64) [f] e (λg h=>opt (yn 64 a g h) λb=>opt (zd zz 64 a b) λi=>rv [i,.bool true] b R)
def yS:=λa b c (d:za) e (R:VK) (f:LK)=>
 opt (zh .eql 3 8 a 17) λg=>CD g (uk b c d e R)
 (um a b c d e R)
 (λh i=>f [nth h 0] i)
def y8:=λa b (c:za) e (R:VK) f (h:LK)=>
 opt (zh .eql 2 30 a 0) λd=>GD d false (λg=>g b c) (Zm d a e R f b) c
def vG:=λa b c (d:za) e (R:VK) (f:LK)=>
 opt (zh .eql 3 8 a 16) λg=>CD g (vS b c d e R)
 (yS a b c d e R)
 (λh i=>f [nth h 0] i)
def wE:=λc d (e:za) a (R:VK) (j:LK)=>
 opt (yz .mul 2 23 24 c d) λf=>zq zz (fn 64) [f] e (λg h=>opt (yn 64 a g h) λb=>opt (zd zz 64 a b) λi=>rv [i,.bool true] b R)
def xJ:=λa (c:za) d e f (R:VK) (i:LK)=>
 opt (zh .eql 3 8 a 14) λg=>CD g (λb=>b [g] c)
 (λb=>opt (zh .eql 3 8 a 15) λj=>b [j] c)
 (λk h=>CD (nth k 0) (y8 d e h f R a)
 (vG a e d h f R)
 (λl m=>i [nth l 0] m))
def wz:=λc d (e:za) a (R:VK) (j:LK)=>
 opt (yz .sub 2 17 18 c d) λf=>zq zz (fn 64) [f] e (λg h=>opt (yn 64 a g h) λb=>opt (zd zz 64 a b) λi=>rv [i,.bool true] b R)
def xF:=λa b c (d:za) e (R:VK) (f:LK)=>
 opt (zh .eql 3 8 a 13) λg=>CD g (wE b c d e R)
 (xJ a d c b e R)
 (λh i=>f [nth h 0] i)
def wg:=λc d (e:za) a (R:VK) (j:LK)=>
 opt (yz .add 2 11 12 c d) λf=>zq zz (fn 64) [f] e (λg h=>opt (yn 64 a g h) λb=>opt (zd zz 64 a b) λi=>rv [i,.bool true] b R)
def zV:=λa b c (d:za) e (R:VK) (f:LK)=>
 opt (zh .eql 3 8 a 12) λg=>CD g (wz b c d e R)
 (xF a b c d e R)
 (λh i=>f [nth h 0] i)
def z7:=λa b c (d:za) e (R:VK) (f:LK)=>
 opt (zh .eql 3 8 a 11) λg=>CD g (wg b c d e R)
 (zV a b c d e R)
 (λh i=>f [nth h 0] i)
def wA:=λa (R:VK) (f:List aaa) (c:za)=>
 opt (nb [] (yd zz 64 [])) λd=>opt (yn 64 a d c) λb=>opt (zd zz 64 a b) λe=>rv [e,.bool false] b R
def tU:=λ(h:za) b c d (R:VK)=>
 qa 64 h λa e=>BK (z7 b c d e a R)
 (wA a R)
theorem od(hw:tU h t0 t1 t2 R):DC zz 111 [t0,t1,t2] h R:=zT (by kernel_rfl) hw
def nV:=λe f (a:za) (g:LK) h=>
 opt (yz .eql 64 22 23 e h) λb=>zg b true (zd zz 64 f a) a (λi d=>GD b true (λj=>jN zz 112 [i] d (λc k=>j c k)) (λc l=>opt (pk b c (.bool false)) λm=>g [m] l) d) a
def eY:=λd e f (g:LK) h (a:za)=>
 opt (pk d h (.bool false)) λc=>CD c (λb=>b [c] a)
 (λb=>opt (zd zz 64 e a) λi=>vL zz 64 [pm 0] a (nV i f a b))
 (λj k=>g [nth j 0] k)
def nW:=λa e f (g:LK) h (b:za)=>
 GD a true (λi=>vL zz 64 [pm 0] b (λc=>i c b)) (λc d=>zg a true (yz .eql 64 18 19 h c) d (eY a e f g) d) b
def nX:=λb (c:za) d (f:LK)=>
 opt (zd zz 64 b c) λg=>jN zz 112 [g] c (λe a=>zg e true (zd zz 64 d a) a (nW e b d f) a)
def nY:=λd (a:za) e f b (R:VK) (o:LK)=>
 opt (zd zz 64 d a) λg=>opt (zd zz 64 e a) λh=>opt (yz .eql 64 29 30 g h) λi=>opt (zh .eql 3 32 f 21) λj=>opt (yz .eql 4 31 33 i j) λk=>zq zz (fn 127) [k] a (λl m=>opt (yn 64 b l m) λc=>opt (zd zz 64 b c) λn=>rv [n,.bool true] c R)
def eZ:=λf a b g h (R:VK) (i:LK) j (c:za)=>
 opt (pk f j (.bool false)) λd=>CD d (λk=>k [d] c)
 (nX a c b)
 (λl e=>CD (nth l 0) (nY a e b g h R)
 (λm=>m [.bool false] e)
 (λn o=>i [nth n 0] o))
def nZ:=λc e f g (R:VK) (h:LK) a (b:za)=>
 zg a true (zd zz 64 c b) b (λi d=>GD a true (λj=>zq zz (fn 112) [i] d (λk l=>j k l)) (eZ a e c f g R h) d) b
def n5:=λa (R:VK) (f:List aaa) (c:za)=>
 opt (nb [] (yd zz 64 [])) λd=>opt (yn 64 a d c) λb=>opt (zd zz 64 a b) λe=>rv [e,.bool false] b R
def M0:=λ(h:za) f a b (R:VK)=>
 opt (nb [a] (some (Value.cells a).toList)) λg=>nw h g 64 λc i=>opt (nb [b] (some (Value.cells b).toList)) λj=>nw i j 64 λk l=>qa 64 l λd e=>BK (λm=>opt (zd zz 64 c e) λn=>zq zz (fn 112) [n] e (nZ k c f d R m))
 (n5 d R)
theorem IN(hw:M0 h t0 t1 t2 R):DC zz 113 [t0,t1,t2] h R:=zT (by kernel_rfl) hw
def C0:=λ(c:za) a (R:VK) (g:LK)=>
 zq zz (fn 64) [pm 1] c (λd e=>opt (yn 64 a d e) λb=>opt (zd zz 64 a b) λf=>rv [f] b R)
def C1:=λa (R:VK) (g:List aaa) (c:za)=>
 zq zz (fn 64) [pm 0] c (λd e=>opt (yn 64 a d e) λb=>opt (zd zz 64 a b) λf=>rv [f] b R)
def Nk:=λ(h:za) c (R:VK)=>
 qa 64 h λa b=>CD c (C0 b a R)
 (λd=>d [] b)
 (C1 a R)
theorem IZ(hw:Nk h t0 R):DC zz 127 [t0] h R:=zT (by kernel_rfl) hw
def Ss:=λ(h:za) c (R:VK)=>
 zq zz (fn 81) [c] h (λa d=>opt (nb [a] (yd zz 151 [(0,a)])) λb=>opt (nb [b] (some (Value.cells b).toList)) λe=>nw d e 151 λf g=>rv [f] g R)
theorem Pf(hw:Ss h t0 R):DC zz 61 [t0] h R:=zT (by kernel_rfl) hw
def Cm:=λ(h:za) a (R:VK)=>
 opt (nb [a,pp] (zS zz .eql 26 (.tmp 3) (.const (pp)) a (pp))) λd=>CD d (λb=>rv [pp] h R)
 (λb=>b [pp] h)
 (λj e=>yp (nb [] (zZ zz 26 0 [] e)) λc f=>yp (nb [c,a] (zP zz .append [26,26] 26 [c,a] f)) λg i=>rv [g] i R)
theorem D1(hw:Cm h t0 R):DC zz 81 [t0] h R:=zT (by kernel_rfl) hw
end Go.Rm
namespace Go.Ai
open Go.Ai Go.Proofs
theorem zf0:Ry 26 2 1 8:=λr v x n w h h1 h2 h3 h4=>jw (e:=2) (e2:=2) (by kernel_rfl) (by kernel_rfl) (by kernel_rfl) (by kernel_rfl) (by decide) h1 h2 h3 h4
theorem Tg(v0:Option Addr)(v0l v0c:Nat):yd pu 151 [(0,(.slice v0 v0l v0c))]=some (.agg #[(.slice v0 v0l v0c),(pm 0)]):=zG (by kernel_rfl)
theorem G8(v0:Int)(v1:Int)(v2:Int):yd pu 64 [(0,(pm v0)),(1,(pm v1)),(2,(pm v2))]=some (.agg #[(pm v0),(pm v1),(pm v2)]):=zG (by kernel_rfl)
theorem Tm(h:za):zZ pu 26 0 [] h=some (.slice (some ⟨h.next,0,none⟩) 0 2,h.push (.cells [] 2)):=zG (by kernel_rfl)
theorem Ts(n:Int)(h:za):vY pu 2 196 (pm n) h=some (.int .i8 (IntKind.wrap .i8 n),h):=zG (by kernel_rfl)
theorem EB(n:Int)(h:za):vY pu 2 21 (pm n) h=some (.int .i32 (IntKind.wrap .i32 n),h):=zG (by kernel_rfl)
theorem zbK(x y:Operand):zS pu .eql 26 x y (pp) (pp)=some (.bool true):=zG (by kernel_rfl)
theorem zek(x y:Operand)(a:Addr)(n c:Nat):zS pu .eql 26 x y (.slice (some a) n c) (pp)=some (.bool false):=zfb (e:=2) (by kernel_rfl) a n c
theorem TE(x y:Operand)(a b:Bool):zS pu .eql 4 x y (.bool a) (.bool b)=some (.bool (a == b)):=zG (by kernel_rfl)
theorem Hw:Iy 151 0:=λb o=>zG (by kernel_rfl)
theorem AG:WX 151 1 1:=λb o=>zG (by kernel_rfl)
end Go.Ai
namespace Go.Rtl
open Go.Ai Go.Proofs
def xr(b:Bool)(v:aaa)(_:za):Prop:=v=.bool b
def isI(n:Int)(v:aaa)(_:za):Prop:=v=.int .i64 n
theorem yB{f:FuncId}{args:List aaa}{h:za}{b:Bool}(d:DC pu f args h.lock (xr b)):xC pu f args h (.bool b):=xC.of rfl d
theorem Oq{f:FuncId}{args:List aaa}{h:za}{n:Int}(d:DC pu f args h.lock (isI n)):xC pu f args h (pm n):=xC.of rfl d
structure Old (h h':za):Prop where
 next:h.next<=h'.next
 ro:h'.ro=h.ro
 get:∀b,b<h.next->h'.get b=h.get b
theorem Old.refl(h:za):Old h h:=⟨aam _,rfl,λ_ _=>rfl⟩
theorem Old.trans{a b c:za}(x:Old a b)(y:Old b c):Old a c:=⟨aaZ x.next y.next,y.ro.trans x.ro,λi hi=>(y.get i (aan hi x.next)).trans (x.get i hi)⟩
theorem Old.push(h:za)(o:wQ):Old h (h.push o):=⟨abC _,rfl,λb hb=>zD hb⟩
theorem Old.set{h h':za}(x:Old h h'){b:Nat}(hb:h.next<=b)(o:Option wQ):Old h (h'.set b o):=⟨x.next,x.ro,λc hc=>(zU (by omega)).trans (x.get c hc)⟩
def zl(h:za)(sv:aaa)(zs:List Int):Prop:=(sv=.slice none 0 0/\zs=[]) \/ ∃b off cp,sv=.slice (some ⟨b,off,none⟩) zs.length cp/\(zs≠[]->∃c t,b<h.next/\h.get b=some (.cells c t) /\ ∀(i:Nat) z,zs[i]? = some z->c[off+i]? = some (pm z))
section
variable {h h':za}{sv:aaa}{zs:List Int}
theorem zl.kY(S:zl h sv zs):yu sv=false:=by
 rcases S with⟨rfl,_⟩|⟨b,off,cp,rfl,_⟩ <;> rfl
theorem zl.fC(S:zl h sv zs):wI sv=true:=by
 rcases S with⟨rfl,_⟩|⟨b,off,cp,rfl,_⟩ <;> rfl
theorem zl.old(S:zl h sv zs)(e:Old h h'):zl h' sv zs:=by
 rcases S with a|⟨b,off,cp,rfl,hc⟩
 ·exact .inl a
 ·refine .inr ⟨b,off,cp,rfl,λhz=>?_⟩;obtain⟨c,t,hb,hg,hat⟩:=hc hz;exact⟨c,t,aan hb e.next,by rw[e.get b hb];exact hg,hat⟩
theorem zl.lock(S:zl h sv zs):zl h.lock sv zs:=by
 rcases S with a|⟨b,off,cp,rfl,hc⟩
 ·exact .inl a
 ·refine .inr ⟨b,off,cp,rfl,λhz=>?_⟩;obtain⟨c,t,hb,hg,hat⟩:=hc hz;exact⟨c,t,hb,by rw[mU];exact hg,hat⟩
end
theorem sj{h:za}(w:eH h)(o:wQ):eH (h.push o):=⟨λb x hb=>by
 rw[za.vO]at hb;show b<h.next+1;split at hb
 ·rename_i e;omega
 ·have:=w.1 b x hb;omega,abQ w.2⟩
theorem wf_set{h:za}(w:eH h){b:Nat}(hb:b<h.next)(o:Option wQ):eH (h.set b o):=⟨λc x hc=>by
 rw[za.yR]at hc;split at hc
 ·rename_i e;subst e;exact hb
 ·exact w.1 c x hc,w.2⟩
theorem inc{i:Nat}(h:i<4611686018427387904):IntKind.wrap .i64 ((i:Int)+1)=((i+1:Nat):Int):=by
 simp only[IntKind.wrap,IntKind.bits,IntKind.signed];simp;omega
def zE(h:za)(sv:aaa)(n:Nat)(rows:List (List aaa)):Prop:=(sv=.slice none 0 0/\rows=[]) \/ ∃b off cp,sv=.slice (some ⟨b,off,none⟩) rows.length cp /\
 (rows≠[]->∃c t,b<h.next/\h.get b=some (.cells c t) /\ ∀(i:Nat) r,rows[i]? = some r->off+i*n+n<=c.length/\(c.drop (off+i*n)).take n=r)
section
variable {h h':za}{sv:aaa}{n:Nat}{rows:List (List aaa)}
theorem zE.kY(S:zE h sv n rows):yu sv=false:=by
 rcases S with⟨rfl,_⟩|⟨b,off,cp,rfl,_⟩ <;> rfl
theorem zE.fC(S:zE h sv n rows):wI sv=true:=by
 rcases S with⟨rfl,_⟩|⟨b,off,cp,rfl,_⟩ <;> rfl
theorem zE.old(S:zE h sv n rows)(e:Old h h'):zE h' sv n rows:=by
 rcases S with a|⟨b,off,cp,rfl,hc⟩
 ·exact .inl a
 ·refine .inr ⟨b,off,cp,rfl,λhz=>?_⟩;obtain⟨c,t,hb,hg,hat⟩:=hc hz;exact⟨c,t,aan hb e.next,by rw[e.get b hb];exact hg,hat⟩
theorem zE.lock(S:zE h sv n rows):zE h.lock sv n rows:=by
 rcases S with a|⟨b,off,cp,rfl,hc⟩
 ·exact .inl a
 ·refine .inr ⟨b,off,cp,rfl,λhz=>?_⟩;obtain⟨c,t,hb,hg,hat⟩:=hc hz;exact⟨c,t,hb,by rw[mU];exact hg,hat⟩
theorem zE.spot(S:zE h sv n rows){i:Nat}{r:List aaa}(hr:rows[i]? = some r)(hn:r.length=n):∃b o c t,(∃off cp,sv=.slice (some ⟨b,off,none⟩) rows.length cp/\o=off+i*n)/\i<rows.length/\b<h.next/\h.get b=some (.cells c t)/\o+n<=c.length/\(c.drop o).take n=r /\ ∀k,k<n->c[o+k]? = r[k]?:=by
 rcases S with⟨rfl,rfl⟩|⟨b,off,cp,rfl,hc⟩
 ·cases hr
 ·have hlt:i<rows.length:=by
   rcases aax i rows.length with a|a
   ·exact a
   ·rw[aak a]at hr;cases hr
  obtain⟨c,t,hb,hg,hat⟩:=hc (by intro e;subst e;cases hr);obtain⟨h1,h2⟩:=hat i r hr;refine⟨b,off+i*n,c,t,⟨off,cp,rfl,rfl⟩,hlt,hb,hg,h1,h2,λk hk=>?_⟩
  ·rw[<- h2,aa7 hk,aaW]
end
theorem RM{step:List aaa->za->(List aaa->za->Prop)->Prop}(Q:za->Prop){v:aaa}(n:Nat)(G:Nat->Bool){h:za}(h0:Q h)
  (hs:∀i h J,i<=n->Q h->(∀k,k<i->G k=true)->(∀h',i<n->G i=true->Q h'->J [v,pm ((i+1:Nat):Int)] h')->step [v,pm (i:Nat)] h J):LP step [v,pm 0] h:=by
 refine qQ (λm vs h=>∃i,i<=n/\m=n-i/\vs=[v,pm (i:Nat)]/\Q h /\ ∀k,k<i->G k=true) n ⟨0,aaX _,rfl,rfl,h0,λk hk=>absurd hk (Nat.not_lt_zero _)⟩ ?_;rintro m vs h ⟨i,hi,rfl,rfl,e,g⟩;refine hs i h _ hi e g λh' hlt hg e'=>⟨n-(i+1),by omega,i+1,hlt,rfl,rfl,e',λk hk=>?_⟩;rcases aax k i with q|q
 ·exact g k q
 ·have:k=i:=by omega
  subst this;exact hg
def Lh{α:Type}(l:List α)(B:α->Bool)(k:Nat):Bool:=match l[k]? with
 |some x=>B x
 |none=>true
theorem Xm{α:Type}{l:List α}{B:α->Bool}(h:∀k,k<l.length->Lh l B k=true):l.all B=true:=by
 rw[aaM];intro x hx;obtain⟨k,hk,rfl⟩:=abS hx;have:=h k hk;simpa only[Lh,aac hk] using this
theorem U1{α:Type}{l:List α}{B:α->Bool}{k:Nat}{x:α}(hx:l[k]? = some x)(hb:B x=false):l.all B=false:=by
 rw[List.all_eq_false];exact⟨x,aaA hx,by simp[hb]⟩
theorem J4{α:Type}{l:List α}{B:α->Bool}{k:Nat}{x:α}(hx:l[k]? = some x):Lh l B k=B x:=by simp only[Lh,hx]
theorem get_some{α:Type}{l:List α}{k:Nat}(h:k<l.length):∃x,l[k]? = some x/\x∈l:=⟨l[k],aac h,List.getElem_mem h⟩
structure Sub (h h':za):Prop where
 next:h.next<=h'.next
 get:∀b o,b<h.next->h.get b=some o->h'.get b=some o
theorem Sub.refl(h:za):Sub h h:=⟨aam _,λ_ _ _ e=>e⟩
theorem Sub.trans{a b c:za}(x:Sub a b)(y:Sub b c):Sub a c:=⟨aaZ x.next y.next,λi o hi e=>y.get i o (aan hi x.next) (x.get i o hi e)⟩
theorem Old.sub{h h':za}(e:Old h h'):Sub h h':=⟨e.next,λb o hb g=>by rw[e.get b hb];exact g⟩
section
variable {h h':za}
theorem zl.sub{sv:aaa}{zs:List Int}(S:zl h sv zs)(e:Sub h h'):zl h' sv zs:=by
 rcases S with a|⟨b,off,cp,rfl,hc⟩
 ·exact .inl a
 ·refine .inr ⟨b,off,cp,rfl,λhz=>?_⟩;obtain⟨c,t,hb,hg,hat⟩:=hc hz;exact⟨c,t,aan hb e.next,e.get b _ hb hg,hat⟩
theorem zE.sub{sv:aaa}{n:Nat}{rows:List (List aaa)}(S:zE h sv n rows)(e:Sub h h'):zE h' sv n rows:=by
 rcases S with a|⟨b,off,cp,rfl,hc⟩
 ·exact .inl a
 ·refine .inr ⟨b,off,cp,rfl,λhz=>?_⟩;obtain⟨c,t,hb,hg,hat⟩:=hc hz;exact⟨c,t,aan hb e.next,e.get b _ hb hg,hat⟩
theorem zE.SM{sv:aaa}{n:Nat}{rows:List (List aaa)}(S:zE h sv n rows):bF sv=some rows.length:=by
 rcases S with⟨rfl,rfl⟩|⟨b,off,cp,rfl,hc⟩ <;> rfl
theorem zcz{c:List aaa}{off:Nat}{l:List aaa}(h:∀(i:Nat) v,l[i]? = some v->c[off+i]? = some v):(l=[]\/off+l.length<=c.length)/\(c.drop off).take l.length=l:=by
 have hle:l=[]\/off+l.length<=c.length:=by
  cases hl:l.length with
  |zero=>exact .inl (abF.1 hl)
  |succ n=>
   have:=h n l[n] (aac (by omega));rcases aax (off+n) c.length with q|q
   ·exact .inr (by omega)
   ·rw[aak q]at this;cases this
 refine⟨hle,abw λi=>?_⟩;rw[acE,aaW];by_cases hi:i<l.length
 ·rw[aai hi,aac hi];exact h i _ (aac hi)
 ·rw[aae hi,aak (by omega)]
theorem UZ{n:Nat}:∀{rows:List (List aaa)},(∀r,r∈rows->r.length=n)->∀{i:Nat} {r:List aaa} {k:Nat},rows[i]? = some r->k<n->rows.flatten[i*n+k]? = r[k]?
 |[],_,i,r,k,hr,_=>by cases hr
 |r0::rows,hn,0,r,k,hr,hk=>by
  simp only[aaf,aab]at hr;subst hr;rw[acw,aa4 (by rw[hn _ (by simp)];omega)];simp
 |r0::rows,hn,i+1,r,k,hr,hk=>by
  have h0:=hn r0 (by simp);rw[acw,abk (by rw[h0,acN];omega),h0,show(i+1)*n+k-n=i*n+k by rw[acN];omega];exact UZ (λr hr=>hn r (by simp[hr])) (by simpa using hr) hk
theorem yM{n:Nat}:∀{rows:List (List aaa)},(∀r,r∈rows->r.length=n)->rows.flatten.length=rows.length*n
 |[],_=>by simp
 |r0::rows,hn=>by
  rw[acw,acb,yM (λr hr=>hn r (by simp[hr])),hn r0 (by simp),aaE,acN];omega
theorem wD{n:Nat}{rows:List (List aaa)}(hn:∀r,r∈rows->r.length=n){i:Nat}{r:List aaa}(hr:rows[i]? = some r):i*n+n<=rows.flatten.length/\(rows.flatten.drop (i*n)).take n=r:=by
 have hi:i<rows.length:=by
  rcases aax i rows.length with a|a
  ·exact a
  ·rw[aak a]at hr;cases hr
 have hl:r.length=n:=hn r (aaA hr)
 constructor
 ·rw[yM hn];have:=abV n (Nat.succ_le_of_lt hi);rw[Nat.succ_mul]at this;exact this
 ·refine abw λk=>?_;rw[acE,aaW];by_cases hk:k<n
  ·rw[aai hk];exact UZ hn hr hk
  ·rw[aae hk,aak (by omega)]
theorem zE.first{sv:aaa}{n:Nat}{rows:List (List aaa)}(S:zE h sv n rows)(h0:0<n)(hn:∀r,r∈rows->r.length=n):vW h rows.length n sv=some rows.flatten:=by
 rcases S with⟨rfl,rfl⟩|⟨b,off,cp,rfl,hc⟩
 ·rfl
 ·cases rows with
  |nil=>unfold vW;simp only[aaC,acO];rfl
  |cons r0 rows=>
   obtain⟨c,t,hb,hg,hat⟩:=hc (by simp)
   obtain⟨h1,h2⟩:=zcz (c:=c) (off:=off) (l:=(r0::rows).flatten) (λj v hv=>by
    have hj:j<(r0::rows).length*n:=by
     rcases aax j ((r0::rows).flatten.length) with a|a
     ·rw[yM hn]at a;exact a
     ·rw[aak a]at hv;cases hv
    have hi:j/n<(r0::rows).length:=(Nat.div_lt_iff_lt_mul h0).2 hj;have hk:j%n<n:=Nat.mod_lt _ h0;have hr:(r0::rows)[j/n]? = some (r0::rows)[j/n]:=aac hi;have e:j=j/n*n+j%n:=by rw[Nat.mul_comm];exact(Nat.div_add_mod j n).symm
    rw[e,UZ hn hr hk]at hv;obtain⟨_,h4⟩:=hat _ _ hr;rw[<- h4,acE,aai hk,aaW]at hv;rw[e,<- acs];exact hv)
   have hl:=yM hn;rw[hl]at h1 h2;have hne:(r0::rows).length*n≠0:=by rw[aaE];exact Nat.mul_ne_zero (by omega) (by omega)
   have h3:off+(r0::rows).length*n<=c.length:=by
    rcases h1 with e|e
    ·rw[e]at hl;exact absurd hl.symm hne
    ·exact e
   unfold vW;simp only[hg];rw[show Nat.beq ((r0::rows).length*n) 0=false by rw[<- acz,acG];exact hne,aaI,Nat.ble_eq_true_of_le h3,aaB,h2]
end
end Go.Rtl
namespace Go.Rm
open Go.Ai Go.Proofs Go.Mem
def isInt(a:V):Bool:=decide (a.k=1)&&kW a
def wX(a:V):Bool:=decide (a.k=2)&&kW a
def wB(n:Int):V:=⟨1,n,0⟩
def kL(b:Bool):V:=if b=true then wB 1 else wB 0
abbrev vF(n:Int):Int:=IntKind.wrap .i64 n
def kN(f:BitVec 64->BitVec 64->BitVec 64)(a b:Int):Int:=vF (f (BitVec.ofInt 64 a) (BitVec.ofInt 64 b)).toNat
def uE(op a b:Int):Option V :=
 if op=11 then some (wB (vF (a+b))) else if op=12 then some (wB (vF (a-b))) else if op=13 then some (wB (vF (a*b)))
 else if op=14\/op=15 then (if b=0\/(a = -9223372036854775808/\b = -1) then none else if op=14 then some (wB (vF (a.tdiv b))) else some (wB (a.tmod b)))
 else if op=16 then some (wB (kN (· &&& ·) a b)) else if op=17 then some (wB (kN (· ||| ·) a b)) else if op=18 then some (wB (kN (· ^^^ ·) a b))
 else if op=19\/op=20 then (if b<0\/63<b then none else if op=19 then some (wB (vF (a*2^b.toNat))) else some (wB (a.fdiv (2^b.toNat))))
 else if op=21 then some (kL (decide (a=b))) else if op=22 then some (kL (!decide (a=b))) else if op=23 then some (kL (decide (a<b)))
 else if op=24 then some (kL (decide (a<=b))) else if op=25 then some (kL (decide (b<a))) else if op=26 then some (kL (decide (b<=a))) else none
def vd(op:Int)(a b:V):Option V :=
 if (wX a&&wX b)||((wX a&&decide (b=wB 0))||(decide (a=wB 0)&&wX b)) then some (kL (decide (a=b) == decide (op=21))) else none
def zH(op:Int)(a b:V):Option V :=
 if isInt a&&isInt b then uE op a.n b.n
 else if decide (op=11)&&(wX a&&isInt b) then some (iQ a.b (vF (a.n+b.n)))
 else if decide (op=11)&&(isInt a&&wX b) then some (iQ b.b (vF (a.n+b.n)))
 else if decide (op=12)&&(wX a&&isInt b) then some (iQ a.b (vF (a.n-b.n)))
 else if op=21\/op=22 then vd op a b else none
def notM(a:Int):Int:=vF (BitVec.ofInt 64 (-1) ^^^ BitVec.ofInt 64 a).toNat
def bO(op:Int)(a:V):Option V :=
 if isInt a=true then (if op=1 then some (wB (vF (0-a.n))) else if op=2 then some (wB (notM a.n)) else if op=3 then some (wB (vF (IntKind.wrap .i8 a.n))) else if op=4 then some (wB (vF (IntKind.wrap .i32 a.n))) else none) else none
def EM(l:List V)(r:Int):V:=if r<0 then v0 else l.getD r.toNat v0
def qj(world:List Int)(used:Int):Int:=if used<0 then 0 else world.getD used.toNat 0
def xI:List Int->MM->List Int->MM×List Int
 |[],M,l=>(M,l)
 |n::ns,M,l=>xI ns ((Xu (yJ M n).1 (yJ M n).2.1).getD (yJ M n).1) (l++[(yJ M n).2.1])
abbrev vv(a:V):aaa := .agg #[pm a.k,pm a.n,pm a.b]
def WS(u:aaa)(v:aaa)(_:za):Prop:=v=u
theorem vC{f:FuncId}{args:List aaa}{h:za}{u:aaa}(hs:pr u=true)(d:DC pu f args h.lock (WS u)):xC pu f args h u:=xC.of hs d
def qc(o:Option V):aaa := .tuple #[vv (o.getD v0),.bool o.isSome]
theorem Xo(n:Int)(h:za):xC pu 64 [pm n] h (vv (wB n)):=vC rfl ((Go.Mem.Xo n h.lock).mono λv h1 e=>e.1)
theorem iY(a:V)(h:za):xC pu 125 [vv a] h (.bool (kW a)):=Go.Mem.iY a h
theorem Tb(b n:Int)(h:za):xC pu 87 [pm b,pm n] h (vv (iQ b n)):=by
 apply vC rfl;apply Sv;unfold zcS iQ;by_cases h1:b<1
 ·simp only[EE,↓nw,Value.cells,zb,Nat.reduceAdd,xw,zN,h1];rfl
 ·simp only[EE,↓nw,Value.cells,zb,Nat.reduceAdd,xw,zN,G8,Nl,h1];rfl
theorem vf(a:V)(h:za):xC pu 110 [vv a] h (.bool (isInt a)):=by
 apply vC rfl;apply IT;unfold M9 isInt;by_cases h1:a.k=1
 ·simp only[EE,↓nw,Value.cells,Nat.reduceAdd,zN,zo,oe,h1];refine xU (iY ⟨1,a.n,a.b⟩ _) ?_;simp only[EE];have:a=⟨1,a.n,a.b⟩:=by rw[<- h1]
  rw[<- this];simp[WS,h1]
 ·simp only[EE,↓nw,Value.cells,zo,oe,h1];simp[WS]
theorem u7(a:V)(h:za):xC pu 112 [vv a] h (.bool (wX a)):=by
 apply vC rfl;apply IU;unfold Na wX;by_cases h1:a.k=2
 ·simp only[EE,↓nw,Value.cells,Nat.reduceAdd,zN,zo,og,h1];refine xU (iY ⟨2,a.n,a.b⟩ _) ?_;simp only[EE];have:a=⟨2,a.n,a.b⟩:=by rw[<- h1]
  rw[<- this];simp[WS,h1]
 ·simp only[EE,↓nw,Value.cells,zo,og,h1];simp[WS]
theorem bC(b:Bool)(h:za):xC pu 127 [.bool b] h (vv (kL b)):=by
 apply vC rfl;apply IZ;unfold Nk kL;cases b with
 |true=>
  simp only[EE,↓nw,Value.cells,C0];refine xU (Xo 1 _) ?_;simp only[EE,zb,Nat.reduceAdd,xw,zN];rfl
 |false=>
  simp only[EE,↓nw,Value.cells,C1];refine xU (Xo 0 _) ?_;simp only[EE,zb,Nat.reduceAdd,xw,zN];rfl
theorem AX(op a b:Int)(h:za):xC pu 111 [pm op,pm a,pm b] h (qc (uE op a b)):=by
 apply vC rfl;apply od;unfold tU;by_cases o11:op=11
 ·subst o11;simp only[EE,↓nw,Value.cells,↓BK,wg,z7];refine xU (Xo (vF (a+b)) _) ?_;simp only[EE,zb,Nat.reduceAdd,xw,zN];rfl
 by_cases o12:op=12
 ·subst o12;simp only[EE,↓nw,Value.cells,↓BK,Int.reduceEq,wz,zV,z7];refine xU (Xo (vF (a-b)) _) ?_;simp only[EE,zb,Nat.reduceAdd,xw,zN];rfl
 by_cases o13:op=13
 ·subst o13;simp only[EE,↓nw,Value.cells,↓BK,Int.reduceEq,wE,xF,zV,z7];refine xU (Xo (vF (a*b)) _) ?_;simp only[EE,zb,Nat.reduceAdd,xw,zN];rfl
 by_cases o14:op=14
 ·subst o14;by_cases b0:b=0
  ·simp only[EE,nth,↓nw,Value.cells,↓BK,zb,Nat.reduceAdd,Int.reduceEq,xw,zN,WI,Yb,Zl,Zm,y8,xJ,xF,zV,z7,wA,b0];simp[WS,qc,uE,v0]
  by_cases am:a = -9223372036854775808
  ·by_cases b1:b = -1
   ·simp only[EE,nth,↓nw,Value.cells,↓BK,zb,seval,xw,zN,WI,Yb,Zl,Zm,y8,xJ,xF,zV,z7,wA,am,b1];simp[WS,qc,uE,v0]
   ·simp only[EE,nth,↓nw,Value.cells,↓BK,zb,seval,xw,QA,YY,Yb,Zl,Zm,y8,xJ,xF,zV,z7,wA,b0,am,b1];refine xU (Xo (vF (Int.tdiv (-9223372036854775808) b)) _) ?_;simp only[EE,zb,Nat.reduceAdd,Int.reduceNeg,xw,zN];simp[WS,qc,uE,b0,b1,am]
  ·simp only[EE,nth,↓nw,Value.cells,↓BK,zb,seval,xw,QA,YY,Yb,Zl,Zm,y8,xJ,xF,zV,z7,wA,b0,am];refine xU (Xo (vF (a.tdiv b)) _) ?_;simp only[EE,zb,Nat.reduceAdd,xw,zN];simp[WS,qc,uE,b0,am]
 by_cases o15:op=15
 ·subst o15;by_cases b0:b=0
  ·simp only[EE,nth,↓nw,Value.cells,↓BK,zb,Nat.reduceAdd,Int.reduceEq,xw,zN,WI,Yb,Zl,Zm,y8,xJ,xF,zV,z7,wA,b0];simp[WS,qc,uE,v0]
  by_cases am:a = -9223372036854775808
  ·by_cases b1:b = -1
   ·simp only[EE,nth,↓nw,Value.cells,↓BK,zb,seval,xw,zN,WI,Yb,Zl,Zm,y8,xJ,xF,zV,z7,wA,am,b1];simp[WS,qc,uE,v0]
   ·simp only[EE,nth,↓nw,Value.cells,↓BK,zb,seval,xw,QB,YY,Yb,Zl,Zm,y8,xJ,xF,zV,z7,wA,b0,am,b1];refine xU (Xo ((Int.tmod (-9223372036854775808) b)) _) ?_;simp only[EE,zb,Nat.reduceAdd,Int.reduceNeg,xw,zN];simp[WS,qc,uE,b0,b1,am]
  ·simp only[EE,nth,↓nw,Value.cells,↓BK,zb,seval,xw,QB,YY,Yb,Zl,Zm,y8,xJ,xF,zV,z7,wA,b0,am];refine xU (Xo ((a.tmod b)) _) ?_;simp only[EE,zb,Nat.reduceAdd,xw,zN];simp[WS,qc,uE,b0,am]
 by_cases o16:op=16
 ·subst o16;simp only[EE,nth,↓nw,Value.cells,↓BK,zb,Nat.reduceAdd,Int.reduceEq,xw,vS,vG,xJ,xF,zV,z7,wA];refine xU (Xo (kN (· &&& ·) a b) _) ?_;simp only[EE,zb,Nat.reduceAdd,xw,zN];rfl
 by_cases o17:op=17
 ·subst o17;simp only[EE,nth,↓nw,Value.cells,↓BK,zb,Nat.reduceAdd,Int.reduceEq,xw,uk,yS,vG,xJ,xF,zV,z7,wA];refine xU (Xo (kN (· ||| ·) a b) _) ?_;simp only[EE,zb,Nat.reduceAdd,xw,zN];rfl
 by_cases o18:op=18
 ·subst o18;simp only[EE,nth,↓nw,Value.cells,↓BK,zb,Nat.reduceAdd,Int.reduceEq,xw,uX,um,yS,vG,xJ,xF,zV,z7,wA];refine xU (Xo (kN (· ^^^ ·) a b) _) ?_;simp only[EE,zb,Nat.reduceAdd,xw,zN];rfl
 by_cases o19:op=19
 ·subst o19;by_cases b0:b<0
  ·simp only[EE,nth,↓nw,Value.cells,↓BK,zb,Nat.reduceAdd,Int.reduceEq,xw,zN,YZ,Yl,qt,uY,um,yS,vG,xJ,xF,zV,z7,wA,b0];simp[WS,qc,uE,v0,b0]
  by_cases b1:63<b
  ·simp only[EE,nth,↓nw,Value.cells,↓BK,zb,Nat.reduceAdd,Int.reduceEq,xw,zN,YZ,Yl,qt,uY,um,yS,vG,xJ,xF,zV,z7,wA,b0,b1];simp[WS,qc,uE,v0,b1]
  have b2:0<=b:=by omega
  have b3:min b.toNat 64=b.toNat:=by omega
  simp only[EE,nth,↓nw,Value.cells,↓BK,zb,Nat.reduceAdd,Int.reduceEq,xw,Jc,Zj,Yl,qt,uY,um,yS,vG,xJ,xF,zV,z7,wA,b0,b1,b2,IntKind.bits,b3];refine xU (Xo (vF (a*2^b.toNat)) _) ?_;simp only[EE,zb,Nat.reduceAdd,xw,zN];simp[WS,qc,uE,b0,b1]
 by_cases o20:op=20
 ·subst o20;by_cases b0:b<0
  ·simp only[EE,nth,↓nw,Value.cells,↓BK,zb,Nat.reduceAdd,Int.reduceEq,xw,zN,YZ,Yl,qt,uY,um,yS,vG,xJ,xF,zV,z7,wA,b0];simp[WS,qc,uE,v0,b0]
  by_cases b1:63<b
  ·simp only[EE,nth,↓nw,Value.cells,↓BK,zb,Nat.reduceAdd,Int.reduceEq,xw,zN,YZ,Yl,qt,uY,um,yS,vG,xJ,xF,zV,z7,wA,b0,b1];simp[WS,qc,uE,v0,b1]
  have b2:0<=b:=by omega
  have b3:min b.toNat 64=b.toNat:=by omega
  simp only[EE,nth,↓nw,Value.cells,↓BK,zb,Nat.reduceAdd,Int.reduceEq,xw,Yk,Zj,Yl,qt,uY,um,yS,vG,xJ,xF,zV,z7,wA,b0,b1,b2,IntKind.bits,b3];refine xU (Xo (a.fdiv (2^b.toNat)) _) ?_;simp only[EE,zb,Nat.reduceAdd,xw,zN];simp[WS,qc,uE,b0,b1]
 by_cases o21:op=21
 ·subst o21;simp only[EE,nth,↓nw,Value.cells,↓BK,zb,Nat.reduceAdd,Int.reduceEq,xw,Ym,Zk,uY,um,yS,vG,xJ,xF,zV,z7,wA];refine xU (bC (decide (a=b)) _) ?_;simp only[EE,zb,Nat.reduceAdd,xw,zN];rfl
 by_cases o22:op=22
 ·subst o22;simp only[EE,nth,↓nw,Value.cells,↓BK,zb,Nat.reduceAdd,Int.reduceEq,xw,Xj,qH,Zk,uY,um,yS,vG,xJ,xF,zV,z7,wA];refine xU (bC (!decide (a=b)) _) ?_;simp only[EE,zb,Nat.reduceAdd,xw,zN];rfl
 by_cases o23:op=23
 ·subst o23;simp only[EE,nth,↓nw,Value.cells,↓BK,zb,Nat.reduceAdd,Int.reduceEq,xw,Wh,Xk,qH,Zk,uY,um,yS,vG,xJ,xF,zV,z7,wA];refine xU (bC (decide (a<b)) _) ?_;simp only[EE,zb,Nat.reduceAdd,xw,zN];rfl
 by_cases o24:op=24
 ·subst o24;simp only[EE,nth,↓nw,Value.cells,↓BK,zb,Nat.reduceAdd,Int.reduceEq,xw,Vj,Wi,Xk,qH,Zk,uY,um,yS,vG,xJ,xF,zV,z7,wA];refine xU (bC (decide (a<=b)) _) ?_;simp only[EE,zb,Nat.reduceAdd,xw,zN];rfl
 by_cases o25:op=25
 ·subst o25;simp only[EE,nth,↓nw,Value.cells,↓BK,zb,Nat.reduceAdd,Int.reduceEq,xw,U9,Vk,Wi,Xk,qH,Zk,uY,um,yS,vG,xJ,xF,zV,z7,wA];refine xU (bC (decide (b<a)) _) ?_;simp only[EE,zb,Nat.reduceAdd,xw,zN];rfl
 by_cases o26:op=26
 ·subst o26;simp only[EE,nth,↓nw,Value.cells,↓BK,zb,Nat.reduceAdd,Int.reduceEq,xw,Jb,Qa,Vk,Wi,Xk,qH,Zk,uY,um,yS,vG,xJ,xF,zV,z7,wA];refine xU (bC (decide (b<=a)) _) ?_;simp only[EE,zb,Nat.reduceAdd,xw,zN];rfl
 simp only[EE,nth,↓nw,Value.cells,↓BK,zb,Nat.reduceAdd,xw,zN,Qa,Vk,Wi,Xk,qH,Zk,uY,um,yS,vG,xJ,xF,zV,z7,wA,o11,o12,o13,o14,o15,o16,o17,o18,o19,o20,o21,o22,o23,o24,o25,o26];simp[WS,qc,uE,v0,o11,o12,o13,o14,o15,o16,o17,o18,o19,o20,o21,o22,o23,o24,o25,o26]
theorem L9(a:V):((a.k == (1:Int))&&((a.n == (0:Int))&&(a.b == (0:Int))))=decide (a=wB 0):=veq a (wB 0)
theorem Zg(op:Int)(a b:V)(h:za):xC pu 113 [pm op,vv a,vv b] h (qc (vd op a b)):=by
 apply vC rfl;apply IN;unfold M0;simp only[EE,↓nw,Value.cells,↓BK,Nat.reduceAdd,zN];refine xU (u7 a _) ?_
 have g4:(((h.lock.push (.cells [pm a.k,pm a.n,pm a.b] 64)).push (.cells [pm b.k,pm b.n,pm b.b] 64)).push (.cells [pm 0,pm 0,pm 0] 64)).get h.next=some (.cells [pm a.k,pm a.n,pm a.b] 64):=by
  rw[zD (by show h.next<h.next+1+1;omega),zD (by show h.next<h.next+1;omega)];exact zv
 have g5:(((h.lock.push (.cells [pm a.k,pm a.n,pm a.b] 64)).push (.cells [pm b.k,pm b.n,pm b.b] 64)).push (.cells [pm 0,pm 0,pm 0] 64)).get (h.next+1)=some (.cells [pm b.k,pm b.n,pm b.b] 64):=by
  rw[zD (by show h.next+1<h.next+1+1;omega)];exact zv
 have g6:(((h.lock.push (.cells [pm a.k,pm a.n,pm a.b] 64)).push (.cells [pm b.k,pm b.n,pm b.b] 64)).push (.cells [pm 0,pm 0,pm 0] 64)).get (h.next+1+1)=some (.cells [pm 0,pm 0,pm 0] 64):=zv;have r6:(((h.lock.push (.cells [pm a.k,pm a.n,pm a.b] 64)).push (.cells [pm b.k,pm b.n,pm b.b] 64)).push (.cells [pm 0,pm 0,pm 0] 64)).ro<=h.next+1+1:=by show h.next<=h.next+1+1;omega
 generalize (((h.lock.push (.cells [pm a.k,pm a.n,pm a.b] 64)).push (.cells [pm b.k,pm b.n,pm b.b] 64)).push (.cells [pm 0,pm 0,pm 0] 64))=H at g4 g5 g6 r6 ⊢
 have g2:∀v h',v=Value.tuple #[vv (kL (decide (a=b) == decide (op=21))),.bool true]->((wX a&&wX b)||((wX a&&decide (b=wB 0))||(decide (a=wB 0)&&wX b)))=true->WS (qc (vd op a b)) v h':=by
  intro v h' e1 e2;subst e1;unfold vd;rw[aai e2];rfl
 have g1:∀h',((wX a&&wX b)||((wX a&&decide (b=wB 0))||(decide (a=wB 0)&&wX b)))=false->WS (qc (vd op a b)) (.tuple #[vv v0,.bool false]) h':=by
  intro h' e2;unfold vd;rw[aae (by rw[e2];decide)];rfl
 have yes:∀J,((wX a&&wX b)||((wX a&&decide (b=wB 0))||(decide (a=wB 0)&&wX b)))=true->nY (pi h.next) H (.pointer (some ⟨h.next+1,0,none⟩)) (pm op) (.pointer (some ⟨h.next+1+1,0,none⟩)) (WS (qc (vd op a b))) J:=by
  intro J e;simp only[EE,Nat.reduceAdd,zN,TE,QL,nY,g4,g5];rw[veq a b];refine xU (bC _ _) ?_;simp only[EE,zb,Nat.reduceAdd,xw,zN,g6,r6];exact g2 _ _ rfl e
 have no:∀vs,((wX a&&wX b)||((wX a&&decide (b=wB 0))||(decide (a=wB 0)&&wX b)))=false->n5 (.pointer (some ⟨h.next+1+1,0,none⟩)) (WS (qc (vd op a b))) vs H:=by
  intro vs e;simp only[EE,zb,Nat.reduceAdd,xw,zN,n5,g6,r6];exact g1 _ e
 cases pa:wX a with
 |true=>
  simp only[EE,Nat.reduceAdd,zN,nZ,g5];refine xU (u7 b _) ?_;cases pb:wX b with
  |true=>
   simp only[EE,nth,eZ];exact yes _ (by rw[pa,pb];rfl)
  |false=>
   simp only[EE,Nat.reduceAdd,zN,nX,eZ,g4];refine BQ (u7 a _).dc ?_;rintro _ _ ⟨rfl,rfl⟩;rw[pa];simp only[EE,Nat.reduceAdd,zN,nW,g5];refine JC (Xo 0 _) ?_;simp only[EE,QL,wB];rw[L9 b];cases eb:decide (b=wB 0) with
   |true=>
    simp only[EE,nth,eY];exact yes _ (by rw[pa,pb,eb];rfl)
   |false=>
    simp only[EE,Nat.reduceAdd,zN,eY,g4];refine JC (Xo 0 _) ?_;simp only[EE,QL,nV,wB];rw[L9 a];cases ea:decide (a=wB 0) with
    |true=>
     simp only[EE,Nat.reduceAdd,zN,g5];refine BQ (u7 b _).dc ?_;rintro _ _ ⟨rfl,rfl⟩;rw[pb];simp only[EE,nth];exact no _ (by rw[pa,pb,eb,ea];rfl)
    |false=>
     simp only[EE,nth];exact no _ (by rw[pa,pb,eb,ea];rfl)
 |false=>
  simp only[EE,Nat.reduceAdd,zN,nX,eZ,nZ,g4];refine BQ (u7 a _).dc ?_;rintro _ _ ⟨rfl,rfl⟩;rw[pa];simp only[EE,Nat.reduceAdd,zN,eY,nW,g4];refine JC (Xo 0 _) ?_;simp only[EE,QL,nV,wB];rw[L9 a];cases ea:decide (a=wB 0) with
  |true=>
   simp only[EE,Nat.reduceAdd,zN,g5];refine BQ (u7 b _).dc ?_;rintro _ _ ⟨rfl,rfl⟩;cases pb:wX b with
   |true=>
    simp only[EE,nth];exact yes _ (by rw[pa,pb,ea];cases decide (b=wB 0) <;> rfl)
   |false=>
    simp only[EE,nth];exact no _ (by rw[pa,pb,ea];rfl)
  |false=>
   simp only[EE,nth];exact no _ (by rw[pa,ea];rfl)
theorem zdE(a:Int):Vx pu .xor (pm a)=some (pm (notM a)):=rfl
theorem wJ:type_of% (And.intro (And.intro (And.intro (And.intro (And.intro (And.intro (And.intro (And.intro (And.intro (And.intro (And.intro (And.intro (And.intro (And.intro (And.intro (And.intro (And.intro (And.intro (And.intro (And.intro @ZO.eq_1 @qA.eq_1) @eI.eq_1) @eJ.eq_1) @JH.eq_1) @eK.eq_1) @Yv.eq_1) @JI.eq_1) @VI.eq_1) @WG.eq_1) @jc.eq_1) @jd.eq_1) @jy.eq_1) @jf.eq_1) @kM.eq_1) @jg.eq_1) @qC.eq_1) @qW.eq_1) @wj.eq_1) @vX.eq_1) @uy.eq_1):=(And.intro (And.intro (And.intro (And.intro (And.intro (And.intro (And.intro (And.intro (And.intro (And.intro (And.intro (And.intro (And.intro (And.intro (And.intro (And.intro (And.intro (And.intro (And.intro (And.intro @ZO.eq_1 @qA.eq_1) @eI.eq_1) @eJ.eq_1) @JH.eq_1) @eK.eq_1) @Yv.eq_1) @JI.eq_1) @VI.eq_1) @WG.eq_1) @jc.eq_1) @jd.eq_1) @jy.eq_1) @jf.eq_1) @kM.eq_1) @jg.eq_1) @qC.eq_1) @qW.eq_1) @wj.eq_1) @vX.eq_1) @uy.eq_1)
theorem zh1(op:Int)(a:V)(h:za):xC pu 109 [pm op,vv a] h (qc (bO op a)):=by
 apply vC rfl;apply D7;unfold Sf;simp only[EE,↓nw,Value.cells,Nat.reduceAdd,zN];refine xU (vf a _) ?_
 have g3:((h.lock.push (.cells [pm a.k,pm a.n,pm a.b] 64)).push (.cells [pm 0,pm 0,pm 0] 64)).get h.next=some (.cells [pm a.k,pm a.n,pm a.b] 64):=by
  rw[zD (by show h.next<h.next+1;omega)];exact zv
 have g4:((h.lock.push (.cells [pm a.k,pm a.n,pm a.b] 64)).push (.cells [pm 0,pm 0,pm 0] 64)).get (h.next+1)=some (.cells [pm 0,pm 0,pm 0] 64):=zv;have r4:((h.lock.push (.cells [pm a.k,pm a.n,pm a.b] 64)).push (.cells [pm 0,pm 0,pm 0] 64)).ro<=h.next+1:=by show h.next<=h.next+1;omega
 generalize ((h.lock.push (.cells [pm a.k,pm a.n,pm a.b] 64)).push (.cells [pm 0,pm 0,pm 0] 64))=H at g3 g4 r4 ⊢;cases hi:isInt a with
 |false=>
  simp only[EE,zb,Nat.reduceAdd,xw,zN,nT,g4,r4];simp[WS,qc,bO,hi,v0]
 |true=>
  simp only[EE,↓BK];by_cases o1:op=1
  ·subst o1;simp only[EE,zo,tt,JO,g3];refine xU (Xo (vF (0-a.n)) _) ?_;simp only[EE,zb,Nat.reduceAdd,xw,zN,g4,r4];simp[WS,qc,bO,hi,vF]
  by_cases o2:op=2
  ·subst o2;simp only[EE,Int.reduceEq,zo,tp,KF,JO,g3,zdE];refine xU (Xo (notM a.n) _) ?_;simp only[EE,zb,Nat.reduceAdd,xw,zN,g4,r4];simp[WS,qc,bO,hi]
  by_cases o3:op=3
  ·subst o3;simp only[EE,Int.reduceEq,zo,Uo,Ts,tn,cQ,KF,JO,g3];refine xU (Xo (vF (IntKind.wrap .i8 a.n)) _) ?_;simp only[EE,zb,Nat.reduceAdd,xw,zN,g4,r4];simp[WS,qc,bO,hi,vF]
  by_cases o4:op=4
  ·subst o4;simp only[EE,Int.reduceEq,zo,VJ,EB,tk,nU,cQ,KF,JO,g3];refine xU (Xo (vF (IntKind.wrap .i32 a.n)) _) ?_;simp only[EE,zb,Nat.reduceAdd,xw,zN,g4,r4];simp[WS,qc,bO,hi,vF]
  simp only[EE,zb,Nat.reduceAdd,xw,zN,nU,cQ,KF,JO,Q5,g4,r4,o1,o2,o3,o4];simp[WS,qc,bO,hi,v0,o1,o2,o3,o4]
theorem yx(o:Option V):qc o=.tuple #[.agg #[pm (o.getD v0).k,pm (o.getD v0).n,pm (o.getD v0).b],.bool o.isSome]:=rfl
theorem kinds(a:V):(isInt a=true/\wX a=false)\/(isInt a=false/\wX a=true)\/(isInt a=false/\wX a=false):=by
 unfold isInt wX;by_cases h1:a.k=1
 ·have h2:¬a.k=2:=by omega
  cases kW a <;> simp[h1]
 ·by_cases h2:a.k=2
  ·cases kW a <;> simp[h2]
  ·simp[h1,h2]
theorem Tk(op:Int)(a b:V)(h:za):xC pu 91 [pm op,vv a,vv b] h (qc (zH op a b)):=by
 apply vC rfl;apply sy;unfold FG;simp only[EE,↓nw,Value.cells,↓BK,Nat.reduceAdd,zN,vX];refine xU (vf a _) ?_
 have g4:(((h.lock.push (.cells [pm a.k,pm a.n,pm a.b] 64)).push (.cells [pm b.k,pm b.n,pm b.b] 64)).push (.cells [pm 0,pm 0,pm 0] 64)).get h.next=some (.cells [pm a.k,pm a.n,pm a.b] 64):=by
  rw[zD (by show h.next<h.next+1+1;omega),zD (by show h.next<h.next+1;omega)];exact zv
 have g5:(((h.lock.push (.cells [pm a.k,pm a.n,pm a.b] 64)).push (.cells [pm b.k,pm b.n,pm b.b] 64)).push (.cells [pm 0,pm 0,pm 0] 64)).get (h.next+1)=some (.cells [pm b.k,pm b.n,pm b.b] 64):=by
  rw[zD (by show h.next+1<h.next+1+1;omega)];exact zv
 have g6:(((h.lock.push (.cells [pm a.k,pm a.n,pm a.b] 64)).push (.cells [pm b.k,pm b.n,pm b.b] 64)).push (.cells [pm 0,pm 0,pm 0] 64)).get (h.next+1+1)=some (.cells [pm 0,pm 0,pm 0] 64):=zv;have r6:(((h.lock.push (.cells [pm a.k,pm a.n,pm a.b] 64)).push (.cells [pm b.k,pm b.n,pm b.b] 64)).push (.cells [pm 0,pm 0,pm 0] 64)).ro<=h.next+1+1:=by show h.next<=h.next+1+1;omega
 generalize (((h.lock.push (.cells [pm a.k,pm a.n,pm a.b] 64)).push (.cells [pm b.k,pm b.n,pm b.b] 64)).push (.cells [pm 0,pm 0,pm 0] 64))=H at g4 g5 g6 r6 ⊢;have xa:(isInt a=true/\wX a=false)\/(isInt a=false/\wX a=true)\/(isInt a=false/\wX a=false):=kinds a;have xb:(isInt b=true/\wX b=false)\/(isInt b=false/\wX b=true)\/(isInt b=false/\wX b=false):=kinds b;by_cases o11:op=11
 ·subst o11;rcases xa with⟨ia,pa⟩|⟨ia,pa⟩|⟨ia,pa⟩ <;> rcases xb with⟨ib,pb⟩|⟨ib,pb⟩|⟨ib,pb⟩
  ·have e:zH 11 a b=uE 11 a.n b.n:=by simp[zH,ia,ib]
   rw[e];simp only[EE,Nat.reduceAdd,zN,wj,g5,ia]
   repeat (first|(refine xU (vf b H) ?_;simp only[EE,zo,qC,g4,g5,ia,ib]))
   refine xU (AX _ a.n b.n H) ?_;simp only[yx,EE,zb,Nat.reduceAdd,xw,zN,ZO,g6,r6];rfl
  ·simp only[EE,Nat.reduceAdd,zN,wj,g5,ia]
   repeat (first|(refine xU (vf a H) ?_;simp only[EE,Nat.reduceAdd,zN,jc,g5,ia])|(refine xU (vf b H) ?_;simp only[EE,Nat.reduceAdd,zN,jg,qW,g4,ia,ib])|(refine xU (u7 a H) ?_;simp only[EE,Nat.reduceAdd,zN,wJ,g4,pa])|(refine xU (u7 b H) ?_;simp only[EE,zo,VI,g4,g5,pb]))
   refine xU (Tb b.b (vF (a.n+b.n)) H) ?_;simp only[EE,zb,Nat.reduceAdd,xw,zN,g6,r6];simp[WS,qc,zH,ia,ib,pa,pb]
  ·simp only[EE,Nat.reduceAdd,zN,wj,g5,ia]
   repeat (first|(refine xU (vf a H) ?_;simp only[EE,Nat.reduceAdd,zN,jc,g5,ia])|(refine xU (vf b H) ?_;simp only[EE,Nat.reduceAdd,zN,jg,qW,g4,ia,ib])|(refine xU (u7 a H) ?_;simp only[EE,Nat.reduceAdd,zN,wJ,g4,pa])|(refine xU (u7 b H) ?_;simp only[EE,zb,Nat.reduceAdd,Int.reduceEq,xw,zN,wJ,g6,r6,pb]))
   simp[WS,qc,zH,ia,ib,pa,pb,v0]
  ·simp only[EE,Nat.reduceAdd,zN,wJ,g4,ia]
   repeat (first|(refine xU (vf b H) ?_;simp only[EE,zo,jy,g4,g5,ib])|(refine xU (u7 a H) ?_;simp only[EE,Nat.reduceAdd,zN,kM,g5,pa]))
   refine xU (Tb a.b (vF (a.n+b.n)) H) ?_;simp only[EE,zb,Nat.reduceAdd,xw,zN,g6,r6];simp[WS,qc,zH,ia,ib,pa]
  ·simp only[EE,Nat.reduceAdd,zN,wJ,g4,ia]
   repeat (first|(refine xU (vf a H) ?_;simp only[EE,zb,Nat.reduceAdd,Int.reduceEq,xw,zN,wJ,g6,r6,ia])|(refine xU (vf b H) ?_;simp only[EE,Nat.reduceAdd,zN,jd,jf,g4,ib])|(refine xU (u7 a H) ?_;simp only[EE,Nat.reduceAdd,zN,kM,g5,pa]))
   simp[WS,qc,zH,ia,ib,pa,pb,v0]
  ·simp only[EE,Nat.reduceAdd,zN,wJ,g4,ia]
   repeat (first|(refine xU (vf a H) ?_;simp only[EE,zb,Nat.reduceAdd,Int.reduceEq,xw,zN,wJ,g6,r6,ia])|(refine xU (vf b H) ?_;simp only[EE,Nat.reduceAdd,zN,jd,jf,g4,ib])|(refine xU (u7 a H) ?_;simp only[EE,Nat.reduceAdd,zN,kM,g5,pa]))
   simp[WS,qc,zH,ia,ib,pa,pb,v0]
  ·simp only[EE,Nat.reduceAdd,zN,wJ,g4,ia]
   repeat (first|(refine xU (vf a H) ?_;simp only[EE,zb,Nat.reduceAdd,Int.reduceEq,xw,zN,wJ,g6,r6,ia])|(refine xU (u7 a H) ?_;simp only[EE,Nat.reduceAdd,zN,wJ,g4,pa]))
   simp[WS,qc,zH,ia,ib,pa,pb,v0]
  ·simp only[EE,Nat.reduceAdd,zN,wJ,g4,ia]
   repeat (first|(refine xU (vf a H) ?_;simp only[EE,zb,Nat.reduceAdd,Int.reduceEq,xw,zN,wJ,g6,r6,ia])|(refine xU (u7 a H) ?_;simp only[EE,Nat.reduceAdd,zN,wJ,g4,pa]))
   simp[WS,qc,zH,ia,ib,pa,pb,v0]
  ·simp only[EE,Nat.reduceAdd,zN,wJ,g4,ia]
   repeat (first|(refine xU (vf a H) ?_;simp only[EE,zb,Nat.reduceAdd,Int.reduceEq,xw,zN,wJ,g6,r6,ia])|(refine xU (u7 a H) ?_;simp only[EE,Nat.reduceAdd,zN,wJ,g4,pa]))
   simp[WS,qc,zH,ia,ib,pa,pb,v0]
 by_cases o12:op=12
 ·subst o12;rcases xa with⟨ia,pa⟩|⟨ia,pa⟩|⟨ia,pa⟩ <;> rcases xb with⟨ib,pb⟩|⟨ib,pb⟩|⟨ib,pb⟩
  ·have e:zH 12 a b=uE 12 a.n b.n:=by simp[zH,ia,ib]
   rw[e];simp only[EE,Nat.reduceAdd,zN,wj,g5,ia]
   repeat (first|(refine xU (vf b H) ?_;simp only[EE,zo,qC,g4,g5,ia,ib]))
   refine xU (AX _ a.n b.n H) ?_;simp only[yx,EE,zb,Nat.reduceAdd,xw,zN,ZO,g6,r6];rfl
  ·simp only[EE,Nat.reduceAdd,zN,wj,g5,ia]
   repeat (first|(refine xU (vf b H) ?_;simp only[EE,Nat.reduceAdd,Int.reduceEq,zN,wJ,g4,ia,ib])|(refine xU (u7 a H) ?_;simp only[EE,zb,Nat.reduceAdd,Int.reduceEq,xw,zN,wJ,g6,r6,pa]))
   simp[WS,qc,zH,ia,ib,pa,pb,v0]
  ·simp only[EE,Nat.reduceAdd,zN,wj,g5,ia]
   repeat (first|(refine xU (vf b H) ?_;simp only[EE,Nat.reduceAdd,Int.reduceEq,zN,wJ,g4,ia,ib])|(refine xU (u7 a H) ?_;simp only[EE,zb,Nat.reduceAdd,Int.reduceEq,xw,zN,wJ,g6,r6,pa]))
   simp[WS,qc,zH,ia,ib,pa,pb,v0]
  ·simp only[EE,Nat.reduceAdd,Int.reduceEq,zN,wJ,g4,ia]
   repeat (first|(refine xU (vf b H) ?_;simp only[EE,zo,JH,g4,g5,ib])|(refine xU (u7 a H) ?_;simp only[EE,Nat.reduceAdd,zN,Yv,g5,pa]))
   refine xU (Tb a.b (vF (a.n-b.n)) H) ?_;simp only[EE,zb,Nat.reduceAdd,xw,zN,g6,r6];simp[WS,qc,zH,ia,ib,pa,pb]
  ·simp only[EE,Nat.reduceAdd,Int.reduceEq,zN,wJ,g4,ia]
   repeat (first|(refine xU (vf b H) ?_;simp only[EE,zb,Nat.reduceAdd,Int.reduceEq,xw,zN,wJ,g6,r6,ib])|(refine xU (u7 a H) ?_;simp only[EE,Nat.reduceAdd,zN,Yv,g5,pa]))
   simp[WS,qc,zH,ia,ib,pa,pb,v0]
  ·simp only[EE,Nat.reduceAdd,Int.reduceEq,zN,wJ,g4,ia]
   repeat (first|(refine xU (vf b H) ?_;simp only[EE,zb,Nat.reduceAdd,Int.reduceEq,xw,zN,wJ,g6,r6,ib])|(refine xU (u7 a H) ?_;simp only[EE,Nat.reduceAdd,zN,Yv,g5,pa]))
   simp[WS,qc,zH,ia,ib,pa,pb,v0]
  ·simp only[EE,Nat.reduceAdd,Int.reduceEq,zN,wJ,g4,ia]
   repeat (first|(refine xU (u7 a H) ?_;simp only[EE,zb,Nat.reduceAdd,Int.reduceEq,xw,zN,wJ,g6,r6,pa]))
   simp[WS,qc,zH,ia,ib,pa,pb,v0]
  ·simp only[EE,Nat.reduceAdd,Int.reduceEq,zN,wJ,g4,ia]
   repeat (first|(refine xU (u7 a H) ?_;simp only[EE,zb,Nat.reduceAdd,Int.reduceEq,xw,zN,wJ,g6,r6,pa]))
   simp[WS,qc,zH,ia,ib,pa,pb,v0]
  ·simp only[EE,Nat.reduceAdd,Int.reduceEq,zN,wJ,g4,ia]
   repeat (first|(refine xU (u7 a H) ?_;simp only[EE,zb,Nat.reduceAdd,Int.reduceEq,xw,zN,wJ,g6,r6,pa]))
   simp[WS,qc,zH,ia,ib,pa,pb,v0]
 by_cases o21:op=21
 ·subst o21;rcases xa with⟨ia,pa⟩|⟨ia,pa⟩|⟨ia,pa⟩ <;> rcases xb with⟨ib,pb⟩|⟨ib,pb⟩|⟨ib,pb⟩
  ·have e:zH 21 a b=uE 21 a.n b.n:=by simp[zH,ia,ib]
   rw[e];simp only[EE,Nat.reduceAdd,zN,wj,g5,ia]
   repeat (first|(refine xU (vf b H) ?_;simp only[EE,zo,qC,g4,g5,ia,ib]))
   refine xU (AX _ a.n b.n H) ?_;simp only[yx,EE,zb,Nat.reduceAdd,xw,zN,ZO,g6,r6];rfl
  ·have e:zH 21 a b=vd 21 a b:=by simp[zH,ia,ib,pa,pb]
   rw[e];simp only[EE,Nat.reduceAdd,zN,wj,g5,ia]
   repeat (first|(refine xU (vf b H) ?_;simp only[EE,Nat.reduceAdd,Int.reduceEq,zN,wJ,g4,g5,ia,ib]))
   refine xU (Zg _ a b H) ?_;simp only[yx,EE,zb,Nat.reduceAdd,xw,zN,qA,g6,r6];rfl
  ·have e:zH 21 a b=vd 21 a b:=by simp[zH,ia,ib,pa,pb]
   rw[e];simp only[EE,Nat.reduceAdd,zN,wj,g5,ia]
   repeat (first|(refine xU (vf b H) ?_;simp only[EE,Nat.reduceAdd,Int.reduceEq,zN,wJ,g4,g5,ia,ib]))
   refine xU (Zg _ a b H) ?_;simp only[yx,EE,zb,Nat.reduceAdd,xw,zN,qA,g6,r6];rfl
  ·have e:zH 21 a b=vd 21 a b:=by simp[zH,ia,ib,pa,pb]
   rw[e];simp only[EE,Nat.reduceAdd,Int.reduceEq,zN,wJ,g4,g5,ia]
   skip
   refine xU (Zg _ a b H) ?_;simp only[yx,EE,zb,Nat.reduceAdd,xw,zN,qA,g6,r6];rfl
  ·have e:zH 21 a b=vd 21 a b:=by simp[zH,ia,ib,pa,pb]
   rw[e];simp only[EE,Nat.reduceAdd,Int.reduceEq,zN,wJ,g4,g5,ia]
   skip
   refine xU (Zg _ a b H) ?_;simp only[yx,EE,zb,Nat.reduceAdd,xw,zN,qA,g6,r6];rfl
  ·have e:zH 21 a b=vd 21 a b:=by simp[zH,ia,ib,pa,pb]
   rw[e];simp only[EE,Nat.reduceAdd,Int.reduceEq,zN,wJ,g4,g5,ia]
   skip
   refine xU (Zg _ a b H) ?_;simp only[yx,EE,zb,Nat.reduceAdd,xw,zN,qA,g6,r6];rfl
  ·have e:zH 21 a b=vd 21 a b:=by simp[zH,ia,ib,pa,pb]
   rw[e];simp only[EE,Nat.reduceAdd,Int.reduceEq,zN,wJ,g4,g5,ia]
   skip
   refine xU (Zg _ a b H) ?_;simp only[yx,EE,zb,Nat.reduceAdd,xw,zN,qA,g6,r6];rfl
  ·have e:zH 21 a b=vd 21 a b:=by simp[zH,ia,ib,pa,pb]
   rw[e];simp only[EE,Nat.reduceAdd,Int.reduceEq,zN,wJ,g4,g5,ia]
   skip
   refine xU (Zg _ a b H) ?_;simp only[yx,EE,zb,Nat.reduceAdd,xw,zN,qA,g6,r6];rfl
  ·have e:zH 21 a b=vd 21 a b:=by simp[zH,ia,ib,pa,pb]
   rw[e];simp only[EE,Nat.reduceAdd,Int.reduceEq,zN,wJ,g4,g5,ia]
   skip
   refine xU (Zg _ a b H) ?_;simp only[yx,EE,zb,Nat.reduceAdd,xw,zN,qA,g6,r6];rfl
 by_cases o22:op=22
 ·subst o22;rcases xa with⟨ia,pa⟩|⟨ia,pa⟩|⟨ia,pa⟩ <;> rcases xb with⟨ib,pb⟩|⟨ib,pb⟩|⟨ib,pb⟩
  ·have e:zH 22 a b=uE 22 a.n b.n:=by simp[zH,ia,ib]
   rw[e];simp only[EE,Nat.reduceAdd,zN,wj,g5,ia]
   repeat (first|(refine xU (vf b H) ?_;simp only[EE,zo,qC,g4,g5,ia,ib]))
   refine xU (AX _ a.n b.n H) ?_;simp only[yx,EE,zb,Nat.reduceAdd,xw,zN,ZO,g6,r6];rfl
  ·have e:zH 22 a b=vd 22 a b:=by simp[zH,ia,ib,pa,pb]
   rw[e];simp only[EE,Nat.reduceAdd,zN,wj,g5,ia]
   repeat (first|(refine xU (vf b H) ?_;simp only[EE,Nat.reduceAdd,Int.reduceEq,zN,wJ,g4,g5,ia,ib]))
   refine xU (Zg _ a b H) ?_;simp only[yx,EE,zb,Nat.reduceAdd,xw,zN,qA,g6,r6];rfl
  ·have e:zH 22 a b=vd 22 a b:=by simp[zH,ia,ib,pa,pb]
   rw[e];simp only[EE,Nat.reduceAdd,zN,wj,g5,ia]
   repeat (first|(refine xU (vf b H) ?_;simp only[EE,Nat.reduceAdd,Int.reduceEq,zN,wJ,g4,g5,ia,ib]))
   refine xU (Zg _ a b H) ?_;simp only[yx,EE,zb,Nat.reduceAdd,xw,zN,qA,g6,r6];rfl
  ·have e:zH 22 a b=vd 22 a b:=by simp[zH,ia,ib,pa,pb]
   rw[e];simp only[EE,Nat.reduceAdd,Int.reduceEq,zN,wJ,g4,g5,ia]
   skip
   refine xU (Zg _ a b H) ?_;simp only[yx,EE,zb,Nat.reduceAdd,xw,zN,qA,g6,r6];rfl
  ·have e:zH 22 a b=vd 22 a b:=by simp[zH,ia,ib,pa,pb]
   rw[e];simp only[EE,Nat.reduceAdd,Int.reduceEq,zN,wJ,g4,g5,ia]
   skip
   refine xU (Zg _ a b H) ?_;simp only[yx,EE,zb,Nat.reduceAdd,xw,zN,qA,g6,r6];rfl
  ·have e:zH 22 a b=vd 22 a b:=by simp[zH,ia,ib,pa,pb]
   rw[e];simp only[EE,Nat.reduceAdd,Int.reduceEq,zN,wJ,g4,g5,ia]
   skip
   refine xU (Zg _ a b H) ?_;simp only[yx,EE,zb,Nat.reduceAdd,xw,zN,qA,g6,r6];rfl
  ·have e:zH 22 a b=vd 22 a b:=by simp[zH,ia,ib,pa,pb]
   rw[e];simp only[EE,Nat.reduceAdd,Int.reduceEq,zN,wJ,g4,g5,ia]
   skip
   refine xU (Zg _ a b H) ?_;simp only[yx,EE,zb,Nat.reduceAdd,xw,zN,qA,g6,r6];rfl
  ·have e:zH 22 a b=vd 22 a b:=by simp[zH,ia,ib,pa,pb]
   rw[e];simp only[EE,Nat.reduceAdd,Int.reduceEq,zN,wJ,g4,g5,ia]
   skip
   refine xU (Zg _ a b H) ?_;simp only[yx,EE,zb,Nat.reduceAdd,xw,zN,qA,g6,r6];rfl
  ·have e:zH 22 a b=vd 22 a b:=by simp[zH,ia,ib,pa,pb]
   rw[e];simp only[EE,Nat.reduceAdd,Int.reduceEq,zN,wJ,g4,g5,ia]
   skip
   refine xU (Zg _ a b H) ?_;simp only[yx,EE,zb,Nat.reduceAdd,xw,zN,qA,g6,r6];rfl
 ·skip
  rcases xa with⟨ia,pa⟩|⟨ia,pa⟩|⟨ia,pa⟩ <;> rcases xb with⟨ib,pb⟩|⟨ib,pb⟩|⟨ib,pb⟩
  ·have e:zH op a b=uE op a.n b.n:=by simp[zH,ia,ib]
   rw[e];simp only[EE,Nat.reduceAdd,zN,wj,g5,ia]
   repeat (first|(refine xU (vf b H) ?_;simp only[EE,zo,qC,g4,g5,ia,ib]))
   refine xU (AX _ a.n b.n H) ?_;simp only[yx,EE,zb,Nat.reduceAdd,xw,zN,ZO,g6,r6];rfl
  ·simp only[EE,Nat.reduceAdd,zN,wj,g5,ia]
   repeat (first|(refine xU (vf b H) ?_;simp only[EE,zb,Nat.reduceAdd,xw,zN,wJ,g6,r6,ia,ib,o11,o12,o21,o22]))
   simp[WS,qc,zH,ia,ib,pa,pb,v0,o11,o12,o21,o22]
  ·simp only[EE,Nat.reduceAdd,zN,wj,g5,ia]
   repeat (first|(refine xU (vf b H) ?_;simp only[EE,zb,Nat.reduceAdd,xw,zN,wJ,g6,r6,ia,ib,o11,o12,o21,o22]))
   simp[WS,qc,zH,ia,ib,pa,pb,v0,o11,o12,o21,o22]
  ·simp only[EE,zb,Nat.reduceAdd,xw,zN,wJ,g6,r6,ia,o11,o12,o21,o22]
   skip
   simp[WS,qc,zH,ia,ib,pa,pb,v0,o11,o12,o21,o22]
  ·simp only[EE,zb,Nat.reduceAdd,xw,zN,wJ,g6,r6,ia,o11,o12,o21,o22]
   skip
   simp[WS,qc,zH,ia,ib,pa,pb,v0,o11,o12,o21,o22]
  ·simp only[EE,zb,Nat.reduceAdd,xw,zN,wJ,g6,r6,ia,o11,o12,o21,o22]
   skip
   simp[WS,qc,zH,ia,ib,pa,pb,v0,o11,o12,o21,o22]
  ·simp only[EE,zb,Nat.reduceAdd,xw,zN,wJ,g6,r6,ia,o11,o12,o21,o22]
   skip
   simp[WS,qc,zH,ia,ib,pa,pb,v0,o11,o12,o21,o22]
  ·simp only[EE,zb,Nat.reduceAdd,xw,zN,wJ,g6,r6,ia,o11,o12,o21,o22]
   skip
   simp[WS,qc,zH,ia,ib,pa,pb,v0,o11,o12,o21,o22]
  ·simp only[EE,zb,Nat.reduceAdd,xw,zN,wJ,g6,r6,ia,o11,o12,o21,o22]
   skip
   simp[WS,qc,zH,ia,ib,pa,pb,v0,o11,o12,o21,o22]
end Go.Rm
namespace Go.Dm
open Go.Ai Go.Proofs Go.Mem Go.Rm
theorem BM(n:Int):Go.Rm.vF n=(BitVec.ofInt 64 n).toInt:=by
 show IntKind.wrap .i64 n=_;rw[BitVec.toInt_ofInt];simp only[IntKind.wrap,IntKind.bits,IntKind.signed,Int.bmod];simp;split <;> split <;> omega
theorem zdJ(x:BitVec 64):Go.Rm.vF (x.toNat:Int)=x.toInt:=by
 rw[BM]
 congr 1
 apply BitVec.eq_of_toNat_eq;simp
theorem BN{n:Int}(h:wH n):Go.Rm.vF n=n:=Go.Mem.vF h.1 h.2
theorem zer(x:BitVec 64):wH x.toInt:=by
 have:=BitVec.toInt_lt (x:=x);have:=BitVec.le_toInt (x:=x)
 constructor <;> omega
theorem AW(n:Int):wH (Go.Rm.vF n):=by
 rw[BM];exact zer _
theorem zg1(n:Int):BitVec.ofInt 64 (Go.Rm.vF n)=BitVec.ofInt 64 n:=by rw[BM,BitVec.ofInt_toInt]
theorem mg(f:BitVec 64->BitVec 64->BitVec 64)(a b:Int):kN f a b=(f (BitVec.ofInt 64 a) (BitVec.ofInt 64 b)).toInt:=zdJ _
theorem ofInt_sub(a b:Int):BitVec.ofInt 64 (a-b)=BitVec.ofInt 64 a-BitVec.ofInt 64 b:=by
 rw[Int.sub_eq_add_neg,acM,BitVec.ofInt_neg,BitVec.sub_eq_add_neg]
theorem zcc(a:Int):Go.Rm.notM a=(~~~ BitVec.ofInt 64 a).toInt:=by
 unfold Go.Rm.notM;rw[zdJ,show BitVec.ofInt 64 (-1)=BitVec.allOnes 64 from rfl,BitVec.allOnes_xor]
theorem not_eq(a:Int):Go.Rm.vF (-1-a)=Go.Rm.notM a:=by
 rw[zcc,BM]
 congr 1
 rw[<- BitVec.allOnes_sub_eq_not,ofInt_sub];rfl
theorem neg_eq(a:Int):Go.Rm.vF (Go.Rm.notM a+1)=Go.Rm.vF (0-a):=by
 rw[<- not_eq,BM (_+1),BM (0-a)]
 congr 1
 rw[acM,zg1,<- acM]
 congr 1
 omega
theorem xor_eq(a b:Int):Go.Rm.vF (kN (· ||| ·) a b-kN (· &&& ·) a b)=kN (· ^^^ ·) a b:=by
 rw[mg,mg,mg,BM]
 congr 1
 rw[ofInt_sub,BitVec.ofInt_toInt,BitVec.ofInt_toInt];generalize BitVec.ofInt 64 a=x;generalize BitVec.ofInt 64 b=y;show(x ||| y)-(x &&& y)=x ^^^ y
 have e:(x ^^^ y)+(x &&& y)=x ||| y:=by
  rw[BitVec.add_eq_or_of_and_eq_zero]
  ·ext i
   simp only[BitVec.getElem_or,BitVec.getElem_xor,BitVec.getElem_and];cases x[i] <;> cases y[i] <;> rfl
  ·ext i
   simp only[BitVec.getElem_xor,BitVec.getElem_and,BitVec.getElem_zero];cases x[i] <;> cases y[i] <;> rfl
 rw[<- e,BitVec.add_sub_cancel]
theorem zaX{a:Int}(k:Nat):Go.Rm.vF (Go.Rm.vF (a*2^k)+Go.Rm.vF (a*2^k))=Go.Rm.vF (a*2^(k+1)):=by
 rw[BM (_+_),acM,zg1,<- acM,BM]
 congr 2
 rw[Int.pow_succ,<- Int.mul_assoc];omega
theorem zbt(a:Int):kN (· &&& ·) a 1=a%2:=by
 rw[mg]
 have e:(BitVec.ofInt 64 a &&& BitVec.ofInt 64 1)=BitVec.ofNat 64 (a%2).toNat:=by
  apply BitVec.eq_of_toNat_eq;simp only[BitVec.toNat_and,BitVec.toNat_ofInt,BitVec.toNat_ofNat];rw[show((1:Int)%((2^64:Nat):Int)).toNat=1 from rfl,Nat.and_one_is_mod];have h1:a%((2^64:Nat):Int)%2=a%2:=Int.emod_emod_of_dvd a (by decide);omega
 show(BitVec.ofInt 64 a &&& BitVec.ofInt 64 1).toInt=_;rw[e,BitVec.toInt_ofNat'];have h2:a%2=0\/a%2=1:=by omega
 rcases h2 with h|h <;> rw[h] <;> rfl
theorem zaZ{a:Int}(h:wH a):Go.Rm.vF ((Go.Rm.vF (a-kN (· &&& ·) a 1)).tdiv 2)=a.fdiv 2:=by
 obtain⟨h1,h2⟩:=h;rw[zbt,BN (n:=a-a%2) ⟨by omega,by omega⟩]
 have e:(a-a%2).tdiv 2=a/2:=by
  have:a-a%2=a/2*2:=by omega
  rw[this,Int.mul_tdiv_cancel _ (by decide)]
 rw[e,ab5 _ (by decide),BN ⟨by omega,by omega⟩]
theorem PJ(a:Int)(k:Nat):(a.fdiv (2^k)).fdiv 2=a.fdiv (2^(k+1)):=by
 have p:(0:Int)<=2^k:=Int.pow_nonneg (by decide);have p2:(0:Int)<=2^(k+1):=Int.pow_nonneg (by decide);rw[ab5 _ p,ab5 _ p2,ab5 _ (by decide),Int.ediv_ediv_of_nonneg p,Int.pow_succ]
theorem ER{a:Int}(h:wH a)(k:Nat):wH (a.fdiv (2^k)):=by
 have p:(0:Int)<2^k:=Int.pow_pos (by decide);rw[ab5 _ (Int.le_of_lt p)];obtain⟨h1,h2⟩:=h
 constructor
 ·rw[Int.le_ediv_iff_mul_le p];have:(1:Int)<=2^k:=p
  calc (-9223372036854775808:Int)*2^k <= -9223372036854775808*1:=by
        apply Int.mul_le_mul_of_nonpos_left <;> omega
   _<=a:=by omega
 ·apply Int.ediv_lt_of_lt_mul p;have:(1:Int)<=2^k:=p
  calc a<9223372036854775808*1:=by omega
   _<=9223372036854775808*2^k:=Int.mul_le_mul_of_nonneg_left this (by decide)
theorem me(a:Int)(n:Nat)(hn:n<64):kN (· &&& ·) a (2^n-1:Nat)=a%(2^n:Nat):=by
 have hp:2^n<2^64:=Nat.pow_lt_pow_right (by decide) hn;have hp0:0<2^n:=Nat.two_pow_pos n;have hq:2^n<=2^63:=Nat.pow_le_pow_right (by decide) (by omega);have m0:0<=a%((2^n:Nat):Int):=Int.emod_nonneg _ (by omega);have m1:a%((2^n:Nat):Int)<((2^n:Nat):Int):=Int.emod_lt_of_pos _ (by omega);rw[mg]
 have e:(BitVec.ofInt 64 a &&& BitVec.ofInt 64 ((2^n-1:Nat):Int))=BitVec.ofNat 64 (a%((2^n:Nat):Int)).toNat:=by
  apply BitVec.eq_of_toNat_eq;simp only[BitVec.toNat_and,BitVec.toNat_ofInt,BitVec.toNat_ofNat];have h0:(((2^n-1:Nat):Int)%((2^64:Nat):Int)).toNat=2^n-1:=by omega
  rw[h0,Nat.and_two_pow_sub_one_eq_mod]
  have h1:a%((2^64:Nat):Int)%((2^n:Nat):Int)=a%((2^n:Nat):Int):=Int.emod_emod_of_dvd a (by
   have:(2:Nat)^n ∣ 2^64:=Nat.pow_dvd_pow 2 (by omega);exact Int.natCast_dvd_natCast.2 this)
  have h2:0<=a%((2^64:Nat):Int):=Int.emod_nonneg _ (by decide)
  have h3:((a%((2^64:Nat):Int)).toNat%2^n:Nat)=(a%((2^64:Nat):Int)%((2^n:Nat):Int)).toNat:=by
   apply Int.ofNat.inj;show(((a%((2^64:Nat):Int)).toNat%2^n:Nat):Int)=((a%((2^64:Nat):Int)%((2^n:Nat):Int)).toNat:Int);rw[abZ (by rw[h1];exact m0),Int.natCast_emod,abZ h2]
  rw[h3,h1];rw[Nat.mod_eq_of_lt (by omega)]
 show(BitVec.ofInt 64 a &&& BitVec.ofInt 64 ((2^n-1:Nat):Int)).toInt=_;rw[e,BitVec.toInt_eq_toNat_of_lt (by rw[BitVec.toNat_ofNat];rw[Nat.mod_eq_of_lt (by omega)];omega),BitVec.toNat_ofNat,Nat.mod_eq_of_lt (by omega)];omega
def zbN(a:Int)(n:Nat):Int:=if a%(2^n:Nat) ≥ (2^(n-1):Nat) then a%(2^n:Nat)-(2^n:Nat) else a%(2^n:Nat)
theorem zbM(a:Int):zbN a 8=Go.Rm.vF (IntKind.wrap .i8 a):=by
 unfold zbN
 have:IntKind.wrap .i8 a=if a%256 ≥ 128 then a%256-256 else a%256:=by
  simp[IntKind.wrap,IntKind.bits,IntKind.signed]
 rw[this,BN (by split <;> constructor <;> omega)];rfl
theorem TH(a:Int):zbN a 32=Go.Rm.vF (IntKind.wrap .i32 a):=by
 unfold zbN
 have:IntKind.wrap .i32 a=if a%4294967296 ≥ 2147483648 then a%4294967296-4294967296 else a%4294967296:=by
  simp[IntKind.wrap,IntKind.bits,IntKind.signed]
 rw[this,BN (by split <;> constructor <;> omega)];rfl
abbrev wu(n:Int):Int:=IntKind.wrap .u64 n
theorem BO(n:Int):wu n=n%18446744073709551616:=by
 simp[wu,IntKind.wrap,IntKind.bits,IntKind.signed]
end Go.Dm
