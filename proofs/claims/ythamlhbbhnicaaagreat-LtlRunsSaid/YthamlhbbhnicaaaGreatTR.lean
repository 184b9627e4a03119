/- A part of the proof. -/
import Derived.Test.YthamlhbbhnicaaaGreatChecked
import Derived.KernelRfl
import Derived.Test.YthamlhbbhnicaaaGreatTH
import Derived.Test.YthamlhbbhnicaaaGreatTI
import Derived.Test.YthamlhbbhnicaaaGreatTJ
import Derived.Test.YthamlhbbhnicaaaGreatTO
import Derived.Test.YthamlhbbhnicaaaGreatTQ
import Derived.Test.YthamlhbbhnicaaaGreatTM
import Derived.Test.YthamlhbbhnicaaaGreatTL
import Derived.Test.YthamlhbbhnicaaaGreatTK
import Derived.Test.YthamlhbbhnicaaaGreatTD
import Derived.Test.YthamlhbbhnicaaaGreatTC
set_option linter.unusedVariables false
set_option linter.unusedSimpArgs false
set_option maxRecDepth 100000
namespace Go.Rl
open Go.Ai Go.Proofs Go.Proofs.Tryz
noncomputable abbrev zz:=prog
abbrev VK:=aaa->za->Prop
abbrev LK:=List aaa->za->Prop
abbrev ci(n:Int):Operand := .const (pm n)
abbrev fn(n:Nat):aaa := .func (.func n) #[] #[]
variable {h:za}{t0 t1 t2 t3 t4 t5 t6:aaa}{R:VK}
def qs:FuncId->Nat:=λg=>[0].getD g 0
theorem mixed:prog.follows .mixedOrders=true:=acY Tryz.checked
theorem zU{f:FuncId}{args:List aaa}{X:Prop}(e:wpF zz (UL zz qs) 200 f args h R=X)(hw:X):DC zz f args h R:=fe mixed (q:=qs) (n:=200) (Eq.mpr e hw)
def oW:=λc (R:VK) d (e:LK) f (a:za)=>
 opt (pk c (.bool true) f) λg=>CD g (λb=>rv [.bool false] a R)
 (λb=>b [nth d 0] a)
 (λh i=>e [nth h 0] i)
def oZ:=λa (R:VK) c (d:LK) e (b:za)=>
 ze a false (zh .gtr 3 45 e 1024) b (oW a R c d) b
def o7:=λa (R:VK) d (e:LK) f (c:za)=>
 ze a false (zg zz 49 f 3) c (λg b=>ze a false (zd zz 3 g b) b (oZ a R d e) b) c
def o8:=λa b (R:VK) (e:LK) f (c:za)=>
 GD a false (λg=>g (nth b 1) c) (λh d=>ze a false (yh zz 23 f h) d (o7 a R b e) d) c
def pd:=λd e f (R:VK) (g:LK) h (c:za)=>
 opt (pk d (.bool true) h) λa=>ze a false (zg zz 25 e 1) c (λi b=>ze a false (zd zz 23 i b) b (o8 a f R g) b) c
def ph:=λa c d (R:VK) (e:LK) f (b:za)=>
 ze a false (zh .gtr 3 36 f 40) b (pd a c d R e) b
def pj:=λa d e (R:VK) (f:LK) g (c:za)=>
 ze a false (zg zz 49 g 2) c (λh b=>ze a false (zd zz 3 h b) b (ph a d e R f) b) c
def po:=λa b e (R:VK) (f:LK) g (c:za)=>
 GD a false (λh=>h (nth b 1) c) (λi d=>ze a false (yh zz 23 g i) d (pj a e b R f) d) c
def pr:=λa (b:za) e (R:VK) (g:LK)=>
 zn 25 a 1 23 b λh=>opt (yh zz 23 h (nth e 1)) λi=>zn 49 i 5 47 b λj=>zQ (xw 47 j b) λk f=>opt (zh .gtr 3 28 k 50) λc=>ze c false (zg zz 25 a 1) f (λl d=>ze c false (zd zz 23 l d) d (po c e a R g) d) f
def LD:=λa (b:LK) c (d:za)=>
 opt (zh .add 3 20 (nth a 1) 1) λe=>b [nth c 0,e] d
def LF:=λb (f:LK) (R:VK) a (c:za) (g:LK)=>
 zn 25 b 1 23 c λh=>zQ (xw 23 h c) λi d=>opt (yi .lss 3 15 18 (nth a 1) i) λj=>CD j (λe=>e [] d)
 (λe=>f [nth a 0] d)
 (λl k=>BK (pr b k a R)
 (LD a g))
def Cr:=λd (a:za) b (R:VK) (e:LK)=>
 zn 25 d 0 22 a λf=>wP 22 f (nth b 1) 3 a λg=>opt (zh .gtr 3 59 g 1024) λh=>CD h (λc=>rv [.bool false] a R)
 (λc=>c [nth b 0] a)
 (λi j=>e [nth i 0] j)
def LG:=λa (b:LK) c (d:za)=>
 opt (zh .add 3 53 (nth a 1) 1) λe=>b [nth c 0,e] d
def LH:=λb (f:LK) (R:VK) a (c:za) (g:LK)=>
 zn 25 b 0 22 c λh=>zQ (xw 22 h c) λi d=>opt (yi .lss 3 48 51 (nth a 1) i) λj=>CD j (λe=>e [] d)
 (λe=>f [nth a 0] d)
 (λl k=>BK (Cr b k a R)
 (LG a g))
def LI:=λa (R:VK) b (c:za)=>
 BK (λd=>LP (LF a d R)
 [nth b 0,pm 0] c)
 (λe f=>BK (λg=>LP (LH a g R)
 [nth e 0,pm 0] f)
 (λi h=>rv [.bool true] h R))
def oX:=λa (R:VK) e f (b:za)=>
 ze a false (zh .gtr 3 12 f 6) b (λg c=>opt (pk a (.bool true) g) λh=>CD h (λd=>rv [.bool false] c R)
 (λd=>d [.bool false] c)
 (LI e R)) b
def oY:=λa (R:VK) d e (b:za)=>
 ze a false (zd zz 22 e b) b (λf c=>GD a false (λg=>zQ (xw 22 f c) λh i=>g h i) (oX a R d) c) b
def zfu:=λ(h:za) b (R:VK)=>
 opt (nb [b] (some (Value.cells b).toList)) λf=>nw h f 25 λa c=>zn 25 a 1 23 c λg=>zQ (xw 23 g c) λi d=>opt (zh .gtr 3 7 i 6) λe=>ze e false (zg zz 25 a 0) d (oY e R a) d
theorem zbw(hw:zfu h t0 R):DC zz 5 [t0] h R:=zU (by kernel_rfl) hw
def BD:=λd b (a:za) e (R:VK) (f:LK)=>
 wP 30 d (nth b 1) 78 a λg=>wP 30 e (nth b 1) 78 a λh=>opt (yi .neq 78 32 36 g h) λi=>CD i (λc=>rv [.bool false] a R)
 (λc=>c [nth b 0] a)
 (λj k=>f [nth j 0] k)
def BE:=λa (b:LK) c (d:za)=>
 opt (zh .add 3 27 (nth a 1) 1) λe=>b [nth c 0,e] d
def BF:=λb (e:LK) f (R:VK) a (g:za) (h:LK)=>
 zQ (xw 30 b g) λi c=>opt (yi .lss 3 23 25 (nth a 1) i) λj=>CD j (λd=>d [] c)
 (λd=>e [nth a 0] c)
 (λl k=>BK (BD b a k f R)
 (BE a h))
def mQ:=λc (R:VK) d e f (a:za)=>
 opt (pk c (.bool true) f) λg=>CD g (λb=>rv [.bool false] a R)
 (λb=>b [.bool false] a)
 (λh i=>BK (λj=>LP (BF d j e R)
 [nth h 0,pm 0] i)
 (λl k=>rv [.bool true] k R))
def mR:=λa e b (R:VK) f g h (c:za)=>
 ze a true (yi .neq 3 17 19 e h) c (λi d=>ze b false (pk a i (.bool false)) d (mQ b R f g) d) c
def mS:=λa b e (R:VK) f g (c:za)=>
 GD a true (λh=>h b c) (λi d=>GD a true (λj=>zQ (xw 30 i d) λk l=>j k l) (mR a g e R f b) d) c
def mT:=λb e f (R:VK) a (c:za)=>
 GD a true (λg=>g b c) (λh d=>GD a true (λi=>zQ (xw 30 h d) λj k=>i j k) (mS a e f R b) d) c
def IK:=λ(h:za) b c f (R:VK)=>
 zQ (xw 30 b h) λg i=>zQ (xw 30 c i) λj d=>opt (yi .gtr 3 9 11 g j) λa=>GD a false (λk=>k f d) (λl e=>GD a false (λm=>m l e) (mT b c a R) e) d
theorem IL(hw:IK h t0 t1 t2 R):DC zz 25 [t0,t1,t2] h R:=zU (by kernel_rfl) hw
def JZ:=λb d (R:VK) e (c:za)=>
 GD b true (λf=>zq zz (fn 25) [d,e,.bool true] c (λa g=>f a g)) (λa h=>opt (pk b a (.bool false)) λi=>rv [i] h R) c
def fS:=λa d (R:VK) e (c:za)=>
 ze a true (zg zz 33 d 2) c (λf b=>ze a true (zd zz 30 f b) b (JZ a e R) b) c
def Qv:=λd e f (R:VK) g (c:za)=>
 opt (pk d g (.bool false)) λa=>ze a true (zg zz 33 e 2) c (λh b=>ze a true (zd zz 30 h b) b (fS a f R) b) c
def J0:=λa d e f (R:VK) g (b:za)=>
 ze a true (zd zz 2 g b) b (λh c=>ze a true (yi .eql 2 12 14 d h) c (Qv a e f R) c) b
def fT:=λa c e (R:VK) f (b:za)=>
 ze a true (zd zz 2 f b) b (λg d=>ze a true (zg zz 33 c 1) d (J0 a g e c R) d) b
def BY:=λ(h:za) c d (R:VK)=>
 opt (nb [c] (some (Value.cells c).toList)) λg=>nw h g 33 λb i=>opt (nb [d] (some (Value.cells d).toList)) λj=>nw i j 33 λe a=>zn 33 b 0 3 a λk=>zn 33 e 0 3 a λl=>opt (yi .eql 3 6 8 k l) λf=>ze f true (zg zz 33 b 1) a (fT f e b R) a
theorem sr(hw:BY h t0 t1 R):DC zz 9 [t0,t1] h R:=zU (by kernel_rfl) hw
def E7:=λd (a:za) b e (R:VK) (f:LK)=>
 zn 33 d 3 31 a λg=>wP 31 g (nth b 1) 71 a λh=>zn 33 e 3 31 a λi=>wP 31 i (nth b 1) 71 a λj=>opt (yi .neq 71 31 36 h j) λk=>CD k (λc=>rv [.bool false] a R)
 (λc=>c [nth b 0] a)
 (λl m=>f [nth l 0] m)
def E8:=λa (b:LK) c (d:za)=>
 opt (zh .add 3 25 (nth a 1) 1) λe=>b [nth c 0,e] d
def E9:=λb (f:LK) g (R:VK) a (c:za) (h:LK)=>
 zn 33 b 3 31 c λi=>zQ (xw 31 i c) λj d=>opt (yi .lss 3 20 23 (nth a 1) j) λk=>CD k (λe=>e [] d)
 (λe=>f [nth a 0] d)
 (λm l=>BK (E7 b l a g R)
 (E8 a h))
def Fa:=λc (R:VK) d e f (a:za)=>
 opt (pk c (.bool true) f) λg=>CD g (λb=>rv [.bool false] a R)
 (λb=>b [.bool false] a)
 (λh i=>BK (λj=>LP (E9 d j e R)
 [nth h 0,pm 0] i)
 (λl k=>rv [.bool true] k R))
def Fb:=λa e (R:VK) f g h (c:za)=>
 GD a false (λi=>zQ (xw 31 h c) λb j=>i b j) (λb d=>ze a false (yi .neq 3 14 17 e b) d (Fa a R f g) d) c
def Fc:=λa c (R:VK) e f (d:za)=>
 ze a false (zg zz 33 c 3) d (λg b=>ze a false (zd zz 31 g b) b (Fb a f R e c) b) d
def Fe:=λa d (R:VK) e f (b:za)=>
 ze a false (zd zz 31 f b) b (λg c=>GD a false (λh=>zQ (xw 31 g c) λi j=>h i j) (Fc a d R e) c) b
def P6:=λ(h:za) c d (R:VK)=>
 opt (nb [c] (some (Value.cells c).toList)) λg=>nw h g 33 λb i=>opt (nb [d] (some (Value.cells d).toList)) λj=>nw i j 33 λe a=>zn 33 b 0 3 a λk=>zn 33 e 0 3 a λl=>opt (yi .neq 3 7 9 k l) λf=>ze f false (zg zz 33 b 3) a (Fe f e R b) a
theorem NX(hw:P6 h t0 t1 R):DC zz 10 [t0,t1] h R:=zU (by kernel_rfl) hw
def LM:=λa (c:za) (R:VK) (f:LK)=>
 opt (nb [] (zY zz 33 [])) λd=>opt (ye 33 a d c) λb=>opt (zd zz 33 a b) λe=>rv [e,pm 1] b R
def Cw:=λa (R:VK) b (d:za)=>
 opt (Yk b 0) λe=>opt (Yk b 1) λf=>opt (ye 33 a e d) λc=>opt (zd zz 33 a c) λg=>rv [g,f] c R
def Cx:=λa (R:VK) d e f g h (b:za)=>
 opt (Z7 zz .not h) λi=>CD i (LM a b R)
 (λj=>j [pm 0] b)
 (λl c=>opt (zd zz 25 d c) λk=>zq zz (fn 17) [k,e,f,g,fn 16] c (Cw a R))
def zby:=λ(h:za) a d e f (R:VK)=>
 opt (nb [a] (some (Value.cells a).toList)) λg=>nw h g 25 λb i=>uH 33 i λj c=>opt (zd zz 25 b c) λk=>zq zz (fn 14) [k] c (Cx j R b d e f)
theorem TM(hw:zby h t0 t1 t2 t3 R):DC zz 7 [t0,t1,t2,t3] h R:=zU (by kernel_rfl) hw
def fF:=λb d (R:VK) e (c:za)=>
 GD b true (λf=>zq zz (fn 11) [d,e] c (λa g=>f a g)) (λa h=>opt (pk b a (.bool false)) λi=>rv [i] h R) c
def fG:=λd e f (R:VK) g (a:za)=>
 opt (pk d g (.bool false)) λb=>ze b true (zd zz 25 e a) a (λh c=>ze b true (zd zz 25 f c) c (fF b h R) c) a
def fH:=λa d e f (R:VK) g (b:za)=>
 ze a true (zd zz 3 g b) b (λh c=>ze a true (yi .eql 3 56 58 d h) c (fG a e f R) c) b
def fJ:=λa d e f (R:VK) g (b:za)=>
 ze a true (zd zz 3 g b) b (λh c=>ze a true (zg zz 33 d 4) c (fH a h e f R) c) b
def fK:=λb f g h i j (R:VK) k (c:za)=>
 GD b true (λl=>zq zz (fn 10) [f,k] c (λa m=>l a m)) (λa d=>opt (pk b a (.bool false)) λe=>ze e true (zg zz 33 g 4) d (fJ e h i j R) d) c
def fL:=λf d e g h (R:VK) i (a:za)=>
 opt (pk f i (.bool false)) λb=>ze b true (zd zz 33 d a) a (λj c=>ze b true (zd zz 33 e c) c (fK b j d e g h R) c) a
def fM:=λa c e f g (R:VK) h (b:za)=>
 ze a true (zd zz 33 c b) b (λi d=>GD a true (λj=>zq zz (fn 9) [h,i] d (λk l=>j k l)) (fL a e c f g R) d) b
def fN:=λf b g h (R:VK) c (i:za)=>
 opt (Yk c 0) λj=>opt (Yk c 1) λk=>uH 33 i λd l=>opt (ye 33 d j l) λa=>opt (yi .eql 3 41 42 f k) λe=>ze e true (zd zz 33 b a) a (fM e d b g h R) a
def fO:=λa e f g h (R:VK) b (i:za)=>
 opt (Yk b 0) λj=>opt (Yk b 1) λk=>uH 33 i λc l=>opt (ye 33 c j l) λd=>opt (zd zz 25 a d) λm=>zq zz (fn 8) [m,e,f,g,.bool true] d (fN k c h a R)
def oL:=λa b c d (R:VK) g (h:za)=>
 uH 25 h λe i=>opt (ye 25 e g i) λf=>opt (zd zz 25 a f) λj=>zq zz (fn 7) [j,b,c,d] f (fO e b c d a R)
def UQ:=λe (R:VK) f a g h i j (b:za)=>
 opt (pk e (.bool true) j) λk=>CD k (λc=>rv [.bool true] b R)
 (λc=>c [nth f 0] b)
 (λm d=>opt (zd zz 25 a d) λl=>zq zz (fn 6) [l] d (oL a g h i R))
def UR:=λa (R:VK) c d e f g h (b:za)=>
 ze a false (zh .gtr 3 20 h 1000) b (UQ a R c d e f g) b
def oM:=λa b (R:VK) f g h (c:za)=>
 opt (zd zz 25 a c) λi=>zq zz (fn 5) [i] c (λj d=>opt (Z7 zz .not j) λe=>GD e false (λk=>k b d) (UR e R h a f g b) d)
def Fj:=λ(h:za) a d e f (R:VK)=>
 opt (nb [a] (some (Value.cells a).toList)) λg=>nw h g 25 λi j=>zq zz (fn 4) [] j (λk b=>opt (Z7 zz .not k) λl=>CD l (λc=>rv [.bool false] b R)
 (λc=>c [.bool false] b)
 (oM i f R d e))
theorem G5(hw:Fj h t0 t1 t2 t3 R):DC zz 3 [t0,t1,t2,t3] h R:=zU (by kernel_rfl) hw
end Go.Rl
namespace Go.Ai
open Go.Ai Go.Proofs
noncomputable def zcQ:Array Field:=match Program.underlying pu 71 with|some (.struct f)=>f|_ => #[]
noncomputable def zcR:Array Field:=match Program.underlying pu 78 with|some (.struct f)=>f|_ => #[]
theorem zhL:FcN 71 3:=Y9 (by kernel_rfl) (by kernel_rfl)
theorem zhM:FcN 78 2:=Y9 (by kernel_rfl) (by kernel_rfl)
theorem zia:PM 30 2:=λb o l c k i=>wU (e:=78) (by kernel_rfl) (by kernel_rfl)
theorem zib:PM 31 3:=λb o l c k i=>wU (e:=71) (by kernel_rfl) (by kernel_rfl)
theorem O2:FcE 30:=λr a n c h=>zJ (by kernel_rfl)
theorem O3:FcE 31:=λr a n c h=>zJ (by kernel_rfl)
theorem zgU(x y:Operand)(a0:Int)(a1:Int)(a2:Int)(b0:Int)(b1:Int)(b2:Int):zX pu .neq 71 x y (.agg #[(pm a0),(pm a1),(pm a2)]) (.agg #[(pm b0),(pm b1),(pm b2)])=some (.bool (!((a0 == b0)&&((a1 == b1)&&((a2 == b2)))))):=(dF (fs:=zcQ) (r:=(a0 == b0)&&((a1 == b1)&&((a2 == b2)))) (by kernel_rfl) (by kernel_rfl) (by kernel_rfl) rfl rfl (Eq.trans (b:=(cond (a0 == b0) (cond (a1 == b1) (cond (a2 == b2) (some true) (some false)) (some false)) (some false))) (by kernel_rfl) (by cases (a0 == b0) <;> cases (a1 == b1) <;> cases (a2 == b2) <;> rfl))).2
theorem zgV(x y:Operand)(a0:Int)(a1:Int)(b0:Int)(b1:Int):zX pu .neq 78 x y (.agg #[(pm a0),(pm a1)]) (.agg #[(pm b0),(pm b1)])=some (.bool (!((a0 == b0)&&((a1 == b1))))):=(dF (fs:=zcR) (r:=(a0 == b0)&&((a1 == b1))) (by kernel_rfl) (by kernel_rfl) (by kernel_rfl) rfl rfl (Eq.trans (b:=(cond (a0 == b0) (cond (a1 == b1) (some true) (some false)) (some false))) (by kernel_rfl) (by cases (a0 == b0) <;> cases (a1 == b1) <;> rfl))).2
end Go.Ai
namespace Go.Rl
open Go.Ai Go.Proofs
open Go.Rtl (xG Pg wB qE wt zL zC Old inc uh u3)
open Go.Rm (qz wy W4 qV Rd Rd.of Rd.at)
theorem zdB{P:Program}{f:FuncId}{args:List aaa}{h:za}(wf:UJ h)(d:DC P f args h.lock (λv _=>∃B,v=.bool B)):∃B,yO P f args h (.bool B):=by
 obtain⟨v,h1,⟨B,rfl⟩,_,t⟩:=d wf.lock;exact⟨B,rfl,t.mono λv h1 e=>e.1⟩
section
variable {h:za}{av bv:aaa}
theorem zif{h:za}{sv:aaa}{l:List (Int×Int)}(S:zC h sv 2 (l.map qz))(r:TypeId)(h':za):zB pu .len [30] r [sv] h'=some (pm l.length,h'):=by
 rcases S with⟨rfl,e⟩|⟨b,off,cp,rfl,_⟩
 ·have:l=[]:=by simpa using e
  subst this;simp only[O2,aaz]
 ·simp only[O2,aaf]
theorem zig{h:za}{sv:aaa}{l:List (Int×Int×Int)}(S:zC h sv 3 (l.map wy))(r:TypeId)(h':za):zB pu .len [31] r [sv] h'=some (pm l.length,h'):=by
 rcases S with⟨rfl,e⟩|⟨b,off,cp,rfl,_⟩
 ·have:l=[]:=by simpa using e
  subst this;simp only[O3,aaz]
 ·simp only[O3,aaf]
theorem S4{α:Type}{a b:List α}(p:a <+: b):a.length<=b.length:=p.length_le
theorem ze4{α:Type}{a b:List α}(p:a <+: b){i:Nat}{x:α}(h:a[i]? = some x):b[i]? = some x:=by
 obtain⟨c,rfl⟩:=p
 have hi:i<a.length:=by
  rcases aar i a.length with q|q
  ·exact q
  ·rw[aal q]at h;cases h
 rw[abj hi];exact h
theorem zcI{a b:List (Int×Int)}{all:Bool}(A:zC h av 2 (a.map qz))(B:zC h bv 2 (b.map qz))(hl:a.length<4611686018427387904)(p:a <+: b)(e:all=true->a=b):yO pu 25 [av,bv,.bool all] h (.bool true):=by
 apply uh;replace A:=A.lock;replace B:=B.lock;generalize h.lock=L at A B;apply IL;unfold IK;have an:=A.wk;have bn:=B.wk;have al:=zif A 3;have bl:=zif B 3;have c1:¬(a.length:Int)>(b.length:Int):=by have:=S4 p;omega
 have rest:mQ (.bool false) (λv _=>v=.bool true) av bv (.bool false) L:=by
  simp only[EE,nth,↓BK,mQ];refine qY (λm vs h'=>∃(i:Nat),i<=a.length/\m=a.length-i/\vs=[.bool false,pm (i:Nat)]/\h'=L) a.length ⟨0,aba _,rfl,rfl,rfl⟩ ?_;rintro m vs h' ⟨i,hi,rfl,rfl,rfl⟩;unfold BF;by_cases hc:(i:Int)<(a.length:Int)
  ·obtain⟨x,hx⟩:∃x,a[i]? = some x:=⟨_,aae (by omega)⟩;have hy:=ze4 p hx;have h0:(0:Int)<=i:=by omega
   have hc2:(i:Int)<(b.length:Int):=by have:=S4 p;omega
   obtain⟨b1,o1,c1',t1,⟨off1,cp1,rfl,rfl⟩,hi1,hb1,hg1,hl1,ht1,_⟩:=A.spot (i:=i) (r:=qz x) (by rw[aaq,hx];rfl) rfl;obtain⟨b2,o2,c2',t2,⟨off2,cp2,rfl,rfl⟩,hi2,hb2,hg2,hl2,ht2,_⟩:=B.spot (i:=i) (r:=qz x) (by rw[aaq,hy];rfl) rfl;rw[aaf]at *
   unfold qz at ht1 ht2;simp only[EE,nth,↓BK,aad,zZ,abU,zhM,zia,O2,zgV,BD,BE,hc,hc2,h0,hg1,hl1,ht1,hg2,hl2,ht2,aax,inc (show i<4611686018427387904 by omega),abU,ac1];exact⟨a.length-(i+1),by omega,i+1,by omega,rfl,rfl⟩
  ·simp only[EE,nth,hc,an,al]
 cases all with
 |false=>
  simp only[EE,mR,mS,mT,an,bn,al,bl,c1];exact rest
 |true=>
  have e:=e rfl;subst e;simp only[EE,mR,mS,mT,an,bn,al,bl,c1];exact rest
end
section
variable {h:za}{k1 e1 s1 k2 e2 s2:Int}{ev1 lk1 ev2 lk2:aaa}
theorem zdK{a b:List (Int×Int)}(A:zC h ev1 2 (a.map qz))(B:zC h ev2 2 (b.map qz))(hl:a.length<4611686018427387904)(hk:k1=k2)(he:e1=e2)(ha:a=b)(n1:zV lk1=false)(n2:zV lk2=false):yO pu 9 [W4 k1 e1 ev1 lk1 s1,W4 k2 e2 ev2 lk2 s2] h (.bool true):=by
 apply uh;replace A:=A.lock;replace B:=B.lock;generalize h.lock=L at A B;apply Ym;intro wf;have s0:Sat (.of L) L []:=Sat.self wf.2;have RA:Rd (.of L) (zC · ev1 2 (a.map qz)):=Rd.of (yU.Zp L) A λh' o=>A.old o;have RB:Rd (.of L) (zC · ev2 2 (b.map qz)):=Rd.of (yU.Zp L) B λh' o=>B.old o;apply sr;unfold BY W4;subst hk he ha;have an:=A.wk;have bn:=B.wk;simp only[EE,Value.cells];refine uI s0 λba h2 s2=>?_;refine uI s2 λbb h3 s3=>?_;have g1:=(s3.p 1).get;have g2:=s3.get;simp only[EE,zA,xp,zj,RY,j8,HE,Bg,JZ,fS,Qv,J0,fT,g1,g2];refine zcv (by simp only[yC,an,bn,aaK];rfl) (zcI (RA.at s3) (RB.at s3) hl (acx _) λ_=>rfl) ?_;simp only[EE];rfl
theorem SO{a b:List (Int×Int×Int)}(A:zC h lk1 3 (a.map wy))(B:zC h lk2 3 (b.map wy))(hl:a.length<4611686018427387904)(hk:k1=k2)(ha:a=b)(n1:zV ev1=false)(n2:zV ev2=false):yO pu 10 [W4 k1 e1 ev1 lk1 s1,W4 k2 e2 ev2 lk2 s2] h (.bool true):=by
 apply uh;replace A:=A.lock;replace B:=B.lock;generalize h.lock=L at A B;apply Ym;intro wf;have s0:Sat (.of L) L []:=Sat.self wf.2;have RA:Rd (.of L) (zC · lk1 3 (a.map wy)):=Rd.of (yU.Zp L) A λh' o=>A.old o;have RB:Rd (.of L) (zC · lk2 3 (b.map wy)):=Rd.of (yU.Zp L) B λh' o=>B.old o;apply NX;unfold P6 W4;subst hk ha;have an:=A.wk;have bn:=B.wk;simp only[EE,Value.cells];refine uI s0 λba h2 s2=>?_;refine uI s2 λbb h3 s3=>?_;have g1:=(s3.p 1).get;have g2:=s3.get;have al:=zig (RA.at s3) 3;have bl:=zig (RB.at s3) 3;have c1:¬ ¬(a.length:Int)=(a.length:Int):=by simp
 simp only[EE,nth,↓BK,zA,zj,L6,j8,pV,Fa,Fb,Fc,Fe,g1,g2,an,bn,al,bl];refine qY (λm vs h'=>∃(i:Nat),i<=a.length/\m=a.length-i/\vs=[.bool false,pm (i:Nat)]/\h'=h3) a.length ⟨0,aba _,rfl,rfl,rfl⟩ ?_;rintro m vs h' ⟨i,hi,rfl,rfl,rfl⟩;unfold E9;by_cases hc:(i:Int)<(a.length:Int)
 ·obtain⟨x,hx⟩:∃x,a[i]? = some x:=⟨_,aae (by omega)⟩;have h0:(0:Int)<=i:=by omega
  obtain⟨b1,o1,c1',t1,⟨off1,cp1,rfl,rfl⟩,hi1,hb1,hg1,hl1,ht1,_⟩:=(RA.at s3).spot (i:=i) (r:=wy x) (by rw[aaq,hx];rfl) rfl;obtain⟨b2,o2,c2',t2,⟨off2,cp2,rfl,rfl⟩,hi2,hb2,hg2,hl2,ht2,_⟩:=(RB.at s3).spot (i:=i) (r:=wy x) (by rw[aaq,hx];rfl) rfl;rw[aaf]at *
  unfold wy at ht1 ht2;simp only[EE,nth,↓BK,aad,zZ,zA,abU,L6,zhL,pV,zib,O3,zgU,E7,E8,hc,h0,g1,g2,hg1,hl1,ht1,hg2,hl2,ht2,aax,inc (show i<4611686018427387904 by omega),abU,ac1];exact⟨a.length-(i+1),by omega,i+1,by omega,rfl,rfl⟩
 ·simp only[EE,nth,zA,L6,pV,hc,g1,an,al];rfl
end
section
variable {h:za}{p:Pg}
theorem zh7(P:wB h p)(wf:UJ h):∃B,yO pu 5 [p.val] h (.bool B):=by
 refine zdB wf ?_;replace P:=P.lock;replace wf:=wf.lock;generalize h.lock=L at P wf;have s0:Sat (.of L) L []:=Sat.self wf.2;have RP:Rd (.of L) (wB · p):=Rd.of (yU.Zp L) P λh' o=>P.old o;apply zbw;unfold zfu;have gvn:=P.globals.wk;have gvc:=P.globals.eT;have fvn:=P.funcs.wk;have fvc:=P.funcs.eT;simp only[EE,Value.cells];refine uI s0 λb5 h2 s2=>?_;have g5:=s2.get;have fl:=(RP.at s2).funcs.K1 3;have gl:=(RP.at s2).globals.kY 3;rw[aaf]at fl;by_cases c1:(p.funcs.length:Int)>6
 ·simp only[EE,zA,ue,xj,oX,oY,g5,fvn,fl,c1];exact⟨_,rfl⟩
 by_cases c2:(p.globals.length:Int)>6
 ·simp only[EE,zA,yS,ue,wj,xj,oX,oY,g5,gvn,fvn,fl,gl,c1,c2];exact⟨_,rfl⟩
 simp only[EE,nth,↓BK,zA,yS,ue,wj,xj,LI,oX,oY,g5,gvn,fvn,fl,gl,c1,c2];refine qY (λm vs h'=>∃(i:Nat) (v0:aaa),i<=p.funcs.length/\m=p.funcs.length-i/\vs=[v0,pm (i:Nat)]/\h'=h2) p.funcs.length ⟨0,_,aba _,rfl,rfl,rfl⟩ ?_;rintro m vs h' ⟨i,v0,hi,rfl,rfl,rfl⟩;unfold LF;by_cases hc:(i:Int)<(p.funcs.length:Int)
 ·obtain⟨f,hf⟩:∃f,p.funcs[i]? = some f:=⟨_,aae (by omega)⟩;obtain⟨bf,o,cf,tf,hix,hbf,hgf,hof,htf,hkf⟩:=zC.dJ (RP.at s2).funcs (i:=i) (r:=f.row) (by rw[aaq,hf];rfl) rfl;have cn:=((RP.at s2).fns f (aau hf)).code.wk;have cl:=((RP.at s2).fns f (aau hf)).code.K3 3;rw[aaf]at cl;have k2:=hkf 2 (by decide);have k3:=hkf 3 (by decide);have k5:=hkf 5 (by decide);have hin:=inc (show i<4611686018427387904 by omega);by_cases d1:(f.code.length:Int)>50
  ·simp only[EE,nth,↓BK,zA,ue,uS,xj,xL,oW,oZ,o7,o8,pd,ph,pj,po,pr,hc,g5,fvn,fl,hix,hgf,k5,cn,cl,d1];exact⟨_,rfl⟩
  by_cases d2:f.zf>40
  ·simp only[EE,nth,↓BK,zA,ue,zj,uS,xj,wh,xL,oW,oZ,o7,o8,pd,ph,pj,po,pr,hc,g5,fvn,fl,hix,hgf,k2,k5,cn,cl,d1,d2];exact⟨_,rfl⟩
  by_cases d3:f.frame>1024
  ·simp only[EE,nth,↓BK,zA,ue,zj,uS,xj,wh,kQ,xL,oW,oZ,o7,o8,pd,ph,pj,po,pr,hc,g5,fvn,fl,hix,hgf,k2,k3,k5,cn,cl,d1,d2,d3];exact⟨_,rfl⟩
  simp only[EE,nth,↓BK,zA,ue,zj,uS,xj,wh,kQ,xL,oW,oZ,o7,o8,pd,ph,pj,po,pr,LD,hc,g5,fvn,fl,hix,hgf,k2,k3,k5,cn,cl,d1,d2,d3,hin];exact⟨p.funcs.length-(i+1),by omega,i+1,_,by omega,rfl,rfl⟩
 simp only[EE,nth,zA,ue,xj,hc,g5,fvn,fl];refine qY (λm vs h9=>∃(i:Nat) (v0:aaa),i<=p.globals.length/\m=p.globals.length-i/\vs=[v0,pm (i:Nat)]/\h9=h') p.globals.length ⟨0,_,aba _,rfl,rfl,rfl⟩ ?_;rintro m vs h9 ⟨i,v0,hi,rfl,rfl,rfl⟩;unfold LH;by_cases hc:(i:Int)<(p.globals.length:Int)
 ·obtain⟨z,hz⟩:∃z,p.globals[i]? = some z:=⟨_,aae (by omega)⟩;obtain⟨b11,o11,c11,t11,ix11,lt11,g11,k11⟩:=(RP.at s2).globals.at hz;have hin:=inc (show i<4611686018427387904 by omega);by_cases d1:z>1024
  ·simp only[EE,nth,↓BK,zA,yS,zj,wj,Cr,hc,g5,gvn,gl,ix11,g11,k11,d1];exact⟨_,rfl⟩
  simp only[EE,nth,↓BK,zA,yS,zj,wj,Cr,LG,hc,g5,gvn,gl,ix11,g11,k11,d1,hin];exact⟨p.globals.length-(i+1),by omega,i+1,_,by omega,rfl,rfl⟩
 simp only[EE,nth,zA,yS,wj,hc,g5,gvn,gl];exact⟨_,rfl⟩
end
end Go.Rl
namespace Go.Rm
open Go.Ai Go.Proofs Go.Mem
open Go.Rtl (xG Pg zu)
def Few(S:St)(r:St×Bool):Prop:=r.1.ev.length<=S.ev.length+1/\r.1.lk.length<=S.lk.length+1
theorem Few.same{S S':St}{b:Bool}(h1:S'.ev=S.ev)(h2:S'.lk=S.lk):Few S (S',b):=⟨by rw[h1];exact abr _,by rw[h2];exact abr _⟩
theorem Few.lk{S S':St}{b:Bool}{x:Int×Int×Int}(h1:S'.ev=S.ev)(h2:S'.lk=S.lk++[x]):Few S (S',b):=⟨by rw[h1];exact abr _,by rw[h2];simp⟩
theorem Few.ev{S S':St}{b:Bool}{x:Int×Int}(h1:S'.ev=S.ev++[x])(h2:S'.lk=S.lk):Few S (S',b):=⟨by rw[h1];simp,by rw[h2];exact abr _⟩
theorem zcO(p:Pg)(world:List Int)(kept:Option (Int->Bool))(S:St):Few S (kP p world kept S):=by
 unfold kP;split
 ·exact .same rfl rfl
 split
 ·exact .same rfl rfl
 rename_i c _ _ i _;generalize hc:c=c';clear hc;unfold xq;by_cases h2:i.op=2
 ·rw[aai h2];exact .same rfl rfl
 rw[aac h2];by_cases h3:i.op=3
 ·rw[aai h3];exact .same rfl rfl
 rw[aac h3];by_cases h4:i.op=4
 ·rw[aai h4];split
  ·exact .same rfl rfl
  ·exact .same rfl rfl
 rw[aac h4];by_cases h5:i.op=5
 ·rw[aai h5]
  have q:∀o,Few S ((if (i.sub=14\/i.sub=15)/\(zT c'.zf i.a).k=1/\(yE c' i).k=1 then xh S 3 (zT c'.zf i.a).n (yE c' i).n else S),o):=by
   intro o;split
   ·exact .lk rfl rfl
   ·exact .same rfl rfl
  dsimp only;split
  ·exact q false
  ·exact q true
 rw[aac h5];by_cases h6:i.op=6
 ·rw[aai h6];split
  ·exact .same rfl rfl
  ·split
   ·exact .lk rfl rfl
   ·exact .lk rfl rfl
 rw[aac h6];by_cases h7:i.op=7
 ·rw[aai h7];split
  ·exact .same rfl rfl
  ·split
   ·exact .lk rfl rfl
   ·exact .lk rfl rfl
 rw[aac h7];by_cases h8:i.op=8
 ·rw[aai h8];exact .same rfl rfl
 rw[aac h8];by_cases h9:i.op=9
 ·rw[aai h9];exact .same rfl rfl
 rw[aac h9];by_cases h10:i.op=10
 ·rw[aai h10];unfold wQ;split
  ·exact .lk rfl rfl
  split
  ·exact .lk rfl rfl
  split
  ·exact .lk rfl rfl
  ·exact .lk rfl rfl
 rw[aac h10];by_cases h11:i.op=11
 ·rw[aai h11];unfold il;split
  ·exact .same rfl rfl
  ·exact .lk rfl rfl
 rw[aac h11];by_cases h12:i.op=12
 ·rw[aai h12];unfold qi;split
  ·exact .same rfl rfl
  split
  ·split
   ·exact .same rfl rfl
   ·exact .same rfl rfl
  ·split
   ·exact .same rfl rfl
   ·exact .same rfl rfl
 rw[aac h12];by_cases h13:i.op=13
 ·rw[aai h13];exact .ev rfl rfl
 rw[aac h13];by_cases h14:i.op=14
 ·rw[aai h14];split
  ·exact .ev rfl rfl
  ·exact .same rfl rfl
 rw[aac h14];exact .same rfl rfl
theorem MI(p:Pg)(world:List Int)(kept:Option (Int->Bool)):∀(n:Nat) (r:St×Bool),(rq p world kept n r).1.ev.length<=r.1.ev.length+n/\(rq p world kept n r).1.lk.length<=r.1.lk.length+n
 |0,r=>⟨aam _,aam _⟩
 |n+1,r=>by
  obtain⟨a,b⟩:=MI p world kept n (DQ p world kept r)
  have q:(DQ p world kept r).1.ev.length<=r.1.ev.length+1/\(DQ p world kept r).1.lk.length<=r.1.lk.length+1:=by
   unfold DQ;split
   ·exact zcO p world kept {r.1 with steps:=r.1.steps+1}
   ·exact⟨abr _,abr _⟩
  show(rq p world kept n (DQ p world kept r)).1.ev.length<=_/\(rq p world kept n (DQ p world kept r)).1.lk.length<=_;omega
theorem HK(p:Pg)(args world:List Int)(kept:Option (Int->Bool))(n:Nat):(runM p args world kept n).ev.length<=n/\(runM p args world kept n).lk.length<=n:=by
 obtain⟨a,b⟩:=MI p world kept n (kg p args);obtain⟨_,_,e,l⟩:=AP p args;rw[e]at a;rw[l]at b;unfold runM;rw[Gn]
 have f:∀x:St×Bool,(Jm (Gq x)).ev=x.1.ev/\(Jm (Gq x)).lk=x.1.lk:=by
  intro x;unfold Jm Gq
  repeat' split
  all_goals exact⟨rfl,rfl⟩
 rw[(f _).1,(f _).2];simp only[aaz,aay]at a b;exact⟨a,b⟩
end Go.Rm
namespace Go.Rtl
open Go.Ai Go.Proofs Go.Mem
open Go.Rm (yY yo kp vS ZR tU xR jI y6 jH qV rP Rd Rd.at iV)
def pG(x:xG):HP:=yY 3 1 x.av (x.args.map yo)
def fnP(f:Fn):HP:=j4 [yY 3 1 f.pv (f.params.map yo),yY 51 9 f.cv (f.code.map xG.row),j4 (f.code.map pG)]
def pgP(q:Pg):HP:=j4 [yY 3 1 q.gv (q.globals.map yo),yY 49 6 q.fv (q.funcs.map Fn.row),j4 (q.funcs.map fnP)]
section
variable {lo:yU}{h h':za}{L:List HP}
theorem Im{A:HP}(s:Sat lo h L)(hA:A∈L):Sat lo h [A]:=by
 obtain⟨a,b,rfl⟩:=aa0 hA;exact(s.perm (List.perm_middle)).zJ 1
theorem Ik{A:HP}{M:List HP}(s:Sat lo h (j4 M::L))(hA:A∈M):Sat lo h [A]:=Im s.open (List.mem_append_left _ hA)
theorem D9{A:HP}{M:List HP}(s:Sat lo h (A::j4 M::L)):Sat lo h (j4 (M++[A])::L):=by
 apply Sat.close;have s2:=Sat.open (s.f [1,0]);rw[acf];exact s2
theorem Pv{A:HP}{M:List HP}(s:Sat lo h (j4 (A::M)::L)):Sat lo h (A::j4 M::L):=Sat.cons (λ_=>Sat.close) s.open
theorem Il(s:Sat lo h L):Sat lo h (j4 []::L):=Sat.close (M:=[]) s
theorem GO(s:Sat lo h L)(e:Old h h')(hr:h'.ro<=h'.next){b:Nat}{o:wA}(h1:h.next<=b)(h2:b<h'.next)(hg:h'.get b=some o):Sat lo h' (pt b o::L):=by
 have rk:=s.base.GL
 have low:∀y z,(yU.of h).get y=some z->y<h.next/\z=h.get y:=λy z q=>by
  unfold yU.of at q;dsimp only at q;split at q
  ·cases q;exact⟨by assumption,rfl⟩
  ·cases q
 refine s.join (L':=[pt b o]) ⟨λy=>if y=b then some o else none,λ_=>rfl,λy p q=>?_,λy p q=>?_,⟨e.ro,hr,λy z q=>?_⟩⟩
 ·dsimp only at q;split at q
  ·rename_i q2;subst q2;unfold yU.of;dsimp only;rw[aac (by omega)]
  ·cases q
 ·dsimp only at q;split at q
  ·rename_i q2;subst q2;show h.ro<=_;omega
  ·cases q
 ·by_cases q2:y=b
  ·subst q2;rw[yU.vT (o:=o) (by rw[aai rfl])]at q;cases q;exact⟨hg,h2⟩
  ·rw[yU.uM (by rw[aac q2])]at q;obtain⟨a,rfl⟩:=low y z q;exact⟨e.get y a,aao a e.next⟩
theorem Gl:∀(zs:List Int),ints zs=(zs.map yo).flatten
 |[]=>rfl
 |z::zs=>by
  have:=Gl zs;unfold ints at this ⊢;rw[ab7,ab7,acU,this];rfl
theorem zdR{v:aaa}{zs:List Int}(W:k7 h h' v zs)(e:Old h h')(hr:h'.ro<=h'.next)(s:Sat lo h L):Sat lo h' (yY 3 1 v (zs.map yo)::L):=by
 rcases W with⟨rfl,rfl⟩|⟨b,c,rfl,hc,h1,h2,h3,h4⟩
 ·exact vS _ _ (s.zgI e.next e.ro e.get)
 ·have:=ZR (n:=1) (ty:=3) (rows:=zs.map yo) (c:=c) hc (qV (f:=yo) (λ_=>rfl) zs) (Gl zs) (GO s e hr h1 h2 h4)
  rwa [aaf]at this
theorem zhb{t:TypeId}{n:Nat}{v:aaa}{rows:List (List aaa)}(W:Zx h h' t v rows)(hn:∀r,r∈rows->r.length=n)(e:Old h h')(hr:h'.ro<=h'.next)(s:Sat lo h L):Sat lo h' (yY t n v rows::L):=by
 rcases W with⟨rfl,rfl⟩|⟨b,c,rfl,hc,h1,h2,h3,h4⟩
 ·exact vS _ _ (s.zgI e.next e.ro e.get)
 ·exact ZR hc hn rfl (GO s e hr h1 h2 h4)
theorem zaZ{rows:List (List aaa)}{n:Nat}{cs:List aaa}{i k:Nat}{r:List aaa}{v:aaa}(hn:∀r,r∈rows->r.length=n)(hl:rows.length*n<=cs.length)(ht:cs.take (rows.length*n)=rows.flatten)(hr:rows[i]? = some r)(hk:k<n) :
  (cs.set (i*n+k) v).take (rows.length*n)=(rows.set i (r.set k v)).flatten:=by
 have hi:i<rows.length:=(List.getElem?_eq_some_iff.1 hr).1;have rl:=hn r (aau hr);have hm:=abR n (acF hi);rw[acR]at hm;have e:=rP (cs:=cs) (row:=r.set k v) hi hn (by rw[aaW];exact rl) hl ht;rw[<- e]
 congr 1
 refine abc λj=>?_;rw[KU _ _ _ _ (by rw[aaW,rl];omega),ab0,aaW,rl]
 have hrow:∀m,m<n->cs[i*n+m]? = r[m]?:=λm hm2=>by
  rw[<- aaX (l:=cs) (i:=i*n+m) (j:=rows.length*n) (by omega),ht,Yf hn hr hm2]
 by_cases q:i*n<=j/\j<i*n+n
 ·rw[aai q,ab0];by_cases q2:i*n+k=j
  ·rw[aai q2,aai (by omega),aai (by omega),aai (by omega)]
  ·rw[aac q2,aac (by omega),<- hrow (j-i*n) (by omega)]
   congr 1;omega
 ·rw[aac q,aac (by omega)]
theorem zdS{ty:TypeId}{n:Nat}{sv:aaa}{rows:List (List aaa)}(s:Sat lo h (yY ty n sv rows::L))(hn:∀r,r∈rows->r.length=n){i:Nat}{r:List aaa}(hr:rows[i]? = some r) :
  ∃b c cs,sv=.slice (some ⟨b,0,none⟩) rows.length c/\h.get b=some (.cells cs ty)/\b<h.next/\h.ro<=b/\rows.length*n<=cs.length/\(∀k,k<n->cs[i*n+k]? = r[k]?)/\Sat lo h (pt b (.cells cs ty)::L) /\ ∀{h':za} {L':List HP} (k:Nat) (v:aaa),k<n->Sat lo h' (pt b (.cells (cs.set (i*n+k) v) ty)::L')->Sat lo h' (yY ty n sv (rows.set i (r.set k v))::L'):=by
 have hi:i<rows.length:=(List.getElem?_eq_some_iff.1 hr).1;rcases kp s with⟨rfl,rfl,_⟩|⟨b,c,cs,rfl,hc,hl,ht,s1⟩
 ·cases hi
 ·have hm:=abR n (acF hi);rw[acR]at hm;refine⟨b,c,cs,rfl,s1.get,s1.lt,s1.wr,hl,λk hk=>?_,s1,λk v hk s2=>?_⟩
  ·rw[<- aaX (l:=cs) (i:=i*n+k) (j:=rows.length*n) (by omega),ht,Yf hn hr hk]
  ·have:=tU (n:=n) (rows:=rows.set i (r.set k v)) (c:=c) hc (by rw[aaW,aaW];exact hl) (by rw[aaW];exact zaZ hn hl ht hr hk) s2
   rwa [aaW]at this
theorem ze7(s:Sat lo h L){v:aaa}{zs:List Int}(hm:yY 3 1 v (zs.map yo)∈L):zL h v zs:=iV (y6 (Im s hm) (qV (f:=yo) (λ_=>rfl) zs))
theorem MK{f:Fn}(s:Sat lo h (fnP f::L))(h1:f.params.length<=17592186043904)(h2:f.code.length*88<=140737488351232)(h3:∀x,x∈f.code->x.args.length<=17592186043904):qE h f:=by
 have s1:=s.open;refine⟨ze7 s1 (by simp),h1,y6 (s1.p 1) (lZ _),h2,λx hx=>⟨?_,h3 x hx⟩⟩;exact ze7 (Ik (s1.p 2) (acq hx)) (by unfold pG;simp)
end
section
variable {h0 H:za}{L:List HP}
theorem cpi{lo:yU}{bf:Nat}{cv a0 a1 a2 a3 a4:aaa}{xs:List xG}(X:Rd lo λh=>∀x,x∈xs->wt h x)(oj:xs.length<=17592186043904)(s:Sat lo H (pt bf (.cells [a0,a1,a2,a3,a4,cv] 49)::yY 51 9 cv (xs.map xG.row)::L)){j:List aaa->za->Prop}
  (K:∀(h:za) (ys:List xG),ys.map xG.core=xs.map xG.core->Sat lo h (pt bf (.cells [a0,a1,a2,a3,a4,cv] 49)::yY 51 9 cv (ys.map xG.row)::j4 (ys.map pG)::L)->j [] h):LP (oB (pi bf) j) [pm 0] H:=by
 refine qY (λm vs h=>∃(i:Nat) (ys:List xG),i<=xs.length/\m=xs.length-i/\vs=[pm (i:Nat)]/\ys.map xG.core=xs.map xG.core/\(∀k,i<=k->ys[k]? = xs[k]?)/\Sat lo h (pt bf (.cells [a0,a1,a2,a3,a4,cv] 49)::yY 51 9 cv (ys.map xG.row)::j4 ((ys.take i).map pG)::L)) xs.length
  ⟨0,xs,aba _,rfl,rfl,rfl,λ_ _=>rfl,(Il s).f [1,2,0]⟩ ?_
 rintro m vs h ⟨i,ys,hi,rfl,rfl,hcore,htl,s⟩;have hlen:ys.length=xs.length:=by simpa using congrArg List.length hcore
 have gbf:=s.get;have lbf:=s.lt;have cl:=(y6 (s.p 1) (lZ ys)).K3 3;have cn:=xR (s.p 1);rw[aaf]at cl;by_cases hlt:i<xs.length
 ·have hx:xs[i]? = some xs[i]:=aae hlt;have hy:ys[i]? = some xs[i]:=by rw[htl i (aam _)];exact hx
  have hlt':(i:Int)<(ys.length:Int):=by omega
  have h0':0<=(i:Int)/\(i:Int)<(ys.length:Int):=by omega
  have hinc:IntKind.wrap .i64 ((i:Int)+1)=((i+1:Nat):Int):=inc (by omega);have Y:=X.at s xs[i] (List.getElem_mem hlt);generalize xs[i]=y at hx hy Y;have hrow:(ys.map xG.row)[i]? = some y.row:=by rw[aaq,hy];rfl
  obtain⟨cb,cc,cs,rfl,gcb,lcb,wcb,hcs,hat,s1,back⟩:=zdS (s.p 1) (lZ ys) hrow;rw[aaf]at *
  have gc1:∀t,(cut (h.push (.cells [] 3)) h.next t).get bf=some (.cells [a0,a1,a2,a3,a4,.slice (some ⟨cb,0,none⟩) ys.length cc] 49):=λt=>by rw[QU lbf,zt lbf];exact gbf
  have gc2:∀t,(cut (h.push (.cells [] 3)) h.next t).get cb=some (.cells cs 51):=λt=>by rw[QU lcb,zt lcb];exact gcb
  have hco:cs[i*9+6]? = some y.av:=hat 6 (by decide);simp only[EE,nth,↓BK,aad,zA,yS,uS,C5,xL,kR,zc5,O4,IE,IF,oB,gbf,hlt',h0',gc1,gc2,hco,aax];refine Md (h:=h) (Y.args.old (Old.push _ _)) Y.oj s.base.GL (aaH _) ?_;intro v h6 W e6 r6;have s6:=zdR W e6 r6 s1;have g6:=(s6.p 1).get;obtain⟨va,vl,vc,rfl⟩:=W.shape;simp only[EE,nth,aad,R6,kR,zc5,ID,h0',aax];refine yp (s6.p 1) (by simp;omega) (by rfl) λh7 s7=>?_;have s8:=back 6 _ (by decide) s7;refine⟨xs.length-(i+1),by omega,i+1,ys.set i {y with av := .slice va vl vc},hlt,rfl,by rw[hinc],?_,?_,?_⟩
  ·rw[<- hcore];refine abc λk=>?_;rw[aaq,aaq,ab0];by_cases q:i=k
   ·subst q;rw[hy,aai rfl,aai (by omega)];rfl
   ·rw[aac q]
  ·intro k hk;rw[aa4 (by omega)];exact htl k (by omega)
  ·have e1:(ys.set i {y with av := .slice va vl vc}).map xG.row=(ys.map xG.row).set i (y.row.set 6 (.slice va vl vc)):=by rw[ab5];rfl
   have e2:(ys.set i {y with av := .slice va vl vc}).take (i+1)=ys.take i++[{y with av := .slice va vl vc}]:=by
    rw[ab1,List.take_set_of_le (aam _),aaM (by omega)];rfl
   rw[e1,e2,abp];have s9:=D9 (A:=pG {y with av := .slice va vl vc}) (s8.f [1,3,0,2]);exact s9.f [2,1,0]
 ·have hlt':¬(i:Int)<(ys.length:Int):=by omega
  simp only[EE,nth,zA,uS,xL,oB,gbf,cl,cn,hlt'];have:ys.take i=ys:=ace (by omega);rw[this]at s;exact K _ ys hcore s
end
theorem zcU{f:Fn}{h:za}(p:yN f.pv=true)(c:yN f.cv=true):f.row.all yN=true:=by
 simp[p,c];exact⟨rfl,rfl,rfl,rfl⟩
theorem cpf{lo:yU}{h:za}{L:List HP}{b1 b3 i:Nat}{qg fv:aaa}{m:Int}{p:Pg}{f:Fn}{qs:List Fn}(hf:p.funcs[i]? = some f)(RP:Rd lo (wB · p))(hlen:(qs.length+1)*88<=2^47)(s:Sat lo h (pt b1 (vI p)::pt b3 (.cells [qg,fv,pm m] 25)::yY 49 6 fv (qs.map Fn.row)::j4 (qs.map fnP)::L))
  {j:List aaa->za->Prop}
  (K:∀(h':za) (fv':aaa) (q:Fn),q.core=f.core->Sat lo h' (pt b1 (vI p)::pt b3 (.cells [qg,fv',pm m] 25)::yY 49 6 fv' ((qs++[q]).map Fn.row)::j4 ((qs++[q]).map fnP)::L)->j [] h') :
  BC (pi b1) h [pm (i:Nat)] (pi b3) j:=by
 have P:=RP.at s;have fl:=P.funcs.K1 3;obtain⟨bb,oo,cc,tt,ha,hbb,hgt,hle,htk,_⟩:=P.funcs.dJ (i:=i) (r:=f.row) (by rw[aaq,hf];rfl) rfl;have fm:=aau hf;have F:=P.fns f fm;have pn:=F.params.wk;have cn:=F.code.wk;have pc:=F.params.eT;have cc':=F.code.eT;have g1:=s.get;simp only[EE,nth,Value.cells,aad,zZ,zA,ue,mw,mC,xj,BC,g1,ha,hgt,hle,htk];refine uI s λbf h2 s2=>?_;simp only[EE,Nat.reduceAdd,FZ];refine yp s2 (by simp) (zcU (h:=h) pc cc') λh3 s3=>?_;have g3:=s3.get;obtain⟨v1,h4,a1,W1,e4,r4,l4⟩:=zb1 (h:=h3) (x:=f.pv) (zs:=f.params) ((RP.at s3).fns f fm |>.params.old (Old.push _ _)) F.ET s3.base.GL;have g3':(h3.push (.cells [] 3)).get bf=some (.cells [.string f.nm,f.pv,pm f.zf,pm f.frame,pm f.entry,f.cv] 49):=by rw[zt s3.lt];exact g3
 have s4:=zdR W1 e4 r4 s3;have g4:=(s4.p 1).get;obtain⟨va,vl,vc,rfl⟩:=W1.shape;simp only[EE,zA,yS,R6,C5,uA,pn,g3',a1];refine yp (s4.p 1) (by simp[YR]) rfl λh5 s5=>?_;have g5:=s5.get;have P5:=RP.at s5;have g5':(h5.push (.cells [] 51)).get bf=some (.cells [.string f.nm,.slice va vl vc,pm f.zf,pm f.frame,pm f.entry,f.cv] 49):=by rw[zt s5.lt];exact g5
 obtain⟨v3,h6,a3,W3,e6,r6,l6⟩:=zb2 (h:=h5) (x:=f.cv) (ys:=f.code) ((P5.fns f fm).code.old (Old.push _ _)) (λy hy=>((P5.fns f fm).ins y hy).old (Old.push _ _)) F.tu s5.base.GL;have s6:=zhb W3 (lZ _) e6 r6 s5;obtain⟨wa,wl,wc,rfl⟩:=W3.shape;simp only[EE,zA,uS,zhZ,zcl,xL,cn,g5',a3];refine yp (s6.p 1) (by simp[YR]) rfl λh7 s7=>?_;simp only[↓BK];refine cpi (xs:=f.code) (λh b x hx=>((RP h b).fns f fm).ins x hx) (by have:=F.tu;omega) s7 ?_;intro h8 ys hcore s8;have g8:=s8.get;have gq:=(s8.p 5).get;have fvn:=xR (s8.p 6);have fvl:=y6 (s8.p 6) (p0 qs);have s9:=s8.push (.cells [.string f.nm,.slice va vl vc,pm f.zf,pm f.frame,pm f.entry,.slice wa wl wc] 49);obtain⟨b',c',h10,a10,s10⟩:=jH (s9.p 7) (p0 qs) [.string f.nm,.slice va vl vc,pm f.zf,pm f.frame,pm f.entry,.slice wa wl wc] rfl (by decide) 88 (by rw[aaf];exact hlen);rw[aaf]at a10 s10
 have hap:∀r,zB pu .append [23,23] r [fv,.slice (some ⟨h8.next,0,none⟩) 1 3] (h8.push (.cells [.string f.nm,.slice va vl vc,pm f.zf,pm f.frame,pm f.entry,.slice wa wl wc] 49))=some (.slice (some ⟨b',0,none⟩) (qs.length+1) c',h10):=λr=>by
  rw[zhQ r _ _ 1 [.string f.nm,.slice va vl vc,pm f.zf,pm f.frame,pm f.entry,.slice wa wl wc] _ rfl (by simp only[wR,zk];rfl) rfl rfl];exact a10
 have gq':=(s10.p 7).get;simp only[EE,aad,Nat.reduceAdd,zZ,zA,ue,mw,zhY,T9,xj,IG,g8,gq,fvn,hap];refine yp (s10.p 7) (by simp) rfl λh11 s11=>?_;have q:∃q:Fn,q = {f with pv := .slice va vl vc,cv := .slice wa wl wc,code:=ys}:=⟨_,rfl⟩;obtain⟨q,hq⟩:=q;refine K h11 (.slice (some ⟨b',0,none⟩) (qs.length+1) c') q (by rw[hq];show Fn.mk _ _ _ _ _ _ _ (ys.map xG.core)=_;rw[hcore]) ?_;have s12:=Sat.close (M:=[yY 3 1 (.slice va vl vc) (f.params.map yo),yY 51 9 (.slice wa wl wc) (ys.map xG.row),j4 (ys.map pG)]) (s11.f [6,4,5]);have s13:=D9 (A:=j4 [yY 3 1 (.slice va vl vc) (f.params.map yo),yY 51 9 (.slice wa wl wc) (ys.map xG.row),j4 (ys.map pG)]) (s12.f [0,6]);have s14:=((s13.f [3,4]).drop.drop).f [3,1,2,0];have e1:(qs++[q]).map Fn.row=qs.map Fn.row++[[.string f.nm,.slice va vl vc,pm f.zf,pm f.frame,pm f.entry,.slice wa wl wc]]:=by rw[hq,abp];rfl
 have e2:(qs++[q]).map fnP=qs.map fnP++[j4 [yY 3 1 (.slice va vl vc) (f.params.map yo),yY 51 9 (.slice wa wl wc) (ys.map xG.row),j4 (ys.map pG)]]:=by rw[hq,abp];rfl
 rw[e1,e2];exact s14
theorem cpl{lo:yU}{H:za}{L:List HP}{b1 b3:Nat}{qg:aaa}{m:Int}{p:Pg}(RP:Rd lo (wB · p))(s:Sat lo H (pt b1 (vI p)::pt b3 (.cells [qg,pp,pm m] 25)::L))
  {j:List aaa->za->Prop}
  (K:∀(h:za) (fv:aaa) (qs:List Fn),qs.map Fn.core=p.funcs.map Fn.core->Sat lo h (pt b1 (vI p)::pt b3 (.cells [qg,fv,pm m] 25)::yY 49 6 fv (qs.map Fn.row)::j4 (qs.map fnP)::L)->j [] h) :
  LP (oC (pi b1) j (pi b3)) [pm 0] H:=by
 refine qY (λn vs h=>∃(i:Nat) (fv:aaa) (qs:List Fn),i<=p.funcs.length/\n=p.funcs.length-i/\vs=[pm (i:Nat)]/\qs.map Fn.core=(p.funcs.take i).map Fn.core/\Sat lo h (pt b1 (vI p)::pt b3 (.cells [qg,fv,pm m] 25)::yY 49 6 fv (qs.map Fn.row)::j4 (qs.map fnP)::L)) p.funcs.length
  ⟨0,pp,[],aba _,rfl,rfl,by simp,((vS _ _ (Il s)).f [2,3,0,1])⟩ ?_
 rintro n vs h ⟨i,fv,qs,hi,rfl,rfl,hcore,s⟩;have P:=RP.at s;have g1:=s.get;have fn:=P.funcs.wk;have fl:=P.funcs.K1 3;rw[aaf]at fl;have hlq:qs.length=i:=by have:=congrArg List.length hcore;simp at this;omega
 by_cases hlt:i<p.funcs.length
 ·obtain⟨f,hf⟩:∃f,p.funcs[i]? = some f:=⟨_,aae hlt⟩;have hlt':(i:Int)<(p.funcs.length:Int):=by omega
  have hinc:IntKind.wrap .i64 ((i:Int)+1)=((i+1:Nat):Int):=inc (by have:=P.Dk;omega);simp only[EE,nth,↓BK,zA,ue,xj,II,oC,g1,fl,fn,hlt'];refine cpf hf RP (by have:=P.Dk;omega) s ?_;intro h' fv' q hc s';refine⟨p.funcs.length-(i+1),by omega,i+1,fv',qs++[q],hlt,rfl,by simp only[hinc],?_,s'⟩;rw[abp,hcore,ab1,hf,abp];simp only[ab7,ac0,hc,Option.toList_some]
 ·have hlt':¬(i:Int)<(p.funcs.length:Int):=by omega
  simp only[EE,nth,zA,ue,xj,oC,g1,fl,fn,hlt'];refine K h fv qs ?_ s;rw[hcore,ace (by omega)]
theorem OC(p:Pg)(h:za)(P:wB h p):DC pu 6 [p.val] h (λv h'=>∃q:Pg,v=q.val/\q.core=p.core/\Sat (.of h) h' [pgP q]):=by
 refine Ym λwf=>?_;apply TB;unfold zbi;have gn:=P.globals.wk;have fn:=P.funcs.wk;have s0:Sat (.of h) h []:=Sat.self wf.2;have RP:Rd (.of h) (wB · p):=Rd.of (yU.Zp h) P λh' o=>P.old o;simp only[EE,Value.cells,zce,C5];refine uI s0 λb1 h2 s2=>?_;simp only[EE,zA,yS,wj];refine uI s2 λb2 h4 s4=>?_;have g1:=(s4.p 1).get;have l1:=(s4.p 1).lt;have g2:=s4.get;have l2:=s4.lt;have gc1:∀t,(cut (h4.push (.cells [] 3)) h4.next t).get b1=some (vI p):=λt=>by rw[QU l1,zt l1];exact g1
 simp only[EE,gc1];refine Md (h:=h4) ((RP.at s4).globals.old (Old.push _ _)) P.MS s4.base.GL (aaH _) ?_;intro v h6 W e6 r6;have s6:=zdR W e6 r6 s4;obtain⟨va,vl,vc,rfl⟩:=W.shape;have g61:=(s6.p 2).get;have n6:=e6.next
 have gc2:∀s t,(cut (cut h6 h4.next s) (h4.next+1) t).get b1=some (vI p):=λs t=>by
  rw[QU (by omega),QU l1];exact g61
 simp only[EE,Value.cells,zA,zj,zce,T7,XB,IJ,gc2];refine uI s6 λb3 h8 s8=>?_;simp only[EE,Nat.reduceAdd,zb8];refine yp s8 (by simp) rfl λh10 s10=>?_;simp only[↓BK];refine cpl RP (s10.f [3,0,1,2]) ?_;intro h11 fv qs hcore s11;have g3:=(s11.p 1).get;have fvn:=xR (s11.p 2);have fvc:=jI (s11.p 2);simp only[EE,aad,Nat.reduceAdd,zZ,Wn,zb8,g3];refine yp (s11.p 5) (by simp) (by simp[fvc];exact⟨rfl,rfl⟩) λh12 s12=>?_;have g12:=s12.get;simp only[EE,zb,aad,Nat.reduceAdd,zZ,Wn,g12];refine⟨⟨.slice va vl vc,p.globals,fv,qs,p.main⟩,rfl,by show Pg.mk _ _ _ (qs.map Fn.core) _=_;rw[hcore],?_⟩;exact Sat.close (M:=[yY 3 1 (.slice va vl vc) (p.globals.map yo),yY 49 6 fv (qs.map Fn.row),j4 (qs.map fnP)]) (L:=[]) (s12.k [5,3,4])
theorem OE(f:Fn)(x:xG):Ws f.core x.core=Ws f x:=by
 unfold Ws rL WR;simp only[Fn.core,aaf];rfl
theorem HC(f:Fn):qL f.core=qL f:=by
 unfold qL Jw;simp only[aaf,List.all_map]
 congr 3
 funext x
 exact OE f x
theorem zao(p:Pg)(c:xG):ZL p.core c.core=ZL p c:=by
 unfold ZL C6 zcZ iO;simp only[aaf,aaq];cases p.funcs[c.sub.toNat]? <;> rfl
theorem ir(p:Pg):YQ p.core=YQ p:=by
 unfold YQ nX;simp only[aaf,List.all_map]
 congr 3
 funext f
 show(qL f.core&&(f.code.map xG.core).all (ZL p.core))=_;rw[HC,List.all_map]
 congr 2
 funext c
 exact zao p c
theorem AH{p q:Pg}(h:q.core=p.core):YQ q=YQ p:=by rw[<- ir q,h,ir]
theorem GN{α β:Type}{R:α->α->Bool}{S:β->β->Bool}(f:α->β){xs ys:List α}(h:∀x y,S (f x) (f y)=R x y):YV S (xs.map f) (ys.map f)=YV R xs ys:=by
 unfold YV;rw[aaf]
 congr 1
 funext k
 unfold mL;rw[aaq,aaq];cases xs[k]? <;> cases ys[k]? <;> simp[h]
theorem Q5{α:Type}{R:α->α->Bool}{xs:List α}(h:∀x,R x x=true):YV R xs xs=true:=by
 unfold YV;rw[aaD];intro k hk;unfold mL;cases xs[k]? <;> simp[h]
theorem Ij(x:xG):ZQ x x=true:=by
 unfold ZQ;rw[Q5 (λz=>by simp[EJ])];simp
theorem Ns(f:Fn):Xg f f=true:=by
 unfold Xg;rw[Q5 (λz=>by simp[EJ]),Q5 Ij];simp
theorem Nu(p:Pg):V0 p p=true:=by
 unfold V0;rw[Q5 (λz=>by simp[EJ]),Q5 Ns];simp
theorem Ii(x y:xG):ZQ x.core y.core=ZQ x y:=rfl
theorem Nr(f g:Fn):Xg f.core g.core=Xg f g:=by
 unfold Xg;simp only[aaf,GN xG.core Ii]
theorem Nt(p q:Pg):V0 p.core q.core=V0 p q:=by
 unfold V0;simp only[aaf,GN Fn.core Nr]
theorem K8{p q:Pg}(h:q.core=p.core):V0 p q=true:=by rw[<- Nt,h,Nu]
end Go.Rtl
namespace Go.Rm
open Go.Ai Go.Proofs Go.Mem
open Go.Rtl (xG Pg zu xG.core Fn.core Pg.core)
section
variable {p:Pg}{S:St}{c:Fr}{i:xG}{world args:List Int}{kept:Option (Int->Bool)}
theorem HO(k:Nat):p.core.funcs[k]? = (p.funcs[k]?).map Fn.core:=aaq ..
theorem Dv:j3 p.core c=(j3 p c).map xG.core:=by
 unfold j3;rw[HO];cases p.funcs[c.f]? with
 |none=>rfl
 |some f=>
  show(if c.pt<0 then none else (f.code.map xG.core)[c.pt.toNat]?)=Option.map _ (if c.pt<0 then none else f.code[c.pt.toNat]?);split
  ·rfl
  ·exact aaq ..
theorem De(n:Int)(al:List V):wQ p.core S n al=wQ p S n al:=by
 unfold wQ;rw[HO];cases p.funcs[n.toNat]? <;> rfl
theorem OZ(v:V):qi p.core kept S v=qi p kept S v:=by
 unfold qi;split
 ·rfl
 split
 ·rfl
 ·rw[Dv];rename_i b _;cases j3 p b <;> rfl
theorem Py:xq p.core world kept S c i.core=xq p world kept S c i:=by
 unfold xq;rw[De,OZ];rfl
theorem Pz:kP p.core world kept S=kP p world kept S:=by
 unfold kP;split
 ·rfl
 ·rw[Dv];rename_i c _;cases j3 p c with
  |none=>rfl
  |some i=>exact Py
theorem Gm:∀(n:Nat) (r:St×Bool),QY p.core world kept n r=QY p world kept n r
 |0,(S,ok)=>rfl
 |n+1,(S,ok)=>by
  show(if ok=true/\S.kind=0 then QY p.core world kept n (kP p.core world kept _) else _)=if ok=true/\S.kind=0 then QY p world kept n (kP p world kept _) else _;rw[Pz,Gm n]
theorem Np(n:Nat):runM p.core args world kept n=runM p args world kept n:=by
 unfold runM;rw[Gm]
 have:kg p.core args=kg p args:=by
  unfold kg;rw[De]
 rw[this]
theorem D6{q:Pg}(h:q.core=p.core)(n:Nat):runM q args world kept n=runM p args world kept n:=by rw[<- Np,h,Np]
theorem zav{q:Pg}(h:q.core=p.core):(vC q).params=(vC p).params:=by
 have e:∀r:Pg,(vC r).params=(vC r.core).params:=λr=>by
  unfold vC;show _=((r.core.funcs[r.main.toNat]?).getD _).params;rw[HO];cases r.funcs[r.main.toNat]? <;> rfl
 rw[e q,e p,h]
theorem C3{q:Pg}(h:q.core=p.core)(fuel:Int):aV (vC q) args fuel ↔ aV (vC p) args fuel:=by
 unfold aV;rw[zav h]
theorem ru{q:Pg}(h:q.core=p.core):∀f,f∈q.funcs->∃g,g∈p.funcs/\f.core=g.core:=λf hf=>by
 have:f.core∈q.core.funcs:=acq hf;rw[h]at this;obtain⟨g,hg,e⟩:=abm.1 this;exact⟨g,hg,e.symm⟩
theorem ri{f g:Go.Rtl.Fn}(h:f.core=g.core):∀x,x∈f.code->∃y,y∈g.code/\x.core=y.core:=λx hx=>by
 have:x.core∈f.core.code:=acq hx;rw[h]at this;obtain⟨y,hy,e⟩:=abm.1 this;exact⟨y,hy,e.symm⟩
end
end Go.Rm
namespace Go.Rl
open Go.Ai Go.Proofs
open Go.Mem (wD)
open Go.Rtl (xG Pg wB qE wt zL zC Old inc pG fnP pgP Ik Im D9 Il Pv OC p0 MK ze7 YQ Be rJ Ya Ia AH K8 rM V0)
open Go.Rm (yY yo xR jI y6 ZR vS Ny qV iV Eb Rd Rd.of Rd.at qz wy W4 Ep Eo runM HK D6 C3 ru ri)
def yes(v:aaa)(_:za):Prop:=v=.bool true
theorem DS{lo:yU}{h h0:za}{L:List HP}{p q:Pg}(P:wB h0 p)(hc:q.core=p.core)(s:Sat lo h (pgP q::L)):wB h q:=by
 have hg:q.globals=p.globals:=by have:=congrArg Pg.globals hc;exact this
 have hf:q.funcs.length=p.funcs.length:=by have:=congrArg (λr:Pg=>r.funcs.length) hc;simpa using this
 have s:=s.open;refine⟨ze7 s (by simp),by rw[hg];exact P.MS,y6 (s.p 1) (p0 _),by rw[hf];exact P.Dk,λf hm=>?_⟩;obtain⟨g,hgm,e⟩:=ru hc f hm;have F:=P.fns g hgm;have e1:f.params=g.params:=by have:=congrArg Go.Rtl.Fn.params e;exact this
 have e2:f.code.length=g.code.length:=by have:=congrArg (λr:Go.Rtl.Fn=>r.code.length) e;simpa using this
 refine MK (Ik (s.p 2) (acq hm)) (by rw[e1];exact F.ET) (by rw[e2];exact F.tu) λx hx=>?_;obtain⟨y,hy,e3⟩:=ri e x hx;have:x.args=y.args:=by have:=congrArg xG.args e3;exact this
 rw[this];exact(F.ins y hy).oj
end Go.Rl
namespace Go.Rtl
open Go.Ai Go.Proofs
def Ju(n:Int):Bool:=decide (0<=n)&&(!decide (n=4)&&(!decide (n=10) && !decide (n=11)))
theorem SW(n:Int)(h:za):yO Tryz.prog 58 [.int .i64 n] h (.bool (Ju n)):=by
 apply uh;apply NY;unfold P7 Ju;by_cases h0:0<=n
 ·by_cases h4:n=4
  ·subst h4;simp only[EE,Int.reduceEq,Int.reduceLE,JO,JP,JQ];rfl
  ·by_cases h10:n=10
   ·subst h10;simp only[EE,Int.reduceEq,Int.reduceLE,JO,JP,JQ];rfl
   ·simp only[EE,JO,JP,JQ,h0,h4,h10];simp[u3]
 ·simp only[EE,JO,JP,JQ,h0];simp[u3]
def bH(n:Int):Bool:=decide (n=3)||(decide (n=5)||(decide (n=12)||(decide (n=13)||(decide (n=14)||(decide (n=15)||decide (16<=n))))))
theorem HW(n:Int)(h:za):yO Tryz.prog 16 [.int .i64 n] h (.bool (bH n)):=by
 apply uh;apply si;unfold BM bH;by_cases h3:n=3
 ·subst h3;simp only[EE,nth,↓BK,Int.reduceEq,Int.reduceLE,Uj];rfl
 by_cases h5:n=5
 ·subst h5;simp only[EE,nth,↓BK,Int.reduceEq,Int.reduceLE,Qu,Uj];rfl
 by_cases h12:n=12
 ·subst h12;simp only[EE,nth,↓BK,Int.reduceEq,Int.reduceLE,JC,Qu,Uj];rfl
 by_cases h13:n=13
 ·subst h13;simp only[EE,nth,↓BK,Int.reduceEq,Int.reduceLE,Xp,JC,Qu,Uj];rfl
 by_cases h14:n=14
 ·subst h14;simp only[EE,nth,↓BK,Int.reduceEq,Int.reduceLE,WC,Xp,JC,Qu,Uj];rfl
 by_cases h15:n=15
 ·subst h15;simp only[EE,nth,↓BK,Int.reduceEq,Int.reduceLE,WC,Xp,JC,Qu,Uj];rfl
 simp only[EE,nth,↓BK,WC,Xp,JC,Qu,Uj,h3,h5,h12,h13,h14,h15];simp[u3]
def Nk(n:Int):Bool:=decide (n=3)||(decide (n=5)||decide (12<=n))
theorem SM(n:Int):bH n=Nk n:=by
 unfold bH Nk;by_cases h3:n=3
 ·simp[h3]
 by_cases h5:n=5
 ·simp[h5]
 simp only[h3,h5,acQ,acT];by_cases h12:12<=n
 ·simp only[h12,ac2];by_cases h16:16<=n
  ·simp[h16]
  ·have:n=12\/n=13\/n=14\/n=15:=by omega
   rcases this with rfl|rfl|rfl|rfl <;> rfl
 ·have a1:¬n=12:=by omega
  have a2:¬n=13:=by omega
  have a3:¬n=14:=by omega
  have a4:¬n=15:=by omega
  have a5:¬16<=n:=by omega
  simp[h12,a1,a2,a3,a4,a5]
def nS:List Int:=[7,6,2,1,8,9]
def tL(n:Int):aaa:=if 0<=n/\n<6 then .tuple #[.int .i64 (nS.getD n.toNat 0),.bool true] else .tuple #[.int .i64 0,.bool false]
theorem zgm:zY Tryz.prog 73 [(0,.int .i64 7),(1,.int .i64 6),(2,.int .i64 2),(3,.int .i64 1),(4,.int .i64 8),(5,.int .i64 9)]=some (.agg #[.int .i64 7,.int .i64 6,.int .i64 2,.int .i64 1,.int .i64 8,.int .i64 9]):=zJ (by kernel_rfl)
theorem zdw(n:Int)(h:za):DC Tryz.prog 13 [.int .i64 n] h (λv h1=>v=tL n/\Old h h1):=by
 apply Ym;intro hwf;have hro:=hwf.2;apply NZ;unfold P9 tL;have old:∀o c,Old h ((h.push o).set h.next c):=λo c=>(Old.push h o).set (aam _) c;by_cases h0:n<0
 ·have e:¬(0<=n/\n<6):=by omega
  simp only[EE,↓nw,Value.cells,zb,aad,abe,Nat.reduceAdd,yJ,zcb,zcf,i4,i5,zgm,hro,h0,e];exact old _ _
 by_cases h6:6<=n
 ·have e:¬(0<=n/\n<6):=by omega
  simp only[EE,↓nw,Value.cells,zb,aad,abe,Nat.reduceAdd,yJ,zcb,zcf,i4,i5,zgm,hro,h0,h6,e];exact old _ _
 ·have e:n=0\/n=1\/n=2\/n=3\/n=4\/n=5:=by omega
  rcases e with rfl|rfl|rfl|rfl|rfl|rfl
  all_goals
   simp only[EE,↓nw,Value.cells,zb,aad,Nat.reduceAdd,Nat.reduceMul,Int.reduceLT,Int.reduceLE,Int.reduceToNat,yJ,zA,zj,zcb,zcf,zic,i4,i5,zgm,hro]
   first|exact⟨rfl,old _ _⟩|(refine⟨?_,old _ _⟩;rfl)
theorem Po(n:Int)(hn:0<=n/\n<6)(h:za):yO Tryz.prog 78 [.int .i64 n] h (.int .i64 (nS.getD n.toNat 0)):=by
 apply H9;apply Et;unfold CN;have e:n=0\/n=1\/n=2\/n=3\/n=4\/n=5:=by omega
 rcases e with rfl|rfl|rfl|rfl|rfl|rfl
 all_goals
  have c6:((6:Nat):Int)=6:=rfl;simp only[EE,aad,Nat.reduceMul,Int.reduceLT,Int.reduceLE,Int.reduceToNat,zA,zj,me,bF,c6];rfl
def UX(l:List Int)(i:Nat):Bool:=decide (i<6)&&decide (l.getD i 0=nS.getD i 0)
def Z8(l:List Int):Bool:=(List.range l.length).all (UX l)
theorem Sz{v:aaa}{l:List Int}{h:za}(S:zL h v l):yO Tryz.prog 41 [v] h (.bool (Z8 l)):=by
 apply uh;replace S:=S.lock;generalize h.lock=L at S;apply N9;unfold Rw;have nl:=S.wk;have hl:=S.kY 3 L;by_cases h6:(6:Int)<l.length
 ·simp only[EE,nl,hl,h6];have:Z8 l=false:=Z4 (k:=6) (by omega) rfl;rw[this];rfl
 simp only[EE,nth,↓BK,nl,hl,h6];refine WA (lo:=L) l.length (UX l) (.refl L) ?_;intro i h2 J hi e2 hg hJ;have S2:=S.old e2;have hl2:=S2.kY 3 h2;rcases aar i l.length with hlt|hge
 ·obtain⟨z,hz,_⟩:=get_some hlt;obtain⟨b,o,c,t,ha,hb,hgt,hco⟩:=S2.at hz;have hlt':(i:Int)<(l.length:Int):=by omega
  have hinc:IntKind.wrap .i64 ((i:Int)+1)=((i+1:Nat):Int):=inc (by omega);simp only[EE,nth,↓BK,zA,zj,FG,sL,hl2,hlt',nl,ha,hgt,hco];refine lP (by kernel_rfl) (by simp only[EE]) (Po i (by omega) h2) ?_;have hi6:i<6:=by omega
  by_cases hz2:z=nS.getD i 0
  ·simp only[EE,nth,sK,FF,aax,hz2,hinc];refine hJ _ hlt ?_ e2;unfold UX;rw[UY hz,hz2];simp[hi6]
  ·simp only[EE,sK,aax,hz2];have:Z8 l=false:=Z4 hlt (by unfold UX;rw[UY hz];simp only[hi6,hz2,ac2,acQ,ab3]);rw[this];rfl
 ·have hlt':¬(i:Int)<(l.length:Int):=by omega
  simp only[EE,nth,sL,hl2,hlt',nl];have:Z8 l=true:=Z3 λk hk=>hg k (by omega);rw[this];rfl
section
variable {L h:za}{b1:Nat}{f:Fn}{vs:List aaa}{B:Bool}
end
def three(u:Int):Bool := !decide (u=4)&&(!decide (u=10) && !decide (u=11))
def iH(c:xG):Bool:=(wz c++[zu c]).all three&&(!(decide (c.op=10)&&(!decide (c.d=0) || !Z8 c.args)) && !(decide (c.op=12) && !decide (c.a=0)))
def UM(f:Fn):Bool := !decide (f.zf<16)&&(Z8 f.params&&f.code.all iH)
def jF(p:Pg):Bool:=YQ p&&p.funcs.all UM
section
variable {h:za}{b1 b4 b6:Nat}{p:Pg}{f:Fn}{x:xG}{vs:List aaa}{B:Bool}
theorem ziW(I:wt h x)(hg:h.get b6=some (xQ x)){v0:aaa}{J:List aaa->za->Prop}{c:Bool}
  (hb:(c&&(!(decide (x.op=10)&&(!decide (x.d=0) || !Z8 x.args)) && !(decide (x.op=12) && !decide (x.a=0))))=false->B=false) (hc:c=true)
  (hJ:(c&&(!(decide (x.op=10)&&(!decide (x.d=0) || !Z8 x.args)) && !(decide (x.op=12) && !decide (x.a=0))))=true->J [v0] h):ZE (.pointer (some ⟨b6,0,none⟩)) (u3 B) J [v0] h:=by
 subst hc;rw[aa2]at hb hJ;have an:=I.args.wk;have bad:∀{q:Prop},B=false->u3 B (.bool false) h:=λq=>by rw[q];rfl
 by_cases c10:x.op=10
 ·have c12:¬x.op=12:=by omega
  by_cases d0:x.d=0
  ·simp only[EE,zA,yS,zj,zw,x8,kR,YZ,Y0,Y3,ZE,hg,c10,d0];refine w8 (by kernel_rfl) (by simp only[EE,an]) (Sz I.args) ?_;cases hF:Z8 x.args with
   |true=>
    simp only[EE,nth,Int.reduceEq,zA,zj,zw,Zy,Zz,ZA,ZB,ZC,ZD,hg,c10,d0];exact hJ (by simp[c10,d0,hF])
   |false=>
    simp only[EE,Zy,Zz,ZA,ZB,ZC,ZD];rw[hb (by simp[c10,d0,hF])];rfl
  ·simp only[EE,zA,zj,zw,x8,Zy,Zz,ZA,ZB,ZC,ZD,YZ,Y0,Y3,ZE,hg,c10,d0];rw[hb (by simp[c10,d0])];rfl
 by_cases c12:x.op=12
 ·by_cases a0:x.a=0
  ·simp only[EE,nth,Int.reduceEq,zA,zj,zw,xk,Zy,Zz,ZA,ZB,ZC,ZD,YZ,Y0,Y3,ZE,hg,c12,a0];exact hJ (by simp[c10,a0])
  ·simp only[EE,Int.reduceEq,zA,zj,zw,xk,Zy,Zz,ZA,ZB,ZC,ZD,YZ,Y0,Y3,ZE,hg,c12,a0];rw[hb (by simp[c12,a0])];rfl
 simp only[EE,nth,zA,zj,zw,Zy,Zz,ZA,ZB,ZC,ZD,YZ,Y0,Y3,ZE,hg,c10,c12];exact hJ (by simp[c10,c12])
theorem ziX(F:qE h f)(wf:UJ h)(hb4:b4<h.next)(hg4:h.get b4=some (ug f)){i:Nat}(hx:f.code[i]? = some x){v0:aaa}{J:List aaa->za->Prop}
  (hB:iH x=false->B=false) (hJ:∀h',iH x=true->Old h h'->UJ h'->J [v0] h'):bV (.pointer (some ⟨b4,0,none⟩)) h [v0,.int .i64 (i:Nat)] (u3 B) J:=by
 have hm:=mem_of hx;have cn:=F.code.wk;have I:=F.ins x hm;have an:=I.args.wk;have ac:=I.args.eT;have hro:=wf.2;obtain⟨b,o,c,t,ha,hbb,hgt,hle,htk,_⟩:=F.code.ED (i:=i) (r:=x.row) (by rw[aaq,hx];rfl) rfl;simp only[EE,nth,↓nw,Value.cells,zb,aad,Nat.reduceAdd,yJ,zZ,zA,uS,qI,F4,pI,xL,bV,hg4,ha,hgt,hle,htk,ac,pI,hro];generalize hH:(za.push h _).set h.next _=H;have e:Old h H:=by subst hH;exact(Old.push h _).set (aam _) _
 have g7:H.get h.next=some (xQ x):=by subst hH;exact zR
 have n7:h.next<H.next:=by subst hH;exact aaH _
 have wH:UJ H:=by subst hH;exact wf_set (Ja wf _) (aaH _) _
 clear hH;have IH:=I.old e;simp only[];refine zcp (by kernel_rfl) (by simp only[EE]) wH (Mz x H.lock IH.lock.args IH.oj) ?_;intro v h1 hF hn1 w1;have W:=hF.vB wH;have eG:=zaF hn1;have wG:=zd7 wH w1 hn1;have nG:(vB H h1).next=h1.next:=rfl;generalize vB H h1=G at W eG wG nG;have gG:=eG.eh n7 g7;have gT:(trim G H.next).get h.next=some (xQ x):=by rw[MR n7];exact gG
 simp only[EE,aad,Nat.reduceAdd,zZ,qI,gT];refine lP (by kernel_rfl) (by simp only[EE]) (UB x an G) ?_
 have oj:(wz x).length<=17592186043906:=by
  have:=I.oj;unfold wz lA lB lC;simp only[abH];split <;> split <;> split <;> simp <;> omega
 obtain⟨l',h',q1,q2,q3,q4,q7,q5⟩:=Ht W eG wG.2 (zu x) (by omega);have nl:=q2.wk;have nW:=W.wk;simp only[EE,nth,↓BK,VE,oF,VE,nW,q1];have w':=q7 wG;have eh':=e.trans q3;have S:=q2.read;have hlen:(wz x++[zu x]).length<=17592186043907:=by simp only[abH,aaE,aaz];omega
 have gh':h'.get h.next=some (xQ x):=by rw[q5 _ n7];exact eG.eh n7 g7
 have hl:=S.kY 3 h';refine bT (λg=>g=h') (wz x++[zu x]).length (Hy (wz x++[zu x]) three) rfl ?_;intro k h2 J2 hk hh hq hJ2;subst hh;rcases aar k (wz x++[zu x]).length with hlt|hge
 ·obtain⟨z,hz,_⟩:=get_some hlt;obtain⟨b',o',c',t',ha',hbb',hgt',hco'⟩:=S.at hz;have hlt':(k:Int)<((wz x++[zu x]).length:Int):=by omega
  have hinc:IntKind.wrap .i64 ((k:Int)+1)=((k+1:Nat):Int):=inc (by omega)
  have no:three z=false->u3 B (.bool false) h2:=λq=>by
   rw[hB (by unfold iH;rw[qq (B:=three) hz q,aco])];rfl
  by_cases z4:z=4
  ·simp only[EE,nth,↓BK,zA,zj,Uc,Ud,Ue,Uf,Ug,Uh,Ui,XV,nl,hl,hlt',ha',hgt',hco',z4];exact no (by simp[three,z4])
  by_cases z10:z=10
  ·simp only[EE,nth,↓BK,Int.reduceEq,zA,zj,Uc,Ud,Ue,Uf,Ug,Uh,Ui,XV,nl,hl,hlt',ha',hgt',hco',z10];exact no (by simp[three,z10])
  by_cases z11:z=11
  ·simp only[EE,nth,↓BK,Int.reduceEq,zA,zj,Uc,Ud,Ue,Uf,Ug,Uh,Ui,XV,nl,hl,hlt',ha',hgt',hco',z11];exact no (by simp[three,z11])
  simp only[EE,nth,↓BK,zA,zj,Uc,Ud,Ue,Uf,Ug,Uh,Ui,Ag,XV,nl,hl,hlt',ha',hgt',hco',z4,z10,z11,hinc];exact hJ2 _ hlt (by rw[XO hz];simp[three,z4,z10,z11]) rfl
 ·have hlt':¬(k:Int)<((wz x++[zu x]).length:Int):=by omega
  simp only[EE,nth,XV,nl,hl,hlt'];have hall:(wz x++[zu x]).all three=true:=qh λk' hk'=>hq k' (by omega);exact ziW (I.old eh') gh' (c:=(wz x++[zu x]).all three) hB hall λq=>hJ _ q eh' w'
theorem ziY(P:wB h p)(wf:UJ h)(hb:b1<h.next)(hg:h.get b1=some (vI p))(hB:B=p.funcs.all UM) :
  LP (UP (.pointer (some ⟨b1,0,none⟩)) (λ_ h65=>u3 B (.bool true) h65) (u3 B)) [(nth vs 0),(.int .i64 0)] h:=by
 refine bT (λg=>Old h g/\UJ g) p.funcs.length (Hy p.funcs UM) ⟨.refl h,wf⟩ ?_;rintro i h2 J hi ⟨e2,w2⟩ hq hJ;have g2:=e2.eh hb hg;have P2:=P.old e2;have fn:=P2.funcs.wk;have fl:=P2.funcs.K1 3 h2;rw[aaf]at fl;have hro2:=w2.2;rcases aar i p.funcs.length with hlt|hge
 ·obtain⟨f,hf,hm⟩:=get_some hlt;obtain⟨b,o,c,t,ha,hbb,hgt,hle,htk,_⟩:=P2.funcs.dJ (i:=i) (r:=f.row) (by rw[aaq,hf];rfl) rfl;have hlt':(i:Int)<(p.funcs.length:Int):=by omega
  have hinc:IntKind.wrap .i64 ((i:Int)+1)=((i+1:Nat):Int):=inc (by have:=P.Dk;omega);have F2:=P2.fns f hm;have pn:=F2.params.wk;have pc:=F2.params.eT;have cn:=F2.code.wk;have cc:=F2.code.eT;simp only[EE,nth,↓nw,Value.cells,↓BK,zb,aad,Nat.reduceAdd,yJ,zZ,zA,ue,zj,mw,FZ,mC,xj,wh,oH,UP,g2,fn,fl,hlt',ha,hgt,hle,htk,pc,cc,mC,hro2];generalize hH:(za.push h2 _).set h2.next _=H;have e3:Old h2 H:=by subst hH;exact(Old.push h2 _).set (aam _) _
  have g5:H.get h2.next=some (ug f):=by subst hH;exact zR
  have n5:h2.next<H.next:=by subst hH;exact aaH _
  have wH:UJ H:=by subst hH;exact wf_set (Ja w2 _) (aaH _) _
  clear hH;have FH:=F2.old e3;have no:UM f=false->u3 B (.bool false) H:=λq=>by rw[hB,qq (B:=UM) hf q];rfl
  by_cases r16:f.zf<16
  ·simp only[EE,UO,bX,r16];exact no (by simp[UM,r16])
  simp only[EE,zA,yS,uA,bX,g5,r16];refine w8 (by kernel_rfl) (by simp only[EE,pn]) (Sz FH.params) ?_;cases hR:Z8 f.params with
  |false=>
   simp only[EE,UO,r16];exact no (by simp[UM,hR])
  |true=>
   simp only[EE,nth,↓BK,UO,r16];refine bT (λg=>Old H g/\UJ g) f.code.length (Hy f.code iH) ⟨.refl H,wH⟩ ?_;rintro k h3 J3 hk ⟨e4,w3⟩ hq3 hJ3;have g53:=e4.eh n5 g5;have F3:=FH.old e4;have cn3:=F3.code.wk;have cl3:=F3.code.K3 3 h3;rw[aaf]at cl3;rcases aar k f.code.length with hlk|hgk
   ·obtain⟨x,hx,hmx⟩:=get_some hlk;have hlk':(k:Int)<(f.code.length:Int):=by omega
    have hinc3:IntKind.wrap .i64 ((k:Int)+1)=((k+1:Nat):Int):=inc (by have:=F2.tu;omega);simp only[EE,nth,↓BK,zA,uS,xL,bW,g53,cn3,cl3,hlk'];refine ziX F3 w3 (aao n5 e4.next) g53 hx (λq=>?_) λh' q e5 w'=>?_
    ·rw[hB,qq (B:=UM) hf (by unfold UM;rw[qq hx q,ab3,ab3])]
    ·simp only[EE,nth,oG,hinc3];exact hJ3 _ hlk (by rw[XO hx];exact q) ⟨e4.trans e5,w'⟩
   ·have hlk':¬(k:Int)<(f.code.length:Int):=(by omega);simp only[EE,nth,zA,uS,xL,bW,oI,g53,cn3,cl3,hlk',hinc];refine hJ _ hlt ?_ ⟨e2.trans (e3.trans e4),w3⟩;rw[XO hf];unfold UM;rw[hR,show f.code.all iH=true from qh λk' hk'=>hq3 k' (by omega)];simp[r16]
 ·have hlt':¬(i:Int)<(p.funcs.length:Int):=by omega
  simp only[EE,nth,zA,ue,xj,UP,g2,fn,fl,hlt'];have:p.funcs.all UM=true:=qh λk hk=>hq k (by omega);rw[hB,this];rfl
end
theorem Gi(p:Pg)(h:za)(P:wB h p):yO Tryz.prog 19 [p.val] h (.bool (jF p)):=by
 apply uh;replace P:=P.lock;generalize h.lock=L at P;apply Ym;intro hwf;have hro:=hwf.2;apply G4;unfold E6;have gn:=P.globals.wk;have fn:=P.funcs.wk;have P1:=P.old (Old.push L (.cells p.row 25));simp only[EE,↓nw,Value.cells,aad,Nat.reduceAdd,zZ,Wn];refine w8 (by kernel_rfl) (by simp only[EE]) (Be p _ P1) ?_;unfold jF;cases hR:YQ p with
 |false=>simp only[EE,bY];rfl
 |true=>
  simp only[EE,nth,↓BK,bY];exact ziY (vs:=[.bool false]) P1 (Ja hwf _) (aaH _) zk rfl
theorem ziZ:(wm Tryz.prog 31 0).1 = #[7]:=by kernel_rfl
theorem zeL{h0:za}{br:Nat}{t0 t1 t5 t6:aaa}(hro:h0.ro<=h0.next)(hbr:br<h0.next)(hg:h0.get br=some (.cells [.bool false] 4))(hrb:h0.ro<=br){s1:Env}(hl:Le (QR 36 [(0,t0),(1,t1),(2,.pointer (some ⟨br,0,none⟩)),(5,t5),(6,t6)]) s1) :
  Yc h0 br {state := .ready,pending:=none,s:=s1,params:=(wm Tryz.prog 31 0).1,assign:=(wm Tryz.prog 31 0).2.1,body:=(wm Tryz.prog 31 0).2.2} Ju:=by
 intro z h K r hgo hst;obtain⟨s0,e0,l0⟩:=DD (.int .i64 z) hl (t:=7) (by decide) rfl;refine It (aX (q:=qs) mixed) (n:=150) (lv:=12) (lv':=0) (h:=h) r.loop (s0:=s0) (by rw[ziZ];exact e0) l0 rfl ?_;show NQ Tryz.prog (UL Tryz.prog qs) 150 12 0 h0.next (wm Tryz.prog 31 0).2.1 (wm Tryz.prog 31 0).2.2 (QR 36 [(0,t0),(1,t1),(2,.pointer (some ⟨br,0,none⟩)),(5,t5),(6,t6),(7,.int .i64 z)]) h K;rw[px];unfold gH;refine zdF r hro λhb B=>?_;simp only[↓BK];refine w8 (by kernel_rfl) rfl (SW z hb) ?_;cases ht:Ju z with
 |true=>
  simp only[EE,Jg];exact ON B hro (hgo ht)
 |false=>
  have g2:hb.get br=some (.cells [.bool false] 4):=by rw[B.old br hbr];exact hg
  have rb:hb.ro<=br:=by rw[B.ro];exact hrb
  simp only[EE,zb,aad,yJ,Xa,Jg,g2,rb];exact HL B hro hbr rfl (hst ht)
theorem MJ{v:aaa}{l:List Int}{h:za}(S:zL h v l)(oj:l.length<=17592186043904):yO Tryz.prog 28 [v] h (.bool (Z8 l)):=by
 apply uh;replace S:=S.lock;generalize h.lock=L at S;apply LL;unfold LJ;have nl:=S.wk;have hl:=S.kY 3 L;simp only[EE,↓BK,nl,hl];refine WA (lo:=L) l.length (UX l) (.refl L) ?_;intro i h2 J hi e2 hg hJ;have S2:=S.old e2;rcases aar i l.length with hlt|hge
 ·obtain⟨z,hz,_⟩:=get_some hlt;obtain⟨b,o,c,t,ha,hb,hgt,hco⟩:=S2.at hz;have hlt':(i:Int)<(l.length:Int):=by omega
  have hinc:IntKind.wrap .i64 ((i:Int)+1)=((i+1:Nat):Int):=inc (by omega);simp only[EE,nth,↓BK,zA,zj,Cs,nd,hlt',ha,hgt,hco];refine y5 (by kernel_rfl) rfl (zdw i h2) ?_;rintro _ h3 ⟨rfl,e3⟩
  have no:UX l i=false->u3 (Z8 l) (.bool false) h3:=λq=>by
   have:Z8 l=false:=Z4 hlt q;rw[this];rfl
  by_cases h6:i<6
  ·have hp:tL i=.tuple #[.int .i64 (nS.getD i 0),.bool true]:=by
    unfold tL;rw[aai (by omega),aax]
   by_cases hz2:nS.getD i 0=z
   ·simp only[EE,nth,dr,dt,du,Ct,hp,hz2,hinc];refine hJ _ hlt ?_ (e2.trans e3);unfold UX;rw[UY hz,hz2];simp[h6]
   ·simp only[EE,dr,dt,du,hp,hz2];have hne:¬z=nS.getD i 0:=λq=>hz2 q.symm;exact no (by unfold UX;rw[UY hz,decide_eq_false hne,ab3])
  ·have hp:tL i=.tuple #[.int .i64 0,.bool false]:=by
    unfold tL;rw[aac (by omega)]
   simp only[EE,dr,dt,du,hp];exact no (by simp[UX,h6])
 ·have hlt':¬(i:Int)<(l.length:Int):=by omega
  simp only[EE,nth,nd,hlt'];have:Z8 l=true:=Z3 λk hk=>hg k (by omega);rw[this];rfl
def re(x:xG):Bool:=if x.op=10 then Z8 x.args&&decide (x.d=0) else if x.op=12 then decide (x.a=0) else decide (zu x = -1)||Ju (zu x)
def jE(x:xG):Bool:=(wz x).all Ju&&re x
theorem MT(x:xG)(h:za)(I:wt h x):yO Tryz.prog 31 [x.val] h (.bool (jE x)):=by
 apply uh;replace I:=I.lock;generalize h.lock=L at I;apply Ym;intro hwf;have hro:=hwf.2;apply Cu;unfold Aq;have an:=I.args.wk;have n1:∀o,(L.push o).next=L.next+1:=λ_=>rfl;simp only[EE,↓nw,Value.cells,aad,Nat.reduceAdd,zZ,qI,Mf,Mf];refine y5 (by kernel_rfl) (by simp only[EE]) (zd3 x _ an) ?_;rintro _ h1 ⟨rfl,rfl⟩;generalize hH:((L.push (xQ x)).push (.cells [.bool false] 4)).push (xQ x)=H;have e:Old L H:=by subst hH;exact((Old.push _ _).trans (Old.push _ _)).trans (Old.push _ _)
 have nH:H.next=L.next+3:=by subst hH;rfl
 have rH:H.ro=L.ro:=by subst hH;rfl
 have g1:H.get L.next=some (xQ x):=by subst hH;rw[zt (by simp only[yD];omega),zt (by simp only[yD];omega),zk]
 have g2:H.get (L.next+1)=some (.cells [.bool false] 4):=by subst hH;rw[zt (by simp only[yD];omega)];exact zI rfl
 have g3:H.get (L.next+2)=some (xQ x):=by subst hH;exact zI rfl
 clear hH;have IH:=I.old e;simp only[EE,↓BK,zA,Xn,mq];refine DY (br:=L.next+1) (test:=Ju) (by kernel_rfl) (by omega) (by omega) (GQ (b:=L.next+2) IH.args IH.oj (by omega) g3) (λs1 hl=>zeL (by omega) (by omega) g2 (by omega) hl) (λh' hall e'=>?_) (λh' hno _ _ hres=>?_)
 ·have o:=e.trans e';have I':=I.old o;have g1':=e'.eh (by omega) g1;have g2':=e'.eh (by omega) g2;have ro':h'.ro<=L.next+1:=by rw[e'.ro];omega
  have hB:jE x=re x:=by unfold jE;rw[hall,aa2]
  rw[hB];unfold re;by_cases h10:x.op=10
  ·simp only[EE,↓BK,zA,yS,zj,zw,kR,VR,WE,g1',h10];refine w8 (by kernel_rfl) (by simp only[EE,an]) (MJ I'.args I'.oj) ?_;cases hF:Z8 x.args with
   |true=>
    simp only[EE,zb,aad,abe,Int.reduceEq,Int.reduceNeg,yJ,zA,zj,Xn,Xa,x8,Jh,Ji,g1',g2',ro',h10];rfl
   |false=>
    simp only[EE,zb,aad,abe,Int.reduceEq,Int.reduceNeg,yJ,zA,Xn,Xa,Jh,Ji,g2',ro',h10];rfl
  by_cases h12:x.op=12
  ·simp only[EE,↓BK,zb,aad,abe,Int.reduceEq,Int.reduceNeg,yJ,zA,zj,Xn,Xa,zw,xk,mr,Jj,VR,WE,g1',g2',ro',h12];rfl
  ·simp only[EE,↓BK,aad,Nat.reduceAdd,zZ,zA,zj,qI,zw,Jj,VR,WE,g1',h10,h12];refine w8 (by kernel_rfl) (by simp only[EE]) (Gc x an h') ?_;by_cases w1:zu x = -1
   ·simp only[EE,zb,aad,Int.reduceNeg,yJ,zA,Xn,Xa,Jk,QB,g2',ro',w1];simp[u3,h10,h12]
   ·simp only[EE,Int.reduceNeg,Jk,QB,w1];refine w8 (by kernel_rfl) rfl (SW _ _) ?_;simp only[EE,zb,aad,Int.reduceNeg,yJ,zA,Xn,Xa,g2',ro',w1];simp[u3,h10,h12]
 ·have hB:jE x=false:=by unfold jE;rw[hno,aco]
  simp only[EE,hres];rw[hB];rfl
def QV(f:Fn):Bool := !decide (f.zf<16)&&(Z8 f.params&&f.code.all jE)
def mH(p:Pg):Bool:=Ya p&&p.funcs.all QV
theorem KW(x:xG){h:za}(I:wt h x):FnQ (.func (.func 30) #[] #[]) h x (!jE x):=by
 intro K hK;have an:=I.args.wk
 have q:yO Tryz.prog 30 [x.val] h (.bool (!jE x)):=by
  apply uh;replace I:=I.lock;generalize h.lock=L at I;apply mU;unfold oE;have e:Old L (L.push (xQ x)):=Old.push _ _;simp only[EE,↓nw,Value.cells,aad,Nat.reduceAdd,zZ,qI];refine w8 (by kernel_rfl) (by simp only[EE]) (MT x _ (I.old e)) ?_;simp only[EE];rfl
 exact w8 (by kernel_rfl) (by simp only[EE]) q hK
section
variable {h:za}{b1:Nat}{p:Pg}{f:Fn}{x:xG}{vs:List aaa}{B:Bool}
theorem gd8(P:wB h p)(hro:h.ro<=h.next)(hb:b1<h.next)(hg:h.get b1=some (vI p))(hB:B=p.funcs.all QV):BJ (.pointer (some ⟨b1,0,none⟩)) (u3 B) vs h:=by
 have fn:=P.funcs.wk;have fl:=P.funcs.K1 3;rw[aaf]at fl;simp only[EE,↓BK,zA,ue,xj,BJ,hg,fn,fl];refine WA (lo:=h) p.funcs.length (Hy p.funcs QV) (.refl h) ?_;intro i h2 J hi e2 hq hJ;have P2:=P.old e2;have hro2:h2.ro<=h2.next:=by rw[e2.ro];exact aaS hro e2.next
 rcases aar i p.funcs.length with hlt|hge
 ·obtain⟨f,hf,hm⟩:=get_some hlt;obtain⟨b,o,c,t,ha,hbb,hgt,hle,htk,_⟩:=P2.funcs.dJ (i:=i) (r:=f.row) (by rw[aaq,hf];rfl) rfl;have hlt':(i:Int)<(p.funcs.length:Int):=by omega
  have hinc:IntKind.wrap .i64 ((i:Int)+1)=((i+1:Nat):Int):=inc (by have:=P.Dk;omega);have F2:=P2.fns f hm;have pn:=F2.params.wk;have pc:=F2.params.eT;have cn:=F2.code.wk;have cc:=F2.code.eT;simp only[EE,nth,↓nw,Value.cells,↓BK,zb,aad,Nat.reduceAdd,yJ,zZ,zA,zj,mw,FZ,mC,wh,IP,BI,hlt',ha,hgt,hle,htk,pc,cc,mC,hro2];generalize hH:(za.push h2 _).set h2.next _=H;have e3:Old h2 H:=by subst hH;exact(Old.push h2 _).set (aam _) _
  have g5:H.get h2.next=some (ug f):=by subst hH;exact zR
  clear hH;have FH:=F2.old e3;have no:QV f=false->∀h',u3 B (.bool false) h':=λq _=>by rw[hB,qq (B:=QV) hf q];rfl
  by_cases r16:f.zf<16
  ·simp only[EE,ft,oJ,oK,BH,r16];exact no (by simp[QV,r16]) _
  simp only[EE,zA,yS,uA,BH,g5,r16];refine w8 (by kernel_rfl) (by simp only[EE,pn]) (MJ FH.params FH.ET) ?_;cases hR:Z8 f.params with
  |false=>
   simp only[EE,ft,oJ,oK,r16];exact no (by simp[QV,hR]) _
  |true=>
   simp only[EE,zA,uS,xL,oJ,oK,g5,r16];refine y5 (by kernel_rfl) (by simp only[EE,cn]) (C9 FH.code (by have:=FH.tu;omega) (λx hx=>(FH.ins x hx).args.wk) rfl (bad:=λx => !jE x) λx hx=>KW x (FH.ins x hx)) ?_;rintro _ h3 ⟨rfl,rfl⟩;have han:f.code.any (λx => !jE x) = !f.code.all jE:=by rw[<- R4,Bool.not_not]
   rw[han];cases hC:f.code.all jE with
   |false=>
    simp only[EE,ft];exact no (by simp only[QV,hC,ab3]) _
   |true=>
    simp only[EE,nth,ft,IQ,hinc];exact hJ _ hlt (by rw[XO hf];simp only[QV,hC,hR,r16,acQ,aaZ,abb]) (e2.trans e3)
 ·have hlt':¬(i:Int)<(p.funcs.length:Int):=by omega
  simp only[EE,nth,BI,hlt'];have:p.funcs.all QV=true:=qh λk hk=>hq k (by omega);rw[hB,this];rfl
end
theorem iC(p:Pg)(h:za)(P:wB h p):yO Tryz.prog 14 [p.val] h (.bool (mH p)):=by
 apply uh;replace P:=P.lock;generalize h.lock=L at P;apply Ym;intro hwf;have hro:=hwf.2;apply TF;unfold zbm;have gn:=P.globals.wk;have fn:=P.funcs.wk;have P1:=P.old (Old.push L (.cells p.row 25));simp only[EE,↓nw,Value.cells,aad,Nat.reduceAdd,zZ,Wn];refine w8 (by kernel_rfl) (by simp only[EE]) (Ia p _ P1) ?_;unfold mH;cases hR:Ya p with
 |false=>simp only[EE];rfl
 |true=>
  simp only[EE];exact gd8 P1 (abu hro) (aaH _) zk rfl
section
variable {h:za}{b1:Nat}{p:Pg}{f:Fn}{x:xG}{vs:List aaa}{B:Bool}
end
theorem M6{u:Int}(h:0<=u):Ju u=three u:=by
 unfold Ju three;simp[h]
theorem nC{α:Type}{l:List α}{A B:α->Bool}(h:∀x,x∈l->A x=B x):l.all A=l.all B:=by
 induction l with
 |nil=>rfl
 |cons a l ih=>rw[aa6,aa6,h a acB,ih λx hx=>h x (acm _ hx)]
theorem zgL{f:Fn}{x:xG}(h:Ws f x=true):jE x=iH x:=by
 have hr:rL f x=true:=by
  unfold Ws at h;simp only[aag]at h;exact h.2.2.2.2
 have h3:Ou x=false:=by
  unfold Ws at h;simp only[aag,aaA]at h;exact h.2.2.1
 unfold rL at hr;simp only[aag,aaA,aaJ]at hr;obtain⟨hu,w1,w2,_⟩:=hr
 have hue:(wz x).all Ju=(wz x).all three:=nC λu hm=>M6 (by
  rw[aaD]at hu;have:=hu u hm;unfold xr at this;simp only[aag,aaR]at this;exact this.1)
 unfold jE iH re;rw[acs,hue];simp only[aa6,abC,abb];cases (wz x).all three with
 |false=>rfl
 |true=>
 rw[aa2,aa2];by_cases h10:x.op=10
 ·have h12:¬x.op=12:=by omega
  have hwi:zu x=x.d:=by simp[zu,wr,h10]
  rw[hwi,aai h10];by_cases hd:x.d=0
  ·rw[hd];simp[three,h10]
  ·simp[hd,h10]
 rw[aac h10];by_cases h12:x.op=12
 ·have hwi:zu x = -1:=by simp[zu,wr,h12]
  rw[hwi,aai h12];by_cases ha:x.a=0
  ·simp[three,h12,ha]
  ·simp[three,h12,ha]
 rw[aac h12];simp only[h10,h12,acQ,aco,aaZ,abb];by_cases hw:zu x = -1
 ·rw[hw];rfl
 ·rw[M6 (by omega)];simp[hw]
theorem M0(p:Pg):mH p=jF p:=by
 unfold mH jF;rw[rJ];cases hd:YQ p with
 |false=>rfl
 |true=>
  rw[aa2,aa2];refine nC λf hf=>?_
  have hr:qL f=true:=by
   unfold YQ at hd;simp only[aag,aaD]at hd;exact(hd.2.2 f hf).1
  have hi:∀x,x∈f.code->Ws f x=true:=by
   unfold qL at hr;simp only[aag,aaD]at hr;exact hr.2.2
  unfold QV UM;rw[nC λx hx=>zgL (hi x hx)]
end Go.Rtl
namespace Go.Rtl
open Go.Ai Go.Proofs
theorem mI(p:Pg):jF p.core=jF p:=by
 unfold jF;rw[ir];simp only[List.all_map]
 congr 2
 funext f
 show UM f.core=UM f;unfold UM;simp only[List.all_map];rfl
theorem mJ{p q:Pg}(h:q.core=p.core):jF q=jF p:=by rw[<- mI q,h,mI]
theorem zfT{p:Pg}(h:jF p=true):YQ p=true /\ ∀f,f∈p.funcs->16<=f.zf:=by
 unfold jF at h;rw[aag,aaD]at h;refine⟨h.1,λf hf=>?_⟩;have:=h.2 f hf;unfold UM at this;simp only[aag,aaA,aaJ]at this;omega
end Go.Rtl
namespace Go.Rl
open Go.Ai Go.Proofs
open Go.Rtl (xG Pg wB zL zC Old bH HW mH iC Ya)
open Go.Rm (yY yo xR jI Rd Rd.of Rd.at W4 Ep Eo runM aV vC zdx HU KV)
def Ps(p:Pg)(args:List Int)(fuel:Int):Prop:=mH p=true /\ ¬aV (vC p) args fuel
instance (p:Pg)(args:List Int)(fuel:Int):Decidable (Ps p args fuel):=by unfold Ps;infer_instance
theorem zg2{p:Pg}(h:mH p=true):Ya p=true:=by
 unfold mH at h;rw[aag]at h;exact h.1
theorem zeR:KV (.func (.func 16) #[] #[]) (some bH):=⟨_,rfl,by kernel_rfl,λh n=>HW n h⟩
section
variable {h:za}{p:Pg}{av wv:aaa}{args world:List Int}{fuel:Int}
theorem zgN(P:wB h p)(ha:zL h av args)(hw:zL h wv world)(hwl:world.length*8<=2^47) :
  DC Tryz.prog 7 [p.val,av,wv,.int .i64 fuel] h (λv h'=>if Ps p args fuel then Ep h (runM p args world (some bH) fuel.toNat) v h' else Eo h v h'):=by
 apply Ym;intro wf;apply TM;unfold zby;have s0:Sat (.of h) h []:=Sat.self wf.2;have RP:Rd (.of h) (wB · p):=Rd.of (yU.Zp h) P λh' o=>P.old o;have RA:Rd (.of h) (zL · av args):=Rd.of (yU.Zp h) ha λh' o=>ha.old o;have RW:Rd (.of h) (zL · wv world):=Rd.of (yU.Zp h) hw λh' o=>hw.old o;have gvn:=P.globals.wk;have gvc:=P.globals.eT;have fvn:=P.funcs.wk;have fvc:=P.funcs.eT;have avn:=ha.wk;have wvn:=hw.wk;simp only[EE,Value.cells,C1];refine uI s0 λb5 h2 s2=>?_;simp only[EE,zZ,Wn];refine uI s2 λb10 h4 s4=>?_;have g5:=(s4.p 1).get;simp only[EE,aad,Nat.reduceAdd,g5];refine w8 (by kernel_rfl) (by simp only[yC];rfl) (iC p h4 (RP.at s4)) ?_;cases hg:mH p with
 |false=>
  simp only[EE,Nat.reduceAdd,hZ,Ox,LM,Cx];refine yp s4 (by simp) rfl λh5 s5=>?_;have g6:=s5.get;simp only[EE,zb,aad,Nat.reduceAdd,zZ,aT,g6];rw[aac (by unfold Ps;rw[hg];simp)];exact⟨rfl,s5.zJ 0⟩
 |true=>
  simp only[EE,aad,Nat.reduceAdd,zZ,Wn,Cx,g5];have g:=HU (zg2 hg);refine y5 (by kernel_rfl) (by simp only[yC,avn,wvn,aaK];rfl) (zdx (fuel:=fuel) (kept:=some bH) (RP.at s4) g g.vC (RA.at s4) (RW.at s4) hwl zeR) ?_;rintro v h7 hv;by_cases hb:aV (vC p) args fuel
  ·rw[aai hb]at hv;obtain⟨rfl,s8⟩:=hv;unfold W4;simp only[EE,Nat.reduceAdd,hZ,Cw];refine yp (s4.join s8) (by simp) rfl λh9 s9=>?_;have g9:=s9.get;simp only[EE,zb,aad,Nat.reduceAdd,zZ,aT,g9];rw[aac (by unfold Ps;rw[hg];simp[hb])];exact⟨rfl,s9.zJ 0⟩
  ·rw[aac hb]at hv;obtain⟨ev,lk,rfl,s8⟩:=hv;have en:=xR s8;have ec:=jI s8;have kn:=xR (s8.p 1);have kc:=jI (s8.p 1);have s9:=(s4.join s8).p 2;unfold W4;simp only[EE,Nat.reduceAdd,hZ,Cw];refine yp s9 (by simp) (by simp[ec,kc];exact⟨rfl,rfl,rfl⟩) λh10 s10=>?_;have g10:=s10.get;simp only[EE,zb,aad,Nat.reduceAdd,zZ,aT,g10];rw[aai ⟨hg,hb⟩];exact⟨ev,lk,rfl,s10.k [1,2]⟩
end
end Go.Rl
namespace Go.Rl
open Go.Ai Go.Proofs
open Go.Rtl (Old)
def cls:List Nat:=[0,0,1,1,1,1,1,1,1,1,1,1,1,1,1,1,1,1,1,1,1,1,1,1,1,1,1,1,1,1,1,1,1,1,1,1,1,1,1,1,1,1,1,1,1,1,1,1,1,1,1,1,1,1,1,1,1,1,1,1,1,1,1,1,1,1,1,1,1,1,1,1,1,1,1,1,1,1,1,1,1,1,1,1,1,1,1,1,1,1,1,1,1,1,1,1,1,1,1,1,1,1,1,1,1,1,1,0,0,0,0,0,0,0,0,0,0,0,0,0,0,0,0,0,0,0]
set_option maxRecDepth 100000 in
theorem fits:XA pu cls=true:=by decide +kernel
set_option maxRecDepth 100000 in
theorem T3:zg6 (run pu cls 4000 (.call 4 []) (ze0 100))=true:=by kernel_rfl
theorem zen(h:za):yO pu 4 [] h (.bool true):=by
 refine⟨rfl,?_⟩;obtain⟨h',he⟩:=ze1 T3;have:=Tv (P:=pu) (m:=100) (tabs:=[]) (v := .bool true) (f:=4) rfl (aaL (by kernel_rfl)) (λx hx=>by cases hx) ((Tw fits mixed he).mono (λv h1 q=>q.1)) (h:=h.lock) (λx hx=>by cases hx);exact this.mono (λv h1 q=>q.1)
open Go.Mem (wD)
open Go.Rtl (xG Pg wB qE wt zL zC OC pgP YQ Be rJ Ya AH jF Gi mJ M0 zfT mH bH SM K8 rM V0)
open Go.Rm (yY yo xR jI y6 qV Rd Rd.of Rd.at qz wy W4 Ep Eo runM HK D6 C3 ru ri)
theorem zgG:Go.Dm.W0=bH:=funext λn=>by rw[SM];rfl
section
variable {h:za}{p:Pg}{av wv:aaa}{args world:List Int}{fuel:Int}
theorem ltlRuns_ok(P:wB h p)(k64:∀f,f∈p.funcs->∀x,x∈f.code->wD x.k)(ha:zL h av args)(hw:zL h wv world)(hwl:world.length*8<=140737488351232)(ha64:∀z,z∈args->wD z)(hw64:∀z,z∈world->wD z) :
  DC Tryz.prog 3 [p.val,av,wv,.int .i64 fuel] h yes:=by
 apply Ym;intro wf;apply G5;unfold Fj;have s0:Sat (.of h) h []:=Sat.self wf.2;have RP:Rd (.of h) (wB · p):=Rd.of (yU.Zp h) P λh' o=>P.old o;have RA:Rd (.of h) (zL · av args):=Rd.of (yU.Zp h) ha λh' o=>ha.old o;have RW:Rd (.of h) (zL · wv world):=Rd.of (yU.Zp h) hw λh' o=>hw.old o;have gvn:=P.globals.wk;have gvc:=P.globals.eT;have fvn:=P.funcs.wk;have fvc:=P.funcs.eT;have avn:=ha.wk;have wvn:=hw.wk;simp only[EE,Value.cells];refine zdr s0 wf λb4 h2 wf2 s2=>?_;have g2:=s2.get;refine w8 (by kernel_rfl) rfl (zen h2) ?_;simp only[EE,aad,Nat.reduceAdd,zZ,Wn,oM,g2];obtain⟨B,hB⟩:=zh7 (RP.at s2) wf2;refine w8 (by kernel_rfl) (by simp only[yC];rfl) hB ?_;cases B with
 |false=>
  simp only[EE,UQ,UR];rfl
 |true=>
 by_cases c1:fuel>1000
 ·simp only[EE,UQ,UR,c1];rfl
 simp only[EE,aad,Nat.reduceAdd,zZ,Wn,UQ,UR,c1,g2];have P2:=RP.at s2;refine y5 (by kernel_rfl) (by simp only[yC];rfl) (OC p _ P2) ?_;rintro v h3 ⟨q,rfl,hcore,s3⟩;have s4:=s2.join s3;have Q4:=DS P2 hcore s4;have qgn:=Q4.globals.wk;have qgc:=Q4.globals.eT;have qfn:=Q4.funcs.wk;have qfc:=Q4.funcs.eT
 have rb:(jF q=true /\ ¬Go.Rm.aV (Go.Rm.vC q) args fuel) ↔ Ps p args fuel:=by
  rw[mJ hcore,<- M0,C3 hcore];exact Iff.rfl
 have kq:∀f,f∈q.funcs->∀x,x∈f.code->wD x.k:=λf hf x hx=>by
  obtain⟨g,hg,e⟩:=ru hcore f hf;obtain⟨y,hy,e2⟩:=ri e x hx;have:x.k=y.k:=by have:=congrArg xG.k e2;exact this
  rw[this];exact k64 g hg y hy
 have RD:∀{H:za},wB H q->zL H av args->zL H wv world->DC Tryz.prog 8 [q.val,av,wv,.int .i64 fuel,.bool true] H (Go.Dm.By H q args world (some bH) fuel (jF q)):=λ{H} a b c=>
  Go.Dm.zix (ltl:=true) (B0:=YQ q) a b c (by omega) (λh' e=>Be q h' (a.old e)) (λ_ h' e=>Gi q h' (a.old e)) (λz=>by cases z) (λz=>by
   obtain⟨d,r16⟩:=zfT z;have gq:Ya q=true:=by rw[rJ];exact d
   exact⟨Go.Rm.HU gq,Go.Dm.zh8 gq kq,λ_=>r16⟩) hw64 ha64 (by rw[aai rfl,zgG])
 simp only[EE,Value.cells,zce,oL];refine uI s4 λb9 h5 s5=>?_;simp only[EE,Nat.reduceAdd,zb8];refine yp s5 (by simp) (by simp[qgc,qfc];exact rfl) λh6 s6=>?_;have s6:Sat (.of h) h6 [pt b9 (.cells q.row 25),pgP q,pt b4 (.cells p.row 25)]:=s6;have g6:=(s6.p 2).get;simp only[EE,aad,Nat.reduceAdd,zZ,Wn,g6];refine y5 (by kernel_rfl) (by simp only[yC,avn,wvn,aaK];rfl) (zgN (RP.at s6) (RA.at s6) (RW.at s6) (by omega)) ?_;rintro v h9 hv;by_cases hb:Ps p args fuel
 ·rw[aai hb]at hv;obtain⟨ev1,lk1,rfl,s9⟩:=hv;have e1n:=xR s9;have e1c:=jI s9;have l1n:=xR (s9.p 1);have l1c:=jI (s9.p 1);have s10:=s6.join s9;unfold W4;have fa:=HK p args world (some bH) fuel.toNat;generalize hA:runM p args world (some bH) fuel.toNat=A at s10 fa;simp only[EE,Value.cells,C1,fO];refine uI s10 λb10 h11 s11=>?_;simp only[EE,Nat.reduceAdd,hZ];refine yp s11 (by simp) (by simp[e1c,l1c];exact⟨rfl,rfl,rfl⟩) λh12 s12=>?_;have g9:=(s12.p 3).get;simp only[EE,aad,Nat.reduceAdd,zZ,Wn,g9];refine y5 (by kernel_rfl) (by simp only[yC,avn,wvn,aaK];rfl) (RD (DS P2 hcore (s12.p 4)) (RA.at s12) (RW.at s12)) ?_;rintro v h13 hv;unfold Go.Dm.By at hv;rw[aai (rb.2 hb),D6 hcore,hA]at hv;obtain⟨ev2,lk2,rfl,s13⟩:=hv;have e2n:=xR s13;have e2c:=jI s13;have l2n:=xR (s13.p 1);have l2c:=jI (s13.p 1);have s14:=s12.join s13;unfold W4;simp only[EE,Value.cells,C1,fN];refine uI s14 λb12 h15 s15=>?_;simp only[EE,Nat.reduceAdd,hZ];refine yp s15 (by simp) (by simp[e2c,l2c];exact⟨rfl,rfl,rfl⟩) λh16 s16=>?_;have g12:=s16.get;have g10:=(s16.p 3).get;have g9:=(s16.p 6).get;have g4:=(s16.p 8).get;have RE1:=y6 (s16.p 4) (qV (f:=qz) (λ_=>rfl) _);have RL1:=y6 (s16.p 5) (qV (f:=wy) (λ_=>rfl) _);have RE2:=y6 (s16.p 1) (qV (f:=qz) (λ_=>rfl) _);have RL2:=y6 (s16.p 2) (qV (f:=wy) (λ_=>rfl) _);have SP:=rM p q h16 (RP.at s16) (DS P2 hcore (s16.p 7));rw[K8 hcore]at SP;simp only[EE,zb,aad,Nat.reduceAdd,zZ,aT,fM,g10,g12];refine w8 (by kernel_rfl) (by simp only[yC];rfl) (zdK RE1 RE2 (by omega) rfl rfl rfl l1n l2n) ?_;simp only[EE,zb,aad,Nat.reduceAdd,zZ,aT,fK,fL,g10,g12];refine w8 (by kernel_rfl) (by simp only[yC];rfl) (SO RL1 RL2 (by omega) rfl rfl e1n e2n) ?_;simp only[EE,zb,aad,Nat.reduceAdd,zZ,zA,Wn,zj,dV,fF,fG,fH,fJ,g10,g12,g9,g4];refine w8 (by kernel_rfl) (by simp only[yC];rfl) SP ?_;simp only[EE];rfl
 ·rw[aac hb]at hv;obtain⟨rfl,s9⟩:=hv;have s10:=s6.join s9;unfold W4;simp only[EE,Value.cells,C1,fO];refine uI s10 λb10 h11 s11=>?_;simp only[EE,Nat.reduceAdd,hZ];refine yp s11 (by simp) rfl λh12 s12=>?_;have g9:=(s12.p 1).get;simp only[EE,aad,Nat.reduceAdd,zZ,Wn,g9];refine y5 (by kernel_rfl) (by simp only[yC,avn,wvn,aaK];rfl) (RD (DS P2 hcore (s12.p 2)) (RA.at s12) (RW.at s12)) ?_;rintro v h13 hv;unfold Go.Dm.By at hv;rw[aac (λz=>hb (rb.1 z))]at hv;obtain⟨rfl,s13⟩:=hv;have s14:=s12.join s13;unfold W4;simp only[EE,Value.cells,C1,fN];refine uI s14 λb12 h15 s15=>?_;simp only[EE,Nat.reduceAdd,hZ];refine yp s15 (by simp) rfl λh16 s16=>?_;have g12:=s16.get;have g10:=(s16.p 1).get;have g9:=(s16.p 2).get;have g4:=(s16.p 4).get;have RE:zC h16 (.slice none 0 0) 2 (([]:List (Int×Int)).map qz) := .inl ⟨rfl,rfl⟩;have RL:zC h16 (.slice none 0 0) 3 (([]:List (Int×Int×Int)).map wy) := .inl ⟨rfl,rfl⟩;have SP:=rM p q h16 (RP.at s16) (DS P2 hcore (s16.p 3));rw[K8 hcore]at SP;simp only[EE,zb,aad,Nat.reduceAdd,zZ,aT,fM,g10,g12];refine w8 (by kernel_rfl) rfl (zdK RE RE (by simp) rfl rfl rfl rfl rfl) ?_;simp only[EE,zb,aad,Nat.reduceAdd,zZ,aT,fK,fL,g10,g12];refine w8 (by kernel_rfl) rfl (SO RL RL (by simp) rfl rfl rfl rfl) ?_;simp only[EE,zb,aad,Nat.reduceAdd,zZ,zA,Wn,zj,dV,fF,fG,fH,fJ,g10,g12,g9,g4];refine w8 (by kernel_rfl) (by simp only[yC];rfl) SP ?_;simp only[EE];rfl
end
end Go.Rl
