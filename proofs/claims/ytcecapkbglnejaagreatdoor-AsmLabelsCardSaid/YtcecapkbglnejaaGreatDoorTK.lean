/- A part of the proof. -/
import Derived.Test.YtcecapkbglnejaaGreatDoorChecked
import Derived.KernelRfl
import Derived.Test.YtcecapkbglnejaaGreatDoorTH
import Derived.Test.YtcecapkbglnejaaGreatDoorTI
import Derived.Test.YtcecapkbglnejaaGreatDoorTJ
set_option linter.unusedVariables false
set_option linter.unusedSimpArgs false
set_option maxRecDepth 100000
namespace Go.Al
open Go.Ai Go.Proofs
def qs:FuncId->Nat:=λg=>[0].getD g 0
theorem mixed:Tryz.prog.follows .mixedOrders=true:=ab6 Tryz.checked
def K4:=λa b (g:List Value->za->Prop) h (c:za)=>
 opt (vd a) λi=>opt (zb Tryz.prog 50 i 5) λj=>opt (zd Tryz.prog 3 j c) λd=>opt (nb [.int .i64 3,d] (ze Tryz.prog .mul 3 (.const (.int .i64 3)) (.tmp 101) (.int .i64 3) d)) λe=>opt (nb [e,b] (ze Tryz.prog .add 3 (.tmp 102) (.tmp 103) e b)) λf=>opt (vd a) λk=>opt (zb Tryz.prog 50 k 5) λl=>opt (nb [f] (zn Tryz.prog 3 l f c)) λm=>g [nth h 0] m
def V5:=λb (a:za) (R:Value->za->Prop) e f (g:List Value->za->Prop)=>
 opt (vd b) λh=>opt (zb Tryz.prog 50 h 5) λi=>opt (zd Tryz.prog 3 i a) λc=>opt (nb [c,.int .i64 1000000] (ze Tryz.prog .gtr 3 (.tmp 95) (.const (.int .i64 1000000)) c (.int .i64 1000000))) λj=>CD j (λd=>rv [.bool true] a R)
 (λd=>d [nth e 0] a)
 (K4 b f g)
def Yb:=λc d (R:Value->za->Prop) a e (f:List Value->za->Prop) g (b:za)=>
 opt (pk c (.bool true) g) λh=>CD h (V5 d b R a e)
 (λi=>i [nth a 0] b)
 (λj k=>f [nth j 0] k)
def Yc:=λa d (R:Value->za->Prop) e f (g:List Value->za->Prop) b (c:za)=>
 GD a false (λh=>opt (nb [b,.int .i64 19] (ze Tryz.prog .eql 3 (.tmp 89) (.const (.int .i64 19)) b (.int .i64 19))) λi=>h i c) (Yb a d R e f g) c
def Yd:=λa e (R:Value->za->Prop) f g (h:List Value->za->Prop) i (d:za)=>
 GD a false (λj=>opt (zb Tryz.prog 50 i 0) λb=>j b d) (λb c=>GD a false (λk=>opt (zd Tryz.prog 3 b c) λl=>k l c) (Yc a e R f g h) c) d
def Ye:=λe b (R:Value->za->Prop) f g (h:List Value->za->Prop) i (c:za)=>
 opt (pk e (.bool true) i) λa=>GD a false (λj=>j b c) (λk d=>GD a false (λl=>opt (vd k) λm=>l m d) (Yd a b R f g h) d) c
def Yf:=λa d (R:Value->za->Prop) e f (g:List Value->za->Prop) b (c:za)=>
 GD a false (λh=>opt (nb [b,.int .i64 18] (ze Tryz.prog .eql 3 (.tmp 82) (.const (.int .i64 18)) b (.int .i64 18))) λi=>h i c) (Ye a d R e f g) c
def Yg:=λa e (R:Value->za->Prop) f g (h:List Value->za->Prop) i (d:za)=>
 GD a false (λj=>opt (zb Tryz.prog 50 i 0) λb=>j b d) (λb c=>GD a false (λk=>opt (zd Tryz.prog 3 b c) λl=>k l c) (Yf a e R f g h) c) d
def Yh:=λg (a:za) h d (R:Value->za->Prop) i (j:List Value->za->Prop)=>
 opt (zb Tryz.prog 25 g 1) λk=>opt (zd Tryz.prog 23 k a) λl=>opt (zA Tryz.prog 23 l (nth h 1)) λm=>opt (zb Tryz.prog 47 m 1) λn=>opt (zd Tryz.prog 45 n a) λo=>opt (zA Tryz.prog 45 o (nth d 1)) λb=>opt (vd b) λp=>opt (zb Tryz.prog 50 p 0) λq=>opt (zd Tryz.prog 3 q a) λe=>opt (nb [e,.int .i64 20] (ze Tryz.prog .eql 3 (.tmp 76) (.const (.int .i64 20)) e (.int .i64 20))) λc=>GD c false (λr=>r b a) (λs f=>GD c false (λt=>opt (vd s) λu=>t u f) (Yg c b R d i j) f) a
def qZ:=λa (b:List Value->za->Prop) c (d:za)=>
 opt (nb [nth a 1,.int .i64 1] (ze Tryz.prog .add 3 (.tmp 63) (.const (.int .i64 1)) (nth a 1) (.int .i64 1))) λe=>b [nth c 0,e] d
def WX:=λc d (i:List Value->za->Prop) (R:Value->za->Prop) j a (b:za) (k:List Value->za->Prop)=>
 opt (zb Tryz.prog 25 c 1) λl=>opt (zd Tryz.prog 23 l b) λm=>opt (zA Tryz.prog 23 m (nth d 1)) λn=>opt (zb Tryz.prog 47 n 1) λo=>opt (zd Tryz.prog 45 o b) λe=>xK (nb [e] (zk Tryz.prog .len [45] 3 [e] b)) λf g=>opt (nb [nth a 1,f] (ze Tryz.prog .lss 3 (.tmp 54) (.tmp 61) (nth a 1) f)) λp=>CD p (λh=>h [] g)
 (λh=>i [nth a 0] g)
 (λr q=>BK (Yh c q d a R j)
 (qZ a k))
def QF:=λa (b:List Value->za->Prop) c (d:za)=>
 opt (nb [nth a 1,.int .i64 1] (ze Tryz.prog .add 3 (.tmp 52) (.const (.int .i64 1)) (nth a 1) (.int .i64 1))) λe=>b [nth c 0,e] d
def QG:=λb a (R:Value->za->Prop) c (d:List Value->za->Prop) (j:List Value) (e:za)=>
 BK (λf=>BK (λg=>LP (WX b a g R c)
 [nth a 0,.int .i64 0] e)
 (λh i=>f [nth h 0] i))
 (QF a d)
def WY:=λb (h:List Value->za->Prop) (R:Value->za->Prop) i a (c:za) (j:List Value->za->Prop)=>
 opt (zb Tryz.prog 25 b 1) λk=>opt (zd Tryz.prog 23 k c) λd=>xK (nb [d] (zk Tryz.prog .len [23] 3 [d] c)) λe f=>opt (nb [nth a 1,e] (ze Tryz.prog .lss 3 (.tmp 47) (.tmp 50) (nth a 1) e)) λl=>CD l (λg=>g [] f)
 (λg=>h [nth a 0] f)
 (QG b a R i j)
def WZ:=λb c (R:Value->za->Prop) d (e:za)=>
 GD b true (λf=>opt (nb [c,d] (ze Tryz.prog .eql 3 (.tmp 142) (.tmp 144) c d)) λa=>f a e) (λa g=>opt (pk b a (.bool false)) λh=>rv [h] g R) e
def W0:=λa e (R:Value->za->Prop) f (d:za)=>
 GD a true (λg=>opt (zb Tryz.prog 33 e 4) λb=>g b d) (λb c=>GD a true (λh=>opt (zd Tryz.prog 3 b c) λi=>h i c) (WZ a f R) c) d
def W1:=λe f g (R:Value->za->Prop) h (d:za)=>
 opt (pk e h (.bool false)) λa=>GD a true (λi=>opt (zb Tryz.prog 33 f 4) λb=>i b d) (λb c=>GD a true (λj=>opt (zd Tryz.prog 3 b c) λk=>j k c) (W0 a g R) c) d
def W2:=λa d f (R:Value->za->Prop) g (b:za)=>
 GD a true (λh=>opt (zd Tryz.prog 33 d b) λc=>h c b) (λc e=>GD a true (λi=>zR Tryz.prog (.func (.func 13) #[] #[]) [g,c] e (λj k=>i j k)) (W1 a f d R) e) b
def W3:=λd b e (R:Value->za->Prop) f (a:za)=>
 opt (pk d f (.bool false)) λc=>GD c true (λg=>opt (zd Tryz.prog 33 b a) λh=>g h a) (W2 c e b R) a
def W4:=λa d f (R:Value->za->Prop) g (b:za)=>
 GD a true (λh=>opt (zd Tryz.prog 33 d b) λc=>h c b) (λc e=>GD a true (λi=>zR Tryz.prog (.func (.func 12) #[] #[]) [g,c] e (λj k=>i j k)) (W3 a f d R) e) b
def W5:=λd b e (R:Value->za->Prop) f (a:za)=>
 opt (pk d f (.bool false)) λc=>GD c true (λg=>opt (zd Tryz.prog 33 b a) λh=>g h a) (W4 c e b R) a
def W6:=λa b e f (R:Value->za->Prop) c (d:za)=>
 GD a true (λg=>opt (nb [b,c] (ze Tryz.prog .eql 34 (.tmp 126) (.tmp 127) b c)) λh=>g h d) (W5 a e f R) d
def W7:=λh i j (R:Value->za->Prop) b (k:za)=>
 opt (WM b 0) λc=>opt (WM b 1) λl=>opt (wD Tryz.prog 33) λm=>nw k (Value.cells m).toList 33 λd n=>opt (nb [c] (zn Tryz.prog 33 d c n)) λe=>opt (zd Tryz.prog 25 h e) λo=>zR Tryz.prog (.func (.func 17) #[] #[]) [o] e (λa f=>GD a true (λp=>p i f) (λq g=>GD a true (λr=>r l g) (W6 a q j d R) g) f)
def W8:=λa f g h (R:Value->za->Prop) b (i:za)=>
 opt (WM b 0) λc=>opt (WM b 1) λj=>opt (wD Tryz.prog 33) λk=>nw i (Value.cells k).toList 33 λd l=>opt (nb [c] (zn Tryz.prog 33 d c l)) λe=>opt (zd Tryz.prog 25 a e) λm=>zR Tryz.prog (.func (.func 9) #[] #[]) [m,f,g,h,.int .i64 1048576] e (W7 a j d R)
def QH:=λ(R:Value->za->Prop) g h i b c d e (j:za)=>
 opt (wD Tryz.prog 25) λk=>nw j (Value.cells k).toList 25 λa l=>opt (nb [e] (zn Tryz.prog 25 a e l)) λm=>BK (λn=>LP (WY a n R g)
 [nth h 0,.int .i64 0] m)
 (λp f=>opt (zd Tryz.prog 25 i f) λo=>zR Tryz.prog (.func (.func 9) #[] #[]) [o,b,c,d,.int .i64 1048576] f (W8 a b c d R))
def qq:=λe (R:Value->za->Prop) f a g h i j k (b:za)=>
 opt (pk e (.bool true) k) λl=>CD l (λc=>rv [.bool true] b R)
 (λc=>c [nth f 0] b)
 (λm d=>opt (zd Tryz.prog 25 a d) λn=>zR Tryz.prog (.func (.func 8) #[] #[]) [n] d (QH R g m a h i j))
def qt:=λa (R:Value->za->Prop) d e f g h i b (c:za)=>
 GD a false (λj=>opt (nb [b,.int .i64 1000] (ze Tryz.prog .gtr 3 (.tmp 42) (.const (.int .i64 1000)) b (.int .i64 1000))) λk=>j k c) (qq a R d e f g h i) c
def qu:=λb c (R:Value->za->Prop) h i j k l d (e:za)=>
 GD b false (λm=>opt (nb [d,.int .i64 0] (ze Tryz.prog .lss 3 (.tmp 38) (.const (.int .i64 0)) d (.int .i64 0))) λa=>m a e) (λa f=>opt (pk b (.bool true) a) λg=>GD g false (λn=>n c f) (qt g R h i c j k l) f) e
def qv:=λb c (R:Value->za->Prop) h i j k l d (e:za)=>
 GD b false (λm=>opt (nb [d,.int .i64 1000] (ze Tryz.prog .gtr 3 (.tmp 34) (.const (.int .i64 1000)) d (.int .i64 1000))) λa=>m a e) (λa f=>opt (pk b (.bool true) a) λg=>GD g false (λn=>n c f) (qu g c R h i j k l) f) e
def qw:=λb c h (R:Value->za->Prop) i j k l d (e:za)=>
 GD b false (λm=>opt (nb [d,.int .i64 0] (ze Tryz.prog .lss 3 (.tmp 30) (.const (.int .i64 0)) d (.int .i64 0))) λa=>m a e) (λa f=>opt (pk b (.bool true) a) λg=>GD g false (λn=>n c f) (qv g h R i j k l c) f) e
def qx:=λb c g (R:Value->za->Prop) h i j k l (d:za)=>
 GD b false (λm=>opt (dH Tryz.prog .not l) λa=>m a d) (λa e=>opt (pk b (.bool true) a) λf=>GD f false (λn=>n c e) (qw f c g R h i j k) e) d
def W9:=λd f g (R:Value->za->Prop) h i j k (a:za)=>
 opt (dH Tryz.prog .not k) λb=>GD b false (λl=>opt (zd Tryz.prog 25 d a) λc=>l c a) (λc e=>GD b false (λm=>zR Tryz.prog (.func (.func 15) #[] #[]) [c] e (λn o=>m n o)) (qx b f g R h d i j) e) a
def QI:=λ(R:Value->za->Prop) a e f g h i (b:za)=>
 opt (dH Tryz.prog .not i) λj=>CD j (λc=>rv [.bool false] b R)
 (λc=>c [.bool false] b)
 (λk d=>opt (zd Tryz.prog 25 a d) λl=>zR Tryz.prog (.func (.func 7) #[] #[]) [l] d (W9 a e f R k g h))
def QE:=λ(h:za) a b c d e (R:Value->za->Prop)=>
 opt (nb [a] (some (Value.cells a).toList)) λf=>nw h f 25 λg i=>zR Tryz.prog (.func (.func 6) #[] #[]) [] i (QI R g e b c d)
theorem f8(h:za)(t0 t1 t2 t3 t4:Value)(R:Value->za->Prop):Vz Tryz.prog (uI Tryz.prog qs) 200 5 [t0,t1,t2,t3,t4] h R=QE h t0 t1 t2 t3 t4 R:=by kernel_rfl
theorem f9{h:za}{t0 t1 t2 t3 t4:Value}{R:Value->za->Prop}(hw:QE h t0 t1 t2 t3 t4 R):DC Tryz.prog 5 [t0,t1,t2,t3,t4] h R:=yT mixed (n:=200) (by rw[f8];exact hw)
theorem vM(b off:Nat)(h:za):zd Tryz.prog 23 (.pointer (some ⟨b,off,none⟩)) h=zw h b off:=yc (by kernel_rfl) b off h
theorem Xn(b off:Nat)(h:za):zd Tryz.prog 25 (.pointer (some ⟨b,off,none⟩)) h=yg h b off 4:=u0 (by kernel_rfl) (by kernel_rfl) b off h
theorem zh(b off:Nat)(h:za):zd Tryz.prog 3 (.pointer (some ⟨b,off,none⟩)) h=zw h b off:=yc (by kernel_rfl) b off h
theorem Uo(b off:Nat)(h:za):zd Tryz.prog 33 (.pointer (some ⟨b,off,none⟩)) h=yg h b off 5:=u0 (by kernel_rfl) (by kernel_rfl) b off h
theorem kO(b off:Nat)(h:za):zd Tryz.prog 45 (.pointer (some ⟨b,off,none⟩)) h=zw h b off:=yc (by kernel_rfl) b off h
theorem Eu(b off:Nat)(l:List Value)(h:za)(hv:l.length=4):zn Tryz.prog 25 (.pointer (some ⟨b,off,none⟩)) (.agg l.toArray) h=vi h b off l:=qf (by kernel_rfl) b off l h hv
theorem WL(b off:Nat)(v:Int)(h:za):zn Tryz.prog 3 (.pointer (some ⟨b,off,none⟩)) (.int .i64 v) h=vi h b off [(.int .i64 v)]:=uf (by kernel_rfl) b off _ h rfl
theorem Qt(b off:Nat)(l:List Value)(h:za)(hv:l.length=5):zn Tryz.prog 33 (.pointer (some ⟨b,off,none⟩)) (.agg l.toArray) h=vi h b off l:=qf (by kernel_rfl) b off l h hv
theorem Ey:wD Tryz.prog 25=some (.agg #[(.slice none 0 0),(.slice none 0 0),(.int .i64 0),(.int .i64 0)]):=zE (by kernel_rfl)
theorem Ja:wD Tryz.prog 33=some (.agg #[(.int .i64 0),(.int .i64 0),(.slice none 0 0),(.slice none 0 0),(.int .i64 0)]):=zE (by kernel_rfl)
theorem yM(b off:Nat):zb Tryz.prog 25 (.pointer (some ⟨b,off,none⟩)) 1=some (.pointer (some ⟨b,off+1,none⟩)):=zE (by kernel_rfl)
theorem aZ(b off:Nat):zb Tryz.prog 33 (.pointer (some ⟨b,off,none⟩)) 4=some (.pointer (some ⟨b,off+4,none⟩)):=zE (by kernel_rfl)
theorem vD(b off:Nat):zb Tryz.prog 47 (.pointer (some ⟨b,off,none⟩)) 1=some (.pointer (some ⟨b,off+1,none⟩)):=zE (by kernel_rfl)
theorem zg(b off:Nat):zb Tryz.prog 50 (.pointer (some ⟨b,off,none⟩)) 0=some (.pointer (some ⟨b,off,none⟩)):=zE (by kernel_rfl)
theorem vh(b off:Nat):zb Tryz.prog 50 (.pointer (some ⟨b,off,none⟩)) 5=some (.pointer (some ⟨b,off+5,none⟩)):=zE (by kernel_rfl)
theorem Bo(b off len c:Nat)(k:IntKind)(i:Int):zA Tryz.prog 23 (.slice (some ⟨b,off,none⟩) len c) (.int k i)=if 0<=i/\i<len then some (.pointer (some ⟨b,off+i.toNat*2,none⟩)) else none:=xp (e:=47) (by kernel_rfl) (by kernel_rfl)
theorem eW(b off len c:Nat)(k:IntKind)(i:Int):zA Tryz.prog 45 (.slice (some ⟨b,off,none⟩) len c) (.int k i)=if 0<=i/\i<len then some (.pointer (some ⟨b,off+i.toNat*7,none⟩)) else none:=xp (e:=50) (by kernel_rfl) (by kernel_rfl)
theorem dV(r:TypeId)(a:Option Addr)(n c:Nat)(h:za):zk Tryz.prog .len [23] r [.slice a n c] h=some (.int .i64 n,h):=zE (by kernel_rfl)
theorem lF(r:TypeId)(a:Option Addr)(n c:Nat)(h:za):zk Tryz.prog .len [45] r [.slice a n c] h=some (.int .i64 n,h):=zE (by kernel_rfl)
end Go.Al
namespace Go.Ac
open Go.Ai Go.Proofs
def qs:FuncId->Nat:=λg=>[0].getD g 0
theorem mixed:Tryz.prog.follows .mixedOrders=true:=ab6 Tryz.checked
def tg:=λa b g (h:List Value->za->Prop) c (i:za)=>
 opt (nb [a,c] (yU Tryz.prog 47 [(0,a),(1,c)])) λd=>xK (nb [d] (yC Tryz.prog 23 1 [(0,d)] i)) λe j=>xK (nb [b,e] (zk Tryz.prog .append [23,23] 23 [b,e] j)) λf k=>opt (zb Tryz.prog 25 g 1) λl=>opt (nb [f] (zn Tryz.prog 23 l f k)) λm=>h [] m
def th:=λc (a:za) d e (f:List Value->za->Prop)=>
 opt (zb Tryz.prog 25 c 1) λg=>opt (zd Tryz.prog 23 g a) λh=>opt (zb Tryz.prog 25 d 1) λi=>opt (zd Tryz.prog 23 i a) λj=>opt (zA Tryz.prog 23 j (nth e 0)) λk=>opt (zb Tryz.prog 47 k 0) λl=>opt (zd Tryz.prog 9 l a) λm=>xK (nb [] (yC Tryz.prog 45 0 [] a)) λn b=>opt (zb Tryz.prog 25 d 1) λo=>opt (zd Tryz.prog 23 o (cut b a.next b.next)) λp=>opt (zA Tryz.prog 23 p (nth e 0)) λq=>opt (zb Tryz.prog 47 q 1) λr=>opt (zd Tryz.prog 45 r (cut b a.next b.next)) λs=>CZ Tryz.prog [45,45] 45 [n,s] (some (a.next,b.next)) b b (tg m h c f)
def tj:=λb c a (d:List Value->za->Prop) (h:List Value) (e:za)=>
 BK (th b e c a)
 (λi f=>opt (nb [nth a 0,.int .i64 1] (ze Tryz.prog .add 3 (.tmp 19) (.const (.int .i64 1)) (nth a 0) (.int .i64 1))) λg=>d [g] f)
def tn:=λb (h:List Value->za->Prop) i a (c:za) (j:List Value->za->Prop)=>
 opt (zb Tryz.prog 25 b 1) λk=>opt (zd Tryz.prog 23 k c) λd=>xK (nb [d] (zk Tryz.prog .len [23] 3 [d] c)) λe f=>opt (nb [nth a 0,e] (ze Tryz.prog .lss 3 (.tmp 14) (.tmp 17) (nth a 0) e)) λl=>CD l (λg=>g [] f)
 (λg=>h [] f)
 (tj i b a j)
def tp:=λc (e b:za) f (R:Value->za->Prop) g (a:za)=>
 opt (zb Tryz.prog 25 c 2) λn=>opt (zd Tryz.prog 3 n (cut (cut a e.next b.next) b.next a.next)) λh=>opt (zb Tryz.prog 25 c 3) λo=>opt (zd Tryz.prog 3 o (cut (cut a e.next b.next) b.next a.next)) λi=>opt (nb [g,h,i] (yU Tryz.prog 25 [(0,g),(2,h),(3,i)])) λj=>opt (wD Tryz.prog 25) λp=>nw a (Value.cells p).toList 25 λd q=>opt (nb [j] (zn Tryz.prog 25 d j q)) λr=>BK (λs=>LP (tn c s d)
 [.int .i64 0] r)
 (λu k=>opt (zd Tryz.prog 25 d k) λl=>opt (nb [l] (zn Tryz.prog 25 f l k)) λm=>opt (zd Tryz.prog 25 f m) λt=>rv [t] m R)
def Ca:=λ(h:za) c (R:Value->za->Prop)=>
 opt (nb [c] (some (Value.cells c).toList)) λe=>nw h e 25 λd f=>opt (wD Tryz.prog 25) λg=>nw f (Value.cells g).toList 25 λi b=>xK (nb [] (yC Tryz.prog 22 0 [] b)) λj a=>opt (zb Tryz.prog 25 d 0) λk=>opt (zd Tryz.prog 22 k (cut a b.next a.next)) λl=>CZ Tryz.prog [22,22] 22 [j,l] (some (b.next,a.next)) a a (tp d b a i R)
theorem Fp(h:za)(t0:Value)(R:Value->za->Prop):Vz Tryz.prog (oS Tryz.prog qs) 200 8 [t0] h R=Ca h t0 R:=by kernel_rfl
theorem Fq{h:za}{t0:Value}{R:Value->za->Prop}(hw:Ca h t0 R):DC Tryz.prog 8 [t0] h R:=Ff mixed (n:=200) (by rw[Fp];exact hw)
theorem u5(b off:Nat)(h:za):zd Tryz.prog 22 (.pointer (some ⟨b,off,none⟩)) h=zw h b off:=yc (by kernel_rfl) b off h
theorem vM(b off:Nat)(h:za):zd Tryz.prog 23 (.pointer (some ⟨b,off,none⟩)) h=zw h b off:=yc (by kernel_rfl) b off h
theorem Xn(b off:Nat)(h:za):zd Tryz.prog 25 (.pointer (some ⟨b,off,none⟩)) h=yg h b off 4:=u0 (by kernel_rfl) (by kernel_rfl) b off h
theorem zh(b off:Nat)(h:za):zd Tryz.prog 3 (.pointer (some ⟨b,off,none⟩)) h=zw h b off:=yc (by kernel_rfl) b off h
theorem kO(b off:Nat)(h:za):zd Tryz.prog 45 (.pointer (some ⟨b,off,none⟩)) h=zw h b off:=yc (by kernel_rfl) b off h
theorem S6(b off:Nat)(h:za):zd Tryz.prog 9 (.pointer (some ⟨b,off,none⟩)) h=zw h b off:=yc (by kernel_rfl) b off h
theorem Es(r:TypeId)(v x:Value)(n:Nat)(new:List Value)(h:za)(h1:YP x=some n)(h2:vE h n 1 x=some new)(h3:new.all wi=true)(h4:new.length=n*1):zk Tryz.prog .append [22,22] r [v,x] h=Yq h 3 1 8 n new v:=Zi (e:=3) (e2:=3) (by kernel_rfl) (by kernel_rfl) (by kernel_rfl) (by kernel_rfl) (by decide) h1 h2 h3 h4
theorem P0(r:TypeId)(v x:Value)(n:Nat)(new:List Value)(h:za)(h1:YP x=some n)(h2:vE h n 2 x=some new)(h3:new.all wi=true)(h4:new.length=n*2):zk Tryz.prog .append [23,23] r [v,x] h=Yq h 47 2 40 n new v:=Zi (e:=47) (e2:=47) (by kernel_rfl) (by kernel_rfl) (by kernel_rfl) (by kernel_rfl) (by decide) h1 h2 h3 h4
theorem P4(r:TypeId)(v x:Value)(n:Nat)(new:List Value)(h:za)(h1:YP x=some n)(h2:vE h n 7 x=some new)(h3:new.all wi=true)(h4:new.length=n*7):zk Tryz.prog .append [45,45] r [v,x] h=Yq h 50 7 56 n new v:=Zi (e:=50) (e2:=50) (by kernel_rfl) (by kernel_rfl) (by kernel_rfl) (by kernel_rfl) (by decide) h1 h2 h3 h4
theorem P7(b off:Nat)(v:Option Addr)(vl vc:Nat)(h:za):zn Tryz.prog 23 (.pointer (some ⟨b,off,none⟩)) (.slice v vl vc) h=vi h b off [(.slice v vl vc)]:=uf (by kernel_rfl) b off _ h rfl
theorem Eu(b off:Nat)(l:List Value)(h:za)(hv:l.length=4):zn Tryz.prog 25 (.pointer (some ⟨b,off,none⟩)) (.agg l.toArray) h=vi h b off l:=qf (by kernel_rfl) b off l h hv
theorem Ey:wD Tryz.prog 25=some (.agg #[(.slice none 0 0),(.slice none 0 0),(.int .i64 0),(.int .i64 0)]):=zE (by kernel_rfl)
theorem AL(v0:Option Addr)(v0l v0c:Nat)(v2:Int)(v3:Int):yU Tryz.prog 25 [(0,(.slice v0 v0l v0c)),(2,(.int .i64 v2)),(3,(.int .i64 v3))]=some (.agg #[(.slice v0 v0l v0c),(.slice none 0 0),(.int .i64 v2),(.int .i64 v3)]):=zE (by kernel_rfl)
theorem Gb(v0:ByteArray)(v1:Option Addr)(v1l v1c:Nat):yU Tryz.prog 47 [(0,(.string v0)),(1,(.slice v1 v1l v1c))]=some (.agg #[(.string v0),(.slice v1 v1l v1c)]):=zE (by kernel_rfl)
theorem Ix(h:za):yC Tryz.prog 22 0 [] h=some (.slice (some ⟨h.next,0,none⟩) 0 2,h.push (.cells [] 3)):=zE (by kernel_rfl)
theorem Gh(v00:ByteArray)(v01:Option Addr)(v01l v01c:Nat)(h:za):yC Tryz.prog 23 1 [(0,(.agg #[(.string v00),(.slice v01 v01l v01c)]))] h=some (.slice (some ⟨h.next,0,none⟩) 1 3,h.push (.cells [(.string v00),(.slice v01 v01l v01c)] 47)):=zE (by kernel_rfl)
theorem Iz(h:za):yC Tryz.prog 45 0 [] h=some (.slice (some ⟨h.next,0,none⟩) 0 2,h.push (.cells [] 50)):=zE (by kernel_rfl)
theorem wI(b off:Nat):zb Tryz.prog 25 (.pointer (some ⟨b,off,none⟩)) 0=some (.pointer (some ⟨b,off,none⟩)):=zE (by kernel_rfl)
theorem yM(b off:Nat):zb Tryz.prog 25 (.pointer (some ⟨b,off,none⟩)) 1=some (.pointer (some ⟨b,off+1,none⟩)):=zE (by kernel_rfl)
theorem jm(b off:Nat):zb Tryz.prog 25 (.pointer (some ⟨b,off,none⟩)) 2=some (.pointer (some ⟨b,off+2,none⟩)):=zE (by kernel_rfl)
theorem j4(b off:Nat):zb Tryz.prog 25 (.pointer (some ⟨b,off,none⟩)) 3=some (.pointer (some ⟨b,off+3,none⟩)):=zE (by kernel_rfl)
theorem MD(b off:Nat):zb Tryz.prog 47 (.pointer (some ⟨b,off,none⟩)) 0=some (.pointer (some ⟨b,off,none⟩)):=zE (by kernel_rfl)
theorem vD(b off:Nat):zb Tryz.prog 47 (.pointer (some ⟨b,off,none⟩)) 1=some (.pointer (some ⟨b,off+1,none⟩)):=zE (by kernel_rfl)
theorem Bo(b off len c:Nat)(k:IntKind)(i:Int):zA Tryz.prog 23 (.slice (some ⟨b,off,none⟩) len c) (.int k i)=if 0<=i/\i<len then some (.pointer (some ⟨b,off+i.toNat*2,none⟩)) else none:=xp (e:=47) (by kernel_rfl) (by kernel_rfl)
theorem dV(r:TypeId)(a:Option Addr)(n c:Nat)(h:za):zk Tryz.prog .len [23] r [.slice a n c] h=some (.int .i64 n,h):=zE (by kernel_rfl)
end Go.Ac
namespace Go.Ar
open Go.Ai Go.Proofs
def qs:FuncId->Nat:=λg=>[0].getD g 0
theorem mixed:Tryz.prog.follows .mixedOrders=true:=ab6 Tryz.checked
def Ku:=λc (R:Value->za->Prop) d (e:List Value->za->Prop) f (a:za)=>
 opt (pk c (.bool true) f) λg=>CD g (λb=>rv [.bool false] a R)
 (λb=>b [nth d 0] a)
 (λh i=>e [nth h 0] i)
def Kv:=λa (R:Value->za->Prop) d (e:List Value->za->Prop) b (c:za)=>
 GD a false (λf=>opt (nb [b,.int .i64 65536] (ze Tryz.prog .gtr 3 (.tmp 60) (.const (.int .i64 65536)) b (.int .i64 65536))) λg=>f g c) (Ku a R d e) c
def Kw:=λa e (R:Value->za->Prop) f (g:List Value->za->Prop) h (d:za)=>
 GD a false (λi=>opt (zA Tryz.prog 22 e h) λb=>i b d) (λb c=>GD a false (λj=>opt (zd Tryz.prog 3 b c) λk=>j k c) (Kv a R f g) c) d
def Kx:=λa d (R:Value->za->Prop) (f:List Value->za->Prop) g (b:za)=>
 GD a false (λh=>opt (zd Tryz.prog 22 g b) λc=>h c b) (λc e=>GD a false (λi=>i (nth d 1) e) (Kw a c R d f) e) b
def Ky:=λb (a:za) c (R:Value->za->Prop) (f:List Value->za->Prop)=>
 opt (zb Tryz.prog 25 b 0) λg=>opt (zd Tryz.prog 22 g a) λh=>opt (zA Tryz.prog 22 h (nth c 1)) λi=>opt (zd Tryz.prog 3 i a) λd=>opt (nb [d,.int .i64 0] (ze Tryz.prog .lss 3 (.tmp 53) (.const (.int .i64 0)) d (.int .i64 0))) λe=>GD e false (λj=>opt (zb Tryz.prog 25 b 0) λk=>j k a) (Kx e c R f) a
def nn:=λa (b:List Value->za->Prop) c (d:za)=>
 opt (nb [nth a 1,.int .i64 1] (ze Tryz.prog .add 3 (.tmp 47) (.const (.int .i64 1)) (nth a 1) (.int .i64 1))) λe=>b [nth c 0,e] d
def np:=λb (h:List Value->za->Prop) (R:Value->za->Prop) a (c:za) (i:List Value->za->Prop)=>
 opt (zb Tryz.prog 25 b 0) λj=>opt (zd Tryz.prog 22 j c) λd=>xK (nb [d] (zk Tryz.prog .len [22] 3 [d] c)) λe f=>opt (nb [nth a 1,e] (ze Tryz.prog .lss 3 (.tmp 42) (.tmp 45) (nth a 1) e)) λk=>CD k (λg=>g [] f)
 (λg=>h [nth a 0] f)
 (λm l=>BK (Ky b l a R)
 (nn a i))
def vn:=λc (R:Value->za->Prop) d (e:List Value->za->Prop) f g (a:za)=>
 opt (pk c g (.bool false)) λh=>CD h (λb=>rv [.bool false] a R)
 (λb=>b [nth d 0] a)
 (λi j=>e [nth i 0,f] j)
def vo:=λb c d (R:Value->za->Prop) h (i:List Value->za->Prop) j e (f:za)=>
 GD b false (λk=>opt (nb [c,e] (ze Tryz.prog .gtr 2 (.tmp 162) (.tmp 168) c e)) λa=>k a f) (λa g=>GD d true (λl=>opt (pk b (.bool true) a) λm=>l m g) (vn d R h i j) g) f
def wK:=λa e f g (R:Value->za->Prop) h (i:List Value->za->Prop) j k (d:za)=>
 GD a false (λl=>opt (zA Tryz.prog 22 e k) λb=>l b d) (λb c=>GD a false (λm=>opt (zd Tryz.prog 3 b c) λn=>m n c) (vo a f g R h i j) c) d
def wL:=λa e f g (R:Value->za->Prop) h (i:List Value->za->Prop) j k (d:za)=>
 GD a false (λl=>opt (zb Tryz.prog 50 e 3) λb=>l b d) (λb c=>GD a false (λm=>opt (zd Tryz.prog 3 b c) λn=>m n c) (wK a k f g R h i j) c) d
def wM:=λa e f g (R:Value->za->Prop) h (i:List Value->za->Prop) j k (d:za)=>
 GD a false (λl=>opt (zb Tryz.prog 25 e 0) λb=>l b d) (λb c=>GD a false (λm=>opt (zd Tryz.prog 22 b c) λn=>m n c) (wL a f k g R h i j) c) d
def wN:=λd f g (R:Value->za->Prop) h (i:List Value->za->Prop) j a (e:za)=>
 GD a false (λk=>opt (zb Tryz.prog 50 d 6) λb=>k b e) (λb c=>GD a false (λl=>opt (zd Tryz.prog 2 b c) λm=>l m c) (wM a f d g R h i j) c) e
def wO:=λa e f g (R:Value->za->Prop) h (i:List Value->za->Prop) j k (c:za)=>
 GD a true (λl=>opt (pk e (.bool true) k) λb=>l b c) (λb d=>GD a true (λm=>m b d) (wN f g a R h i j) d) c
def wP:=λa d e f (R:Value->za->Prop) g (h:List Value->za->Prop) i b (c:za)=>
 GD a false (λj=>opt (nb [b,.int .i64 0] (ze Tryz.prog .lss 2 (.tmp 157) (.const (.int .i64 0)) b (.int .i64 0))) λk=>j k c) (wO d a e f R g h i) c
def wQ:=λd f g (R:Value->za->Prop) h (i:List Value->za->Prop) j a (e:za)=>
 GD a false (λk=>opt (zb Tryz.prog 50 d 6) λb=>k b e) (λb c=>GD a false (λl=>opt (zd Tryz.prog 2 b c) λm=>l m c) (wP a f d g R h i j) c) e
def wR:=λa e f g (R:Value->za->Prop) h (i:List Value->za->Prop) j k (c:za)=>
 GD a true (λl=>opt (pk e (.bool true) k) λb=>l b c) (λb d=>GD a true (λm=>m b d) (wQ f a g R h i j) d) c
def wS:=λa b e f g (R:Value->za->Prop) h (i:List Value->za->Prop) j c (d:za)=>
 GD a false (λk=>opt (nb [b,c] (ze Tryz.prog .geq 3 (.tmp 149) (.tmp 152) b c)) λl=>k l d) (wR e a f g R h i j) d
def wT:=λb d e f g (R:Value->za->Prop) h (i:List Value->za->Prop) j c (a:za)=>
 GD b false (λk=>xK (nb [c] (zk Tryz.prog .len [22] 3 [c] a)) λl _=>k l a) (wS b d e f g R h i j) a
def wU:=λa d f g (R:Value->za->Prop) h (i:List Value->za->Prop) j k (e:za)=>
 GD a false (λl=>opt (zb Tryz.prog 25 d 0) λb=>l b e) (λb c=>GD a false (λm=>opt (zd Tryz.prog 22 b c) λn=>m n c) (wT a k f g d R h i j) c) e
def wV:=λd f g (R:Value->za->Prop) h (i:List Value->za->Prop) j a (e:za)=>
 GD a false (λk=>opt (zb Tryz.prog 50 d 3) λb=>k b e) (λb c=>GD a false (λl=>opt (zd Tryz.prog 3 b c) λm=>l m c) (wU a f g d R h i j) c) e
def wW:=λa f g (R:Value->za->Prop) h (i:List Value->za->Prop) j c (d:za)=>
 GD a true (λk=>opt (nb [c,.int .i64 0] (ze Tryz.prog .lss 3 (.tmp 145) (.const (.int .i64 0)) c (.int .i64 0))) λb=>k b d) (λb e=>GD a true (λl=>l b e) (wV f g a R h i j) e) d
def wX:=λa g (R:Value->za->Prop) (h:List Value->za->Prop) i j (b:za)=>
 opt (zb Tryz.prog 50 a 0) λk=>opt (zd Tryz.prog 3 k b) λf=>opt (nb [f,.int .i64 6] (ze Tryz.prog .eql 3 (.tmp 141) (.const (.int .i64 6)) f (.int .i64 6))) λc=>GD c true (λl=>opt (zb Tryz.prog 50 a 3) λd=>l d b) (λd e=>GD c true (λm=>opt (zd Tryz.prog 3 d e) λn=>m n e) (wW c a g R j h i) e) b
def xA:=λc (R:Value->za->Prop) d e f (g:List Value->za->Prop) h i (a:za)=>
 opt (pk c i (.bool false)) λj=>CD j (λb=>rv [.bool false] a R)
 (λb=>b [nth d 0] a)
 (wX e f R g h)
def xB:=λb c d (R:Value->za->Prop) h i j (k:List Value->za->Prop) l e (f:za)=>
 GD b false (λm=>opt (nb [c,e] (ze Tryz.prog .geq 3 (.tmp 133) (.tmp 136) c e)) λa=>m a f) (λa g=>GD d true (λn=>opt (pk b (.bool true) a) λo=>n o g) (xA d R h i j k l) g) f
def xC:=λa d e (R:Value->za->Prop) f g h (i:List Value->za->Prop) j b (c:za)=>
 GD a false (λk=>xK (nb [b] (zk Tryz.prog .len [23] 3 [b] c)) λl m=>k l m) (xB a d e R f g h i j) c
def xD:=λa d f (R:Value->za->Prop) g h (i:List Value->za->Prop) j k (e:za)=>
 GD a false (λl=>opt (zb Tryz.prog 25 d 1) λb=>l b e) (λb c=>GD a false (λm=>opt (zd Tryz.prog 23 b c) λn=>m n c) (xC a k f R g h d i j) c) e
def xE:=λd f g (R:Value->za->Prop) h (i:List Value->za->Prop) j a (e:za)=>
 GD a false (λk=>opt (zb Tryz.prog 50 d 3) λb=>k b e) (λb c=>GD a false (λl=>opt (zd Tryz.prog 3 b c) λm=>l m c) (xD a f g R h d i j) c) e
def xF:=λa f g (R:Value->za->Prop) h (i:List Value->za->Prop) j c (d:za)=>
 GD a true (λk=>opt (nb [c,.int .i64 0] (ze Tryz.prog .lss 3 (.tmp 129) (.const (.int .i64 0)) c (.int .i64 0))) λb=>k b d) (λb e=>GD a true (λl=>l b e) (xE f g a R h i j) e) d
def xG:=λa g (R:Value->za->Prop) (h:List Value->za->Prop) i j (b:za)=>
 opt (zb Tryz.prog 50 a 0) λk=>opt (zd Tryz.prog 3 k b) λf=>opt (nb [f,.int .i64 21] (ze Tryz.prog .eql 3 (.tmp 125) (.const (.int .i64 21)) f (.int .i64 21))) λc=>GD c true (λl=>opt (zb Tryz.prog 50 a 3) λd=>l d b) (λd e=>GD c true (λm=>opt (zd Tryz.prog 3 d e) λn=>m n e) (xF c a g R j h i) e) b
def yr:=λc (R:Value->za->Prop) d e f (g:List Value->za->Prop) h i (a:za)=>
 opt (pk c (.bool true) i) λj=>CD j (λb=>rv [.bool false] a R)
 (λb=>b [nth d 0] a)
 (xG e f R g h)
def yu:=λb c (R:Value->za->Prop) g h i (j:List Value->za->Prop) k d (e:za)=>
 GD b true (λl=>opt (nb [d,.int .i64 0] (ze Tryz.prog .lss 3 (.tmp 120) (.const (.int .i64 0)) d (.int .i64 0))) λa=>l a e) (λa f=>GD c false (λm=>opt (pk b a (.bool false)) λn=>m n f) (yr c R g h i j k) f) e
def yX:=λa c d (R:Value->za->Prop) e f g (h:List Value->za->Prop) i j (b:za)=>
 GD a true (λk=>zR Tryz.prog (.func (.func 30) #[] #[]) [c,j] b (λl m=>k l m)) (yu a d R e f g h i) b
def yY:=λa d f (R:Value->za->Prop) g h (i:List Value->za->Prop) j k (e:za)=>
 GD a true (λl=>opt (zb Tryz.prog 50 d 5) λb=>l b e) (λb c=>GD a true (λm=>opt (zd Tryz.prog 3 b c) λn=>m n c) (yX a k f R g d h i j) c) e
def yZ:=λb e f (R:Value->za->Prop) g h (i:List Value->za->Prop) j k (c:za)=>
 GD b false (λl=>l k c) (λd a=>GD d true (λm=>opt (zd Tryz.prog 47 e a) λn=>m n a) (yY d f b R g h i j) a) c
def y1:=λb c g h (R:Value->za->Prop) i j (k:List Value->za->Prop) l d (e:za)=>
 GD b false (λm=>opt (nb [d,.int .i64 19] (ze Tryz.prog .eql 3 (.tmp 113) (.const (.int .i64 19)) d (.int .i64 19))) λa=>m a e) (λa f=>GD c false (λn=>opt (pk b (.bool true) a) λo=>n o f) (yZ c g h R i j k l) f) e
def y4:=λd f g (R:Value->za->Prop) h i (j:List Value->za->Prop) k a (e:za)=>
 GD a false (λl=>opt (zb Tryz.prog 50 d 0) λb=>l b e) (λb c=>GD a false (λm=>opt (zd Tryz.prog 3 b c) λn=>m n c) (y1 a f g d R h i j k) c) e
def y5:=λa f g (R:Value->za->Prop) h i (j:List Value->za->Prop) k c (d:za)=>
 GD a false (λl=>opt (nb [c,.int .i64 18] (ze Tryz.prog .eql 3 (.tmp 109) (.const (.int .i64 18)) c (.int .i64 18))) λb=>l b d) (λb e=>GD a false (λm=>m b e) (y4 f a g R h i j k) e) d
def y6:=λf d g (R:Value->za->Prop) h i (j:List Value->za->Prop) k l (e:za)=>
 opt (pk f l (.bool false)) λa=>GD a false (λm=>opt (zb Tryz.prog 50 d 0) λb=>m b e) (λb c=>GD a false (λn=>opt (zd Tryz.prog 3 b c) λo=>n o c) (y5 a d g R h i j k) c) e
def y7:=λa b e f (R:Value->za->Prop) g h (i:List Value->za->Prop) j c (d:za)=>
 GD a true (λk=>opt (nb [b,c] (ze Tryz.prog .neq 3 (.tmp 103) (.tmp 104) b c)) λl=>k l d) (y6 a e f R g h i j) d
def xH:=λa e f g h (R:Value->za->Prop) i j (k:List Value->za->Prop) l m (c:za)=>
 GD a true (λn=>zR Tryz.prog (.func (.func 30) #[] #[]) [e,m] c (λb o=>n b o)) (λb d=>GD a true (λp=>p (nth f 2) d) (y7 a b g h R i j k l) d) c
def xI:=λa d f g (R:Value->za->Prop) h i (j:List Value->za->Prop) k l (e:za)=>
 GD a true (λm=>opt (zb Tryz.prog 50 d 5) λb=>m b e) (λb c=>GD a true (λn=>opt (zd Tryz.prog 3 b c) λo=>n o c) (xH a l f d g R h i j k) c) e
def xJ:=λb c f (R:Value->za->Prop) g (h:List Value->za->Prop) i j (a:za)=>
 opt (zb Tryz.prog 50 b 0) λk=>opt (zd Tryz.prog 3 k a) λd=>opt (nb [d,.int .i64 20] (ze Tryz.prog .eql 3 (.tmp 97) (.const (.int .i64 20)) d (.int .i64 20))) λe=>GD e true (λl=>opt (zd Tryz.prog 47 c a) λm=>l m a) (xI e b f c R j g h i) a
def y8:=λ(R:Value->za->Prop) a d e f (g:List Value->za->Prop) h i (b:za)=>
 opt (dH Tryz.prog .not i) λj=>CD j (λc=>rv [.bool false] b R)
 (λc=>c [nth a 0] b)
 (xJ d e a R f g h)
def Jt:=λa b (R:Value->za->Prop) d e (f:List Value->za->Prop) g (c:za)=>
 opt (pk (nth a 1) (.bool true) g) λh=>opt (zd Tryz.prog 50 b c) λi=>zR Tryz.prog (.func (.func 29) #[] #[]) [i] c (y8 R a b d e f h)
def Ju:=λa d (R:Value->za->Prop) e f (g:List Value->za->Prop) b (c:za)=>
 GD (nth a 1) false (λh=>opt (nb [b,.int .i64 20] (ze Tryz.prog .neq 3 (.tmp 90) (.const (.int .i64 20)) b (.int .i64 20))) λi=>h i c) (Jt a d R e f g) c
def gO:=λf (b:za) a (R:Value->za->Prop) i (j:List Value->za->Prop)=>
 opt (zb Tryz.prog 47 f 1) λk=>opt (zd Tryz.prog 45 k b) λl=>opt (zA Tryz.prog 45 l (nth a 2)) λm=>opt (zd Tryz.prog 50 m b) λg=>opt (wD Tryz.prog 50) λn=>nw b (Value.cells n).toList 50 λc o=>opt (nb [g] (zn Tryz.prog 50 c g o)) λh=>GD (nth a 1) false (λp=>opt (zb Tryz.prog 50 c 0) λd=>p d h) (λd e=>GD (nth a 1) false (λq=>opt (zd Tryz.prog 3 d e) λr=>q r e) (Ju a c R f i j) e) h
def u7:=λa (c:List Value->za->Prop) b (d:za)=>
 opt (nb [nth a 2,.int .i64 1] (ze Tryz.prog .add 3 (.tmp 80) (.const (.int .i64 1)) (nth a 2) (.int .i64 1))) λe=>c [nth b 0,nth b 1,e] d
def Jv:=λb (h:List Value->za->Prop) (R:Value->za->Prop) i a (c:za) (j:List Value->za->Prop)=>
 opt (zb Tryz.prog 47 b 1) λk=>opt (zd Tryz.prog 45 k c) λd=>xK (nb [d] (zk Tryz.prog .len [45] 3 [d] c)) λe f=>opt (nb [nth a 2,e] (ze Tryz.prog .lss 3 (.tmp 75) (.tmp 78) (nth a 2) e)) λl=>CD l (λg=>g [] f)
 (λg=>h [nth a 0,nth a 1] f)
 (λn m=>BK (gO b m a R i)
 (u7 a j))
def UO:=λc (R:Value->za->Prop) d (e:List Value->za->Prop) f (a:za)=>
 opt (pk c (.bool true) f) λg=>CD g (λb=>rv [.bool false] a R)
 (λb=>b [nth d 0] a)
 (λh i=>e [nth h 0] i)
def UP:=λa (R:Value->za->Prop) d (e:List Value->za->Prop) b (c:za)=>
 GD a false (λf=>opt (nb [b,.int .i64 100000] (ze Tryz.prog .gtr 3 (.tmp 177) (.const (.int .i64 100000)) b (.int .i64 100000))) λg=>f g c) (UO a R d e) c
def UQ:=λb (R:Value->za->Prop) e (f:List Value->za->Prop) g (c:za)=>
 GD b false (λh=>opt (zd Tryz.prog 45 g c) λa=>h a c) (λa d=>GD b false (λi=>xK (nb [a] (zk Tryz.prog .len [45] 3 [a] d)) λj k=>i j k) (UP b R e f) d) c
def gP:=λd (R:Value->za->Prop) (e:List Value->za->Prop) a (b:za)=>
 opt (dH Tryz.prog .not (nth a 1)) λc=>GD c false (λf=>opt (zb Tryz.prog 47 d 1) λg=>f g b) (UQ c R a e) b
def gQ:=λc (a:za) d (R:Value->za->Prop) (f:List Value->za->Prop)=>
 opt (zb Tryz.prog 25 c 1) λg=>opt (zd Tryz.prog 23 g a) λh=>opt (zA Tryz.prog 23 h (nth d 1)) λi=>opt (zd Tryz.prog 47 i a) λe=>opt (wD Tryz.prog 47) λj=>nw a (Value.cells j).toList 47 λb k=>opt (nb [e] (zn Tryz.prog 47 b e k)) λl=>BK (λm=>LP (Jv b m R c)
 [nth d 0,.bool false,.int .i64 0] l)
 (gP b R f)
def gR:=λa (b:List Value->za->Prop) c (d:za)=>
 opt (nb [nth a 1,.int .i64 1] (ze Tryz.prog .add 3 (.tmp 68) (.const (.int .i64 1)) (nth a 1) (.int .i64 1))) λe=>b [nth c 0,e] d
def Jw:=λb (h:List Value->za->Prop) (R:Value->za->Prop) a (c:za) (i:List Value->za->Prop)=>
 opt (zb Tryz.prog 25 b 1) λj=>opt (zd Tryz.prog 23 j c) λd=>xK (nb [d] (zk Tryz.prog .len [23] 3 [d] c)) λe f=>opt (nb [nth a 1,e] (ze Tryz.prog .lss 3 (.tmp 63) (.tmp 66) (nth a 1) e)) λk=>CD k (λg=>g [] f)
 (λg=>h [nth a 0] f)
 (λm l=>BK (gQ b l a R)
 (gR a i))
def Jx:=λa (R:Value->za->Prop) b (c:za)=>
 BK (λd=>LP (np a d R)
 [nth b 0,.int .i64 0] c)
 (λe f=>BK (λg=>LP (Jw a g R)
 [nth e 0,.int .i64 0] f)
 (λi h=>rv [.bool true] h R))
def Zu:=λb (R:Value->za->Prop) g c (d:za)=>
 GD b false (λh=>opt (nb [c,.int .i64 6] (ze Tryz.prog .gtr 3 (.tmp 39) (.const (.int .i64 6)) c (.int .i64 6))) λa=>h a d) (λa e=>opt (pk b (.bool true) a) λi=>CD i (λf=>rv [.bool false] e R)
 (λf=>f [.bool false] e)
 (Jx g R)) d
def Zv:=λf d (R:Value->za->Prop) g (e:za)=>
 opt (pk f (.bool true) g) λa=>GD a false (λh=>opt (zb Tryz.prog 25 d 3) λb=>h b e) (λb c=>GD a false (λi=>opt (zd Tryz.prog 3 b c) λj=>i j c) (Zu a R d) c) e
def Zw:=λa d (R:Value->za->Prop) b (c:za)=>
 GD a false (λe=>opt (nb [b,.int .i64 0] (ze Tryz.prog .lss 3 (.tmp 34) (.const (.int .i64 0)) b (.int .i64 0))) λf=>e f c) (Zv a d R) c
def Zx:=λf d (R:Value->za->Prop) g (e:za)=>
 opt (pk f (.bool true) g) λa=>GD a false (λh=>opt (zb Tryz.prog 25 d 3) λb=>h b e) (λb c=>GD a false (λi=>opt (zd Tryz.prog 3 b c) λj=>i j c) (Zw a d R) c) e
def Zy:=λb c g (R:Value->za->Prop) d (e:za)=>
 GD b false (λh=>xK (nb [d] (zk Tryz.prog .len [23] 3 [d] e)) λa i=>h a i) (λa f=>GD b false (λj=>opt (nb [c,a] (ze Tryz.prog .geq 3 (.tmp 26) (.tmp 29) c a)) λk=>j k f) (Zx b g R) f) e
def Zz:=λa d (R:Value->za->Prop) f (e:za)=>
 GD a false (λg=>opt (zb Tryz.prog 25 d 1) λb=>g b e) (λb c=>GD a false (λh=>opt (zd Tryz.prog 23 b c) λi=>h i c) (Zy a f d R) c) e
def ZA:=λf d (R:Value->za->Prop) g (e:za)=>
 opt (pk f (.bool true) g) λa=>GD a false (λh=>opt (zb Tryz.prog 25 d 2) λb=>h b e) (λb c=>GD a false (λi=>opt (zd Tryz.prog 3 b c) λj=>i j c) (Zz a d R) c) e
def ZB:=λa d (R:Value->za->Prop) b (c:za)=>
 GD a false (λe=>opt (nb [b,.int .i64 0] (ze Tryz.prog .lss 3 (.tmp 21) (.const (.int .i64 0)) b (.int .i64 0))) λf=>e f c) (ZA a d R) c
def ZC:=λf d (R:Value->za->Prop) g (e:za)=>
 opt (pk f (.bool true) g) λa=>GD a false (λh=>opt (zb Tryz.prog 25 d 2) λb=>h b e) (λb c=>GD a false (λi=>opt (zd Tryz.prog 3 b c) λj=>i j c) (ZB a d R) c) e
def ZD:=λa d (R:Value->za->Prop) b (c:za)=>
 GD a false (λe=>opt (nb [b,.int .i64 100] (ze Tryz.prog .gtr 3 (.tmp 16) (.const (.int .i64 100)) b (.int .i64 100))) λf=>e f c) (ZC a d R) c
def ZE:=λb e (R:Value->za->Prop) f (c:za)=>
 GD b false (λg=>opt (zd Tryz.prog 23 f c) λa=>g a c) (λa d=>GD b false (λh=>xK (nb [a] (zk Tryz.prog .len [23] 3 [a] d)) λi j=>h i j) (ZD b e R) d) c
def pW:=λ(h:za) b (R:Value->za->Prop)=>
 opt (nb [b] (some (Value.cells b).toList)) λi=>nw h i 25 λa c=>opt (zb Tryz.prog 25 a 0) λj=>opt (zd Tryz.prog 22 j c) λd=>xK (nb [d] (zk Tryz.prog .len [22] 3 [d] c)) λe f=>opt (nb [e,.int .i64 200] (ze Tryz.prog .gtr 3 (.tmp 11) (.const (.int .i64 200)) e (.int .i64 200))) λg=>GD g false (λk=>opt (zb Tryz.prog 25 a 1) λl=>k l f) (ZE g a R) f
theorem Co(h:za)(t0:Value)(R:Value->za->Prop):Vz Tryz.prog (uI Tryz.prog qs) 200 15 [t0] h R=pW h t0 R:=by kernel_rfl
theorem Cp{h:za}{t0:Value}{R:Value->za->Prop}(hw:pW h t0 R):DC Tryz.prog 15 [t0] h R:=yT mixed (n:=200) (by rw[Co];exact hw)
def jT:=λb (R:Value->za->Prop) d (c:za)=>
 GD b true (λe=>zR Tryz.prog (.func (.func 53) #[] #[]) [d] c (λa f=>e a f)) (λa g=>opt (pk b a (.bool false)) λh=>rv [h] g R) c
def jU:=λe f (R:Value->za->Prop) g (d:za)=>
 opt (pk e (.bool true) g) λa=>GD a true (λh=>opt (zb Tryz.prog 50 f 6) λb=>h b d) (λb c=>GD a true (λi=>opt (zd Tryz.prog 2 b c) λj=>i j c) (jT a R) c) d
def jV:=λa d (R:Value->za->Prop) b (c:za)=>
 GD a false (λe=>opt (nb [b,.int .i64 8] (ze Tryz.prog .eql 3 (.tmp 94) (.const (.int .i64 8)) b (.int .i64 8))) λf=>e f c) (jU a d R) c
def jW:=λf d (R:Value->za->Prop) g (e:za)=>
 opt (pk f (.bool true) g) λa=>GD a false (λh=>opt (zb Tryz.prog 50 d 3) λb=>h b e) (λb c=>GD a false (λi=>opt (zd Tryz.prog 3 b c) λj=>i j c) (jV a d R) c) e
def jX:=λa d (R:Value->za->Prop) b (c:za)=>
 GD a false (λe=>opt (nb [b,.int .i64 4] (ze Tryz.prog .eql 3 (.tmp 89) (.const (.int .i64 4)) b (.int .i64 4))) λf=>e f c) (jW a d R) c
def JB:=λb (R:Value->za->Prop) d (c:za)=>
 GD b true (λe=>zR Tryz.prog (.func (.func 53) #[] #[]) [d] c (λa f=>e a f)) (λa g=>opt (pk b a (.bool false)) λh=>rv [h] g R) c
def JC:=λe (R:Value->za->Prop) a (d:za)=>
 GD a true (λf=>opt (zb Tryz.prog 50 e 6) λb=>f b d) (λb c=>GD a true (λg=>opt (zd Tryz.prog 2 b c) λh=>g h c) (JB a R) c) d
def US:=λb (R:Value->za->Prop) c (d:za)=>
 GD b false (λe=>opt (nb [c,.int .i64 2] (ze Tryz.prog .eql 3 (.tmp 130) (.const (.int .i64 2)) c (.int .i64 2))) λa=>e a d) (λa f=>opt (pk b (.bool true) a) λg=>rv [g] f R) d
def UT:=λb (R:Value->za->Prop) c (d:za)=>
 GD b false (λe=>opt (nb [c,.int .i64 4] (ze Tryz.prog .eql 3 (.tmp 140) (.const (.int .i64 4)) c (.int .i64 4))) λa=>e a d) (λa f=>opt (pk b (.bool true) a) λg=>rv [g] f R) d
def jA:=λb (R:Value->za->Prop) c (d:za)=>
 GD b true (λe=>opt (nb [c,.int .i64 63] (ze Tryz.prog .leq 2 (.tmp 160) (.const (.int .i64 63)) c (.int .i64 63))) λa=>e a d) (λa f=>opt (pk b a (.bool false)) λg=>rv [g] f R) d
def jB:=λe f (R:Value->za->Prop) g (d:za)=>
 opt (pk e g (.bool false)) λa=>GD a true (λh=>opt (zb Tryz.prog 50 f 6) λb=>h b d) (λb c=>GD a true (λi=>opt (zd Tryz.prog 2 b c) λj=>i j c) (jA a R) c) d
def jC:=λa d (R:Value->za->Prop) b (c:za)=>
 GD a true (λe=>opt (nb [b,.int .i64 0] (ze Tryz.prog .geq 2 (.tmp 155) (.const (.int .i64 0)) b (.int .i64 0))) λf=>e f c) (jB a d R) c
def jD:=λf d (R:Value->za->Prop) g (e:za)=>
 opt (pk f (.bool true) g) λa=>GD a true (λh=>opt (zb Tryz.prog 50 d 6) λb=>h b e) (λb c=>GD a true (λi=>opt (zd Tryz.prog 2 b c) λj=>i j c) (jC a d R) c) e
def jE:=λa d (R:Value->za->Prop) b (c:za)=>
 GD a false (λe=>opt (nb [b,.int .i64 20] (ze Tryz.prog .eql 3 (.tmp 150) (.const (.int .i64 20)) b (.int .i64 20))) λf=>e f c) (jD a d R) c
def VF:=λb (R:Value->za->Prop) c (d:za)=>
 GD b false (λe=>opt (nb [c,.int .i64 20] (ze Tryz.prog .eql 3 (.tmp 170) (.const (.int .i64 20)) c (.int .i64 20))) λa=>e a d) (λa f=>opt (pk b (.bool true) a) λg=>rv [g] f R) d
def X4:=λb (R:Value->za->Prop) c (d:za)=>
 GD b true (λe=>opt (nb [c,.int .i64 10000000] (ze Tryz.prog .leq 3 (.tmp 190) (.const (.int .i64 10000000)) c (.int .i64 10000000))) λa=>e a d) (λa f=>opt (pk b a (.bool false)) λg=>rv [g] f R) d
def X5:=λe f (R:Value->za->Prop) g (d:za)=>
 opt (pk e g (.bool false)) λa=>GD a true (λh=>opt (zb Tryz.prog 50 f 5) λb=>h b d) (λb c=>GD a true (λi=>opt (zd Tryz.prog 3 b c) λj=>i j c) (X4 a R) c) d
def X6:=λa d (R:Value->za->Prop) b (c:za)=>
 GD a true (λe=>opt (nb [b,.int .i64 0] (ze Tryz.prog .geq 3 (.tmp 185) (.const (.int .i64 0)) b (.int .i64 0))) λf=>e f c) (X5 a d R) c
def X7:=λd (R:Value->za->Prop) a (e:za)=>
 GD a true (λf=>opt (zb Tryz.prog 50 d 5) λb=>f b e) (λb c=>GD a true (λg=>opt (zd Tryz.prog 3 b c) λh=>g h c) (X6 a d R) c) e
def ZF:=λb (R:Value->za->Prop) c (d:za)=>
 GD b true (λe=>opt (nb [c,.int .i64 10000000] (ze Tryz.prog .leq 3 (.tmp 201) (.const (.int .i64 10000000)) c (.int .i64 10000000))) λa=>e a d) (λa f=>opt (pk b a (.bool false)) λg=>rv [g] f R) d
def ZG:=λb (R:Value->za->Prop) c (d:za)=>
 GD b true (λe=>opt (nb [c,.int .i64 65536] (ze Tryz.prog .leq 2 (.tmp 212) (.const (.int .i64 65536)) c (.int .i64 65536))) λa=>e a d) (λa f=>opt (pk b a (.bool false)) λg=>rv [g] f R) d
def ZH:=λe (a:za) (R:Value->za->Prop) (k:List Value->za->Prop)=>
 opt (zb Tryz.prog 50 e 6) λg=>opt (zd Tryz.prog 2 g a) λf=>opt (nb [f,.int .i64 0] (ze Tryz.prog .geq 2 (.tmp 208) (.const (.int .i64 0)) f (.int .i64 0))) λb=>GD b true (λh=>opt (zb Tryz.prog 50 e 6) λc=>h c a) (λc d=>GD b true (λi=>opt (zd Tryz.prog 2 c d) λj=>i j d) (ZG b R) d) a
def ZI:=λe (a:za) (R:Value->za->Prop) (k:List Value->za->Prop)=>
 opt (zb Tryz.prog 50 e 5) λg=>opt (zd Tryz.prog 3 g a) λf=>opt (nb [f,.int .i64 0] (ze Tryz.prog .geq 3 (.tmp 197) (.const (.int .i64 0)) f (.int .i64 0))) λb=>GD b true (λh=>opt (zb Tryz.prog 50 e 5) λc=>h c a) (λc d=>GD b true (λi=>opt (zd Tryz.prog 3 c d) λj=>i j d) (ZF b R) d) a
def jF:=λa (c:za) f (R:Value->za->Prop) g (h:List Value->za->Prop)=>
 opt (nb [a,.int .i64 23] (ze Tryz.prog .eql 3 (.tmp 80) (.const (.int .i64 23)) a (.int .i64 23))) λd=>CD d (λb=>b [d] c)
 (λb=>opt (nb [a,.int .i64 24] (ze Tryz.prog .eql 3 (.tmp 80) (.const (.int .i64 24)) a (.int .i64 24))) λi=>b [i] c)
 (λj e=>CD (nth j 0) (ZH f e R)
 (λk=>k [nth g 0] e)
 (λl m=>h [nth l 0] m))
def vZ:=λa (c:za) d (R:Value->za->Prop) g (h:List Value->za->Prop)=>
 opt (nb [a,.int .i64 18] (ze Tryz.prog .eql 3 (.tmp 80) (.const (.int .i64 18)) a (.int .i64 18))) λe=>CD e (λb=>b [e] c)
 (λb=>opt (nb [a,.int .i64 20] (ze Tryz.prog .eql 3 (.tmp 80) (.const (.int .i64 20)) a (.int .i64 20))) λi=>b [i] c)
 (λj f=>CD (nth j 0) (ZI d f R)
 (jF a f d R g)
 (λk l=>h [nth k 0] l))
def eK:=λb (a:za) (R:Value->za->Prop) (g:List Value->za->Prop)=>
 opt (zb Tryz.prog 50 b 4) λc=>opt (zd Tryz.prog 3 c a) λd=>zR Tryz.prog (.func (.func 55) #[] #[]) [d] a (λe f=>rv [e] f R)
def vI:=λa b (c:za) (R:Value->za->Prop) d (e:List Value->za->Prop)=>
 opt (nb [a,.int .i64 19] (ze Tryz.prog .eql 3 (.tmp 80) (.const (.int .i64 19)) a (.int .i64 19))) λf=>CD f (λk=>opt (zb Tryz.prog 50 b 4) λg=>opt (zd Tryz.prog 3 g c) λh=>zR Tryz.prog (.func (.func 55) #[] #[]) [h] c (X7 b R))
 (vZ a c b R d)
 (λi j=>e [nth i 0] j)
def VG:=λe (a:za) (R:Value->za->Prop) (k:List Value->za->Prop)=>
 opt (zb Tryz.prog 50 e 3) λg=>opt (zd Tryz.prog 3 g a) λf=>opt (nb [f,.int .i64 19] (ze Tryz.prog .eql 3 (.tmp 166) (.const (.int .i64 19)) f (.int .i64 19))) λb=>GD b false (λh=>opt (zb Tryz.prog 50 e 3) λc=>h c a) (λc d=>GD b false (λi=>opt (zd Tryz.prog 3 c d) λj=>i j d) (VF b R) d) a
def vq:=λa b (c:za) (R:Value->za->Prop) d (e:List Value->za->Prop)=>
 opt (nb [a,.int .i64 17] (ze Tryz.prog .eql 3 (.tmp 80) (.const (.int .i64 17)) a (.int .i64 17))) λf=>CD f (eK b c R)
 (vI a b c R d)
 (λg h=>e [nth g 0] h)
def jG:=λa (b:za) (R:Value->za->Prop) (k:List Value->za->Prop)=>
 opt (zb Tryz.prog 50 a 3) λg=>opt (zd Tryz.prog 3 g b) λf=>opt (nb [f,.int .i64 19] (ze Tryz.prog .eql 3 (.tmp 146) (.const (.int .i64 19)) f (.int .i64 19))) λc=>GD c false (λh=>opt (zb Tryz.prog 50 a 3) λd=>h d b) (λd e=>GD c false (λi=>opt (zd Tryz.prog 3 d e) λj=>i j e) (jE c a R) e) b
def wH:=λa b (c:za) (R:Value->za->Prop) d (e:List Value->za->Prop)=>
 opt (nb [a,.int .i64 12] (ze Tryz.prog .eql 3 (.tmp 80) (.const (.int .i64 12)) a (.int .i64 12))) λf=>CD f (VG b c R)
 (vq a b c R d)
 (λg h=>e [nth g 0] h)
def VH:=λe (a:za) (R:Value->za->Prop) (k:List Value->za->Prop)=>
 opt (zb Tryz.prog 50 e 3) λg=>opt (zd Tryz.prog 3 g a) λf=>opt (nb [f,.int .i64 3] (ze Tryz.prog .eql 3 (.tmp 136) (.const (.int .i64 3)) f (.int .i64 3))) λb=>GD b false (λh=>opt (zb Tryz.prog 50 e 3) λc=>h c a) (λc d=>GD b false (λi=>opt (zd Tryz.prog 3 c d) λj=>i j d) (UT b R) d) a
def yH:=λa b (c:za) (R:Value->za->Prop) d (e:List Value->za->Prop)=>
 opt (nb [a,.int .i64 11] (ze Tryz.prog .eql 3 (.tmp 80) (.const (.int .i64 11)) a (.int .i64 11))) λf=>CD f (jG b c R)
 (wH a b c R d)
 (λg h=>e [nth g 0] h)
def VI:=λe (a:za) (R:Value->za->Prop) (k:List Value->za->Prop)=>
 opt (zb Tryz.prog 50 e 3) λg=>opt (zd Tryz.prog 3 g a) λf=>opt (nb [f,.int .i64 1] (ze Tryz.prog .eql 3 (.tmp 126) (.const (.int .i64 1)) f (.int .i64 1))) λb=>GD b false (λh=>opt (zb Tryz.prog 50 e 3) λc=>h c a) (λc d=>GD b false (λi=>opt (zd Tryz.prog 3 c d) λj=>i j d) (US b R) d) a
def ym:=λa b (c:za) (R:Value->za->Prop) d (e:List Value->za->Prop)=>
 opt (nb [a,.int .i64 10] (ze Tryz.prog .eql 3 (.tmp 80) (.const (.int .i64 10)) a (.int .i64 10))) λf=>CD f (VH b c R)
 (yH a b c R d)
 (λg h=>e [nth g 0] h)
def yf:=λa b (c:za) (R:Value->za->Prop) d (e:List Value->za->Prop)=>
 opt (nb [a,.int .i64 9] (ze Tryz.prog .eql 3 (.tmp 80) (.const (.int .i64 9)) a (.int .i64 9))) λf=>CD f (VI b c R)
 (ym a b c R d)
 (λg h=>e [nth g 0] h)
def eL:=λb (a:za) (R:Value->za->Prop) (g:List Value->za->Prop)=>
 opt (zb Tryz.prog 50 b 3) λc=>opt (zd Tryz.prog 3 c a) λd=>zR Tryz.prog (.func (.func 54) #[] #[]) [d] a (λe f=>rv [e] f R)
def ya:=λa b (c:za) (R:Value->za->Prop) d (e:List Value->za->Prop)=>
 opt (nb [a,.int .i64 8] (ze Tryz.prog .eql 3 (.tmp 80) (.const (.int .i64 8)) a (.int .i64 8))) λf=>CD f (λk=>opt (zb Tryz.prog 50 b 3) λg=>opt (zd Tryz.prog 3 g c) λh=>zR Tryz.prog (.func (.func 54) #[] #[]) [h] c (JC b R))
 (yf a b c R d)
 (λi j=>e [nth i 0] j)
def QK:=λb (a:za) (R:Value->za->Prop) (g:List Value->za->Prop)=>
 opt (zb Tryz.prog 50 b 6) λc=>opt (zd Tryz.prog 2 c a) λd=>zR Tryz.prog (.func (.func 53) #[] #[]) [d] a (λe f=>rv [e] f R)
def zZ:=λa b (c:za) (R:Value->za->Prop) d (e:List Value->za->Prop)=>
 opt (nb [a,.int .i64 7] (ze Tryz.prog .eql 3 (.tmp 80) (.const (.int .i64 7)) a (.int .i64 7))) λf=>CD f (eL b c R)
 (ya a b c R d)
 (λg h=>e [nth g 0] h)
def kM:=λa (b:za) (R:Value->za->Prop) (k:List Value->za->Prop)=>
 opt (zb Tryz.prog 50 a 3) λg=>opt (zd Tryz.prog 3 g b) λf=>opt (nb [f,.int .i64 1] (ze Tryz.prog .eql 3 (.tmp 85) (.const (.int .i64 1)) f (.int .i64 1))) λc=>GD c false (λh=>opt (zb Tryz.prog 50 a 3) λd=>h d b) (λd e=>GD c false (λi=>opt (zd Tryz.prog 3 d e) λj=>i j e) (jX c a R) e) b
def zW:=λa (c:za) d (R:Value->za->Prop) g (h:List Value->za->Prop)=>
 opt (nb [a,.int .i64 5] (ze Tryz.prog .eql 3 (.tmp 80) (.const (.int .i64 5)) a (.int .i64 5))) λe=>CD e (λb=>b [e] c)
 (λb=>opt (nb [a,.int .i64 16] (ze Tryz.prog .eql 3 (.tmp 80) (.const (.int .i64 16)) a (.int .i64 16))) λi=>b [i] c)
 (λj f=>CD (nth j 0) (QK d f R)
 (zZ a d f R g)
 (λk l=>h [nth k 0] l))
def zK:=λa (c:za) d (R:Value->za->Prop) g (h:List Value->za->Prop)=>
 opt (nb [a,.int .i64 3] (ze Tryz.prog .eql 3 (.tmp 80) (.const (.int .i64 3)) a (.int .i64 3))) λe=>CD e (λb=>b [e] c)
 (λb=>opt (nb [a,.int .i64 4] (ze Tryz.prog .eql 3 (.tmp 80) (.const (.int .i64 4)) a (.int .i64 4))) λi=>b [i] c)
 (λj f=>CD (nth j 0) (kM d f R)
 (zW a f d R g)
 (λk l=>h [nth k 0] l))
def zt:=λa (R:Value->za->Prop) c (b:za)=>
 opt (zb Tryz.prog 50 a 0) λd=>opt (zd Tryz.prog 3 d b) λe=>BK (zK e b a R c)
 (λg f=>rv [.bool true] f R)
def jH:=λb (R:Value->za->Prop) g h c (d:za)=>
 GD b true (λi=>opt (nb [c,.int .i64 1] (ze Tryz.prog .neq 3 (.tmp 76) (.const (.int .i64 1)) c (.int .i64 1))) λa=>i a d) (λa e=>opt (pk b a (.bool false)) λj=>CD j (λf=>rv [.bool false] e R)
 (λf=>f [nth g 0] e)
 (zt h R)) d
def jI:=λf d (R:Value->za->Prop) g h (e:za)=>
 opt (pk f h (.bool false)) λa=>GD a true (λi=>opt (zb Tryz.prog 50 d 0) λb=>i b e) (λb c=>GD a true (λj=>opt (zd Tryz.prog 3 b c) λk=>j k c) (jH a R g d) c) e
def jJ:=λa d (R:Value->za->Prop) e b (c:za)=>
 GD a true (λf=>opt (nb [b,.int .i64 5] (ze Tryz.prog .neq 3 (.tmp 71) (.const (.int .i64 5)) b (.int .i64 5))) λg=>f g c) (jI a d R e) c
def jK:=λf d (R:Value->za->Prop) g h (e:za)=>
 opt (pk f h (.bool false)) λa=>GD a true (λi=>opt (zb Tryz.prog 50 d 0) λb=>i b e) (λb c=>GD a true (λj=>opt (zd Tryz.prog 3 b c) λk=>j k c) (jJ a d R g) c) e
def jL:=λa d (R:Value->za->Prop) e b (c:za)=>
 GD a true (λf=>opt (nb [b,.int .i64 4] (ze Tryz.prog .neq 3 (.tmp 66) (.const (.int .i64 4)) b (.int .i64 4))) λg=>f g c) (jK a d R e) c
def jM:=λf d (R:Value->za->Prop) g h (e:za)=>
 opt (pk f h (.bool false)) λa=>GD a true (λi=>opt (zb Tryz.prog 50 d 0) λb=>i b e) (λb c=>GD a true (λj=>opt (zd Tryz.prog 3 b c) λk=>j k c) (jL a d R g) c) e
def jN:=λa d (R:Value->za->Prop) e b (c:za)=>
 GD a true (λf=>opt (nb [b,.int .i64 3] (ze Tryz.prog .neq 3 (.tmp 61) (.const (.int .i64 3)) b (.int .i64 3))) λg=>f g c) (jM a d R e) c
def jO:=λf d (R:Value->za->Prop) g h (e:za)=>
 opt (pk f h (.bool false)) λa=>GD a true (λi=>opt (zb Tryz.prog 50 d 0) λb=>i b e) (λb c=>GD a true (λj=>opt (zd Tryz.prog 3 b c) λk=>j k c) (jN a d R g) c) e
def jP:=λa d (R:Value->za->Prop) e b (c:za)=>
 GD a true (λf=>opt (nb [b,.int .i64 4] (ze Tryz.prog .eql 3 (.tmp 56) (.const (.int .i64 4)) b (.int .i64 4))) λg=>f g c) (jO a d R e) c
def kN:=λa d (R:Value->za->Prop) f (e:za)=>
 GD a true (λg=>opt (zb Tryz.prog 50 d 2) λb=>g b e) (λb c=>GD a true (λh=>opt (zd Tryz.prog 3 b c) λi=>h i c) (jP a d R f) c) e
def xV:=λb f (R:Value->za->Prop) g h i (c:za)=>
 GD b false (λj=>opt (pk f i (.bool false)) λa=>j a c) (λa d=>opt (pk b (.bool true) a) λk=>CD k (λe=>rv [.bool false] d R)
 (λe=>e [.bool false] d)
 (kN g h R)) c
def xW:=λa d (R:Value->za->Prop) e f b (c:za)=>
 GD a true (λg=>opt (nb [b,.int .i64 4] (ze Tryz.prog .eql 3 (.tmp 49) (.const (.int .i64 4)) b (.int .i64 4))) λh=>g h c) (xV d a R e f) c
def xX:=λd f (R:Value->za->Prop) g a (e:za)=>
 GD a true (λh=>opt (zb Tryz.prog 50 d 1) λb=>h b e) (λb c=>GD a true (λi=>opt (zd Tryz.prog 3 b c) λj=>i j c) (xW a f R g d) c) e
def uh:=λa e (R:Value->za->Prop) f g (c:za)=>
 GD a false (λh=>zR Tryz.prog (.func (.func 52) #[] #[]) [g] c (λb i=>h b i)) (λb d=>GD a false (λj=>j b d) (xX e a R f) d) c
def ui:=λc g d (R:Value->za->Prop) h i (e:za)=>
 GD c false (λj=>opt (pk g i (.bool false)) λa=>j a e) (λa b=>opt (pk c (.bool true) a) λf=>GD f false (λk=>opt (zd Tryz.prog 50 d b) λl=>k l b) (uh f d R h) b) e
def uj:=λb c g h (R:Value->za->Prop) i d (e:za)=>
 GD b false (λj=>opt (nb [d,.int .i64 15] (ze Tryz.prog .gtr 3 (.tmp 39) (.const (.int .i64 15)) d (.int .i64 15))) λa=>j a e) (λa f=>GD c true (λk=>opt (pk b (.bool true) a) λl=>k l f) (ui g c h R i) f) e
def uk:=λd f g (R:Value->za->Prop) h a (e:za)=>
 GD a false (λi=>opt (zb Tryz.prog 50 d 2) λb=>i b e) (λb c=>GD a false (λj=>opt (zd Tryz.prog 3 b c) λk=>j k c) (uj a f g d R h) c) e
def um:=λa f g (R:Value->za->Prop) h c (d:za)=>
 GD a true (λi=>opt (nb [c,.int .i64 0] (ze Tryz.prog .lss 3 (.tmp 35) (.const (.int .i64 0)) c (.int .i64 0))) λb=>i b d) (λb e=>GD a true (λj=>j b e) (uk f a g R h) e) d
def uo:=λd f (R:Value->za->Prop) g a (e:za)=>
 GD a true (λh=>opt (zb Tryz.prog 50 d 2) λb=>h b e) (λb c=>GD a true (λi=>opt (zd Tryz.prog 3 b c) λj=>i j c) (um a d f R g) c) e
def uq:=λe b f (R:Value->za->Prop) g (c:za)=>
 opt (pk e (.bool true) g) λa=>GD a false (λh=>h b c) (λi d=>GD a false (λj=>j i d) (uo f a R b) d) c
def ur:=λb f c g h (R:Value->za->Prop) i (d:za)=>
 GD b true (λj=>opt (pk f (.bool true) i) λa=>j a d) (λa e=>GD c false (λk=>opt (pk b a (.bool false)) λl=>k l e) (uq c g h R) e) d
def uu:=λa d e f g (R:Value->za->Prop) b (c:za)=>
 GD a false (λh=>opt (nb [b,.int .i64 15] (ze Tryz.prog .gtr 3 (.tmp 26) (.const (.int .i64 15)) b (.int .i64 15))) λi=>h i c) (ur d a e f g R) c
def uv:=λd f g h (R:Value->za->Prop) a (e:za)=>
 GD a false (λi=>opt (zb Tryz.prog 50 d 1) λb=>i b e) (λb c=>GD a false (λj=>opt (zd Tryz.prog 3 b c) λk=>j k c) (uu a f g h d R) c) e
def uw:=λa f g h (R:Value->za->Prop) c (d:za)=>
 GD a true (λi=>opt (nb [c,.int .i64 0] (ze Tryz.prog .lss 3 (.tmp 22) (.const (.int .i64 0)) c (.int .i64 0))) λb=>i b d) (λb e=>GD a true (λj=>j b e) (uv f a g h R) e) d
def ux:=λd f g (R:Value->za->Prop) a (e:za)=>
 GD a true (λh=>opt (zb Tryz.prog 50 d 1) λb=>h b e) (λb c=>GD a true (λi=>opt (zd Tryz.prog 3 b c) λj=>i j c) (uw a d f g R) c) e
def uy:=λd e f g (R:Value->za->Prop) h (b:za)=>
 opt (pk d (.bool true) h) λa=>GD a false (λi=>i e b) (λj c=>GD a false (λk=>k j c) (ux f a g R) c) b
def uz:=λa d e f (R:Value->za->Prop) b (c:za)=>
 GD a false (λg=>opt (nb [b,.int .i64 26] (ze Tryz.prog .gtr 3 (.tmp 15) (.const (.int .i64 26)) b (.int .i64 26))) λh=>g h c) (uy a d e f R) c
def uA:=λa (R:Value->za->Prop) f (b:za)=>
 opt (WM f 0) λh=>opt (WM f 1) λi=>opt (zb Tryz.prog 50 a 0) λj=>opt (zd Tryz.prog 3 j b) λg=>opt (nb [g,.int .i64 1] (ze Tryz.prog .lss 3 (.tmp 11) (.const (.int .i64 1)) g (.int .i64 1))) λc=>GD c false (λk=>opt (zb Tryz.prog 50 a 0) λd=>k d b) (λd e=>GD c false (λl=>opt (zd Tryz.prog 3 d e) λm=>l m e) (uz c h a i R) e) b
def gW:=λ(h:za) a (R:Value->za->Prop)=>
 opt (nb [a] (some (Value.cells a).toList)) λd=>nw h d 50 λb c=>opt (zd Tryz.prog 50 b c) λe=>zR Tryz.prog (.func (.func 51) #[] #[]) [e] c (uA b R)
theorem tQ(h:za)(t0:Value)(R:Value->za->Prop):Vz Tryz.prog (uI Tryz.prog qs) 200 29 [t0] h R=gW h t0 R:=by kernel_rfl
theorem tR{h:za}{t0:Value}{R:Value->za->Prop}(hw:gW h t0 R):DC Tryz.prog 29 [t0] h R:=yT mixed (n:=200) (by rw[tQ];exact hw)
def UX:=λa (c:za) (e:List Value->za->Prop)=>
 opt (nb [a,.int .i64 12] (ze Tryz.prog .eql 3 (.tmp 4) (.const (.int .i64 12)) a (.int .i64 12))) λd=>CD d (λb=>b [d] c)
 (λb=>opt (nb [a,.int .i64 17] (ze Tryz.prog .eql 3 (.tmp 4) (.const (.int .i64 17)) a (.int .i64 17))) λf=>b [f] c)
 (λg h=>e [nth g 0] h)
def Vb:=λa (b:za) (d:List Value->za->Prop)=>
 opt (nb [a,.int .i64 11] (ze Tryz.prog .eql 3 (.tmp 4) (.const (.int .i64 11)) a (.int .i64 11))) λc=>CD c (λe=>e [c] b)
 (UX a b)
 (λf g=>d [nth f 0] g)
def Xy:=λa (b:za) (d:List Value->za->Prop)=>
 opt (nb [a,.int .i64 10] (ze Tryz.prog .eql 3 (.tmp 4) (.const (.int .i64 10)) a (.int .i64 10))) λc=>CD c (λe=>e [c] b)
 (Vb a b)
 (λf g=>d [nth f 0] g)
def Yp:=λa (b:za) (d:List Value->za->Prop)=>
 opt (nb [a,.int .i64 9] (ze Tryz.prog .eql 3 (.tmp 4) (.const (.int .i64 9)) a (.int .i64 9))) λc=>CD c (λe=>e [c] b)
 (Xy a b)
 (λf g=>d [nth f 0] g)
def ZJ:=λa (b:za) (d:List Value->za->Prop)=>
 opt (nb [a,.int .i64 8] (ze Tryz.prog .eql 3 (.tmp 4) (.const (.int .i64 8)) a (.int .i64 8))) λc=>CD c (λe=>e [c] b)
 (Yp a b)
 (λf g=>d [nth f 0] g)
def j1:=λa (b:za) (d:List Value->za->Prop)=>
 opt (nb [a,.int .i64 7] (ze Tryz.prog .eql 3 (.tmp 4) (.const (.int .i64 7)) a (.int .i64 7))) λc=>CD c (λe=>e [c] b)
 (ZJ a b)
 (λf g=>d [nth f 0] g)
def ji:=λa (b:za) (d:List Value->za->Prop)=>
 opt (nb [a,.int .i64 6] (ze Tryz.prog .eql 3 (.tmp 4) (.const (.int .i64 6)) a (.int .i64 6))) λc=>CD c (λe=>e [c] b)
 (j1 a b)
 (λf g=>d [nth f 0] g)
def q7:=λa (b:za) (d:List Value->za->Prop)=>
 opt (nb [a,.int .i64 5] (ze Tryz.prog .eql 3 (.tmp 4) (.const (.int .i64 5)) a (.int .i64 5))) λc=>CD c (λe=>e [c] b)
 (ji a b)
 (λf g=>d [nth f 0] g)
def qI:=λa (b:za) (d:List Value->za->Prop)=>
 opt (nb [a,.int .i64 3] (ze Tryz.prog .eql 3 (.tmp 4) (.const (.int .i64 3)) a (.int .i64 3))) λc=>CD c (λe=>e [c] b)
 (q7 a b)
 (λf g=>d [nth f 0] g)
def uF:=λa (b:za) (d:List Value->za->Prop)=>
 opt (nb [a,.int .i64 2] (ze Tryz.prog .eql 3 (.tmp 4) (.const (.int .i64 2)) a (.int .i64 2))) λc=>CD c (λe=>e [c] b)
 (qI a b)
 (λf g=>d [nth f 0] g)
def v5:=λa (b:za) (R:Value->za->Prop) (f:List Value->za->Prop)=>
 opt (nb [a,.int .i64 1] (ze Tryz.prog .eql 3 (.tmp 4) (.const (.int .i64 1)) a (.int .i64 1))) λc=>CD c (λg=>g [c] b)
 (uF a b)
 (λh d=>CD (nth h 0) (λe=>rv [.bool true] d R)
 (λe=>e [.bool false] d)
 (λi j=>f [nth i 0] j))
def im:=λ(h:za) a (R:Value->za->Prop)=>
 opt (nb [a] (some (Value.cells a).toList)) λc=>nw h c 50 λd b=>opt (zb Tryz.prog 50 d 0) λe=>opt (zd Tryz.prog 3 e b) λf=>BK (v5 f b R)
 (λi g=>rv [.bool false] g R)
theorem Ah(h:za)(t0:Value)(R:Value->za->Prop):Vz Tryz.prog (uI Tryz.prog qs) 200 52 [t0] h R=im h t0 R:=by kernel_rfl
theorem Aj{h:za}{t0:Value}{R:Value->za->Prop}(hw:im h t0 R):DC Tryz.prog 52 [t0] h R:=yT mixed (n:=200) (by rw[Ah];exact hw)
def ks:=λa (c:za) (e:List Value->za->Prop)=>
 opt (nb [a,.int .i64 14] (ze Tryz.prog .eql 3 (.tmp 23) (.const (.int .i64 14)) a (.int .i64 14))) λd=>CD d (λb=>b [d] c)
 (λb=>opt (nb [a,.int .i64 15] (ze Tryz.prog .eql 3 (.tmp 23) (.const (.int .i64 15)) a (.int .i64 15))) λf=>b [f] c)
 (λg h=>e [nth g 0] h)
def qX:=λa (b:za) (d:List Value->za->Prop)=>
 opt (nb [a,.int .i64 10] (ze Tryz.prog .eql 3 (.tmp 23) (.const (.int .i64 10)) a (.int .i64 10))) λc=>CD c (λe=>e [c] b)
 (ks a b)
 (λf g=>d [nth f 0] g)
def qC:=λa (b:za) (d:List Value->za->Prop)=>
 opt (nb [a,.int .i64 7] (ze Tryz.prog .eql 3 (.tmp 23) (.const (.int .i64 7)) a (.int .i64 7))) λc=>CD c (λe=>e [c] b)
 (qX a b)
 (λf g=>d [nth f 0] g)
def qd:=λa (b:za) (d:List Value->za->Prop)=>
 opt (nb [a,.int .i64 5] (ze Tryz.prog .eql 3 (.tmp 23) (.const (.int .i64 5)) a (.int .i64 5))) λc=>CD c (λe=>e [c] b)
 (qC a b)
 (λf g=>d [nth f 0] g)
def uY:=λa (b:za) (d:List Value->za->Prop)=>
 opt (nb [a,.int .i64 4] (ze Tryz.prog .eql 3 (.tmp 23) (.const (.int .i64 4)) a (.int .i64 4))) λc=>CD c (λe=>e [c] b)
 (qd a b)
 (λf g=>d [nth f 0] g)
def uD:=λa (b:za) (d:List Value->za->Prop)=>
 opt (nb [a,.int .i64 3] (ze Tryz.prog .eql 3 (.tmp 23) (.const (.int .i64 3)) a (.int .i64 3))) λc=>CD c (λe=>e [c] b)
 (uY a b)
 (λf g=>d [nth f 0] g)
def ua:=λd (R:Value->za->Prop) (e:List Value->za->Prop) f (a:za)=>
 CD (nth f 0) (λb=>rv [d,.bool true] a R)
 (λb=>b [.bool false,.bool false] a)
 (λc g=>e [nth c 0,nth c 1] g)
def ub:=λa (b:za) d (R:Value->za->Prop) (e:List Value->za->Prop)=>
 opt (nb [a,.int .i64 1] (ze Tryz.prog .eql 3 (.tmp 23) (.const (.int .i64 1)) a (.int .i64 1))) λc=>CD c (λf=>f [c] b)
 (uD a b)
 (ua d R e)
def uc:=λc d (R:Value->za->Prop) e (a:za)=>
 opt (pk c (.bool true) e) λb=>opt (zb Tryz.prog 50 d 0) λf=>opt (zd Tryz.prog 3 f a) λg=>BK (ub g a b R)
 (λi h=>rv [b,.bool false] h R)
def vu:=λa d (R:Value->za->Prop) b (c:za)=>
 GD a false (λe=>opt (nb [b,.int .i64 16] (ze Tryz.prog .eql 3 (.tmp 19) (.const (.int .i64 16)) b (.int .i64 16))) λf=>e f c) (uc a d R) c
def vw:=λf d (R:Value->za->Prop) g (e:za)=>
 opt (pk f (.bool true) g) λa=>GD a false (λh=>opt (zb Tryz.prog 50 d 0) λb=>h b e) (λb c=>GD a false (λi=>opt (zd Tryz.prog 3 b c) λj=>i j c) (vu a d R) c) e
def vx:=λa d (R:Value->za->Prop) b (c:za)=>
 GD a false (λe=>opt (nb [b,.int .i64 15] (ze Tryz.prog .eql 3 (.tmp 14) (.const (.int .i64 15)) b (.int .i64 15))) λf=>e f c) (vw a d R) c
def vy:=λf d (R:Value->za->Prop) g (e:za)=>
 opt (pk f (.bool true) g) λa=>GD a false (λh=>opt (zb Tryz.prog 50 d 0) λb=>h b e) (λb c=>GD a false (λi=>opt (zd Tryz.prog 3 b c) λj=>i j c) (vx a d R) c) e
def vz:=λa d (R:Value->za->Prop) b (c:za)=>
 GD a false (λe=>opt (nb [b,.int .i64 4] (ze Tryz.prog .eql 3 (.tmp 9) (.const (.int .i64 4)) b (.int .i64 4))) λf=>e f c) (vy a d R) c
def vA:=λd (R:Value->za->Prop) a (e:za)=>
 GD a false (λf=>opt (zb Tryz.prog 50 d 0) λb=>f b e) (λb c=>GD a false (λg=>opt (zd Tryz.prog 3 b c) λh=>g h c) (vz a d R) c) e
def p9:=λ(h:za) a (R:Value->za->Prop)=>
 opt (nb [a] (some (Value.cells a).toList)) λd=>nw h d 50 λb c=>opt (zd Tryz.prog 50 b c) λe=>zR Tryz.prog (.func (.func 52) #[] #[]) [e] c (vA b R)
theorem CH(h:za)(t0:Value)(R:Value->za->Prop):Vz Tryz.prog (uI Tryz.prog qs) 200 51 [t0] h R=p9 h t0 R:=by kernel_rfl
theorem CI{h:za}{t0:Value}{R:Value->za->Prop}(hw:p9 h t0 R):DC Tryz.prog 51 [t0] h R:=yT mixed (n:=200) (by rw[CH];exact hw)
def KD:=λb (R:Value->za->Prop) c (d:za)=>
 GD b true (λe=>opt (nb [c,.int .i64 2147483647] (ze Tryz.prog .leq 2 (.tmp 6) (.const (.int .i64 2147483647)) c (.int .i64 2147483647))) λa=>e a d) (λa f=>opt (pk b a (.bool false)) λg=>rv [g] f R) d
def ra:=λ(h:za) a (R:Value->za->Prop)=>
 opt (nb [a,.int .i64 (-2147483648)] (ze Tryz.prog .geq 2 (.tmp 3) (.const (.int .i64 (-2147483648))) a (.int .i64 (-2147483648)))) λb=>GD b true (λc=>c a h) (KD b R) h
theorem CL(h:za)(t0:Value)(R:Value->za->Prop):Vz Tryz.prog (uI Tryz.prog qs) 200 53 [t0] h R=ra h t0 R:=by kernel_rfl
theorem CM{h:za}{t0:Value}{R:Value->za->Prop}(hw:ra h t0 R):DC Tryz.prog 53 [t0] h R:=yT mixed (n:=200) (by rw[CL];exact hw)
def fE:=λb (R:Value->za->Prop) c (d:za)=>
 GD b true (λe=>opt (nb [c,.int .i64 26] (ze Tryz.prog .leq 3 (.tmp 6) (.const (.int .i64 26)) c (.int .i64 26))) λa=>e a d) (λa f=>opt (pk b a (.bool false)) λg=>rv [g] f R) d
def HG:=λ(h:za) a (R:Value->za->Prop)=>
 opt (nb [a,.int .i64 21] (ze Tryz.prog .geq 3 (.tmp 3) (.const (.int .i64 21)) a (.int .i64 21))) λb=>GD b true (λc=>c a h) (fE b R) h
theorem HH(h:za)(t0:Value)(R:Value->za->Prop):Vz Tryz.prog (uI Tryz.prog qs) 200 55 [t0] h R=HG h t0 R:=by kernel_rfl
theorem HI{h:za}{t0:Value}{R:Value->za->Prop}(hw:HG h t0 R):DC Tryz.prog 55 [t0] h R:=yT mixed (n:=200) (by rw[HH];exact hw)
def XZ:=λb (R:Value->za->Prop) c (d:za)=>
 GD b false (λe=>opt (nb [c,.int .i64 18] (ze Tryz.prog .eql 3 (.tmp 22) (.const (.int .i64 18)) c (.int .i64 18))) λa=>e a d) (λa f=>opt (pk b (.bool true) a) λg=>rv [g] f R) d
def X0:=λb g (R:Value->za->Prop) c (d:za)=>
 GD b false (λh=>opt (nb [c,.int .i64 17] (ze Tryz.prog .eql 3 (.tmp 18) (.const (.int .i64 17)) c (.int .i64 17))) λa=>h a d) (λa e=>opt (pk b (.bool true) a) λf=>GD f false (λi=>i g e) (XZ f R) e) d
def X1:=λb c (R:Value->za->Prop) d (e:za)=>
 GD b false (λh=>opt (nb [d,.int .i64 16] (ze Tryz.prog .eql 3 (.tmp 14) (.const (.int .i64 16)) d (.int .i64 16))) λa=>h a e) (λa f=>opt (pk b (.bool true) a) λg=>GD g false (λi=>i c f) (X0 g c R) f) e
def X2:=λb c (R:Value->za->Prop) d (e:za)=>
 GD b false (λh=>opt (nb [d,.int .i64 13] (ze Tryz.prog .eql 3 (.tmp 10) (.const (.int .i64 13)) d (.int .i64 13))) λa=>h a e) (λa f=>opt (pk b (.bool true) a) λg=>GD g false (λi=>i c f) (X1 g c R) f) e
def X3:=λb c (R:Value->za->Prop) d (e:za)=>
 GD b false (λh=>opt (nb [d,.int .i64 12] (ze Tryz.prog .eql 3 (.tmp 6) (.const (.int .i64 12)) d (.int .i64 12))) λa=>h a e) (λa f=>opt (pk b (.bool true) a) λg=>GD g false (λi=>i c f) (X2 g c R) f) e
def Cq:=λ(h:za) a (R:Value->za->Prop)=>
 opt (nb [a,.int .i64 11] (ze Tryz.prog .eql 3 (.tmp 3) (.const (.int .i64 11)) a (.int .i64 11))) λb=>GD b false (λc=>c a h) (X3 b a R) h
theorem FB(h:za)(t0:Value)(R:Value->za->Prop):Vz Tryz.prog (uI Tryz.prog qs) 200 54 [t0] h R=Cq h t0 R:=by kernel_rfl
theorem FC{h:za}{t0:Value}{R:Value->za->Prop}(hw:Cq h t0 R):DC Tryz.prog 54 [t0] h R:=yT mixed (n:=200) (by rw[FB];exact hw)
def Kl:=λd a (R:Value->za->Prop) (e:List Value->za->Prop) f (b:za)=>
 opt (pk d f (.bool false)) λg=>CD g (λc=>rv [nth a 1] b R)
 (λc=>c [nth a 0] b)
 (λh i=>e [nth h 0] i)
def Km:=λa f g (R:Value->za->Prop) (h:List Value->za->Prop) b (c:za)=>
 GD a true (λi=>i f c) (λd e=>GD a true (λj=>opt (nb [b,d] (ze Tryz.prog .eql 3 (.tmp 26) (.tmp 27) b d)) λk=>j k e) (Kl a g R h) e) c
def Kn:=λa e f (R:Value->za->Prop) (g:List Value->za->Prop) h (d:za)=>
 GD a true (λi=>opt (zb Tryz.prog 50 h 5) λb=>i b d) (λb c=>GD a true (λj=>opt (zd Tryz.prog 3 b c) λk=>j k c) (Km a e f R g) c) d
def Ko:=λa b e (R:Value->za->Prop) (f:List Value->za->Prop) g (c:za)=>
 GD a true (λh=>h (nth b 1) c) (λi d=>GD a true (λj=>opt (zA Tryz.prog 45 g i) λk=>j k d) (Kn a e b R f) d) c
def Kp:=λe (a:za) f h (R:Value->za->Prop) (i:List Value->za->Prop)=>
 opt (zb Tryz.prog 47 e 1) λj=>opt (zd Tryz.prog 45 j a) λk=>opt (zA Tryz.prog 45 k (nth f 1)) λl=>opt (zb Tryz.prog 50 l 0) λm=>opt (zd Tryz.prog 3 m a) λg=>opt (nb [g,.int .i64 20] (ze Tryz.prog .eql 3 (.tmp 18) (.const (.int .i64 20)) g (.int .i64 20))) λb=>GD b true (λn=>opt (zb Tryz.prog 47 e 1) λc=>n c a) (λc d=>GD b true (λo=>opt (zd Tryz.prog 45 c d) λp=>o p d) (Ko b f h R i) d) a
def cJ:=λa (b:List Value->za->Prop) c (d:za)=>
 opt (nb [nth a 1,.int .i64 1] (ze Tryz.prog .add 3 (.tmp 11) (.const (.int .i64 1)) (nth a 1) (.int .i64 1))) λe=>b [nth c 0,e] d
def nc:=λb (h:List Value->za->Prop) i (R:Value->za->Prop) a (c:za) (j:List Value->za->Prop)=>
 opt (zb Tryz.prog 47 b 1) λk=>opt (zd Tryz.prog 45 k c) λd=>xK (nb [d] (zk Tryz.prog .len [45] 3 [d] c)) λe f=>opt (nb [nth a 1,e] (ze Tryz.prog .lss 3 (.tmp 6) (.tmp 9) (nth a 1) e)) λl=>CD l (λg=>g [] f)
 (λg=>h [nth a 0] f)
 (λn m=>BK (Kp b m a i R)
 (cJ a j))
def pS:=λ(h:za) a b (R:Value->za->Prop)=>
 opt (nb [a] (some (Value.cells a).toList)) λc=>nw h c 47 λd e=>BK (λf=>LP (nc d f b R)
 [.int .i64 0,.int .i64 0] e)
 (λi g=>rv [.int .i64 (-1)] g R)
theorem Cf(h:za)(t0 t1:Value)(R:Value->za->Prop):Vz Tryz.prog (uI Tryz.prog qs) 200 30 [t0,t1] h R=pS h t0 t1 R:=by kernel_rfl
theorem Cg{h:za}{t0 t1:Value}{R:Value->za->Prop}(hw:pS h t0 t1 R):DC Tryz.prog 30 [t0,t1] h R:=yT mixed (n:=200) (by rw[Cf];exact hw)
theorem yR(b off:Nat)(h:za):zd Tryz.prog 2 (.pointer (some ⟨b,off,none⟩)) h=zw h b off:=yc (by kernel_rfl) b off h
theorem u5(b off:Nat)(h:za):zd Tryz.prog 22 (.pointer (some ⟨b,off,none⟩)) h=zw h b off:=yc (by kernel_rfl) b off h
theorem vM(b off:Nat)(h:za):zd Tryz.prog 23 (.pointer (some ⟨b,off,none⟩)) h=zw h b off:=yc (by kernel_rfl) b off h
theorem zh(b off:Nat)(h:za):zd Tryz.prog 3 (.pointer (some ⟨b,off,none⟩)) h=zw h b off:=yc (by kernel_rfl) b off h
theorem kO(b off:Nat)(h:za):zd Tryz.prog 45 (.pointer (some ⟨b,off,none⟩)) h=zw h b off:=yc (by kernel_rfl) b off h
theorem QQ(b off:Nat)(h:za):zd Tryz.prog 47 (.pointer (some ⟨b,off,none⟩)) h=yg h b off 2:=u0 (by kernel_rfl) (by kernel_rfl) b off h
theorem v8(b off:Nat)(h:za):zd Tryz.prog 50 (.pointer (some ⟨b,off,none⟩)) h=yg h b off 7:=u0 (by kernel_rfl) (by kernel_rfl) b off h
theorem Ev(b off:Nat)(l:List Value)(h:za)(hv:l.length=2):zn Tryz.prog 47 (.pointer (some ⟨b,off,none⟩)) (.agg l.toArray) h=vi h b off l:=qf (by kernel_rfl) b off l h hv
theorem oI(b off:Nat)(l:List Value)(h:za)(hv:l.length=7):zn Tryz.prog 50 (.pointer (some ⟨b,off,none⟩)) (.agg l.toArray) h=vi h b off l:=qf (by kernel_rfl) b off l h hv
theorem Ez:wD Tryz.prog 47=some (.agg #[(.string ⟨#[]⟩),(.slice none 0 0)]):=zE (by kernel_rfl)
theorem oL:wD Tryz.prog 50=some (.agg #[(.int .i64 0),(.int .i64 0),(.int .i64 0),(.int .i64 0),(.int .i64 0),(.int .i64 0),(.int .i64 0)]):=zE (by kernel_rfl)
theorem wI(b off:Nat):zb Tryz.prog 25 (.pointer (some ⟨b,off,none⟩)) 0=some (.pointer (some ⟨b,off,none⟩)):=zE (by kernel_rfl)
theorem yM(b off:Nat):zb Tryz.prog 25 (.pointer (some ⟨b,off,none⟩)) 1=some (.pointer (some ⟨b,off+1,none⟩)):=zE (by kernel_rfl)
theorem jm(b off:Nat):zb Tryz.prog 25 (.pointer (some ⟨b,off,none⟩)) 2=some (.pointer (some ⟨b,off+2,none⟩)):=zE (by kernel_rfl)
theorem j4(b off:Nat):zb Tryz.prog 25 (.pointer (some ⟨b,off,none⟩)) 3=some (.pointer (some ⟨b,off+3,none⟩)):=zE (by kernel_rfl)
theorem vD(b off:Nat):zb Tryz.prog 47 (.pointer (some ⟨b,off,none⟩)) 1=some (.pointer (some ⟨b,off+1,none⟩)):=zE (by kernel_rfl)
theorem zg(b off:Nat):zb Tryz.prog 50 (.pointer (some ⟨b,off,none⟩)) 0=some (.pointer (some ⟨b,off,none⟩)):=zE (by kernel_rfl)
theorem wJ(b off:Nat):zb Tryz.prog 50 (.pointer (some ⟨b,off,none⟩)) 1=some (.pointer (some ⟨b,off+1,none⟩)):=zE (by kernel_rfl)
theorem xM(b off:Nat):zb Tryz.prog 50 (.pointer (some ⟨b,off,none⟩)) 2=some (.pointer (some ⟨b,off+2,none⟩)):=zE (by kernel_rfl)
theorem zF(b off:Nat):zb Tryz.prog 50 (.pointer (some ⟨b,off,none⟩)) 3=some (.pointer (some ⟨b,off+3,none⟩)):=zE (by kernel_rfl)
theorem U9(b off:Nat):zb Tryz.prog 50 (.pointer (some ⟨b,off,none⟩)) 4=some (.pointer (some ⟨b,off+4,none⟩)):=zE (by kernel_rfl)
theorem vh(b off:Nat):zb Tryz.prog 50 (.pointer (some ⟨b,off,none⟩)) 5=some (.pointer (some ⟨b,off+5,none⟩)):=zE (by kernel_rfl)
theorem zV(b off:Nat):zb Tryz.prog 50 (.pointer (some ⟨b,off,none⟩)) 6=some (.pointer (some ⟨b,off+6,none⟩)):=zE (by kernel_rfl)
theorem I7(b off len c:Nat)(k:IntKind)(i:Int):zA Tryz.prog 22 (.slice (some ⟨b,off,none⟩) len c) (.int k i)=if 0<=i/\i<len then some (.pointer (some ⟨b,off+i.toNat*1,none⟩)) else none:=xp (e:=3) (by kernel_rfl) (by kernel_rfl)
theorem Bo(b off len c:Nat)(k:IntKind)(i:Int):zA Tryz.prog 23 (.slice (some ⟨b,off,none⟩) len c) (.int k i)=if 0<=i/\i<len then some (.pointer (some ⟨b,off+i.toNat*2,none⟩)) else none:=xp (e:=47) (by kernel_rfl) (by kernel_rfl)
theorem eW(b off len c:Nat)(k:IntKind)(i:Int):zA Tryz.prog 45 (.slice (some ⟨b,off,none⟩) len c) (.int k i)=if 0<=i/\i<len then some (.pointer (some ⟨b,off+i.toNat*7,none⟩)) else none:=xp (e:=50) (by kernel_rfl) (by kernel_rfl)
theorem sk(r:TypeId)(a:Option Addr)(n c:Nat)(h:za):zk Tryz.prog .len [22] r [.slice a n c] h=some (.int .i64 n,h):=zE (by kernel_rfl)
theorem dV(r:TypeId)(a:Option Addr)(n c:Nat)(h:za):zk Tryz.prog .len [23] r [.slice a n c] h=some (.int .i64 n,h):=zE (by kernel_rfl)
theorem lF(r:TypeId)(a:Option Addr)(n c:Nat)(h:za):zk Tryz.prog .len [45] r [.slice a n c] h=some (.int .i64 n,h):=zE (by kernel_rfl)
end Go.Ar
