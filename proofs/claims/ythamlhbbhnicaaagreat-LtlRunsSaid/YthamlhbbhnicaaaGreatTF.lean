/- A part of the proof. -/
import Derived.Test.YthamlhbbhnicaaaGreatChecked
import Derived.KernelRfl
import Derived.Test.YthamlhbbhnicaaaGreatTD
import Derived.Test.YthamlhbbhnicaaaGreatTE
set_option linter.unusedVariables false
set_option linter.unusedSimpArgs false
set_option maxRecDepth 100000
namespace Go.Mem
open Go.Ai Go.Proofs Go.Proofs.Tryz
noncomputable abbrev zz:=prog
abbrev VK:=aaa->za->Prop
abbrev LK:=List aaa->za->Prop
abbrev ci(n:Int):Operand := .const (pm n)
abbrev fn(n:Nat):aaa := .func (.func n) #[] #[]
variable {h:za}{t0 t1 t2 t3 t4 t5 t6:aaa}{R:VK}
def qs:FuncId->Nat:=λg=>0
theorem mixed:prog.follows .mixedOrders=true:=acY Tryz.checked
theorem zU{f:FuncId}{args:List aaa}{X:Prop}(e:wpF zz (UL zz qs) 200 f args h R=X)(hw:X):DC zz f args h R:=fe mixed (q:=qs) (n:=200) (Eq.mpr e hw)
def zhG:=λ(h:za) f c (R:VK)=>
 opt (nb [c,pm 1] (zX zz .lss 3 (.tmp 5) (ci 1) c (pm 1))) λb=>GD b false (λP=>P c h) (λy z=>GD b false (λQ=>Q f z) (λS A=>GD b false (λT=>opt (x0 S) λg=>T g A) (λg B=>GD b false (λU=>opt (zg zz 116 g 0) λi=>U i B) (λi j=>GD b false (λV=>opt (zd zz 114 i j) λd=>V d j) (λd C=>GD b false (λW=>zQ (nb [d] (zB zz .len [114] 3 [d] C)) λe X=>W e X) (λe D=>GD b false (λY=>opt (nb [y,e] (zX zz .gtr 3 (.tmp 8) (.tmp 13) y e)) λk=>Y k D) (λk E=>opt (pk b (.bool true) k) λa=>GD a false (λZ=>Z f E) (λaa F=>GD a false (λab=>opt (x0 aa) λl=>ab l F) (λl G=>GD a false (λac=>opt (zg zz 116 l 0) λm=>ac m G) (λm n=>GD a false (λad=>opt (zd zz 114 m n) λo=>ad o n) (λo H=>GD a false (λae=>ae c H) (λI J=>GD a false (λaf=>opt (nb [I,pm 1] (zX zz .sub 3 (.tmp 21) (ci 1) I (pm 1))) λp=>af p J) (λp K=>GD a false (λag=>opt (yh zz 114 o p) λq=>ag q K) (λq r=>GD a false (λah=>opt (zd zz 120 q r) λs=>ah s r) (λs L=>GD a false (λai=>opt (x0 s) λt=>ai t L) (λt M=>GD a false (λaj=>opt (zg zz 123 t 2) λu=>aj u M) (λu v=>GD a false (λak=>opt (zd zz 4 u v) λw=>ak w v) (λw N=>opt (pk a (.bool true) w) λal=>CD al (λO=>rv [.pointer none] N R)
 (λO=>O [.pointer none] N)
 (λau x=>opt (x0 f) λam=>opt (zg zz 116 am 0) λan=>opt (zd zz 114 an x) λao=>opt (nb [c,pm 1] (zX zz .sub 3 (.tmp 33) (ci 1) c (pm 1))) λap=>opt (yh zz 114 ao ap) λaq=>opt (zd zz 120 aq x) λar=>rv [ar] x R)) v) M) L) r) K) J) H) n) G) F) E) D) C) j) B) A) z) h
theorem zef(hw:zhG h t0 t1 R):DC zz 61 [t0,t1] h R:=zU (by kernel_rfl) hw
def zbg:=λ(h:za) k (R:VK)=>
 opt (nb [k] (some (Value.cells k).toList)) λs=>nw h s 66 λb a=>opt (zg zz 66 b 0) λt=>opt (zd zz 3 t a) λc=>BK (λu=>opt (nb [c,pm 0] (zX zz .eql 3 (.tmp 4) (ci 0) c (pm 0))) λv=>CD v (λl=>opt (zd zz 66 b a) λm=>opt (nb [] (zY zz 66 [])) λn=>opt (nb [m,n] (zX zz .eql 66 (.tmp 7) (.tmp 8) m n)) λw=>rv [w] a R)
 (λl=>opt (nb [c,pm 1] (zX zz .eql 3 (.tmp 4) (ci 1) c (pm 1))) λx=>CD x (λo=>opt (zg zz 66 b 2) λy=>opt (zd zz 3 y a) λp=>opt (nb [p,pm 0] (zX zz .eql 3 (.tmp 13) (ci 0) p (pm 0))) λz=>rv [z] a R)
 (λo=>o [.bool false] a)
 (λA B=>l [nth A 0] B))
 (λC D=>u [nth C 0] D))
 (λK f=>opt (zg zz 66 b 0) λE=>opt (zd zz 3 E f) λq=>opt (nb [q,pm 2] (zX zz .eql 3 (.tmp 16) (.const (pm 2)) q (pm 2))) λd=>GD d true (λF=>opt (zg zz 66 b 2) λg=>F g f) (λg i=>GD d true (λG=>opt (zd zz 3 g i) λe=>G e i) (λe r=>GD d true (λH=>opt (nb [e,pm 1] (zX zz .geq 3 (.tmp 20) (ci 1) e (pm 1))) λj=>H j r) (λj I=>opt (pk d j (.bool false)) λJ=>rv [J] I R) r) i) f)
theorem TA(hw:zbg h t0 R):DC zz 95 [t0] h R:=zU (by kernel_rfl) hw
def zfr:=λ(h:za) (R:VK)=>
 opt (nb [] (zY zz 116 [])) λa=>opt (nb [a] (some (Value.cells a).toList)) λb=>nw h b 116 λc d=>rv [c] d R
theorem zbe(hw:zfr h  R):DC zz 33 [] h R:=zU (by kernel_rfl) hw
def PY:=λ(h:za) a b (R:VK)=>
 BK (λA=>opt (nb [b,pm 0] (zX zz .lss 3 (.tmp 7) (ci 0) b (pm 0))) λc=>GD c false (λB=>B b h) (λf g=>GD c false (λC=>opt (nb [f,pm 65536] (zX zz .gtr 3 (.tmp 10) (.const (pm 65536)) f (pm 65536))) λd=>C d g) (λd e=>opt (pk c (.bool true) d) λD=>CD D (λi=>rv [pm 0,pm 1] e R)
 (λi=>opt (x0 a) λE=>opt (zg zz 116 E 0) λF=>opt (zd zz 114 F e) λj=>zQ (nb [j] (zB zz .len [114] 3 [j] e)) λk l=>opt (nb [k,pm 100000] (zX zz .geq 3 (.tmp 18) (.const (pm 100000)) k (pm 100000))) λG=>CD G (λm=>rv [pm 0,pm 2] l R)
 (λm=>m [pm 0,pm 0] l)
 (λn H=>i [nth n 0,nth n 1] H))
 (λo I=>A [nth o 0,nth o 1] I)) g) h)
 (λaa p=>opt (x0 a) λJ=>opt (zg zz 116 J 0) λK=>opt (zd zz 114 K p) λq=>opt (nb [b] (zY zz 123 [(0,b)])) λr=>opt (nb [r] (some (Value.cells r).toList)) λL=>nw p L 123 λs M=>zQ (nb [s] (zH zz 114 1 [(0,s)] M)) λt N=>zQ (nb [q,t] (zB zz .append [114,114] 114 [q,t] N)) λu O=>opt (x0 a) λP=>opt (zg zz 116 P 0) λQ=>opt (nb [u] (xS zz 114 Q u O)) λv=>opt (x0 a) λS=>opt (zg zz 116 S 1) λT=>opt (zd zz 3 T v) λw=>opt (nb [w,pm 1] (zX zz .add 3 (.tmp 35) (ci 1) w (pm 1))) λx=>opt (x0 a) λU=>opt (zg zz 116 U 1) λV=>opt (nb [x] (xS zz 3 V x v)) λy=>opt (x0 a) λW=>opt (zg zz 116 W 0) λX=>opt (zd zz 114 X y) λz=>zQ (nb [z] (zB zz .len [114] 3 [z] y)) λY Z=>rv [Y,pm 0] Z R)
theorem NT(hw:PY h t0 t1 R):DC zz 35 [t0,t1] h R:=zU (by kernel_rfl) hw
def PZ:=λ(h:za) O m n o (R:VK)=>
 opt (nb [n] (some (Value.cells n).toList)) λP=>nw h P 66 λQ S=>opt (nb [o] (some (Value.cells o).toList)) λT=>nw S T 66 λb p=>opt (zd zz 66 b p) λU=>zq zz (fn 95) [U] p λV q=>opt (Z7 zz .not V) λW=>CD W (λf=>opt (nb [] (zY zz 66 [])) λr=>opt (nb [r] (xS zz 66 b r q)) λX=>f [] X)
 (λf=>f [] q)
 (λa6 g=>opt (zg zz 66 b 0) λY=>opt (zd zz 3 Y g) λs=>opt (nb [s,pm 2] (zX zz .eql 3 (.tmp 17) (.const (pm 2)) s (pm 2))) λi=>GD i true (λZ=>Z m g) (λt u=>GD i true (λaa=>opt (nb [t,pm 8] (zX zz .neq 3 (.tmp 20) (.const (pm 8)) t (pm 8))) λj=>aa j u) (λj v=>opt (pk i j (.bool false)) λab=>CD ab (λw=>rv [.bool false] v R)
 (λw=>w [.bool false] v)
 (λac x=>opt (zd zz 66 Q x) λad=>zq zz (fn 94) [O,m,ad,.bool true] x λy z=>opt (Yk y 0) λc=>opt (Yk y 1) λae=>opt (Z7 zz .not ae) λaf=>CD af (λA=>rv [.bool false] z R)
 (λA=>A [nth ac 0] z)
 (λa7 ag=>zQ (nb [c] (zB zz .len [153] 3 [c] ag)) λB ah=>BK (λai=>LP (λa C aj=>opt (nb [nth a 0,B] (zX zz .lss 3 (.tmp 34) (.tmp 33) (nth a 0) B)) λak=>CD ak (λD=>D [] C)
 (λD=>ai [] C)
 (λa8 d=>BK (λal=>opt (zg zz 66 b 0) λam=>opt (zd zz 3 am d) λe=>BK (λan=>opt (nb [e,pm 1] (zX zz .eql 3 (.tmp 38) (ci 1) e (pm 1))) λao=>CD ao (λk=>opt (zg zz 66 b 1) λap=>opt (zd zz 2 ap d) λE=>opt (nb [pm 8,nth a 0] (zX zz .mul 3 (.const (pm 8)) (.tmp 49) (pm 8) (nth a 0))) λF=>opt (nb [E,F] (zX zz .shr 2 (.tmp 48) (.tmp 50) E F)) λG=>zQ (nb [G] (ud zz 2 5 G d)) λH aq=>opt (nb [.int .u8 1,H] (zY zz 126 [(0,(.int .u8 1)),(1,H)])) λI=>opt (yh zz 153 c (nth a 0)) λar=>opt (nb [I] (xS zz 126 ar I aq)) λau=>k [] au)
 (λk=>opt (nb [e,pm 2] (zX zz .eql 3 (.tmp 38) (.const (pm 2)) e (pm 2))) λav=>CD av (λl=>zQ (nb [nth a 0] (ud zz 3 5 (nth a 0) d)) λJ K=>opt (zd zz 66 b K) λL=>opt (nb [.int .u8 2,J,L] (zY zz 126 [(0,(.int .u8 2)),(1,J),(2,L)])) λM=>opt (yh zz 153 c (nth a 0)) λaw=>opt (nb [M] (xS zz 126 aw M K)) λax=>l [] ax)
 (λl=>opt (nb [] (zY zz 126 [])) λN=>opt (yh zz 153 c (nth a 0)) λay=>opt (nb [N] (xS zz 126 ay N d)) λaz=>l [] az)
 (λa9 a0=>k [] a0))
 (λba a1=>an [] a1))
 (λbb a2=>al [] a2))
 (λbc a3=>opt (nb [nth a 0,pm 1] (zX zz .add 3 (.tmp 34) (ci 1) (nth a 0) (pm 1))) λa4=>aj [a4] a3)))
 [pm 0] ah)
 (λbd a5=>rv [.bool true] a5 R)))) u) g)
theorem NU(hw:PZ h t0 t1 t2 t3 R):DC zz 71 [t0,t1,t2,t3] h R:=zU (by kernel_rfl) hw
def zbd:=λ(h:za) bd j K (R:VK)=>
 opt (nb [K] (some (Value.cells K).toList)) λbe=>nw h be 66 λbf bg=>opt (Yd zz 66) λbh=>nw bg (Value.cells bh).toList 66 λc L=>opt (zd zz 66 bf L) λbi=>zq zz (fn 94) [bd,j,bi,.bool false] L λM N=>opt (Yk M 0) λf=>opt (Yk M 1) λbj=>opt (nb [f,pp] (zX zz .eql 153 (.tmp 22) (.const (pp)) f (pp))) λbk=>CD bk (λO=>opt (nb [] (zY zz 66 [])) λP=>opt (nb [P] (xS zz 66 c P N)) λQ=>opt (zd zz 66 c Q) λd=>rv [d,bj] Q R)
 (λO=>O [.bool false] N)
 (λbl bm=>opt (nb [j,pm 8] (zX zz .eql 3 (.tmp 26) (.const (pm 8)) j (pm 8))) λbn=>zQ (nb [f] (zB zz .len [153] 3 [f] bm)) λS bo=>BK (λbp=>LP (λa T bq=>opt (nb [nth a 3,S] (zX zz .lss 3 (.tmp 30) (.tmp 29) (nth a 3) S)) λbr=>CD br (λU=>U [] T)
 (λU=>bp [nth a 0,nth a 1,nth a 2] T)
 (λdi V=>BK (λbs=>opt (yh zz 153 f (nth a 3)) λbt=>opt (zd zz 126 bt V) λW=>opt (Yd zz 126) λbu=>nw V (Value.cells bu).toList 126 λg bv=>opt (nb [W] (xS zz 126 g W bv)) λX=>opt (zg zz 126 g 1) λbw=>opt (zd zz 5 bw X) λY=>zQ (nb [Y] (ud zz 5 156 Y X)) λZ aa=>opt (nb [pm 8,nth a 3] (zX zz .mul 3 (.const (pm 8)) (.tmp 39) (pm 8) (nth a 3))) λab=>opt (nb [Z,ab] (zX zz .shl 156 (.tmp 38) (.tmp 40) Z ab)) λac=>opt (nb [nth a 0,ac] (zX zz .or 156 (.tmp 35) (.tmp 41) (nth a 0) ac)) λbx=>GD (nth a 1) true (λbz=>opt (zg zz 126 g 0) λr=>bz r aa) (λr s=>GD (nth a 1) true (λb0=>opt (zd zz 5 r s) λl=>b0 l s) (λl ad=>GD (nth a 1) true (λb1=>opt (nb [l,.int .u8 1] (zX zz .eql 5 (.tmp 46) (.const (.int .u8 1)) l (.int .u8 1))) λt=>b1 t ad) (λt ae=>opt (pk (nth a 1) t (.bool false)) λb2=>GD (nth a 2) true (λb3=>opt (zg zz 126 g 0) λu=>b3 u ae) (λu v=>GD (nth a 2) true (λb4=>opt (zd zz 5 u v) λm=>b4 m v) (λm af=>GD (nth a 2) true (λb5=>opt (nb [m,.int .u8 2] (zX zz .eql 5 (.tmp 52) (.const (.int .u8 2)) m (.int .u8 2))) λw=>b5 w af) (λw ag=>opt (pk (nth a 2) w (.bool false)) λi=>GD i true (λb6=>opt (zg zz 126 g 1) λx=>b6 x ag) (λx y=>GD i true (λb7=>opt (zd zz 5 x y) λn=>b7 n y) (λn ah=>GD i true (λb8=>zQ (nb [n] (ud zz 5 3 n ah)) λo b9=>b8 o b9) (λo ai=>GD i true (λca=>ca (nth a 3) ai) (λaj ak=>GD i true (λcb=>opt (nb [o,aj] (zX zz .eql 3 (.tmp 58) (.tmp 59) o aj)) λz=>cb z ak) (λz al=>opt (pk i z (.bool false)) λe=>GD e true (λcc=>opt (zg zz 126 g 2) λA=>cc A al) (λA B=>GD e true (λcd=>opt (zd zz 66 A B) λp=>cd p B) (λp am=>GD e true (λce=>ce f am) (λcf an=>GD e true (λcg=>opt (yh zz 153 cf (pm 0)) λC=>cg C an) (λC ao=>GD e true (λch=>opt (zg zz 126 C 2) λD=>ch D ao) (λD E=>GD e true (λcj=>opt (zd zz 66 D E) λq=>cj q E) (λq ap=>GD e true (λck=>opt (nb [p,q] (zX zz .eql 66 (.tmp 64) (.tmp 68) p q)) λF=>ck F ap) (λF cl=>opt (pk e F (.bool false)) λcm=>bs [bx,b2,cm] cl) ap) E) ao) an) am) B) al) ak) ai) ah) y) ag) af) v) ae) ad) s) aa)
 (λG cn=>opt (nb [nth a 3,pm 1] (zX zz .add 3 (.tmp 30) (ci 1) (nth a 3) (pm 1))) λco=>bq [nth G 0,nth G 1,nth G 2,co] cn)))
 [.int .u64 0,.bool true,bn,pm 0] bo)
 (λb aq=>BK (λcp=>GD (nth b 1) true (λcq=>cq j aq) (λar au=>GD (nth b 1) true (λcr=>opt (nb [ar,pm 8] (zX zz .eql 3 (.tmp 75) (.const (pm 8)) ar (pm 8))) λH=>cr H au) (λH I=>opt (pk (nth b 1) H (.bool false)) λcs=>CD cs (λav=>zQ (nb [nth b 0] (ud zz 156 2 (nth b 0) I)) λct cu=>zq zz (fn 37) [ct] cu λaw cv=>opt (nb [aw] (xS zz 66 c aw cv)) λax=>opt (zd zz 66 c ax) λd=>rv [d,.bool true] ax R)
 (λav=>GD (nth b 1) true (λcw=>cw j I) (λay az=>GD (nth b 1) true (λcx=>opt (nb [ay,pm 4] (zX zz .eql 3 (.tmp 84) (.const (pm 4)) ay (pm 4))) λJ=>cx J az) (λJ k=>opt (pk (nth b 1) J (.bool false)) λcy=>CD cy (λa0=>zQ (nb [nth b 0] (ud zz 156 21 (nth b 0) k)) λa1 cz=>zQ (nb [a1] (ud zz 21 2 a1 cz)) λc0 c1=>zq zz (fn 37) [c0] c1 λa2 c2=>opt (nb [a2] (xS zz 66 c a2 c2)) λa3=>opt (zd zz 66 c a3) λd=>rv [d,.bool true] a3 R)
 (λa0=>CD (nth b 1) (λa4=>zQ (nb [nth b 0] (ud zz 156 152 (nth b 0) k)) λa5 c3=>zQ (nb [a5] (ud zz 152 2 a5 c3)) λc4 c5=>zq zz (fn 37) [c4] c5 λa6 c6=>opt (nb [a6] (xS zz 66 c a6 c6)) λa7=>opt (zd zz 66 c a7) λd=>rv [d,.bool true] a7 R)
 (λa4=>CD (nth b 2) (λa8=>opt (yh zz 153 f (pm 0)) λc7=>opt (zg zz 126 c7 2) λc8=>opt (zd zz 66 c8 k) λa9=>opt (nb [a9] (xS zz 66 c a9 k)) λba=>opt (zd zz 66 c ba) λd=>rv [d,.bool true] ba R)
 (λa8=>a8 [nth bl 0] k)
 (λc9 da=>a4 [nth c9 0] da))
 (λdb dc=>a0 [nth db 0] dc))
 (λdd de=>av [nth dd 0] de)) az) I)
 (λdf dg=>cp [nth df 0] dg)) au) aq)
 (λdj dh=>opt (nb [] (zY zz 66 [])) λbb=>opt (nb [bb] (xS zz 66 c bb dh)) λbc=>opt (zd zz 66 c bc) λd=>rv [d,.bool true] bc R)))
theorem Ty(hw:zbd h t0 t1 t2 R):DC zz 70 [t0,t1,t2] h R:=zU (by kernel_rfl) hw
def zbf:=λ(h:za) k l (R:VK)=>
 zq zz (fn 61) [k,l] h λb c=>opt (nb [b,.pointer none] (zX zz .eql 120 (.tmp 10) (.const (.pointer none)) b (.pointer none))) λm=>CD m (λd=>rv [.bool false] c R)
 (λd=>d [.bool false] c)
 (λD e=>opt (x0 b) λn=>opt (zg zz 123 n 0) λo=>opt (zd zz 3 o e) λf=>BK (λp=>LP (λa g q=>opt (nb [nth a 0,f] (zX zz .lss 3 (.tmp 16) (.tmp 15) (nth a 0) f)) λr=>CD r (λi=>i [] g)
 (λi=>p [] g)
 (λE s=>BK (λt=>zq zz (fn 62) [b,nth a 0,.bool true] s λu v=>opt (nb [nth a 0,pm 64] (zX zz .rem 3 (.tmp 22) (.const (pm 64)) (nth a 0) (pm 64))) λw=>opt (nb [.int .u8 1] (zY zz 126 [(0,(.int .u8 1))])) λj=>opt (x0 u) λx=>opt (yh zz 151 x w) λy=>opt (nb [j] (xS zz 126 y j v)) λz=>t [] z)
 (λF A=>opt (nb [nth a 0,pm 1] (zX zz .add 3 (.tmp 16) (ci 1) (nth a 0) (pm 1))) λB=>q [B] A)))
 [pm 0] e)
 (λG C=>rv [.bool true] C R))
theorem Tz(hw:zbf h t0 t1 R):DC zz 36 [t0,t1] h R:=zU (by kernel_rfl) hw
def zbc:=λ(h:za) a b (R:VK)=>
 zq zz (fn 61) [a,b] h λc e=>opt (nb [c,.pointer none] (zX zz .eql 120 (.tmp 9) (.const (.pointer none)) c (.pointer none))) λn=>CD n (λf=>rv [.bool false] e R)
 (λf=>f [.bool false] e)
 (λC d=>opt (x0 a) λo=>opt (zg zz 116 o 0) λp=>opt (zd zz 114 p d) λq=>opt (nb [b,pm 1] (zX zz .sub 3 (.tmp 15) (ci 1) b (pm 1))) λr=>opt (x0 c) λs=>opt (zg zz 123 s 0) λt=>opt (zd zz 3 t d) λg=>opt (nb [g,.bool true] (zY zz 123 [(0,g),(2,(.bool true))])) λi=>opt (nb [i] (some (Value.cells i).toList)) λu=>nw d u 123 λj v=>opt (yh zz 114 q r) λw=>opt (nb [j] (xS zz 120 w j v)) λk=>opt (x0 a) λx=>opt (zg zz 116 x 1) λy=>opt (zd zz 3 y k) λl=>opt (nb [l,pm 1] (zX zz .sub 3 (.tmp 27) (ci 1) l (pm 1))) λm=>opt (x0 a) λz=>opt (zg zz 116 z 1) λA=>opt (nb [m] (xS zz 3 A m k)) λB=>rv [.bool true] B R)
theorem Tx(hw:zbc h t0 t1 R):DC zz 96 [t0,t1] h R:=zU (by kernel_rfl) hw
def Bz:=λ(h:za) a4 b L a5 (R:VK)=>
 opt (nb [L] (some (Value.cells L).toList)) λa6=>nw h a6 66 λc p=>opt (zg zz 66 c 0) λa7=>opt (zd zz 3 a7 p) λM=>opt (nb [M,pm 2] (zX zz .neq 3 (.tmp 14) (.const (pm 2)) M (pm 2))) λd=>GD d false (λa8=>a8 b p) (λN O=>GD d false (λa9=>opt (nb [N,pm 1] (zX zz .neq 3 (.tmp 17) (ci 1) N (pm 1))) λq=>a9 q O) (λq P=>GD d false (λba=>ba q P) (λr Q=>GD r true (λbb=>bb b Q) (λS T=>GD r true (λbc=>opt (nb [S,pm 4] (zX zz .neq 3 (.tmp 20) (.const (pm 4)) S (pm 4))) λs=>bc s T) (λs U=>GD d false (λbd=>opt (pk r s (.bool false)) λt=>bd t U) (λt V=>GD d false (λbe=>be t V) (λu W=>GD u true (λbf=>bf b W) (λX Y=>GD u true (λbg=>opt (nb [X,pm 8] (zX zz .neq 3 (.tmp 24) (.const (pm 8)) X (pm 8))) λv=>bg v Y) (λv Z=>GD d false (λbh=>opt (pk u v (.bool false)) λw=>bh w Z) (λw aa=>opt (pk d (.bool true) w) λbi=>CD bi (λab=>rv [pp,.bool false] aa R)
 (λab=>ab [pp,.bool false] aa)
 (λac ad=>opt (zg zz 66 c 2) λbj=>opt (zd zz 3 bj ad) λbk=>zq zz (fn 61) [a4,bk] ad λf ae=>opt (nb [f,.pointer none] (zX zz .eql 120 (.tmp 32) (.const (.pointer none)) f (.pointer none))) λg=>GD g false (λbl=>opt (zg zz 66 c 1) λx=>bl x ae) (λx y=>GD g false (λbm=>opt (zd zz 2 x y) λi=>bm i y) (λi af=>GD g false (λbn=>opt (nb [i,pm 0] (zX zz .lss 2 (.tmp 36) (ci 0) i (pm 0))) λz=>bn z af) (λz ag=>opt (pk g (.bool true) z) λa=>GD a false (λbo=>opt (zg zz 66 c 1) λA=>bo A ag) (λA B=>GD a false (λbp=>opt (zd zz 2 A B) λj=>bp j B) (λj ah=>GD a false (λbq=>bq f ah) (λbr ai=>GD a false (λbs=>opt (x0 br) λC=>bs C ai) (λC aj=>GD a false (λbt=>opt (zg zz 123 C 0) λD=>bt D aj) (λD E=>GD a false (λbu=>opt (zd zz 3 D E) λk=>bu k E) (λk ak=>GD a false (λbv=>bv b ak) (λal am=>GD a false (λbw=>opt (nb [k,al] (zX zz .sub 3 (.tmp 45) (.tmp 46) k al)) λl=>bw l am) (λl an=>GD a false (λbx=>opt (nb [j,l] (zX zz .gtr 2 (.tmp 41) (.tmp 47) j l)) λF=>bx F an) (λF ao=>opt (pk a (.bool true) F) λe=>GD e false (λbz=>opt (zg zz 66 c 1) λG=>bz G ao) (λG H=>GD e false (λb0=>opt (zd zz 2 G H) λm=>b0 m H) (λm ap=>GD e false (λb1=>b1 b ap) (λaq ar=>GD e false (λb2=>opt (nb [m,aq] (zX zz .rem 2 (.tmp 52) (.tmp 53) m aq)) λn=>b2 n ar) (λn au=>GD e false (λb3=>opt (nb [n,pm 0] (zX zz .neq 2 (.tmp 54) (ci 0) n (pm 0))) λI=>b3 I au) (λI av=>opt (pk e (.bool true) I) λb4=>CD b4 (λaw=>rv [pp,.bool false] av R)
 (λaw=>aw [nth ac 0,nth ac 1] av)
 (λax ay=>opt (zg zz 66 c 1) λb5=>opt (zd zz 2 b5 ay) λb6=>zq zz (fn 62) [f,b6,a5] ay λJ az=>opt (nb [J,.pointer none] (zX zz .eql 127 (.tmp 62) (.const (.pointer none)) J (.pointer none))) λb7=>CD b7 (λa0=>rv [pp,.bool true] az R)
 (λa0=>a0 [nth ax 0,nth ax 1] az)
 (λca K=>opt (zg zz 66 c 1) λb8=>opt (zd zz 2 b8 K) λa1=>opt (nb [a1,pm 64] (zX zz .rem 3 (.tmp 65) (.const (pm 64)) a1 (pm 64))) λo=>opt (x0 J) λa2=>opt (nb [o,b] (zX zz .add 3 (.tmp 70) (.tmp 71) o b)) λa3=>opt (nb [a2] (cond (Nc (some o)&&Nc (some a3)) (Iu zz 151 a2 (some o) (some a3) K) none)) λb9=>rv [b9,.bool true] K R))) au) ar) ap) H) ao) an) am) ak) E) aj) ai) ah) B) ag) af) y) ae)) Z) Y) W) V) U) T) Q) P) O) p
theorem Af(hw:Bz h t0 t1 t2 t3 R):DC zz 94 [t0,t1,t2,t3] h R:=zU (by kernel_rfl) hw
def zhF:=λ(h:za) a (R:VK)=>
 opt (Yd zz 66) λe=>nw h (Value.cells e).toList 66 λb f=>opt (nb [pm 1,a] (zY zz 66 [(0,(pm 1)),(1,a)])) λc=>opt (nb [c] (xS zz 66 b c f)) λd=>opt (zd zz 66 b d) λg=>rv [g] d R
theorem zee(hw:zhF h t0 R):DC zz 37 [t0] h R:=zU (by kernel_rfl) hw
def NV:=λ(h:za) a b k (R:VK)=>
 opt (x0 a) λy=>opt (zg zz 123 y 1) λz=>opt (zd zz 121 z h) λl=>opt (nb [l,pp] (zX zz .eql 121 (.tmp 10) (.const (pp)) l (pp))) λm=>GD m true (λA=>A k h) (λB d=>opt (pk m B (.bool false)) λC=>CD C (λe=>opt (x0 a) λD=>opt (zg zz 123 D 0) λE=>opt (zd zz 3 E d) λn=>opt (nb [n,pm 64] (zX zz .add 3 (.tmp 19) (.const (pm 64)) n (pm 64))) λo=>opt (nb [o,pm 1] (zX zz .sub 3 (.tmp 20) (ci 1) o (pm 1))) λp=>opt (nb [p,pm 64] (zX zz .quo 3 (.tmp 21) (.const (pm 64)) p (pm 64))) λq=>zQ (Wo zz 121 q q d) λr F=>opt (x0 a) λG=>opt (zg zz 123 G 1) λH=>opt (nb [r] (xS zz 121 H r F)) λI=>e [] I)
 (λe=>e [] d)
 (λaj f=>opt (x0 a) λJ=>opt (zg zz 123 J 1) λK=>opt (zd zz 121 K f) λs=>opt (nb [s,pp] (zX zz .eql 121 (.tmp 29) (.const (pp)) s (pp))) λL=>CD L (λt=>rv [.pointer none] f R)
 (λt=>t [.pointer none] f)
 (λak c=>opt (x0 a) λM=>opt (zg zz 123 M 1) λN=>opt (zd zz 121 N c) λO=>opt (nb [b,pm 64] (zX zz .quo 3 (.tmp 35) (.const (pm 64)) b (pm 64))) λP=>opt (yh zz 121 O P) λQ=>opt (zd zz 127 Q c) λu=>opt (nb [u,.pointer none] (zX zz .eql 127 (.tmp 38) (.const (.pointer none)) u (.pointer none))) λv=>GD v true (λS=>S k c) (λT g=>opt (pk v T (.bool false)) λU=>CD U (λi=>opt (x0 a) λV=>opt (zg zz 123 V 1) λW=>opt (zd zz 121 W g) λX=>opt (nb [b,pm 64] (zX zz .quo 3 (.tmp 47) (.const (pm 64)) b (pm 64))) λY=>opt (nb [] (zY zz 151 [])) λw=>opt (nb [w] (some (Value.cells w).toList)) λZ=>nw g Z 151 λx aa=>opt (yh zz 121 X Y) λab=>opt (nb [x] (xS zz 127 ab x aa)) λac=>i [] ac)
 (λi=>i [] g)
 (λal j=>opt (x0 a) λad=>opt (zg zz 123 ad 1) λae=>opt (zd zz 121 ae j) λaf=>opt (nb [b,pm 64] (zX zz .quo 3 (.tmp 56) (.const (pm 64)) b (pm 64))) λag=>opt (yh zz 121 af ag) λah=>opt (zd zz 127 ah j) λai=>rv [ai] j R)) c))) h
theorem EY(hw:NV h t0 t1 t2 R):DC zz 62 [t0,t1,t2] h R:=zU (by kernel_rfl) hw
end Go.Mem
namespace Go.Ai
open Go.Ai Go.Proofs
abbrev UN(t k n:Nat):Prop := ∀(b off:Nat),zg Tryz.prog t (.pointer (some ⟨b,off,none⟩)) k=some (.pointer (some ⟨b,off+n,none⟩))
abbrev NP(t k:Nat):Prop := ∀(b off:Nat),zg Tryz.prog t (.pointer (some ⟨b,off,none⟩)) k=some (.pointer (some ⟨b,off,none⟩))
abbrev AU(t:TypeId):Prop := ∀(b off:Nat) (h:za),zd Tryz.prog t (.pointer (some ⟨b,off,none⟩)) h=zA h b off
abbrev FcN(t:TypeId)(n:Nat):Prop := ∀(b off:Nat) (h:za),zd Tryz.prog t (.pointer (some ⟨b,off,none⟩)) h=zZ h b off n
abbrev FcI(t:TypeId):Prop := ∀(b off:Nat) (v:Int) (h:za),xS Tryz.prog t (.pointer (some ⟨b,off,none⟩)) (pm v) h=yJ h b off [(pm v)]
abbrev FcS(t:TypeId):Prop := ∀(b off:Nat) (v:Option Addr) (vl vc:Nat) (h:za),xS Tryz.prog t (.pointer (some ⟨b,off,none⟩)) (.slice v vl vc) h=yJ h b off [(.slice v vl vc)]
abbrev FcM(t:TypeId)(n:Nat):Prop := ∀(b off:Nat) (l:List aaa) (h:za) (_:l.length=n),xS Tryz.prog t (.pointer (some ⟨b,off,none⟩)) (.agg l.toArray) h=yJ h b off l
abbrev FcA(t e s y:Nat):Prop := ∀(r:TypeId) (v x:aaa) (n:Nat) (new:List aaa) (h:za) (_:gY x=some n) (_:wR h n s x=some new) (_:new.all yN=true) (_:new.length=n*s),zB Tryz.prog .append [t,t] r [v,x] h=Q9 h e s y n new v
abbrev PM(t n:Nat):Prop := ∀(b off len c:Nat) (k:IntKind) (i:Int),yh Tryz.prog t (.slice (some ⟨b,off,none⟩) len c) (.int k i)=if 0<=i/\i<len then some (.pointer (some ⟨b,off+i.toNat*n,none⟩)) else none
abbrev FcE(t:TypeId):Prop := ∀(r:TypeId) (a:Option Addr) (n c:Nat) (h:za),zB Tryz.prog .len [t] r [.slice a n c] h=some (pm n,h)
noncomputable def zcP:Array Field:=match Program.underlying Tryz.prog 66 with|some (.struct f)=>f|_ => #[]
theorem UF:AU 114:=xZ (by kernel_rfl)
theorem zbS:AU 120:=xZ (by kernel_rfl)
theorem sX:AU 121:=xZ (by kernel_rfl)
theorem Hr:FcN 126 5:=Y9 (by kernel_rfl) (by kernel_rfl)
theorem CU:AU 127:=xZ (by kernel_rfl)
theorem xp:AU 2:=xZ (by kernel_rfl)
theorem zj:AU 3:=xZ (by kernel_rfl)
theorem Xn:AU 4:=xZ (by kernel_rfl)
theorem Om:AU 5:=xZ (by kernel_rfl)
theorem zi:FcN 66 3:=Y9 (by kernel_rfl) (by kernel_rfl)
theorem zgc:FcA 114 120 1 8:=λr v x n w h h1 h2 h3 h4=>Zo (e:=120) (e2:=120) (by kernel_rfl) (by kernel_rfl) (by kernel_rfl) (by kernel_rfl) (by decide) h1 h2 h3 h4
theorem zb7:FcS 114:=λb o _ _ _ h=>vH (by kernel_rfl) b o _ h rfl
theorem zge(b off:Nat)(v:Option Addr)(h:za):xS Tryz.prog 120 (.pointer (some ⟨b,off,none⟩)) (.pointer v) h=yJ h b off [(.pointer v)]:=vH (by kernel_rfl) b off _ h rfl
theorem zgf:FcS 121:=λb o _ _ _ h=>vH (by kernel_rfl) b o _ h rfl
theorem gZ:FcM 126 5:=YN (by kernel_rfl)
theorem Oo(b off:Nat)(v:Option Addr)(h:za):xS Tryz.prog 127 (.pointer (some ⟨b,off,none⟩)) (.pointer v) h=yJ h b off [(.pointer v)]:=vH (by kernel_rfl) b off _ h rfl
theorem WU:FcI 3:=λb o _ h=>vH (by kernel_rfl) b o _ h rfl
theorem zo:FcM 66 3:=YN (by kernel_rfl)
theorem zgl:Yd Tryz.prog 126=some (.agg #[(.int .u8 0),(.int .u8 0),(pm 0),(pm 0),(pm 0)]):=zJ (by kernel_rfl)
theorem y7:Yd Tryz.prog 66=some (.agg #[(pm 0),(pm 0),(pm 0)]):=zJ (by kernel_rfl)
theorem zeo:zY Tryz.prog 116 []=some (.agg #[(pp),(pm 0)]):=zJ (by kernel_rfl)
theorem ie(v0:Int):zY Tryz.prog 123 [(0,(pm v0))]=some (.agg #[(pm v0),(pp),(.bool false)]):=zJ (by kernel_rfl)
theorem Ow(v0:Int)(v2:Bool):zY Tryz.prog 123 [(0,(pm v0)),(2,(.bool v2))]=some (.agg #[(pm v0),(pp),(.bool v2)]):=zJ (by kernel_rfl)
theorem zep:zY Tryz.prog 126 []=some (.agg #[(.int .u8 0),(.int .u8 0),(pm 0),(pm 0),(pm 0)]):=zJ (by kernel_rfl)
theorem Mi(v0:Int):zY Tryz.prog 126 [(0,(.int .u8 v0))]=some (.agg #[(.int .u8 v0),(.int .u8 0),(pm 0),(pm 0),(pm 0)]):=zJ (by kernel_rfl)
theorem nE(v0:Int)(v1:Int):zY Tryz.prog 126 [(0,(.int .u8 v0)),(1,(.int .u8 v1))]=some (.agg #[(.int .u8 v0),(.int .u8 v1),(pm 0),(pm 0),(pm 0)]):=zJ (by kernel_rfl)
theorem dM(v0:Int)(v1:Int)(v20:Int)(v21:Int)(v22:Int):zY Tryz.prog 126 [(0,(.int .u8 v0)),(1,(.int .u8 v1)),(2,(.agg #[(pm v20),(pm v21),(pm v22)]))]=some (.agg #[(.int .u8 v0),(.int .u8 v1),(pm v20),(pm v21),(pm v22)]):=zJ (by kernel_rfl)
theorem zM:zY Tryz.prog 66 []=some (.agg #[(pm 0),(pm 0),(pm 0)]):=zJ (by kernel_rfl)
theorem F8(v0:Int)(v1:Int):zY Tryz.prog 66 [(0,(pm v0)),(1,(pm v1))]=some (.agg #[(pm v0),(pm v1),(pm 0)]):=zJ (by kernel_rfl)
theorem QO(v0:Option Addr)(h:za):zH Tryz.prog 114 1 [(0,(.pointer v0))] h=some (.slice (some ⟨h.next,0,none⟩) 1 3,h.push (.cells [(.pointer v0)] 120)):=zJ (by kernel_rfl)
theorem Uv(n:Int)(h:za):ud Tryz.prog 152 2 (.int .i8 n) h=some (pm (IntKind.wrap .i64 n),h):=zJ (by kernel_rfl)
theorem XP(n:Int)(h:za):ud Tryz.prog 156 152 (.int .u64 n) h=some (.int .i8 (IntKind.wrap .i8 n),h):=zJ (by kernel_rfl)
theorem jB(n:Int)(h:za):ud Tryz.prog 156 2 (.int .u64 n) h=some (pm (IntKind.wrap .i64 n),h):=zJ (by kernel_rfl)
theorem VF(n:Int)(h:za):ud Tryz.prog 156 21 (.int .u64 n) h=some (.int .i32 (IntKind.wrap .i32 n),h):=zJ (by kernel_rfl)
theorem KQ(n:Int)(h:za):ud Tryz.prog 21 2 (.int .i32 n) h=some (pm (IntKind.wrap .i64 n),h):=zJ (by kernel_rfl)
theorem OD(n:Int)(h:za):ud Tryz.prog 2 5 (pm n) h=some (.int .u8 (IntKind.wrap .u8 n),h):=zJ (by kernel_rfl)
theorem Db(n:Int)(h:za):ud Tryz.prog 3 5 (pm n) h=some (.int .u8 (IntKind.wrap .u8 n),h):=zJ (by kernel_rfl)
theorem pQ(n:Int)(h:za):ud Tryz.prog 5 156 (.int .u8 n) h=some (.int .u64 (IntKind.wrap .u64 n),h):=zJ (by kernel_rfl)
theorem zcu(n:Int)(h:za):ud Tryz.prog 5 3 (.int .u8 n) h=some (pm (IntKind.wrap .i64 n),h):=zJ (by kernel_rfl)
theorem pS(x y:Operand):zX Tryz.prog .eql 120 x y (.pointer none) (.pointer none)=some (.bool true):=zJ (by kernel_rfl)
theorem MC(x y:Operand):zX Tryz.prog .eql 121 x y (pp) (pp)=some (.bool true):=zJ (by kernel_rfl)
theorem pT(x y:Operand):zX Tryz.prog .eql 127 x y (.pointer none) (.pointer none)=some (.bool true):=zJ (by kernel_rfl)
theorem MD(x y:Operand):zX Tryz.prog .eql 153 x y (pp) (pp)=some (.bool true):=zJ (by kernel_rfl)
theorem VT(x y:Operand)(a:Addr):zX Tryz.prog .eql 120 x y (.pointer (some a)) (.pointer none)=some (.bool false):=ziv (e:=123) (by kernel_rfl) a
theorem pU(x y:Operand)(a:Addr)(n c:Nat):zX Tryz.prog .eql 121 x y (.slice (some a) n c) (pp)=some (.bool false):=zg5 (e:=127) (by kernel_rfl) a n c
theorem Bf(x y:Operand)(a:Addr):zX Tryz.prog .eql 127 x y (.pointer (some a)) (.pointer none)=some (.bool false):=ziv (e:=151) (by kernel_rfl) a
theorem zeB(x y:Operand)(a:Addr)(n c:Nat):zX Tryz.prog .eql 153 x y (.slice (some a) n c) (pp)=some (.bool false):=zg5 (e:=126) (by kernel_rfl) a n c
theorem QS(x y:Operand)(a0:Int)(a1:Int)(a2:Int)(b0:Int)(b1:Int)(b2:Int):zX Tryz.prog .eql 66 x y (.agg #[(pm a0),(pm a1),(pm a2)]) (.agg #[(pm b0),(pm b1),(pm b2)])=some (.bool ((a0 == b0)&&((a1 == b1)&&((a2 == b2))))):=(dF (fs:=zcP) (r:=(a0 == b0)&&((a1 == b1)&&((a2 == b2)))) (by kernel_rfl) (by kernel_rfl) (by kernel_rfl) rfl rfl (Eq.trans (b:=(cond (a0 == b0) (cond (a1 == b1) (cond (a2 == b2) (some true) (some false)) (some false)) (some false))) (by kernel_rfl) (by cases (a0 == b0) <;> cases (a1 == b1) <;> cases (a2 == b2) <;> rfl))).1
theorem ZP:NP 116 0:=λb o=>zJ (by kernel_rfl)
theorem QT:UN 116 1 1:=λb o=>zJ (by kernel_rfl)
theorem jD:NP 123 0:=λb o=>zJ (by kernel_rfl)
theorem aZ:UN 123 1 1:=λb o=>zJ (by kernel_rfl)
theorem MG:UN 123 2 2:=λb o=>zJ (by kernel_rfl)
theorem zcM:NP 126 0:=λb o=>zJ (by kernel_rfl)
theorem zcN:UN 126 1 1:=λb o=>zJ (by kernel_rfl)
theorem bB:UN 126 2 2:=λb o=>zJ (by kernel_rfl)
theorem zP:NP 66 0:=λb o=>zJ (by kernel_rfl)
theorem yf:UN 66 1 1:=λb o=>zJ (by kernel_rfl)
theorem xM:UN 66 2 2:=λb o=>zJ (by kernel_rfl)
theorem OW:PM 114 1:=λb o l c k i=>wU (e:=120) (by kernel_rfl) (by kernel_rfl)
theorem Dy:PM 121 1:=λb o l c k i=>wU (e:=127) (by kernel_rfl) (by kernel_rfl)
theorem zgF(b off:Nat)(k:IntKind)(i:Int):yh Tryz.prog 151 (.pointer (some ⟨b,off,none⟩)) (.int k i)=if 0<=i/\i<64 then some (.pointer (some ⟨b,off+i.toNat*5,none⟩)) else none:=pC (e:=126) (len:=64) (by kernel_rfl) (by kernel_rfl)
theorem VL:PM 153 5:=λb o l c k i=>wU (e:=126) (by kernel_rfl) (by kernel_rfl)
theorem K4:FcE 114:=λr a n c h=>zJ (by kernel_rfl)
theorem ey:FcE 153:=λr a n c h=>zJ (by kernel_rfl)
theorem zgR(k k2:IntKind)(l c:Int)(h:za)(h0:0<=l)(h1:l<=c)(h2:c<2^31):Wo Tryz.prog 121 (.int k l) (.int k2 c) h=some (.slice (some ⟨h.next,0,none⟩) l.toNat (c.toNat+2),h.push (.cells (qX [(.pointer none)] (c.toNat*1)) 127)):=pD (e:=127) (z:=(.pointer none)) (n:=1) (bytes:=8) (by kernel_rfl) (by kernel_rfl) (by kernel_rfl) rfl (by decide) (by decide) rfl h0 h1 h2
theorem zdQ(b off:Nat)(lo hi:Option aaa)(h:za):Iu Tryz.prog 151 (.pointer (some ⟨b,off,none⟩)) lo hi h=(uV hi 64 64).bind λhh=>(uV lo 0 hh).bind λl=>some (.slice (some ⟨b,off+(if 64=l then 0 else l*5),none⟩) (hh-l) 0):=TZ (e:=126) (k:=64) (by kernel_rfl) (by kernel_rfl)
end Go.Ai
namespace Go.Mem
open Go.Ai Go.Proofs
structure V where
 k:Int
 n:Int
 b:Int
 deriving DecidableEq
def V.z9(v:V):List aaa:=[pm v.k,pm v.n,pm v.b]
def V.val(v:V):aaa := .agg #[pm v.k,pm v.n,pm v.b]
def v0:V:=⟨0,0,0⟩
structure Cl where
 k:Int
 n:Int
 p:V
 deriving DecidableEq
def Cl.z9(c:Cl):List aaa:=[.int .u8 c.k,.int .u8 c.n,pm c.p.k,pm c.p.n,pm c.p.b]
def tZ:Cl:=⟨0,0,v0⟩
structure MB where
 size:Nat
 uU:Bool
 byte:Nat->Cl
abbrev MM:=List MB
def ZK:Option Nat->aaa
 |none => .pointer none
 |some g => .pointer (some ⟨g,0,none⟩)
def Bv(h:za)(g:Nat)(f:Nat->Cl):Prop := ∃cs,h.get g=some (.cells cs 151)/\cs.length=320 /\ ∀k j,k<64->j<5->cs[k*5+j]? = (f k).z9[j]?
structure V2 (h:za) (q:Nat) (gs:List (Option Nat)) (B:MB) (F:Nat->Prop):Prop where
 hl:gs.length=(B.size+63)/64
 fq:F q
 hq:h.get q=some (.cells (gs.map ZK) 127)
 hg:∀(j g:Nat),gs[j]? = some (some g)->F g/\Bv h g (λk=>B.byte (64*j+k))
 hn:∀j:Nat,gs[j]? = some none->∀k,k<64->B.byte (64*j+k)=tZ
 hd:∀i j g:Nat,gs[i]? = some (some g)->gs[j]? = some (some g)->i=j
 ht:∀k,64*gs.length<=k->B.byte k=tZ
inductive UD (h:za) (pg:aaa) (B:MB) (F:Nat->Prop):Prop
 |empty (e:pg=.slice none 0 0) (u:∀k,B.byte k=tZ):UD h pg B F
 |full (q c:Nat) (gs:List (Option Nat)) (e:pg=.slice (some ⟨q,0,none⟩) gs.length c) (x:V2 h q gs B F):UD h pg B F
def En(h:za)(p:Nat)(B:MB)(F:Nat->Prop):Prop := ∃pg,h.get p=some (.cells [pm B.size,pg,.bool B.uU] 123)/\F p/\UD h pg B F
def live(M:MM):Nat:=(M.filter λB => !B.uU).length
structure WT (h:za) (m:Nat) (bs:aaa) (ps:List Nat) (fs:Nat->Nat->Prop) (M:MM) (F:Nat->Prop):Prop where
 hm:h.get m=some (.cells [bs,pm (live M)] 116)
 fm:F m
 len:ps.length=M.length
 hb:(M=[]/\bs=.slice none 0 0) \/ ∃bb c,bs=.slice (some ⟨bb,0,none⟩) M.length c/\c≠0/\F bb/\h.get bb=some (.cells (ps.map λp => pi p) 120) /\ ∀i,¬fs i bb
 nm:∀i,¬fs i m
 k9:∀i p B,ps[i]? = some p->M[i]? = some B->En h p B (fs i)
 dis:∀i j b,fs i b->fs j b->i=j
 sub:∀i b,fs i b->F b
 ok:∀b,F b->h.ro<=b/\b<h.next
def GV(h:za)(m:Nat)(M:MM)(F:Nat->Prop):Prop := ∃bs ps fs,WT h m bs ps fs M F
structure Xm (F:Nat->Prop) (h h':za):Prop where
 next:h.next<=h'.next
 ro:h'.ro=h.ro
 get:∀b,¬F b->b<h.next->h'.get b=h.get b
theorem Xm.refl(F:Nat->Prop)(h:za):Xm F h h:=⟨aam _,rfl,λ_ _ _=>rfl⟩
theorem Xm.trans{F:Nat->Prop}{a b c:za}(x:Xm F a b)(y:Xm F b c):Xm F a c :=
 ⟨aaS x.next y.next,y.ro.trans x.ro,λi hi hlt=>(y.get i hi (aao hlt x.next)).trans (x.get i hi hlt)⟩
theorem Xm.mono{F G:Nat->Prop}{a b:za}(x:Xm F a b)(h:∀i,F i->G i):Xm G a b:=⟨x.next,x.ro,λi hi hlt=>x.get i (λe=>hi (h i e)) hlt⟩
def H6:Nat->Prop:=λ_=>False
theorem Xm.push{F:Nat->Prop}{h h':za}(x:Xm F h h')(o:wA):Xm F h (h'.push o) :=
 ⟨abu x.next,x.ro,λb hb hlt=>(zt (aao hlt x.next)).trans (x.get b hb hlt)⟩
theorem Xm.set{F:Nat->Prop}{h h':za}(x:Xm F h h'){b:Nat}(hb:F b\/h.next<=b)(o:Option wA):Xm F h (h'.set b o) :=
 ⟨x.next,x.ro,λc hc hlt=>(zK (by rcases hb with e|e; (intro q;subst q;exact hc e);omega)).trans (x.get c hc hlt)⟩
section mono
variable {h h':za}
theorem Bv.zJ{g:Nat}{f:Nat->Cl}(x:Bv h g f)(e:h'.get g=h.get g):Bv h' g f:=by obtain⟨cs,a,b⟩:=x;exact⟨cs,e.trans a,b⟩
theorem V2.zJ{q:Nat}{gs:List (Option Nat)}{B:MB}{F:Nat->Prop}(x:V2 h q gs B F)(e:∀b,F b->h'.get b=h.get b):V2 h' q gs B F :=
 ⟨x.hl,x.fq,(e q x.fq).trans x.hq,λj g hj=>⟨(x.hg j g hj).1,(x.hg j g hj).2.zJ (e g (x.hg j g hj).1)⟩,x.hn,x.hd,x.ht⟩
theorem V2.more{q:Nat}{gs:List (Option Nat)}{B:MB}{F G:Nat->Prop}(x:V2 h q gs B F)(e:∀b,F b->G b):V2 h q gs B G :=
 ⟨x.hl,e q x.fq,x.hq,λj g hj=>⟨e _ (x.hg j g hj).1,(x.hg j g hj).2⟩,x.hn,x.hd,x.ht⟩
theorem UD.zJ{pg:aaa}{B:MB}{F:Nat->Prop}(x:UD h pg B F)(e:∀b,F b->h'.get b=h.get b):UD h' pg B F:=by
 cases x with
 |empty a b=>exact .empty a b
 |full q c gs a x=>exact .full q c gs a (x.zJ e)
theorem UD.more{pg:aaa}{B:MB}{F G:Nat->Prop}(x:UD h pg B F)(e:∀b,F b->G b):UD h pg B G:=by
 cases x with
 |empty a b=>exact .empty a b
 |full q c gs a x=>exact .full q c gs a (x.more e)
theorem En.zJ{p:Nat}{B:MB}{F:Nat->Prop}(x:En h p B F)(e:∀b,F b->h'.get b=h.get b):En h' p B F:=by
 obtain⟨pg,a,b,c⟩:=x;exact⟨pg,(e p b).trans a,b,c.zJ e⟩
theorem En.more{p:Nat}{B:MB}{F G:Nat->Prop}(x:En h p B F)(e:∀b,F b->G b):En h p B G:=by
 obtain⟨pg,a,b,c⟩:=x;exact⟨pg,a,e p b,c.more e⟩
theorem WT.zJ{m:Nat}{bs:aaa}{ps:List Nat}{fs:Nat->Nat->Prop}{M:MM}{F:Nat->Prop}(x:WT h m bs ps fs M F)(e:∀b,F b->h'.get b=h.get b)(hn:h.next<=h'.next)(hr:h'.ro=h.ro):WT h' m bs ps fs M F :=
 ⟨(e m x.fm).trans x.hm,x.fm,x.len,by
   rcases x.hb with a|⟨bb,c,a,b,d,g,o⟩
   ·exact .inl a
   ·exact .inr ⟨bb,c,a,b,d,(e bb d).trans g,o⟩,x.nm,λi p B hp hB=>(x.k9 i p B hp hB).zJ (λb hb=>e b (x.sub i b hb)),x.dis,x.sub,λb hb=>by
    have:=x.ok b hb;rw[hr];omega⟩
theorem GV.zJ{m:Nat}{M:MM}{F:Nat->Prop}(x:GV h m M F)(e:∀b,F b->h'.get b=h.get b)(hn:h.next<=h'.next)(hr:h'.ro=h.ro):GV h' m M F:=by
 obtain⟨bs,ps,fs,x⟩:=x;exact⟨bs,ps,fs,x.zJ e hn hr⟩
theorem GV.VS{m:Nat}{M:MM}{F G:Nat->Prop}(x:GV h m M F)(e:Xm G h h')(hd:∀b,F b->¬G b):GV h' m M F:=by
 obtain⟨bs,ps,fs,x⟩:=x;exact⟨bs,ps,fs,x.zJ (λb hb=>e.get b (hd b hb) (x.ok b hb).2) e.next e.ro⟩
end mono
theorem zde{M:MM}{i:Nat}{B B':MB}(h:M[i]? = some B)(hf:B'.uU=B.uU):live (M.set i B')=live M:=by
 unfold live
 induction M generalizing i with
 |nil=>rfl
 |cons A M ih=>
  cases i with
  |zero=>simp at h;subst h;simp[hf,abS];split <;> rfl
  |succ i=>simp at h;simp only[aa9,abS];split <;> simp[ih h]
theorem Nx{M:MM}{i:Nat}{B:MB}(h:M[i]? = some B):M.set i B=M:=by
 apply abc;intro j;by_cases e:i=j
 ·subst e
  have hlt:i<M.length:=by
   rcases aar i M.length with a|a
   ·exact a
   ·rw[aal a]at h;cases h
  rw[aaM hlt,h]
 ·rw[aa4 e]
theorem WT.Ip{h h1:za}{m:Nat}{bs:aaa}{ps:List Nat}{fs:Nat->Nat->Prop}{M:MM}{F:Nat->Prop}(x:WT h m bs ps fs M F){i q:Nat}{B B':MB}{F2:Nat->Prop}(hq:ps[i]? = some q)(hB:M[i]? = some B)(hf:B'.uU=B.uU)
  (VS:Xm (fs i) h h1) (hb:En h1 q B' F2) (h2:∀b,F2 b->fs i b\/h.next<=b) (h3:∀b,F2 b->h1.ro<=b/\b<h1.next) :
  WT h1 m bs ps (λk=>if k=i then F2 else fs k) (M.set i B') (λb=>F b\/F2 b):=by
 have old:∀b,F b->¬fs i b->h1.get b=h.get b:=λb hb hn=>VS.get b hn (x.ok b hb).2;have hnew:∀b,h.next<=b->F b->False:=λb hl hb=>by have:=(x.ok b hb).2;omega
 have hlt:i<M.length:=by
  rcases aar i M.length with a|a
  ·exact a
  ·rw[aal a]at hB;cases hB
 refine⟨by rw[old m x.fm (x.nm i),x.hm,zde hB hf],.inl x.fm,by rw[x.len,aaW],?_,?_,?_,?_,?_,?_⟩
 ·rcases x.hb with⟨rfl,_⟩|⟨bb,c,e1,e2,e3,e4,e5⟩
  ·cases hB
  ·refine .inr ⟨bb,c,by rw[e1,aaW],e2,.inl e3,(old bb e3 (e5 i)).trans e4,λk hk=>?_⟩;split at hk
   ·rcases h2 bb hk with a|a
    ·exact e5 i a
    ·exact hnew bb a e3
   ·exact e5 k hk
 ·intro k hk;split at hk
  ·rcases h2 m hk with a|a
   ·exact x.nm i a
   ·exact hnew m a x.fm
  ·exact x.nm k hk
 ·intro k p C hp hC;by_cases e:k=i
  ·subst e;rw[aaM hlt]at hC;cases hC;rw[hq]at hp;cases hp;simp only[aai];exact hb
  ·rw[aa4 (λq=>e q.symm)]at hC;simp only[aac e];exact(x.k9 k p C hp hC).zJ (λb hb=>old b (x.sub k b hb) (λhc=>e (x.dis k i b hb hc)))
 ·intro a b z ha hz;split at ha <;> split at hz
  ·rename_i e1 e2;rw[e1,e2]
  ·rename_i e1 e2;rcases h2 z ha with c|c
   ·exact absurd (x.dis b i z hz c) e2
   ·exact(hnew z c (x.sub b z hz)).elim
  ·rename_i e1 e2;rcases h2 z hz with c|c
   ·exact absurd (x.dis a i z ha c) e1
   ·exact(hnew z c (x.sub a z ha)).elim
  ·exact x.dis a b z ha hz
 ·intro k b hk;split at hk
  ·exact .inr hk
  ·exact .inl (x.sub k b hk)
 ·intro b hb;have n1:=VS.next;have n2:=VS.ro;rcases hb with hb|hb
  ·have:=x.ok b hb;omega
  ·exact h3 b hb
def kN(v:V):Bool:=if v.k=0 then (v.n == 0&&v.b == 0) else if v.k=1 then v.b == 0 else v.k == 2&&decide (1<=v.b)
theorem iC(v:V)(h:za):yO Tryz.prog 95 [v.val] h (.bool (kN v)):=by
 refine yO.of rfl ?_;obtain⟨k,n,b⟩:=v;apply TA;unfold zbg V.val kN;by_cases h0:k=0
 ·subst h0;simp -implicitDefEqProofs only[zD,zN,yg,yZ,yr,qD,WY,zO,yb,yK,nth,nw,Value.cells,BK,aak,aap,aaF,aay,aaE,aaz,abA,aaU,abD,aad,abe,aa2,Nat.reduceAdd,Int.reduceEq,aam,uj,vw,Qp,zI,zZ,zA,aas,abU,zj,zi,zM,QS,zP,xM]
  try rfl
 ·by_cases h1:k=1
  ·subst h1;simp -implicitDefEqProofs only[zD,zN,yg,yZ,yr,qD,WY,zO,yb,yK,nw,Value.cells,BK,aak,aap,aaF,aay,aaE,aaz,abA,aaU,abD,aad,abe,Nat.reduceAdd,aam,uj,vw,Qp,zI,zZ,zA,aas,zj,zi,zM,QS,zP,xM,h0]
   try rfl
  ·by_cases h2:k=2
   ·subst h2;simp -implicitDefEqProofs only[zD,zN,yg,yr,j9,xI,qD,F6,WY,zO,yb,yK,nth,nw,Value.cells,BK,aak,aap,aaF,aay,aaE,aaz,abA,aaU,abD,aad,abe,aa2,Nat.reduceAdd,aam,uj,vw,Qp,zI,zZ,zA,aas,abU,zj,zi,zM,QS,zP,xM,h0,h1]
    try rfl
   ·simp -implicitDefEqProofs only[zD,zN,yg,yr,Yb,yL,qD,WY,zO,yb,yK,nth,nw,Value.cells,BK,aak,aap,aaF,aay,aaE,aaz,abA,aaU,abD,aad,abe,Nat.reduceAdd,aam,vw,Qp,zI,zZ,zA,aas,zj,zi,zM,QS,zP,xM,h0,h1,h2];simp[h2]
theorem WO(n:Int)(h:za):DC Tryz.prog 37 [pm n] h (λv h1=>v=V.val ⟨1,n,0⟩/\Xm H6 h h1):=by
 apply Ym;intro hwf;have hro:=hwf.2;apply zee;unfold zhF V.val;simp -implicitDefEqProofs only[zD,zN,yg,qD,yb,yK,qK,nw,Value.cells,aaF,aay,aaE,aaz,aa6,abC,zb,abl,aa9,abA,aaU,abD,aad,abb,Nat.reduceAdd,abg,abQ,aam,qC,zI,zR,yJ,zZ,zi,zo,y7,F8,hro];exact((Xm.refl _ _).push _).set (.inr (aam _)) _
theorem ui{n:Int}(h1 : -9223372036854775808<=n)(h2:n<9223372036854775808):IntKind.wrap .i64 n=n:=by
 simp only[IntKind.wrap,IntKind.bits,IntKind.signed];simp;omega
def idx(M:MM)(n:Int):Option Nat:=if 1<=n/\n<=M.length then (match M[n.toNat-1]? with
 |some B=>if B.uU=true then none else some (n.toNat-1)
 |none=>none) else none
theorem Uw{M:MM}{n:Int}{i:Nat}(h:idx M n=some i):n=i+1 /\ ∃B,M[i]? = some B/\B.uU=false:=by
 unfold idx at h;split at h
 case isFalse=>cases h
 rename_i hn;split at h
 case h_2=>cases h
 rename_i B hB;split at h
 case isTrue=>cases h
 rename_i hf;simp only[aab]at h;subst h;exact⟨by omega,B,hB,by simpa using hf⟩
theorem zeN{ps:List Nat}{i p:Nat}(h:ps[i]? = some p):(ps.map λp=>Value.pointer (some ⟨p,0,none⟩))[i]? = some (pi p):=by simp[h]
theorem R8{h:za}{m:Nat}{bs:aaa}{ps:List Nat}{fs:Nat->Nat->Prop}{M:MM}{F:Nat->Prop}(x:WT h m bs ps fs M F){n:Int}(hn:n<9223372036854775808) :
  DC Tryz.prog 61 [pi m,pm n] h (λv h1=>h1=h/\v=ZK ((idx M n).bind λi=>ps[i]?)):=by
 apply zef;unfold zhG;have hm:=x.hm;by_cases h1:n<1
 ·have e:idx M n=none:=by unfold idx;rw[aac (by omega)]
  simp -implicitDefEqProofs only[zD,zN,yg,yZ,Kb,xI,wS,qD,qJ,Uu,zO,yb,xF,abn,abg,uj,zA,UF,ZP,h1,e,abn,ZK]
 ·rcases x.hb with⟨rfl,rfl⟩|⟨bb,c,rfl,hc,fb,hbb,_⟩
  ·have e:idx ([]:MM) n=none:=by unfold idx;rw[aac (by simp;omega)]
   have h2:((0:Nat):Int)<n:=by omega
   simp -implicitDefEqProofs only[zD,xg,zN,yg,yZ,kV,Kb,xI,yL,wS,qD,qJ,UK,Uu,zO,yb,xF,yH,abn,aak,abg,uj,vw,zA,aas,UF,ZP,K4,h1,hm,h2,e,abn,ZK]
  ·by_cases h2:(M.length:Int)<n
   ·have e:idx M n=none:=(by unfold idx;rw[aac (by omega)]);simp -implicitDefEqProofs only[zD,xg,zN,yg,yZ,kV,Kb,xI,yL,wS,qD,qJ,UK,Uu,zO,yb,xF,yH,abn,aak,abg,uj,vw,zA,aas,UF,ZP,K4,h1,hm,h2,e,abn,ZK]
   ·have hi:n.toNat-1<M.length:=(by omega);obtain⟨p,hp⟩:∃p,ps[n.toNat-1]? = some p:=⟨_,aae (by rw[x.len];exact hi)⟩;have hB:M[n.toNat-1]? = some M[n.toNat-1]:=aae hi;generalize M[n.toNat-1]=B at hB;obtain⟨pg,hbk,_,_⟩:=x.k9 _ p B hp hB;have hw:IntKind.wrap .i64 (n-1)=n-1:=ui (by omega) (by omega);have ht:(n-1).toNat*1=n.toNat-1:=by omega
    have hc1:0<=n-1/\n-1<(M.length:Int):=(by omega);have hpp:=zeN hp;cases hf:B.uU with
    |true=>
     have e:idx M n=none:=(by unfold idx;rw[aai (by omega),hB];simp[hf]);simp -implicitDefEqProofs only[zD,xg,zN,yg,yZ,kV,yL,wS,qD,qJ,UK,Uu,zO,yb,xF,yH,abn,aak,aap,aay,aad,abg,vw,zA,aas,UF,zbS,Xn,ZP,MG,OW,K4,h1,hm,h2,hw,ht,hc1,hbb,hpp,hbk,hf,e,abn,ZK]
    |false=>
     have e:idx M n=some (n.toNat-1):=(by unfold idx;rw[aai (by omega),hB];simp[hf]);simp -implicitDefEqProofs only[zD,xg,zN,yg,yr,kV,yL,wS,qD,qJ,UK,Uu,zO,yb,xF,yH,aaI,aak,aap,aay,aad,abg,abQ,vw,zA,aas,UF,zbS,Xn,ZP,MG,OW,K4,h1,hm,h2,hw,ht,hc1,hbb,hpp,hbk,hf,e,aaI,hp,ZK]
def zp:List aaa:=(List.replicate 64 [Value.int .u8 0,.int .u8 0,pm 0,pm 0,pm 0]).flatten
theorem zci:zY Tryz.prog 151 []=some (.agg zp.toArray):=zJ (by kernel_rfl)
theorem zd9:zp.length=320:=by kernel_rfl
theorem zhq:∀k j,k<64->j<5->zp[k*5+j]? = tZ.z9[j]?:=by
 have h:(List.range 64).all (λk=>(List.range 5).all λj=>decide (k*5+j<zp.length))=true:=by decide +kernel
 have key:∀k:Fin 64,∀j:Fin 5,zp[k.1*5+j.1]? = tZ.z9[j.1]?:=by
  intro k j;have hl:k.1*5+j.1<zp.length:=by rw[zd9];omega
  have e1:zp[k.1*5+j.1]? = ([Value.int .u8 0,.int .u8 0,pm 0,pm 0,pm 0]:List aaa)[j.1]?:=by
   have aux:∀(n:Nat) (l:List aaa),l.length=5->∀k j,k<n->j<5->((List.replicate n l).flatten)[k*5+j]? = l[j]?:=by
    intro n l hl
    induction n with
    |zero=>intro k j hk;omega
    |succ n ih=>
     intro k j hk hj;rw[List.replicate_succ,acU];cases k with
     |zero=>rw[abj (by omega)];simp
     |succ k=>rw[aa5 (by omega),hl,show(k+1)*5+j-5=k*5+j by omega];exact ih k j (by omega) hj
   exact aux 64 _ rfl k.1 j.1 k.2 j.2
  rw[e1];rfl
 exact λk j hk hj=>key ⟨k,hk⟩ ⟨j,hj⟩
theorem zhn(v:aaa)(n:Nat):qX [v] (n*1)=List.replicate n v:=by
 simp only[qX,abk];apply abc;intro i;by_cases h:i<n
 ·simp[h,Nat.mod_one]
 ·simp[h]
theorem D1{n j g:Nat}(h:(List.replicate n (none:Option Nat))[j]? = some (some g)):False:=by
 rw[abZ]at h;split at h <;> cases h
theorem MU{gs:List (Option Nat)}{j:Nat}{o:Option Nat}(h:gs[j]? = some o):(gs.map ZK)[j]? = some (ZK o):=by simp[h]
theorem MV(gs:List (Option Nat))(j g:Nat):(gs.map ZK).set j (pi g)=(gs.set j (some g)).map ZK:=by rw[ab5];rfl
theorem zaJ{h h1:za}{q j g:Nat}{gs:List (Option Nat)}{B:MB}{F:Nat->Prop}(hl:gs.length=(B.size+63)/64)(hg:∀(j g:Nat),gs[j]? = some (some g)->F g/\Bv h g (λk=>B.byte (64*j+k)))(hn:∀j:Nat,gs[j]? = some none->∀k,k<64->B.byte (64*j+k)=tZ)
  (hd:∀i j g:Nat,gs[i]? = some (some g)->gs[j]? = some (some g)->i=j) (ht:∀k,64*gs.length<=k->B.byte k=tZ) (hj:gs[j]? = some none) (hq:h1.get q=some (.cells ((gs.set j (some g)).map ZK) 127)) (fq:F q)
  (hold:∀(i g:Nat),gs[i]? = some (some g)->h1.get g=h.get g) (hnew:h1.get g=some (.cells zp 151)) (fg:¬F g):V2 h1 q (gs.set j (some g)) B (λb=>F b\/b=g):=by
 have hlt:j<gs.length:=by
  rcases aar j gs.length with a|a
  ·exact a
  ·rw[aal a]at hj;cases hj
 have hs:∀i o,(gs.set j (some g))[i]? = some o->(i=j/\o=some g)\/(i≠j/\gs[i]? = some o):=by
  intro i o hi;by_cases e:i=j
  ·subst e;rw[aaM hlt]at hi;exact .inl ⟨rfl,(abO hi).symm⟩
  ·rw[aa4 (λq=>e q.symm)]at hi;exact .inr ⟨e,hi⟩
 refine⟨by simp[hl],.inl fq,hq,λi g' hi=>?_,λi hi=>?_,λa b g' ha hb=>?_,by simpa using ht⟩
 ·rcases hs i _ hi with⟨rfl,e⟩|⟨_,e⟩
  ·cases e;refine⟨.inr rfl,zp,hnew,zd9,λk j' hk hj'=>?_⟩;rw[zhq k j' hk hj'];show _=(B.byte (64*i+k)).z9[j']?;rw[hn i hj k hk]
  ·exact⟨.inl (hg i g' e).1,(hg i g' e).2.zJ (hold i g' e)⟩
 ·rcases hs i _ hi with⟨_,e⟩|⟨_,e⟩
  ·cases e
  ·exact hn i e
 ·rcases hs a _ ha with⟨e1,e2⟩|⟨_,e2⟩ <;> rcases hs b _ hb with⟨e3,e4⟩|⟨_,e4⟩
  ·rw[e1,e3]
  ·cases e2;exact absurd (hg _ _ e4).1 fg
  ·cases e4;exact absurd (hg _ _ e2).1 fg
  ·exact hd a b g' e2 e4
section
variable {h:za}{p:Nat}{B:MB}{F:Nat->Prop}{pg:aaa}{a:Int}
theorem zfM(h0:0<=a)(h1:a<4611686018427387904):IntKind.wrap .i64 (a.tdiv 64)=((a.toNat/64:Nat):Int):=by
 rw[acu h0,ui (by omega) (by omega)];omega
def zhC(h:za)(B:MB)(F:Nat->Prop)(a:Int)(v:aaa)(h1:za):Prop :=
 h1=h/\((v=ZK none /\ ∀k,k<64->B.byte (64*(a.toNat/64)+k)=tZ) \/ ∃g,v=ZK (some g)/\F g/\Bv h g (λk=>B.byte (64*(a.toNat/64)+k)))
theorem zgO(hb:h.get p=some (.cells [pm B.size,pg,.bool B.uU] 123))(x:UD h pg B F)(h0:0<=a)(h1:a<B.size)(hz:B.size<4611686018427387904) :
  DC Tryz.prog 62 [pi p,pm a,.bool false] h (zhC h B F a):=by
 apply EY;unfold NV;cases x with
 |empty e u=>
  subst e;simp -implicitDefEqProofs only[zD,zN,yg,yZ,yr,j9,xI,wS,qD,Xj,Uu,AA,zO,yb,xF,yH,nw,Value.cells,aak,aap,aay,Int.reduceEq,zA,aas,sX,zj,MC,jD,aZ,hb];exact⟨rfl,.inl ⟨rfl,λk _=>u _⟩⟩
 |full q c gs e x=>
  obtain⟨hl,fq,hq,hg,hn,hd,ht⟩:=x;subst e;have hj:a.toNat/64<gs.length:=by rw[hl];omega
  have hw:=zfM h0 (by omega);obtain⟨o,ho⟩:∃o,gs[a.toNat/64]? = some o:=⟨_,aae hj⟩;have hgg:=MU ho;have hc1:0<=((a.toNat/64:Nat):Int)/\((a.toNat/64:Nat):Int)<(gs.length:Int):=by omega
  cases o with
  |none=>
   simp -implicitDefEqProofs only[zD,zN,yg,yr,j9,Yb,xI,yL,wS,qD,AA,zO,yb,xF,yH,lR,nw,Value.cells,aak,aap,aay,aaE,aaz,aa6,abC,zb,aad,abb,Int.reduceEq,abg,qC,yJ,zA,aas,sX,CU,zj,Oo,pT,pU,jD,aZ,Dy,hb,hq,hw,hc1,aax,abk,hgg,ZK];exact⟨rfl,.inl ⟨rfl,λk hk=>hn _ ho k hk⟩⟩
  |some g=>
   simp -implicitDefEqProofs only[zD,zN,yg,yr,Yb,yL,wS,qD,AA,zO,yb,xF,yH,nw,Value.cells,aak,aap,aay,aad,Int.reduceEq,abg,zA,aas,sX,CU,zj,pU,Bf,jD,aZ,Dy,hb,hq,hw,hc1,aax,abk,hgg,ZK];exact⟨rfl,.inr ⟨g,rfl,hg _ g ho⟩⟩
def Iy(h:za)(p:Nat)(B:MB)(F:Nat->Prop)(a:Int)(v:aaa)(h1:za):Prop :=
 ∃g q c gs F',v=ZK (some g)/\h1.get p=some (.cells [pm B.size,.slice (some ⟨q,0,none⟩) gs.length c,.bool B.uU] 123)/\V2 h1 q gs B F'/\gs[a.toNat/64]? = some (some g)/\F' p/\Xm F h h1/\(∀b,F' b->F b\/h.next<=b) /\ ∀b,F' b->h1.ro<=b/\b<h1.next
theorem Iy.mk{h h1:za}{p q c g:Nat}{gs:List (Option Nat)}{B:MB}{F:Nat->Prop}{a:Int}(fp:F p)(ok:∀b,F b->h.ro<=b/\b<h.next)(hl:gs.length=(B.size+63)/64)(hj:gs[a.toNat/64]? = some none)(fq:F q\/h.next<=q)
  (hg:∀(j g:Nat),gs[j]? = some (some g)->F g/\Bv h g (λk=>B.byte (64*j+k))) (hn:∀j:Nat,gs[j]? = some none->∀k,k<64->B.byte (64*j+k)=tZ)
  (hd:∀i j g:Nat,gs[i]? = some (some g)->gs[j]? = some (some g)->i=j) (ht:∀k,64*gs.length<=k->B.byte k=tZ)
  (VS:Xm F h h1) (hqn:q<h1.next) (hgn:h.next<=g/\g<h1.next) (hro:h.ro<=h.next)
  (hp1:h1.get p=some (.cells [pm B.size,.slice (some ⟨q,0,none⟩) gs.length c,.bool B.uU] 123)) (hq1:h1.get q=some (.cells ((gs.set (a.toNat/64) (some g)).map ZK) 127)) (hg1:h1.get g=some (.cells zp 151))
  (hold:∀(i g:Nat),gs[i]? = some (some g)->h1.get g=h.get g):Iy h p B F a (pi g) h1:=by
 have P:=zaJ (F:=λb=>F b\/b=q) (h1:=h1) hl (λj g hj=>⟨.inl (hg j g hj).1,(hg j g hj).2⟩) hn hd ht hj hq1 (.inr rfl) hold hg1 (by
  rintro(e|e)
  ·have:=ok _ e;omega
  ·subst e;rw[hq1]at hg1;simp at hg1)
 have hlt:a.toNat/64<gs.length:=by
  rcases aar (a.toNat/64) gs.length with e|e
  ·exact e
  ·rw[aal e]at hj;cases hj
 refine⟨g,q,c,_,_,rfl,by rw[aaW];exact hp1,P,aaM hlt,.inl (.inl fp),VS,λb hb=>?_,λb hb=>?_⟩
 ·rcases hb with(hb|hb)|hb
  ·exact .inl hb
  ·subst hb;exact fq
  ·subst hb;exact .inr hgn.1
 ·have n1:=VS.next;have n2:=VS.ro;rcases hb with(hb|hb)|hb
  ·have:=ok b hb;omega
  ·subst hb;rcases fq with fq|fq
   ·have:=ok b fq;omega
   ·omega
  ·subst hb;omega
theorem zdg(hb:h.get p=some (.cells [pm B.size,pg,.bool B.uU] 123))(x:UD h pg B F)(fp:F p)(ok:∀b,F b->h.ro<=b/\b<h.next)(hro:h.ro<=h.next)(h0:0<=a)(h1:a<B.size)(hz:B.size<2147483648) :
  DC Tryz.prog 62 [pi p,pm a,.bool true] h (Iy h p B F a):=by
 apply EY;unfold NV;have hw:=zfM h0 (by omega);have okp:=ok p fp;have hpn:¬p=h.next:=by omega
 have hnp:¬h.next=p:=by omega
 have hpn1:¬p=h.next+1:=by omega
 cases x with
 |empty e u=>
  subst e;have hn1:IntKind.wrap .i64 ((B.size:Int)+64)=(B.size:Int)+64:=ui (by omega) (by omega);have hn2:IntKind.wrap .i64 ((B.size:Int)+64-1)=((B.size+63:Nat):Int):=by rw[ui (by omega) (by omega)];omega
  have hn3:IntKind.wrap .i64 (((B.size+63:Nat):Int).tdiv 64)=(((B.size+63)/64:Nat):Int):=by
   rw[acu (by omega),ui (by omega) (by omega)];omega
  have hm:=zgR .i64 .i64 (((B.size+63)/64:Nat):Int) (((B.size+63)/64:Nat):Int) h (by omega) (by omega) (by omega);have hj:a.toNat/64<(B.size+63)/64:=by omega
  have hj1:a.toNat/64+1<=(B.size+63)/64:=hj;have hc1:0<=((a.toNat/64:Nat):Int)/\((a.toNat/64:Nat):Int)<(((B.size+63)/64:Nat):Int):=by omega
  have hrep:(List.replicate ((B.size+63)/64) (Value.pointer none))[a.toNat/64]? = some (.pointer none):=by simp[hj]
  have hset:∀v:aaa,((List.replicate ((B.size+63)/64) (Value.pointer none)).set (a.toNat/64) v)[a.toNat/64]? = some v:=λv=>aaM (by simpa using hj);simp only[aax,zhn]at hm;simp -implicitDefEqProofs only[zD,xg,zN,yg,yZ,yr,j9,xI,wS,qD,Xj,Uu,AA,zO,yb,xF,yH,yK,lR,aW,nw,Value.cells,aak,aap,aaF,aay,aaE,aaz,abN,aa6,abC,zb,abl,aa9,aad,abb,Nat.reduceAdd,Nat.reduceLeDiff,Int.reduceEq,abg,yD,kf,qC,lY,zI,zt,zR,zK,Bn,tG,yJ,zA,aas,sX,CU,zj,zgf,Oo,MC,pT,pU,jD,aZ,Dy,hb,hn1,hn2,hn3,hm,okp,hpn,hnp,hw,hc1,aax,abk,hrep,zci,hj1,hro,hset];have hnn:¬h.next+1=h.next:=by omega
  have hrl:(List.replicate ((B.size+63)/64) (none:Option Nat)).length=(B.size+63)/64:=abN
  refine Iy.mk (q:=h.next) (c:=(B.size+63)/64+2) (gs:=List.replicate ((B.size+63)/64) none) fp ok hrl (by simp[hj]) (.inr (aam _)) (λj g hj=>(D1 hj).elim) (λ_ _ k _=>u _) (λi j g hi=>(D1 hi).elim) (λk _=>u k)
   ?_ ?_ ?_ hro ?_ ?_ ?_ (λi g hi=>(D1 hi).elim)
  ·exact((((Xm.refl F h).push _).set (.inl fp) _).push _).set (.inr (aam _)) _
  ·simp only[kf,yD];omega
  ·simp only[kf,yD];omega
  ·rw[hrl];simp -implicitDefEqProofs only[yD,kf,zt,zR,zK,tG,aas,hpn,okp]
  ·simp -implicitDefEqProofs only[zR];rw[<- MV,List.map_replicate];rfl
  ·simp -implicitDefEqProofs only[yD,kf,zI,zK,aas,hnn]
 |full q c gs e x=>
  obtain⟨hl,fq,hq,hg,hn,hd,ht⟩:=x;subst e;have hj:a.toNat/64<gs.length:=by rw[hl];omega
  have hj1:a.toNat/64+1<=gs.length:=hj;obtain⟨o,ho⟩:∃o,gs[a.toNat/64]? = some o:=⟨_,aae hj⟩;have hgg:=MU ho;have hc1:0<=((a.toNat/64:Nat):Int)/\((a.toNat/64:Nat):Int)<(gs.length:Int):=by omega
  have okq:=ok q fq;cases o with
  |some g=>
   simp -implicitDefEqProofs only[zD,zN,yg,yr,Yb,yL,wS,qD,AA,zO,yb,xF,yH,nw,Value.cells,aak,aap,aay,aad,Int.reduceEq,abg,zA,aas,sX,CU,zj,pU,Bf,jD,aZ,Dy,hb,hq,hw,hc1,aax,abk,hgg,ZK];exact⟨g,q,c,gs,F,rfl,hb,⟨hl,fq,hq,hg,hn,hd,ht⟩,ho,fp,.refl _ _,λb hb => .inl hb,ok⟩
  |none=>
   have hqn:¬q=h.next:=by omega
   have hnq:¬h.next=q:=by omega
   have hpq:¬p=q:=by intro e;subst e;rw[hb]at hq;simp at hq
   have hset:∀v:aaa,((gs.map ZK).set (a.toNat/64) v)[a.toNat/64]? = some v:=λv=>aaM (by simpa using hj);simp -implicitDefEqProofs only[zD,zN,yg,yZ,yr,j9,Yb,xI,yL,wS,qD,AA,zO,yb,xF,yH,yK,lR,nw,Value.cells,aak,aap,aaF,aay,aaE,aaz,aaf,aa6,abC,zb,aad,abb,Int.reduceEq,abg,qC,zt,zR,zK,yJ,zA,aas,sX,CU,zj,Oo,pT,pU,jD,aZ,Dy,hb,hq,hw,hc1,aax,abk,hgg,ZK,zci,okq,okp,hj1,hset,hpq];refine Iy.mk (q:=q) (c:=c) (gs:=gs) fp ok hl ho (.inl fq) hg hn hd ht ?_ ?_ ?_ hro ?_ ?_ ?_ (λi g hi=>?_)
   ·exact((Xm.refl F h).push _).set (.inl fq) _
   ·simp only[kf,yD];omega
   ·simp only[kf,yD];omega
   ·simp -implicitDefEqProofs only[zt,zK,aas,hpq,okp,hb]
   ·simp -implicitDefEqProofs only[zR];rw[<- MV]
   ·simp -implicitDefEqProofs only[zI,zK,aas,hnq]
   ·have hgq:¬g=q:=by
     intro e;subst e;obtain⟨cs,e1,_⟩:=(hg i g hi).2;rw[hq]at e1;simp at e1
    have:=(ok g (hg i g hi).1).2;simp -implicitDefEqProofs only[zt,zK,aas,hgq,this]
end
def right(M:MM)(c:Int)(p:V):Option Nat :=
 if p.k=2/\(c=1\/c=4\/c=8) then (match idx M p.b with
  |some i=>(match M[i]? with
   |some B=>if 0<=p.n/\p.n<=B.size-c/\p.n.tmod c=0 then some i else none
   |none=>none)
  |none=>none) else none
theorem eJ{M:MM}{c:Int}{p:V}{i:Nat}(h:right M c p=some i):p.k=2/\(c=1\/c=4\/c=8)/\idx M p.b=some i /\ ∃B,M[i]? = some B/\0<=p.n/\p.n<=B.size-c/\p.n.tmod c=0:=by
 unfold right at h;split at h
 case isFalse=>cases h
 rename_i h1;split at h
 case h_2=>cases h
 rename_i j hj;split at h
 case h_2=>cases h
 rename_i B hB;split at h
 case isFalse=>cases h
 rename_i h2;simp only[aab]at h;subst h;exact⟨h1.1,h1.2,hj,B,hB,h2⟩
theorem bO{M:MM}{c:Int}{p:V}{i:Nat}{B:MB}(hi:idx M p.b=some i)(hB:M[i]? = some B)(h:¬(0<=p.n/\p.n<=B.size-c/\p.n.tmod c=0)):right M c p=none:=by
 unfold right;split
 ·simp only[hi,hB];exact aac h
 ·rfl
theorem GK{M:MM}{c:Int}{p:V}{i:Nat}{B:MB}(hk:p.k=2)(hc:c=1\/c=4\/c=8)(hi:idx M p.b=some i)(hB:M[i]? = some B)(h:0<=p.n/\p.n<=B.size-c/\p.n.tmod c=0):right M c p=some i:=by
 unfold right;rw[aai ⟨hk,hc⟩];simp only[hi,hB];exact aai h
def zea(h:za)(f:Nat->Cl)(n c:Nat)(F:Nat->Prop)(v:aaa):Prop :=
 (v=.slice none 0 0 /\ ∀k,k<c->f (n+k)=tZ) \/ ∃g off cs cp,v=.slice (some ⟨g,off,none⟩) c cp/\F g/\h.get g=some (.cells cs 151)/\off+c*5<=cs.length/\off=n%64*5 /\ ∀k j,k<c->j<5->cs[off+k*5+j]? = (f (n+k)).z9[j]?
def ziO(h:za)(M:MM)(F:Nat->Prop)(c:Int)(p:V)(v:aaa)(h1:za):Prop :=
 Xm H6 h h1/\match right M c p with
  |none=>v=.tuple #[.slice none 0 0,.bool false]
  |some i=>∃s,v=.tuple #[s,.bool true] /\ ∀B,M[i]? = some B->zea h1 B.byte p.n.toNat c.toNat F s
def wD(n:Int):Prop := -9223372036854775808<=n/\n<9223372036854775808
def V.ok(v:V):Prop:=wD v.k/\wD v.n/\wD v.b
def small(M:MM):Prop := ∀(i:Nat) (B:MB),M[i]? = some B->B.size<2147483648
section
variable {h:za}{m:Nat}{bs:aaa}{ps:List Nat}{fs:Nat->Nat->Prop}{M:MM}{F:Nat->Prop}{c:Int}{p:V}
theorem zbM(x:WT h m bs ps fs M F)(hs:small M)(hc:wD c)(hp:p.ok) :
  DC Tryz.prog 94 [pi m,pm c,p.val,.bool false] h (ziO h M F c p):=by
 obtain⟨pk,pn,pb⟩:=p;obtain⟨hp1,hp2,hp3⟩:=hp;unfold wD at hc hp1 hp2 hp3;simp only at hp1 hp2 hp3;apply Af;unfold Bz V.val;have x1:WT (h.push (.cells [pm pk,pm pn,pm pb] 66)) m bs ps fs M F:=x.zJ (λb hb=>zt (x.ok b hb).2) (abr _) rfl;have VS:Xm H6 h (h.push (.cells [pm pk,pm pn,pm pb] 66)):=(Xm.refl _ _).push _;by_cases hk:pk=2
 case neg=>
  have e:right M c ⟨pk,pn,pb⟩=none:=by unfold right;rw[aac (λq=>hk q.1)]
  simp -implicitDefEqProofs only[zD,zN,yg,yZ,Kb,PO,xI,uL,Xk,zO,yb,yH,yK,nw,Value.cells,aak,aaF,aay,vw,zI,zA,aas,aaZ,xp,zj,zP,yf,xM,hk];exact⟨VS,by rw[e]⟩
 subst hk;by_cases hcc:c=1\/c=4\/c=8
 case neg=>
  have e:right M c ⟨2,pn,pb⟩=none:=by unfold right;rw[aac (λq=>hcc q.2)]
  have n1:¬c=1:=λq=>hcc (.inl q);have n4:¬c=4:=λq=>hcc (.inr (.inl q));have n8:¬c=8:=λq=>hcc (.inr (.inr q));simp -implicitDefEqProofs only[zD,zN,yg,yZ,j9,kV,xI,yL,uL,Xk,zO,yb,yH,yK,nw,Value.cells,aak,aaF,aay,uj,vw,zI,zA,aas,abq,aaZ,xp,zj,zP,yf,xM,n1,n4,n8];exact⟨VS,by rw[e]⟩
 have hat:=R8 x1 hp3.2;cases hi:idx M pb with
 |none=>
  have e:right M c ⟨2,pn,pb⟩=none:=by unfold right;rw[aai ⟨rfl,hcc⟩];simp only[hi]
  rw[hi]at hat;rcases hcc with rfl|rfl|rfl <;> simp -implicitDefEqProofs only[zD,zN,yg,yr,j9,kV,Yb,xI,yL,uL,Xk,zO,yb,yH,yK,nth,nw,Value.cells,aak,aap,aaF,aay,Int.reduceEq,uj,vw,zI,zA,aas,abq,aaZ,xp,zj,zP,yf,xM] <;> refine y5 (by kernel_rfl) rfl hat ?_ <;> rintro v h1 ⟨rfl,rfl⟩ <;> simp -implicitDefEqProofs only[zD,zN,yg,yZ,Kb,xI,zO,xF,abn,pS,abn,ZK] <;> exact⟨VS,by rw[e]⟩
 |some i=>
  obtain⟨hpb,B,hB,hf⟩:=Uw hi
  obtain⟨q,hq⟩:∃q,ps[i]? = some q:=by
   have hlt:i<M.length:=by
    rcases aar i M.length with a|a
    ·exact a
    ·rw[aal a]at hB;cases hB
   exact⟨_,aae (by rw[x.len];exact hlt)⟩
  obtain⟨pg,hbk,fq,hpg⟩:=x1.k9 i q B hq hB;have hz:=hs i B hB;rw[hi]at hat;have hcb:1<=c/\c<=8:=by omega
  have hcn:¬c=0:=by omega
  have hw:IntKind.wrap .i64 ((B.size:Int)-c)=(B.size:Int)-c:=ui (by omega) (by omega);by_cases h0:pn<0
  ·have e:=bO (p:=⟨2,pn,pb⟩) (c:=c) hi hB (λq=>by have:0<=pn:=q.1;omega);rcases hcc with rfl|rfl|rfl
   all_goals
    simp -implicitDefEqProofs only[zD,zN,yg,yr,j9,kV,Yb,xI,yL,uL,Xk,zO,yb,yH,yK,nth,nw,Value.cells,aak,aap,aaF,aay,Int.reduceEq,uj,vw,zI,zA,aas,abq,aaZ,xp,zj,zP,yf,xM];refine y5 (by kernel_rfl) rfl hat ?_;rintro v h1 ⟨rfl,rfl⟩;simp -implicitDefEqProofs only[zD,zN,yg,yZ,kV,Kb,xI,yL,qJ,zO,yb,xF,aaI,aak,aap,uj,zI,zA,xp,VT,hq,ZK,h0];exact⟨VS,by rw[e]⟩
  by_cases h1:(B.size:Int)-c<pn
  ·have e:=bO (p:=⟨2,pn,pb⟩) (c:=c) hi hB (λq=>by have:pn<=B.size-c:=q.2.1;omega);rcases hcc with rfl|rfl|rfl
   all_goals
    simp -implicitDefEqProofs only[zD,zN,yg,yr,j9,kV,Yb,xI,yL,uL,Xk,zO,yb,yH,yK,nth,nw,Value.cells,aak,aap,aaF,aay,Int.reduceEq,uj,vw,zI,zA,aas,abq,aaZ,xp,zj,zP,yf,xM];refine y5 (by kernel_rfl) rfl hat ?_;rintro v h1 ⟨rfl,rfl⟩;simp -implicitDefEqProofs only[zD,zN,yg,yZ,kV,Kb,xI,yL,wS,qJ,UK,Uu,zO,yb,xF,aaI,aak,aap,uj,vw,zI,zA,aas,xp,zj,VT,jD,hq,ZK,h0,hbk,hw,h1];exact⟨VS,by rw[e]⟩
  by_cases h2:pn.tmod c=0
  case neg=>
   have e:=bO (p:=⟨2,pn,pb⟩) (c:=c) hi hB (λq=>h2 q.2.2);rcases hcc with rfl|rfl|rfl
   all_goals
    simp -implicitDefEqProofs only[zD,zN,yg,yr,j9,kV,Yb,xI,yL,uL,Xk,zO,yb,yH,yK,nth,nw,Value.cells,aak,aap,aaF,aay,Int.reduceEq,uj,vw,zI,zA,aas,abq,aaZ,xp,zj,zP,yf,xM];refine y5 (by kernel_rfl) rfl hat ?_;rintro v h1 ⟨rfl,rfl⟩;simp -implicitDefEqProofs only[zD,zN,yg,yZ,kV,yL,wS,qJ,UK,Xk,Uu,mD,zO,yb,xF,aaI,aak,aap,Int.reduceEq,vw,zI,zA,aas,aaZ,xp,zj,VT,jD,hq,ZK,h0,hbk,hw,h1,h2];exact⟨VS,by rw[e]⟩
  have e:=GK (p:=⟨2,pn,pb⟩) (c:=c) rfl hcc hi hB ⟨by show 0<=pn;omega,by show pn<=_;omega,h2⟩;have hmd:=zgO hbk hpg (a:=pn) (by omega) (by omega) (by omega);have hr1:pn.tmod 64=((pn.toNat%64:Nat):Int):=by rw[abx (by omega)];omega
  have hr2:IntKind.wrap .i64 (((pn.toNat%64:Nat):Int)+c)=((pn.toNat%64:Nat):Int)+c:=ui (by omega) (by omega)
  have hin:((pn.toNat%64:Nat):Int)+c<=64:=by
   rw[abx (by omega)]at h2;rcases hcc with rfl|rfl|rfl <;> omega
  have hb1:0<=((pn.toNat%64:Nat):Int)+c/\((pn.toNat%64:Nat):Int)+c<=((64:Nat):Int):=by omega
  have hb2:0<=((pn.toNat%64:Nat):Int)/\((pn.toNat%64:Nat):Int)<=((((pn.toNat%64:Nat):Int)+c).toNat:Int):=by omega
  have hb3:¬64=pn.toNat%64:=by omega
  have hb4:(((pn.toNat%64:Nat):Int)+c).toNat-pn.toNat%64=c.toNat:=by omega
  rcases hcc with rfl|rfl|rfl
  all_goals
   simp -implicitDefEqProofs only[zD,zN,yg,yr,j9,kV,Yb,xI,yL,uL,Xk,zO,yb,yH,yK,nth,nw,Value.cells,aak,aap,aaF,aay,Int.reduceEq,uj,vw,zI,zA,aas,abq,aaZ,xp,zj,zP,yf,xM];refine y5 (by kernel_rfl) rfl hat ?_;rintro v h1 ⟨rfl,rfl⟩;simp -implicitDefEqProofs only[zD,zN,yg,yr,kV,yL,wS,qJ,UK,Xk,Uu,mD,zO,yb,xF,aaI,nth,aak,aap,Int.reduceEq,uj,vw,zI,zA,aas,abq,xp,zj,VT,jD,hq,ZK,h0,hbk,hw,h1,h2];refine y5 (by kernel_rfl) rfl hmd ?_;rintro v h1 ⟨rfl,⟨rfl,hu⟩|⟨g,rfl,fg,hpage⟩⟩
   ·simp -implicitDefEqProofs only[zD,zN,yg,yZ,xF,pT,ZK];refine⟨VS,?_⟩;rw[e];refine⟨_,rfl,λB' hB' => .inl ⟨rfl,λk hk=>?_⟩⟩;rw[hB]at hB';cases hB';have:=hu (pn.toNat%64+k) (by omega);rw[show 64*(pn.toNat/64)+(pn.toNat%64+k)=pn.toNat+k by omega]at this;exact this
   ·simp -implicitDefEqProofs only[zD,zN,yg,yr,wS,uL,Xj,mD,zO,yb,xF,yH,rF,aaC,XN,aaI,aak,aap,aay,aad,abe,abb,Int.reduceEq,Int.reduceToNat,abg,abQ,zI,aas,Bf,zdQ,ZK,hr1,hr2,hb1,hb2,hb3,hb4,aax];refine⟨VS,?_⟩;rw[e];refine⟨_,rfl,λB' hB' => .inr ?_⟩;rw[hB]at hB';cases hB';obtain⟨cs,hgc,hlen,hcs⟩:=hpage;refine⟨g,_,cs,0,rfl,x.sub i g fg,hgc,by rw[hlen];omega,rfl,λk j hk hj=>?_⟩;have:=hcs (pn.toNat%64+k) j (by omega) hj;rw[show(pn.toNat%64+k)*5+j=pn.toNat%64*5+k*5+j by omega]at this;rw[this];show(B.byte (64*(pn.toNat/64)+(pn.toNat%64+k))).z9[j]? = _;rw[show 64*(pn.toNat/64)+(pn.toNat%64+k)=pn.toNat+k by omega]
def To(h:za)(m:Nat)(M:MM)(F:Nat->Prop)(c:Int)(p:V)(v:aaa)(h1:za):Prop :=
 match right M c p with
 |none=>v=.tuple #[.slice none 0 0,.bool false]/\Xm H6 h h1
 |some i=>∃g bs ps fs F' q qp cq gs B,M[i]? = some B/\v=.tuple #[.slice (some ⟨g,p.n.toNat%64*5,none⟩) c.toNat 0,.bool true]/\WT h1 m bs ps fs M F'/\ps[i]? = some qp /\
   h1.get qp=some (.cells [pm B.size,.slice (some ⟨q,0,none⟩) gs.length cq,.bool B.uU] 123)/\fs i qp/\V2 h1 q gs B (fs i)/\gs[p.n.toNat/64]? = some (some g)/\Xm F h h1 /\ ∀b,F' b->F b\/h.next<=b
theorem zbN(hro:h.ro<=h.next)(x:WT h m bs ps fs M F)(hs:small M)(hc:wD c)(hp:p.ok) :
  DC Tryz.prog 94 [pi m,pm c,p.val,.bool true] h (To h m M F c p):=by
 obtain⟨pk,pn,pb⟩:=p;obtain⟨hp1,hp2,hp3⟩:=hp;unfold wD at hc hp1 hp2 hp3;simp only at hp1 hp2 hp3;apply Af;unfold Bz V.val;have x1:WT (h.push (.cells [pm pk,pm pn,pm pb] 66)) m bs ps fs M F:=x.zJ (λb hb=>zt (x.ok b hb).2) (abr _) rfl;have VS:Xm H6 h (h.push (.cells [pm pk,pm pn,pm pb] 66)):=(Xm.refl _ _).push _
 have no:∀{c},right M c ⟨pk,pn,pb⟩=none->To h m M F c ⟨pk,pn,pb⟩ (.tuple #[pp,.bool false]) (h.push (.cells [pm pk,pm pn,pm pb] 66)):=λe=>by
  unfold To;rw[e];exact⟨rfl,VS⟩
 by_cases hk:pk=2
 case neg=>
  have e:right M c ⟨pk,pn,pb⟩=none:=by unfold right;rw[aac (λq=>hk q.1)]
  simp -implicitDefEqProofs only[zD,zN,yg,yZ,Kb,PO,xI,uL,Xk,zO,yb,yH,yK,nw,Value.cells,aak,aaF,aay,vw,zI,zA,aas,aaZ,xp,zj,zP,yf,xM,hk];exact no e
 subst hk;by_cases hcc:c=1\/c=4\/c=8
 case neg=>
  have e:right M c ⟨2,pn,pb⟩=none:=by unfold right;rw[aac (λq=>hcc q.2)]
  have n1:¬c=1:=λq=>hcc (.inl q);have n4:¬c=4:=λq=>hcc (.inr (.inl q));have n8:¬c=8:=λq=>hcc (.inr (.inr q));simp -implicitDefEqProofs only[zD,zN,yg,yZ,j9,kV,xI,yL,uL,Xk,zO,yb,yH,yK,nw,Value.cells,aak,aaF,aay,uj,vw,zI,zA,aas,abq,aaZ,xp,zj,zP,yf,xM,n1,n4,n8];exact no e
 have hat:=R8 x1 hp3.2;cases hi:idx M pb with
 |none=>
  have e:right M c ⟨2,pn,pb⟩=none:=by unfold right;rw[aai ⟨rfl,hcc⟩];simp only[hi]
  rw[hi]at hat;rcases hcc with rfl|rfl|rfl <;> simp -implicitDefEqProofs only[zD,zN,yg,yr,j9,kV,Yb,xI,yL,uL,Xk,zO,yb,yH,yK,nth,nw,Value.cells,aak,aap,aaF,aay,Int.reduceEq,uj,vw,zI,zA,aas,abq,aaZ,xp,zj,zP,yf,xM] <;> refine y5 (by kernel_rfl) rfl hat ?_ <;> rintro v h1 ⟨rfl,rfl⟩ <;> simp -implicitDefEqProofs only[zD,zN,yg,yZ,Kb,xI,zO,xF,abn,pS,abn,ZK] <;> exact no e
 |some i=>
  obtain⟨hpb,B,hB,hf⟩:=Uw hi
  obtain⟨q,hq⟩:∃q,ps[i]? = some q:=by
   have hlt:i<M.length:=by
    rcases aar i M.length with a|a
    ·exact a
    ·rw[aal a]at hB;cases hB
   exact⟨_,aae (by rw[x.len];exact hlt)⟩
  obtain⟨pg,hbk,fq,hpg⟩:=x1.k9 i q B hq hB;have hz:=hs i B hB;rw[hi]at hat;have hcb:1<=c/\c<=8:=by omega
  have hcn:¬c=0:=by omega
  have hw:IntKind.wrap .i64 ((B.size:Int)-c)=(B.size:Int)-c:=ui (by omega) (by omega);by_cases h0:pn<0
  ·have e:=bO (p:=⟨2,pn,pb⟩) (c:=c) hi hB (λq=>by have:0<=pn:=q.1;omega);rcases hcc with rfl|rfl|rfl
   all_goals
    simp -implicitDefEqProofs only[zD,zN,yg,yr,j9,kV,Yb,xI,yL,uL,Xk,zO,yb,yH,yK,nth,nw,Value.cells,aak,aap,aaF,aay,Int.reduceEq,uj,vw,zI,zA,aas,abq,aaZ,xp,zj,zP,yf,xM];refine y5 (by kernel_rfl) rfl hat ?_;rintro v h1 ⟨rfl,rfl⟩;simp -implicitDefEqProofs only[zD,zN,yg,yZ,kV,Kb,xI,yL,qJ,zO,yb,xF,aaI,aak,aap,uj,zI,zA,xp,VT,hq,ZK,h0];exact no e
  by_cases h1:(B.size:Int)-c<pn
  ·have e:=bO (p:=⟨2,pn,pb⟩) (c:=c) hi hB (λq=>by have:pn<=B.size-c:=q.2.1;omega);rcases hcc with rfl|rfl|rfl
   all_goals
    simp -implicitDefEqProofs only[zD,zN,yg,yr,j9,kV,Yb,xI,yL,uL,Xk,zO,yb,yH,yK,nth,nw,Value.cells,aak,aap,aaF,aay,Int.reduceEq,uj,vw,zI,zA,aas,abq,aaZ,xp,zj,zP,yf,xM];refine y5 (by kernel_rfl) rfl hat ?_;rintro v h1 ⟨rfl,rfl⟩;simp -implicitDefEqProofs only[zD,zN,yg,yZ,kV,Kb,xI,yL,wS,qJ,UK,Uu,zO,yb,xF,aaI,aak,aap,uj,vw,zI,zA,aas,xp,zj,VT,jD,hq,ZK,h0,hbk,hw,h1];exact no e
  by_cases h2:pn.tmod c=0
  case neg=>
   have e:=bO (p:=⟨2,pn,pb⟩) (c:=c) hi hB (λq=>h2 q.2.2);rcases hcc with rfl|rfl|rfl
   all_goals
    simp -implicitDefEqProofs only[zD,zN,yg,yr,j9,kV,Yb,xI,yL,uL,Xk,zO,yb,yH,yK,nth,nw,Value.cells,aak,aap,aaF,aay,Int.reduceEq,uj,vw,zI,zA,aas,abq,aaZ,xp,zj,zP,yf,xM];refine y5 (by kernel_rfl) rfl hat ?_;rintro v h1 ⟨rfl,rfl⟩;simp -implicitDefEqProofs only[zD,zN,yg,yZ,kV,yL,wS,qJ,UK,Xk,Uu,mD,zO,yb,xF,aaI,aak,aap,Int.reduceEq,vw,zI,zA,aas,aaZ,xp,zj,VT,jD,hq,ZK,h0,hbk,hw,h1,h2];exact no e
  have e:=GK (p:=⟨2,pn,pb⟩) (c:=c) rfl hcc hi hB ⟨by show 0<=pn;omega,by show pn<=_;omega,h2⟩;have hmd:=zdg hbk hpg fq (λb hb=>x1.ok b (x1.sub i b hb)) (by simp only[yD,qC];omega) (a:=pn) (by omega) (by omega) (by omega);have hr1:pn.tmod 64=((pn.toNat%64:Nat):Int):=by rw[abx (by omega)];omega
  have hr2:IntKind.wrap .i64 (((pn.toNat%64:Nat):Int)+c)=((pn.toNat%64:Nat):Int)+c:=ui (by omega) (by omega)
  have hin:((pn.toNat%64:Nat):Int)+c<=64:=by
   rw[abx (by omega)]at h2;rcases hcc with rfl|rfl|rfl <;> omega
  have hb1:0<=((pn.toNat%64:Nat):Int)+c/\((pn.toNat%64:Nat):Int)+c<=((64:Nat):Int):=by omega
  have hb2:0<=((pn.toNat%64:Nat):Int)/\((pn.toNat%64:Nat):Int)<=((((pn.toNat%64:Nat):Int)+c).toNat:Int):=by omega
  have hb3:¬64=pn.toNat%64:=by omega
  have hb4:(((pn.toNat%64:Nat):Int)+c).toNat-pn.toNat%64=c.toNat:=by omega
  have hbox:∀h1,Xm (fs i) (h.push (.cells [pm 2,pm pn,pm pb] 66)) h1->h1.get h.next=some (.cells [pm 2,pm pn,pm pb] 66):=λh1 ef=>by
   rw[ef.get h.next (λhc=>by have:=(x.ok _ (x.sub i _ hc)).2;omega) (by simp only[yD];omega),zk]
  rcases hcc with rfl|rfl|rfl
  all_goals
   simp -implicitDefEqProofs only[zD,zN,yg,yr,j9,kV,Yb,xI,yL,uL,Xk,zO,yb,yH,yK,nth,nw,Value.cells,aak,aap,aaF,aay,Int.reduceEq,uj,vw,zI,zA,aas,abq,aaZ,xp,zj,zP,yf,xM];refine y5 (by kernel_rfl) rfl hat ?_;rintro v h1 ⟨rfl,rfl⟩;simp -implicitDefEqProofs only[zD,zN,yg,yr,kV,yL,wS,qJ,UK,Xk,Uu,mD,zO,yb,xF,aaI,nth,aak,aap,Int.reduceEq,uj,vw,zI,zA,aas,abq,xp,zj,VT,jD,hq,ZK,h0,hbk,hw,h1,h2];refine y5 (by kernel_rfl) rfl hmd ?_;rintro v h1 ⟨g,pq,cq,gs,F',rfl,hbk1,hfull,hgs,fp1,ef,hsub,hok⟩;have hbx:=hbox h1 ef;simp -implicitDefEqProofs only[zD,zN,yg,yr,wS,uL,Xj,mD,zO,yb,xF,yH,rF,aaC,XN,aaI,aak,aap,aay,aad,abe,abb,Int.reduceEq,Int.reduceToNat,abg,abQ,aas,Bf,zdQ,ZK,hr1,hr2,hb1,hb2,hb3,hb4,aax,hbx];unfold To;rw[e];have y:=x1.Ip hq hB rfl ef ⟨_,hbk1,fp1,.full pq cq gs rfl hfull⟩ hsub hok;rw[Nx hB]at y;refine⟨g,_,_,_,_,pq,q,cq,gs,B,hB,rfl,y,hq,hbk1,by simp only[aad];exact fp1,by simp only[aad];exact hfull,hgs,(VS.mono (λ_ h=>h.elim)).trans (ef.mono (λb hb=>x.sub i b hb)),λb hb=>?_⟩;rcases hb with hb|hb
   ·exact .inl hb
   ·rcases hsub b hb with hb|hb
    ·exact .inl (x.sub i b hb)
    ·exact .inr (by have:h.next+1<=b:=hb;omega)
end
def DP(f:Nat->Cl)(n:Nat):Nat->Int
 |0=>0
 |k+1=>IntKind.wrap .u64 ((BitVec.ofInt 64 (DP f n k) ||| BitVec.ofInt 64 (IntKind.wrap .u64 (IntKind.wrap .u64 (f (n+k)).n*2^(8*k)))).toNat)
def Yi(f:Nat->Cl)(n:Nat):Nat->Bool
 |0=>true
 |k+1=>Yi f n k&&decide ((f (n+k)).k=1)
def qU(f:Nat->Cl)(n:Nat)(c:Int):Nat->Bool
 |0=>decide (c=8)
 |k+1=>qU f n c k&&decide ((f (n+k)).k=2)&&decide (IntKind.wrap .i64 (f (n+k)).n=k)&&decide ((f (n+k)).p=(f n).p)
def eY(f:Nat->Cl)(n:Nat)(c:Int):V :=
 if Yi f n c.toNat=true then ⟨1,if c=8 then IntKind.wrap .i64 (DP f n c.toNat) else if c=4 then IntKind.wrap .i64 (IntKind.wrap .i32 (DP f n c.toNat)) else IntKind.wrap .i64 (IntKind.wrap .i8 (DP f n c.toNat)),0⟩
 else if qU f n c c.toNat=true then (f n).p else v0
def kZ(M:MM)(c:Int)(p:V):Option V:=match right M c p with
 |none=>none
 |some i=>(M[i]?).map λB=>eY B.byte p.n.toNat c
def EX(M:MM)(c:Int)(p:V)(v:aaa):Prop:=match kZ M c p with
 |none=>v=.tuple #[v0.val,.bool false]
 |some a=>v=.tuple #[a.val,.bool true]
theorem tX{cs:List aaa}{o:Nat}{c:Cl}(h:∀j,j<5->cs[o+j]? = c.z9[j]?):(cs.drop o).take 5=c.z9:=by
 apply abc;intro j;by_cases hj:j<5
 ·rw[aaX hj,aa1];exact h j hj
 ·rw[aal (by simp;omega),aal (by show 5<=j;omega)]
theorem zdZ{cs:List aaa}{o:Nat}{c:Cl}(h:∀j,j<5->cs[o+j]? = c.z9[j]?):(cs.drop (o+2)).take 3=[pm c.p.k,pm c.p.n,pm c.p.b]:=by
 have:=congrArg (List.drop 2) (tX h);rw[List.drop_take,List.drop_drop]at this;exact this
theorem veq(a b:V):((a.k == b.k)&&((a.n == b.n)&&(a.b == b.b)))=decide (a=b):=by
 obtain⟨a1,a2,a3⟩:=a;obtain⟨b1,b2,b3⟩:=b;rw[Bool.eq_iff_iff];simp
theorem zdq{f:Nat->Cl}{n c:Nat}(h:∀k,k<c->f (n+k)=tZ)(h1:1<=c):Yi f n c=false:=by
 cases c with
 |zero=>omega
 |succ c=>unfold Yi;rw[h c (by omega)];simp[tZ]
theorem zaK{f:Nat->Cl}{n c:Nat}{d:Int}(h:∀k,k<c->f (n+k)=tZ)(h1:1<=c):qU f n d c=false:=by
 cases c with
 |zero=>omega
 |succ c=>unfold qU;rw[h c (by omega)];simp[tZ]
section
variable {h:za}{m:Nat}{bs:aaa}{ps:List Nat}{fs:Nat->Nat->Prop}{M:MM}{F:Nat->Prop}{c:Int}{p:V}
def zfn(h:za)(f:Nat->Cl)(n:Nat)(c:Int)(m:Nat)(vs:List aaa)(h':za):Prop :=
 ∃k,k<=c.toNat/\m=c.toNat-k/\vs=[.int .u64 (DP f n k),.bool (Yi f n k),.bool (qU f n c k),pm k]/\Xm H6 h h'
theorem zeU(x:WT h m bs ps fs M F)(hs:small M)(hc:wD c)(hp:p.ok) :
  DC Tryz.prog 70 [pi m,pm c,p.val] h (λv h1=>Xm H6 h h1/\EX M c p v):=by
 apply Ym;intro hwf;have hro:=hwf.2;apply Ty;unfold zbd;have e1:p.val=.agg #[pm p.k,pm p.n,pm p.b]:=rfl;have VS:Xm H6 h ((h.push (.cells [pm p.k,pm p.n,pm p.b] 66)).push (.cells [pm 0,pm 0,pm 0] 66)):=((Xm.refl _ _).push _).push _
 have x1:WT ((h.push (.cells [pm p.k,pm p.n,pm p.b] 66)).push (.cells [pm 0,pm 0,pm 0] 66)) m bs ps fs M F :=
  x.zJ (λb hb=>VS.get b (λe=>e) (x.ok b hb).2) VS.next VS.ro
 have hac:=zbM (c:=c) (p:=p) x1 hs hc hp;rw[e1];simp -implicitDefEqProofs only[zD,zN,yg,WY,yb,yK,qK,nth,nw,Value.cells,BK,aaF,aay,aaE,aaz,aa6,abC,zb,abA,aaU,abD,aad,abb,Nat.reduceAdd,abg,aam,yD,zI,zt,Bn,yJ,zZ,zA,Om,zi,zo,zgl,y7,zM,zcM,zcN,bB];rw[e1]at hac;refine y5 (by kernel_rfl) rfl hac ?_;rintro v h1 ⟨ef,hr⟩
 have hl:h1.get (h.next+1)=some (.cells [pm 0,pm 0,pm 0] 66):=by
  rw[ef.get _ (λe=>e) (by simp only[yD];omega)];exact zI (by simp only[yD])
 have hr1:h1.ro<=h.next+1:=by rw[ef.ro];simp only[qC];omega
 have hpost:∀a,kZ M c p=some a->EX M c p (.tuple #[.agg #[pm a.k,pm a.n,pm a.b],.bool true]):=λa ha=>by unfold EX;rw[ha];rfl
 cases e:right M c p with
 |none=>
  rw[e]at hr;subst hr;simp -implicitDefEqProofs only[dK,dL,zD,xg,zN,yg,yZ,uL,zO,yH,yK,aay,aaE,aaz,abl,aa9,aaU,abD,aad,Nat.reduceAdd,abg,aam,zR,MD,ey,hl,hr1];exact⟨(VS.trans ef).set (.inr (by omega)) _,by unfold EX kZ;rw[e];rfl⟩
 |some i=>
  rw[e]at hr;obtain⟨s,rfl,hcell⟩:=hr;obtain⟨hk,hcc,hi,B,hB,hn0,hn1,hn2⟩:=eJ e;have hlm:kZ M c p=some (eY B.byte p.n.toNat c):=by unfold kZ;rw[e];simp only[hB];rfl
  have hc1:1<=c.toNat/\c.toNat<=8:=by omega
  rcases hcell B hB with⟨rfl,hu⟩|⟨g,off,cs,cp,rfl,fg,hg,hlen,hoff,hcs⟩
  ·simp -implicitDefEqProofs only[dK,dL,zD,xg,zN,yg,yZ,uL,zO,yH,yK,aay,aaE,aaz,abl,aa9,aaU,abD,aad,Nat.reduceAdd,abg,aam,zR,MD,ey,hl,hr1];refine⟨(VS.trans ef).set (.inr (by omega)) _,?_⟩
   have:eY B.byte p.n.toNat c=v0:=by
    unfold eY;rw[zdq hu hc1.1,zaK hu hc1.1];rfl
   rw[this]at hlm;exact hpost _ hlm
  ·simp -implicitDefEqProofs only[dK,dL,zD,xg,zN,yg,yr,uL,zO,yH,yK,nth,aay,acA,aaE,aaz,abl,aa9,aaU,abD,aad,Nat.reduceAdd,Nat.reduceMul,Int.reduceLE,Int.reduceToNat,abg,abQ,aam,zR,zeB,VL,ey,hl,hr1];refine qY (zfn h1 B.byte p.n.toNat c) c.toNat ⟨0,by omega,by omega,rfl,.refl _ _⟩ ?_;rintro n vs h2 ⟨k,hk1,rfl,rfl,ef2⟩;have hg2:h2.get g=some (.cells cs 151):=by rw[ef2.get g (λe=>e) (by have:=(x.ok g fg).2;have:=ef.next;have:=VS.next;omega),hg]
   by_cases hlt:k<c.toNat
   ·have hki:(k:Int)<(c.toNat:Int):=(by omega);have hcel:=tX (hcs k · hlt);have hc0:=tX (hcs 0 · (by omega));have hb1:0<=(k:Int)/\(k:Int)<(c.toNat:Int):=by omega
    have hb2:off+k*5+5<=cs.length:=(by omega);have hb3:off+5<=cs.length:=(by omega);have hb4:0<=(0:Int)/\(0:Int)<(c.toNat:Int):=(by omega);have hw1:IntKind.wrap .i64 (8*(k:Int))=((8*k:Nat):Int):=(by rw[ui (by omega) (by omega)];omega);have hw2:IntKind.wrap .i64 ((k:Int)+1)=((k+1:Nat):Int):=(by rw[ui (by omega) (by omega)];omega);have hr2:h2.ro<=h2.next:=(by have:=ef2.ro;have:=ef2.next;have:=ef.next;simp only[yD]at this;omega);have hk0:0<=((8*k:Nat):Int):=(by omega);have hmin:min (8*k) IntKind.u64.bits=8*k:=by show min (8*k) 64=_;omega
    have hnext:∀{a b d h3},Xm H6 h2 h3->a=DP B.byte p.n.toNat (k+1)->b=Yi B.byte p.n.toNat (k+1)->d=qU B.byte p.n.toNat c (k+1)->∃m,m<c.toNat-k/\zfn h1 B.byte p.n.toNat c m [.int .u64 a,.bool b,.bool d,pm ((k+1:Nat):Int)] h3:=λef3 ea eb ed=>
     ⟨c.toNat-(k+1),by omega,k+1,by omega,rfl,by rw[ea,eb,ed],ef2.trans ef3⟩
    have hefn:∀l l',Xm H6 h2 ((h2.push (.cells l 126)).set h2.next (some (.cells l' 126))):=λl l'=>((Xm.refl _ _).push _).set (.inr (aam _)) _;have hgn:∀l l',((h2.push (.cells l 126)).set h2.next (some (.cells l' 126))).get g=some (.cells cs 151):=λl l'=>by rw[(hefn l l').get g (λe=>e) (by have:=(x.ok g fg).2;have:=ef.next;have:=VS.next;have:=ef2.next;omega),hg2]
    simp only[Cl.z9]at hcel hc0;have hp3:(cs.drop (off+2)).take 3=[pm (B.byte p.n.toNat).p.k,pm (B.byte p.n.toNat).p.n,pm (B.byte p.n.toNat).p.b]:=zdZ (λj hj=>by simpa using hcs 0 j (by omega) hj);have hb5:off+2+3<=cs.length:=by omega
    cases hP:qU B.byte p.n.toNat c k with
    |false=>
     cases hN:Yi B.byte p.n.toNat k
     all_goals
      simp -implicitDefEqProofs only[zD,xg,zN,yg,yZ,yr,j9,Yb,xI,yL,qJ,WY,Xj,KP,F7,T4,zO,yb,yK,qK,nth,aak,aap,aay,aaE,aaz,aa6,abC,zb,abl,aa9,aad,abb,Nat.reduceAdd,abg,aam,uj,qC,zI,zR,yJ,zZ,zA,Hr,Om,zi,gZ,Uv,XP,jB,VF,KQ,pQ,bB,VL,hki,hg2,hb1,hb2,hb4,hcel,hw1,hw2,aax,hr2,hk0,hmin];refine hnext (hefn _ _) rfl ?_ ?_
      ·simp[Yi,hN]
      ·simp[qU,hP]
    |true=>
     by_cases hk2:(B.byte (p.n.toNat+k)).k=2
     ·by_cases hkk:IntKind.wrap .i64 (B.byte (p.n.toNat+k)).n=(k:Int)
      ·cases hN:Yi B.byte p.n.toNat k
       all_goals
        simp -implicitDefEqProofs only[zD,xg,zN,yg,yZ,yr,j9,Yb,xI,yL,qJ,WY,Xj,KP,F7,T4,zO,yb,yK,qK,nth,aak,aap,aay,acA,aaE,aaz,aa6,abC,zb,abl,aa9,abA,aaU,acr,abD,aad,abb,Nat.reduceAdd,Nat.reduceMul,Int.reduceEq,Int.reduceToNat,abg,aam,uj,vw,qC,zI,zR,yJ,zZ,zA,aas,Hr,Om,zi,gZ,zo,Uv,XP,jB,VF,KQ,pQ,zcu,QS,bB,VL,hki,hg2,hb1,hb2,hb3,hb4,hp3,hcel,hw1,hw2,aax,hr2,hk0,hgn,hmin,hk2,hkk];refine hnext (hefn _ _) rfl ?_ ?_
        ·simp[Yi,hN,hk2]
        ·simp only[qU,hP,hk2,hkk,veq,aa2,ac2]
      ·cases hN:Yi B.byte p.n.toNat k
       all_goals
        simp -implicitDefEqProofs only[zD,xg,zN,yg,yZ,yr,j9,Yb,xI,yL,qJ,WY,Xj,KP,F7,T4,zO,yb,yK,qK,nth,aak,aap,aay,aaE,aaz,aa6,abC,zb,abl,aa9,aad,abb,Nat.reduceAdd,Int.reduceEq,abg,aam,uj,vw,qC,zI,zR,yJ,zZ,zA,aas,Hr,Om,zi,gZ,Uv,XP,jB,VF,KQ,pQ,zcu,bB,VL,hki,hg2,hb1,hb2,hb3,hb4,hcel,hw1,hw2,aax,hr2,hk0,hmin,hk2,hkk];refine hnext (hefn _ _) rfl ?_ ?_
        ·simp[Yi,hN,hk2]
        ·simp[qU,hP,hk2,hkk]
     ·cases hN:Yi B.byte p.n.toNat k
      all_goals
       simp -implicitDefEqProofs only[zD,xg,zN,yg,yZ,yr,j9,Yb,xI,yL,qJ,WY,Xj,KP,F7,T4,zO,yb,yK,qK,nth,aak,aap,aay,aaE,aaz,aa6,abC,zb,abl,aa9,aad,abb,Nat.reduceAdd,abg,aam,uj,vw,qC,zI,zR,yJ,zZ,zA,aas,Hr,Om,zi,gZ,Uv,XP,jB,VF,KQ,pQ,bB,VL,hki,hg2,hb1,hb2,hb3,hb4,hcel,hw1,hw2,aax,hr2,hk0,hmin,hk2];refine hnext (hefn _ _) rfl ?_ ?_
       ·simp[Yi,hN]
       ·simp[qU,hP,hk2]
   ·have hki:¬(k:Int)<(c.toNat:Int):=(by omega);have hkc:k=c.toNat:=(by omega);subst hkc
    have hl2:h2.get (h.next+1)=some (.cells [pm 0,pm 0,pm 0] 66):=by
     rw[ef2.get _ (λe=>e) (by have:=ef.next;simp only[yD]at this;omega),hl]
    have hr2:h2.ro<=h.next+1:=(by rw[ef2.ro];exact hr1);have hof:∀n,DC Tryz.prog 37 [pm n] h2 (λv h1=>v=V.val ⟨1,n,0⟩/\Xm H6 h2 h1):=λn=>WO n h2
    have hsl:∀h3,Xm H6 h2 h3->h3.get (h.next+1)=some (.cells [pm 0,pm 0,pm 0] 66)/\h3.ro<=h.next+1:=λh3 e3=>
     ⟨by rw[e3.get _ (λe=>e) (by have:=ef.next;have:=ef2.next;simp only[yD]at *;omega),hl2],by rw[e3.ro];exact hr2⟩
    have hfin:∀{h3 a v},Xm H6 h2 h3->eY B.byte p.n.toNat c=a->Xm H6 h (h3.set (h.next+1) v)/\EX M c p (.tuple #[.agg #[pm a.k,pm a.n,pm a.b],.bool true]):=λe3 ea=>
     ⟨(((VS.trans ef).trans ef2).trans e3).set (.inr (by omega)) _,hpost _ (by rw[hlm,ea])⟩
    cases hN:Yi B.byte p.n.toNat c.toNat with
    |true=>
     rcases hcc with rfl|rfl|rfl
     all_goals
      simp -implicitDefEqProofs only[zD,xg,zN,yg,yZ,yr,j9,xI,qJ,WY,Xj,KP,zO,yb,nth,Nat.reduceSub,Int.reduceEq,Int.reduceToNat,uj,vw,zA,aas,Om,Uv,XP,jB,VF,KQ,VL];refine y5 (by kernel_rfl) rfl (hof _) ?_;rintro v h3 ⟨rfl,e3⟩;obtain⟨g1,g2⟩:=hsl h3 e3;simp -implicitDefEqProofs only[zD,zN,yg,uL,zO,yK,qK,aay,aaE,aaz,aa6,abC,zb,abl,aa9,aaU,abD,aad,abb,Nat.reduceAdd,abg,aam,zR,yJ,zo,V.val,g1,g2];refine hfin (a:=⟨1,_,0⟩) e3 ?_;unfold eY;rw[aai hN];rfl
    |false=>
     cases hP:qU B.byte p.n.toNat c c.toNat with
     |true=>
      have hp3:(cs.drop (off+2)).take 3=[pm (B.byte p.n.toNat).p.k,pm (B.byte p.n.toNat).p.n,pm (B.byte p.n.toNat).p.b]:=zdZ (λj hj=>by simpa using hcs 0 j (by omega) hj);have hb5:off+2+3<=cs.length:=by omega
      have hb4:0<=(0:Int)/\(0:Int)<(c.toNat:Int):=(by omega);have hgn:∀v,(h2.set (h.next+1) v).get g=some (.cells cs 151):=λv=>by rw[zK (by have:=(x.ok g fg).2;omega),hg2]
      ·simp -implicitDefEqProofs only[zD,xg,zN,yg,yZ,yr,j9,Yb,yL,uL,qJ,Xj,KP,zO,yb,yK,qK,nth,aay,aaE,aaz,aa6,abC,zb,abl,aa9,aaU,abD,aad,abb,Nat.reduceAdd,abg,aam,vw,zR,yJ,zZ,zA,aas,Om,zi,zo,Uv,XP,jB,VF,KQ,bB,VL,hki,hl2,hr2,hp3,hb5,hb4,hg2];refine hfin (a:=(B.byte p.n.toNat).p) (.refl _ _) ?_;unfold eY;rw[hN,hP];rfl
     |false=>
      rcases hcc with rfl|rfl|rfl
      all_goals
       simp -implicitDefEqProofs only[zD,xg,zN,yg,yr,Yb,yL,uL,qJ,Xj,KP,zO,yb,yK,nth,aay,aaE,aaz,abl,aa9,aaU,abD,aad,Nat.reduceAdd,Nat.reduceSub,Int.reduceToNat,abg,aam,zR,Uv,XP,jB,VF,KQ,VL,hl2,hr2];refine hfin (a:=v0) (.refl _ _) ?_;unfold eY;rw[hN,hP];rfl
end
theorem Xm.more{F G:Nat->Prop}{a b c:za}(x:Xm F a b)(y:Xm G b c)(hg:∀i,G i->F i\/a.next<=i):Xm F a c :=
 ⟨aaS x.next y.next,y.ro.trans x.ro,λi hi hlt=>by
  have hn:¬G i:=λe=>by
   rcases hg i e with q|q
   ·exact hi q
   ·omega
  rw[y.get i hn (aao hlt x.next),x.get i hi hlt]⟩
theorem ziP{b:Bool}{A B:(List aaa->za->Prop)->Prop}{J:List aaa->za->Prop}{vs:List aaa}{x y:za}(hA:∀j,A j=j vs x)(hB:∀j,B j=j vs y)(hJ:J vs (if b=true then x else y)):CD (.bool b) A B J:=by
 cases b
 ·rw[yr,hB];simpa using hJ
 ·rw[yZ,hA];simpa using hJ
theorem KU(vs:List aaa):∀(cs:List aaa) (o i:Nat),o+vs.length<=cs.length->(zb cs o vs)[i]? = if o<=i/\i<o+vs.length then vs[i-o]? else cs[i]?:=by
 induction vs with
 |nil=>intro cs o i _;rw[aac (by simp)];rfl
 |cons v vs ih=>
  intro cs o i h;simp only[aaE]at h ⊢;unfold zb;rw[ih (cs.set o v) (o+1) i (by rw[aaW];omega)];by_cases h1:o+1<=i/\i<o+1+vs.length
  ·rw[aai h1,aai (by omega),show i-o=i-(o+1)+1 by omega,aap]
  ·rw[aac h1];by_cases h2:i=o
   ·subst h2;rw[aai (by omega),aaM (by omega)];simp
   ·rw[aac (by omega),aa4 (by omega)]
def Ip(f:Nat->Cl)(a:Nat)(c:Cl):Nat->Cl:=λk=>if k=a then c else f k
theorem V2.put{h:za}{q:Nat}{gs:List (Option Nat)}{B:MB}{F:Nat->Prop}(x:V2 h q gs B F){a g:Nat}(hg:gs[a/64]? = some (some g)) :
  ∃cs,h.get g=some (.cells cs 151)/\a%64*5+5<=cs.length /\ ∀c:Cl,V2 (h.set g (some (.cells (zb cs (a%64*5) c.z9) 151))) q gs {B with byte:=Ip B.byte a c} F:=by
 obtain⟨hl,fq,hq,hgs,hn,hd,ht⟩:=x;obtain⟨fg,cs,hc,hlen,hcs⟩:=hgs _ g hg;refine⟨cs,hc,by omega,λc=>⟨hl,fq,?_,λj g' hj=>⟨(hgs j g' hj).1,?_⟩,λj hj k hk=>?_,hd,λk hk=>?_⟩⟩
 ·rw[zK (by intro e;subst e;rw[hq]at hc;simp at hc),hq]
 ·by_cases e:g'=g
  ·subst e;have ej:j=a/64:=hd j _ g' hj hg;subst ej;refine⟨_,zR,by rw[YR,hlen],λk j hk hj=>?_⟩;have vlen:c.z9.length=5:=rfl;rw[KU _ _ _ _ (by rw[vlen];omega),vlen];show _=(Ip B.byte a c (64*(a/64)+k)).z9[j]?;unfold Ip;by_cases ek:k=a%64
   ·rw[aai (by omega),aai (by omega),show k*5+j-a%64*5=j by omega]
   ·rw[aac (by omega),aac (by omega)];exact hcs k j hk hj
  ·have ej:j≠a/64:=by intro ej;subst ej;rw[hg]at hj;cases hj;exact e rfl
   obtain⟨cs',hc',hlen',hcs'⟩:=(hgs j g' hj).2;refine⟨cs',by rw[zK e,hc'],hlen',λk j' hk hj'=>?_⟩;rw[hcs' k j' hk hj'];show _=(Ip B.byte a c (64*j+k)).z9[j']?;unfold Ip;rw[aac (by omega)]
 ·show Ip B.byte a c (64*j+k)=tZ;unfold Ip
  rw[aac (by intro e;have:j=a/64:=by omega
             subst this;rw[hg]at hj;cases hj)]
  exact hn j hj k hk
 ·show Ip B.byte a c k=tZ
  have hlt:a/64<gs.length:=by
   rcases aar (a/64) gs.length with e|e
   ·exact e
   ·rw[aal e]at hg;cases hg
  unfold Ip;rw[aac (by omega)];exact ht k hk
def norm(v:V):V:=if kN v=true then v else v0
def cellOf(v:V)(k:Nat):Cl:=if v.k=1 then ⟨1,IntKind.wrap .u8 (v.n.fdiv (2^(8*k))),v0⟩ else if v.k=2 then ⟨2,IntKind.wrap .u8 k,v⟩ else tZ
def Xo(B:MB)(n:Nat)(v:V)(c:Nat):MB:={B with byte:=λa=>if n<=a/\a<n+c then cellOf v (a-n) else B.byte a}
theorem NA(B:MB)(n:Nat)(v:V):Xo B n v 0=B:=by
 unfold Xo
 congr 1
 funext a
 rw[aac (by omega)]
theorem AQ(B:MB)(n:Nat)(v:V)(c:Nat):{Xo B n v c with byte:=Ip (Xo B n v c).byte (n+c) (cellOf v c)} = Xo B n v (c+1):=by
 unfold Xo Ip;simp only[MB.mk.injEq,abQ]
 funext a
 by_cases e:a=n+c
 ·subst e;rw[aai rfl,aai (by omega),show n+c-n=c by omega]
 ·rw[aac e];by_cases e2:n<=a/\a<n+c
  ·rw[aai e2,aai (by omega)]
  ·rw[aac e2,aac (by omega)]
def wX(M:MM)(c:Int)(p v:V):Option MM:=if (norm v).k=2/\c≠8 then none else match right M c p with
 |none=>none
 |some i=>(M[i]?).map λB=>M.set i (Xo B p.n.toNat (norm v) c.toNat)
def Iz(h:za)(m:Nat)(M':MM)(F:Nat->Prop)(h1:za):Prop := ∃F',GV h1 m M' F'/\Xm F h h1 /\ ∀b,F' b->F b\/h.next<=b
def mP(h:za)(m:Nat)(M:MM)(F:Nat->Prop)(c:Int)(p v:V)(r:aaa)(h1:za):Prop:=match wX M c p v with
 |none=>r=.bool false/\Iz h m M F h1
 |some M'=>r=.bool true/\Iz h m M' F h1
section
variable {h:za}{m:Nat}{bs:aaa}{ps:List Nat}{fs:Nat->Nat->Prop}{M:MM}{F:Nat->Prop}{c:Int}{p v:V}
def rT(h:za)(q g:Nat)(gs:List (Option Nat))(B:MB)(n:Nat)(v:V)(c:Int)(F:Nat->Prop)(m:Nat)(vs:List aaa)(h':za):Prop :=
 ∃k,k<=c.toNat/\m=c.toNat-k/\vs=[pm k]/\Xm (λb=>b=g) h h'/\V2 h' q gs (Xo B n v k) F
theorem zdW(x:WT h m bs ps fs M F)(hs:small M)(hc:wD c)(hp:p.ok) :
  DC Tryz.prog 71 [pi m,pm c,p.val,v.val] h (mP h m M F c p v):=by
 apply Ym;intro hwf;have hro:=hwf.2;apply NU;unfold PZ;have e1:p.val=.agg #[pm p.k,pm p.n,pm p.b]:=rfl;have e2:v.val=.agg #[pm v.k,pm v.n,pm v.b]:=rfl;rw[e1,e2];simp -implicitDefEqProofs only[zD,zN,yg,qD,zO,yb,yK,qK,nw,Value.cells,BK,aaF,aay,aaE,aaz,aa6,abC,zb,abA,aaU,abD,aad,abb,Nat.reduceAdd,abg,aam,yD,zI,yJ,zZ,zA,xp,zj,zi,zo,zep,zM,zP,yf];rw[<- e2];refine w8 (by kernel_rfl) rfl (iC v _) ?_;simp -implicitDefEqProofs only[zD,Ed,aay,aaE,aaz,abl,aa9,Nat.reduceAdd,abQ,aam,yD,qC,zI]
 refine ziP (vs:=[]) (x:=((h.push (.cells [pm p.k,pm p.n,pm p.b] 66)).push (.cells [pm v.k,pm v.n,pm v.b] 66)).set (h.next+1) (some (.cells [pm 0,pm 0,pm 0] 66)))
  (y:=(h.push (.cells [pm p.k,pm p.n,pm p.b] 66)).push (.cells [pm v.k,pm v.n,pm v.b] 66)) ?_ ?_ ?_
 ·intro j;have:h.ro<=h.next+1:=by omega
  simp -implicitDefEqProofs only[zD,aad,this]
 ·intro j;rfl
 generalize hH:(if (!kN v)=true then ((h.push (.cells [pm p.k,pm p.n,pm p.b] 66)).push (.cells [pm v.k,pm v.n,pm v.b] 66)).set (h.next+1) (some (.cells [pm 0,pm 0,pm 0] 66)) else
  (h.push (.cells [pm p.k,pm p.n,pm p.b] 66)).push (.cells [pm v.k,pm v.n,pm v.b] 66))=H
 have VS:Xm H6 h H:=by
  subst hH;split
  ·exact(((Xm.refl _ _).push _).push _).set (.inr (by omega)) _
  ·exact((Xm.refl _ _).push _).push _
 have hx:H.get (h.next+1)=some (.cells [pm (norm v).k,pm (norm v).n,pm (norm v).b] 66):=by
  subst hH;unfold norm;cases kN v
  ·simp only[aaZ,aad];rw[aac (by simp)];exact zR
  ·simp only[abq,aad];rw[aac (by simp)];exact zI rfl
 have hp1:H.get h.next=some (.cells [pm p.k,pm p.n,pm p.b] 66):=by
  have:¬h.next=h.next+1:=by omega
  have h3:((h.push (.cells [pm p.k,pm p.n,pm p.b] 66)).push (.cells [pm v.k,pm v.n,pm v.b] 66)).get h.next=some (.cells [pm p.k,pm p.n,pm p.b] 66):=by
   rw[zt (by simp only[yD];omega),zk]
  subst hH;split
  ·rw[zK this,h3]
  ·exact h3
 have hnx:H.next=h.next+2:=by
  subst hH;cases kN v <;> simp[yD,kf]
 clear hH
 have hsm:wX M c p v=if (norm v).k=2/\c≠8 then none else match right M c p with
  |none=>none
  |some i=>(M[i]?).map λB=>M.set i (Xo B p.n.toNat (norm v) c.toNat):=rfl
 generalize norm v=w at hx hsm;have x1:WT H m bs ps fs M F:=x.zJ (λb hb=>VS.get b (λe=>e) (x.ok b hb).2) VS.next VS.ro;have hro1:H.ro<=H.next:=by rw[hnx,VS.ro];omega
 have hm0:∀{h1},Xm H6 H h1->Iz h m M F h1:=λe3=>⟨F,⟨bs,ps,fs,x1.zJ (λb hb=>e3.get b (λe=>e) (x1.ok b hb).2) e3.next e3.ro⟩,(VS.trans e3).mono (λ_ q=>q.elim),λb hb => .inl hb⟩;by_cases hbad:w.k=2/\c≠8
 ·rw[aai hbad]at hsm;have h1:=hbad.1;have h2:¬c=8:=hbad.2;simp -implicitDefEqProofs only[zD,zN,yg,yZ,j9,xI,WY,Xk,zO,yb,aak,uj,vw,aas,aaZ,hx,h1,h2];unfold mP;rw[hsm];exact⟨rfl,hm0 (.refl _ _)⟩
 rw[aac hbad]at hsm;have hac:=zbN (c:=c) (p:=p) hro1 x1 hs hc hp;rw[e1]at hac
 have hways:(w.k=2/\c=8) \/ ¬w.k=2:=by
  by_cases e:w.k=2
  ·by_cases e3:c=8
   ·exact .inl ⟨e,e3⟩
   ·exact(hbad ⟨e,e3⟩).elim
  ·exact .inr e
 have hall:∀r h1,To H m M F c p r h1->(∃ok,r=.tuple #[pp,.bool ok]/\ok=false/\mP h m M F c p v (.bool false) h1) \/ ∃g,r=.tuple #[.slice (some ⟨g,p.n.toNat%64*5,none⟩) c.toNat 0,.bool true] /\ ∃q gs B G,rT h1 q g gs B p.n.toNat w c G c.toNat [pm 0] h1/\0<=c /\
   (∀k,k<c.toNat->gs[(p.n.toNat+k)/64]? = some (some g)/\(p.n.toNat+k)%64*5=p.n.toNat%64*5+k*5)/\c<=8/\H.ro<=g/\h1.ro=H.ro/\(∀h2,Xm (λb=>b=g) h1 h2->h2.get (h.next+1)=some (.cells [pm w.k,pm w.n,pm w.b] 66)) /\
   ∀h2,rT h1 q g gs B p.n.toNat w c G 0 [pm c.toNat] h2->mP h m M F c p v (.bool true) h2:=by
  intro r h1 hr;unfold To at hr;cases e:right M c p with
  |none=>
   rw[e]at hr;obtain⟨rfl,e3⟩:=hr;refine .inl ⟨_,rfl,rfl,?_⟩;rw[e]at hsm;unfold mP;rw[hsm];exact⟨rfl,hm0 e3⟩
  |some i=>
   rw[e]at hr hsm;obtain⟨g,bs1,ps1,fs1,F1,q,qp,cq,gs,B,hB,rfl,x2,hq,hb,fq,full,hgs,ef,hsub⟩:=hr;obtain⟨hk,hcc,hi,B',hB',hn0,hn1,hn2⟩:=eJ e;rw[hB]at hB';cases hB';have fg:=(full.hg _ g hgs).1;refine .inr ⟨g,rfl,q,gs,B,fs1 i,⟨0,by omega,by omega,rfl,.refl _ _,by rw[NA];exact full⟩,by omega,λk hk=>?_,by omega,by have:=(x2.ok g (x2.sub i g fg)).1;have:=ef.ro;omega,ef.ro,λh2 e2=>?_,λh2 hst=>?_⟩
   ·have hal:p.n.toNat%64+c.toNat<=64:=by
     rw[abx hn0]at hn2;rcases hcc with rfl|rfl|rfl <;> omega
    exact⟨by rw[show(p.n.toNat+k)/64=p.n.toNat/64 by omega];exact hgs,by omega⟩
   ·have n1:h.next+1≠g:=by
     intro en;rcases hsub g (x2.sub i g fg) with h3|h3
     ·have:=(x.ok g h3).2;omega
     ·omega
    rw[e2.get _ n1 (by have:=ef.next;omega),ef.get _ (λh3=>by have:=(x.ok _ h3).2;omega) (by omega),hx]
   ·obtain⟨k,hk1,hk2,hk3,e2,full2⟩:=hst;have hkc:k=c.toNat:=by simp at hk3;omega
    subst hkc
    have hne:qp≠g:=by
     intro en;subst en;obtain⟨cs,hc1,_⟩:=(full.hg _ qp hgs).2;rw[hb]at hc1;simp at hc1
    have hb2:h2.get qp=some (.cells [pm B.size,.slice (some ⟨q,0,none⟩) gs.length cq,.bool B.uU] 123):=(by rw[e2.get _ hne (x2.ok qp (x2.sub i qp fq)).2,hb]);have y:=x2.Ip hq hB (B':=Xo B p.n.toNat w c.toNat) rfl (e2.mono (λb (hb:b=g)=>by rw[hb];exact fg)) ⟨_,hb2,fq,.full q cq gs rfl full2⟩ (λb hb => .inl hb) (λb hb=>by have:=x2.ok b (x2.sub i b hb);have:=e2.next;have:=e2.ro;omega);unfold mP;rw[hsm];simp only[hB,abV]
    have hsub2:∀b,F1 b->F b\/h.next<=b:=λb hb=>by
     rcases hsub b hb with q|q
     ·exact .inl q
     ·exact .inr (by omega)
    refine⟨trivial,_,⟨_,_,_,y⟩,((VS.mono (λ_ q=>q.elim)).trans ef).more e2 (λb (hb:b=g)=>by rw[hb];exact hsub2 g (x2.sub i g fg)),λb hb=>?_⟩;rcases hb with hb|hb
    ·exact hsub2 b hb
    ·exact hsub2 b (x2.sub i b hb)
 rcases hways with⟨w2,c8⟩|w2
 ·have d8:decide (c=8)=true:=uj c8;simp -implicitDefEqProofs only[zD,zN,yg,yr,j9,xI,WY,Xk,zO,yb,nth,aak,aay,aaE,aaz,aaU,abD,aad,Nat.reduceAdd,aam,uj,abq,hx,hp1,w2,d8];refine y5 (by kernel_rfl) rfl hac ?_;intro r h1 hr;rcases hall r h1 hr with⟨_,rfl,rfl,hf⟩|⟨g,rfl,q,gs,B,G,hI,hc0,hk,hc8,hgr,hr1,hbx,hend⟩
  ·simp -implicitDefEqProofs only[dK,dL,zD,xg,zN,yg,yZ,Ed,zO,yH,aaZ,ey];exact hf
  ·simp -implicitDefEqProofs only[dK,dL,zD,xg,zN,yg,yr,Ed,zO,yH,abq,ey];refine qY (rT h1 q g gs B p.n.toNat w c G) c.toNat hI ?_;rintro n vs h2 ⟨k,hk1,rfl,rfl,ef2,full2⟩;by_cases hlt:k<c.toNat
   ·have hki:(k:Int)<(c.toNat:Int):=(by omega);obtain⟨hgk,hok⟩:=hk k hlt;obtain⟨cs,hcs,hle,hput⟩:=full2.put hgk;have hput':=hput (cellOf w k);rw[hok]at hle hput';have hbx2:=hbx h2 ef2;have hr2:h2.ro<=g:=by rw[ef2.ro,hr1];exact hgr
    have hb1:0<=(k:Int)/\(k:Int)<(c.toNat:Int):=(by omega);have hw1:IntKind.wrap .i64 (8*(k:Int))=((8*k:Nat):Int):=(by rw[ui (by omega) (by omega)];omega);have hw2:IntKind.wrap .i64 ((k:Int)+1)=((k+1:Nat):Int):=(by rw[ui (by omega) (by omega)];omega);have hk0:0<=((8*k:Nat):Int):=(by omega);have hmin:min (8*k) IntKind.i64.bits=8*k:=by show min (8*k) 64=_;omega
    have hnext:∀h3,h3=h2.set g (some (.cells (zb cs (p.n.toNat%64*5+k*5) (cellOf w k).z9) 151))->∃m,m<c.toNat-k/\rT h1 q g gs B p.n.toNat w c G m [pm ((k+1:Nat):Int)] h3:=λh3 e3=>
     ⟨c.toNat-(k+1),by omega,k+1,by omega,rfl,rfl,by rw[e3];exact ef2.set (.inl rfl) _,by rw[e3];have:=hput';unfold Ip at this;rw[<- AQ];exact this⟩
    simp -implicitDefEqProofs only[zD,xg,zN,yg,yZ,yr,qJ,WY,Xj,KP,Mh,yb,yK,qK,nth,aak,aap,aay,aaE,aaz,aa6,abC,zb,aaU,abD,aad,abb,Nat.reduceAdd,Int.reduceEq,abg,aam,uj,vw,yJ,aas,gZ,nE,dM,OD,Db,VL,hki,hbx2,hcs,hr2,hb1,hle,hw1,hw2,hk0,hmin,aax,w2];refine hnext _ ?_;unfold cellOf Cl.z9;simp only[w2,zb,v0,tZ,aad,abe,Int.reduceEq]
   ·have hkc:k=c.toNat:=(by omega);subst hkc;have hki:¬(c.toNat:Int)<(c.toNat:Int):=by omega
    simp -implicitDefEqProofs only[zD,xg,zN,yg,yr,qJ,Xj,KP,yb,nth,vw,aas,Db,VL,hki];exact hend h2 ⟨c.toNat,by omega,by omega,rfl,ef2,full2⟩
 ·simp -implicitDefEqProofs only[zD,zN,yg,yr,Yb,yL,WY,zO,yb,nth,aak,aay,aaE,aaz,aaU,abD,aad,Nat.reduceAdd,aam,vw,aas,hx,hp1,w2];refine y5 (by kernel_rfl) rfl hac ?_;intro r h1 hr;rcases hall r h1 hr with⟨_,rfl,rfl,hf⟩|⟨g,rfl,q,gs,B,G,hI,hc0,hk,hc8,hgr,hr1,hbx,hend⟩
  ·simp -implicitDefEqProofs only[dK,dL,zD,xg,zN,yg,yZ,Ed,zO,yH,aaZ,ey];exact hf
  ·simp -implicitDefEqProofs only[dK,dL,zD,xg,zN,yg,yr,Ed,zO,yH,abq,ey];refine qY (rT h1 q g gs B p.n.toNat w c G) c.toNat hI ?_;rintro n vs h2 ⟨k,hk1,rfl,rfl,ef2,full2⟩;by_cases hlt:k<c.toNat
   ·have hki:(k:Int)<(c.toNat:Int):=(by omega);obtain⟨hgk,hok⟩:=hk k hlt;obtain⟨cs,hcs,hle,hput⟩:=full2.put hgk;have hput':=hput (cellOf w k);rw[hok]at hle hput';have hbx2:=hbx h2 ef2;have hr2:h2.ro<=g:=by rw[ef2.ro,hr1];exact hgr
    have hb1:0<=(k:Int)/\(k:Int)<(c.toNat:Int):=(by omega);have hw1:IntKind.wrap .i64 (8*(k:Int))=((8*k:Nat):Int):=(by rw[ui (by omega) (by omega)];omega);have hw2:IntKind.wrap .i64 ((k:Int)+1)=((k+1:Nat):Int):=(by rw[ui (by omega) (by omega)];omega);have hk0:0<=((8*k:Nat):Int):=(by omega);have hmin:min (8*k) IntKind.i64.bits=8*k:=by show min (8*k) 64=_;omega
    have hnext:∀h3,h3=h2.set g (some (.cells (zb cs (p.n.toNat%64*5+k*5) (cellOf w k).z9) 151))->∃m,m<c.toNat-k/\rT h1 q g gs B p.n.toNat w c G m [pm ((k+1:Nat):Int)] h3:=λh3 e3=>
     ⟨c.toNat-(k+1),by omega,k+1,by omega,rfl,rfl,by rw[e3];exact ef2.set (.inl rfl) _,by rw[e3];have:=hput';unfold Ip at this;rw[<- AQ];exact this⟩
    by_cases w1:w.k=1
    ·simp -implicitDefEqProofs only[zD,xg,zN,yg,yZ,yr,qJ,WY,Xj,KP,Mh,yb,yK,qK,nth,aak,aap,aay,aaE,aaz,aa6,abC,zb,aaU,abD,aad,abb,Nat.reduceAdd,Int.reduceEq,abg,aam,uj,vw,yJ,aas,gZ,nE,dM,OD,Db,VL,hki,hbx2,hcs,hr2,hb1,hle,hw1,hw2,hk0,hmin,aax,w1];refine hnext _ ?_;unfold cellOf Cl.z9;simp only[w1,zb,v0,tZ,aad,abe,Int.reduceEq]
    ·simp -implicitDefEqProofs only[zD,xg,zN,yg,yZ,yr,qJ,WY,Xj,KP,Mh,yb,yK,qK,nth,aak,aap,aay,aaE,aaz,aa6,abC,zb,aaU,abD,aad,abb,Nat.reduceAdd,abg,aam,uj,vw,yJ,aas,gZ,nE,dM,OD,Db,VL,hki,hbx2,hcs,hr2,hb1,hle,hw1,hw2,hk0,hmin,aax,w1,w2];refine hnext _ ?_;unfold cellOf Cl.z9;simp only[w1,w2,zb,v0,tZ,abe]
   ·have hkc:k=c.toNat:=(by omega);subst hkc;have hki:¬(c.toNat:Int)<(c.toNat:Int):=by omega
    simp -implicitDefEqProofs only[zD,xg,zN,yg,yr,qJ,Xj,KP,yb,nth,vw,aas,Db,VL,hki];exact hend h2 ⟨c.toNat,by omega,by omega,rfl,ef2,full2⟩
end
theorem zgW(h:za):DC Tryz.prog 33 [] h (λv h1=>v=.pointer (some ⟨h.next,0,none⟩)/\GV h1 h.next [] (λb=>b=h.next)/\Xm H6 h h1):=by
 apply Ym;intro hwf;have hro:=hwf.2;apply zbe;unfold zfr;simp -implicitDefEqProofs only[zD,zN,yg,qD,xF,yK,nw,Value.cells,aaF,abQ,zeo];refine⟨⟨_,[],λ_ _=>False,⟨zk,rfl,rfl,.inl ⟨rfl,rfl⟩,λ_ e=>e,λi p B hp=>by simp at hp,λi j b e=>e.elim,λi b e=>e.elim,λb hb=>?_⟩⟩,(Xm.refl _ _).push _⟩;subst hb;simp only[qC,yD];omega
theorem tp(c n:Nat):uG c n≠0:=by
 unfold uG;split
 ·cases Nat.ble n _ <;> simp
 ·simp
theorem SU(M:MM):live M<=M.length:=List.length_filter_le _ _
theorem zdd(M:MM)(B:MB)(hf:B.uU=false):live (M++[B])=live M+1:=by simp[live,hf]
def fresh(n:Int):MB:=⟨n.toNat,false,λ_=>tZ⟩
def zW(M:MM)(n:Int):MM×Int×Int:=if n<0\/65536<n then (M,0,1) else if 100000<=M.length then (M,0,2) else (M++[fresh n],M.length+1,0)
def rS(h:za)(m:Nat)(M:MM)(F:Nat->Prop)(n:Int)(r:aaa)(h1:za):Prop:=r=.tuple #[pm (zW M n).2.1,pm (zW M n).2.2]/\Iz h m (zW M n).1 F h1
section
variable {h:za}{m:Nat}{bs:aaa}{ps:List Nat}{fs:Nat->Nat->Prop}{M:MM}{F:Nat->Prop}
theorem WT.grow(x:WT h m bs ps fs M F){h1:za}{B:MB}{p q c:Nat}(hf:B.uU=false)(VS:Xm F h h1)(hp:h.next<=p/\p<h1.next)(hq:h.next<=q/\q<h1.next)(hpq:p≠q)(hro:h.ro<=h.next)
  (e1:h1.get m=some (.cells [.slice (some ⟨q,0,none⟩) (M.length+1) c,pm (live M+1:Nat)] 116)) (hc:c≠0) (e2:h1.get q=some (.cells ((ps.map λp => pi p)++[pi p]) 120))
  (e3:h1.get p=some (.cells [pm B.size,pp,.bool B.uU] 123)) (e4:∀b,F b->b≠m->(∀c,bs ≠ .slice (some ⟨b,0,none⟩) M.length c)->h1.get b=h.get b) (hu:∀k,B.byte k=tZ) :
  WT h1 m (.slice (some ⟨q,0,none⟩) (M.length+1) c) (ps++[p]) (λi b=>if i=M.length then b=p else fs i b) (M++[B]) (λb=>F b\/b=p\/b=q):=by
 have hnew:∀b,h.next<=b->F b->False:=λb hl hb=>by have:=(x.ok b hb).2;omega
 have hlp:=x.len;refine⟨by rw[zdd M B hf];exact e1,.inl x.fm,by simp[x.len],?_,?_,?_,?_,?_,?_⟩
 ·refine .inr ⟨q,c,by simp,hc,.inr (.inr rfl),by rw[e2];simp,λi hi=>?_⟩;split at hi
  ·exact hpq hi.symm
  ·exact hnew q hq.1 (x.sub i q hi)
 ·intro i hi;split at hi
  ·subst hi;exact hnew m hp.1 x.fm
  ·exact x.nm i hi
 ·intro i p' B' hp' hB';by_cases e:i=M.length
  ·subst e;rw[<- hlp]at hp';rw[aa5 (aam _),acO]at hp' hB';simp at hp' hB';subst hp' hB';simp only[aad];exact⟨_,e3,rfl,.empty rfl hu⟩
  ·have hlt:i<M.length:=by
    rcases aar i M.length with a|a
    ·exact a
    ·rw[aal (by simp;omega)]at hB';cases hB'
   rw[abj (by omega)]at hp' hB';simp only[aac e];refine(x.k9 i p' B' hp' hB').zJ (λb hb=>e4 b (x.sub i b hb) (λq=>?_) (λc q=>?_))
   ·subst q;exact x.nm i hb
   ·rcases x.hb with⟨rfl,_⟩|⟨bb,c',r,_,_,_,r5⟩
    ·cases hlt
    ·rw[r]at q;cases q;exact r5 i hb
 ·intro i j b hi hj;split at hi <;> split at hj
  ·rename_i a1 a2;rw[a1,a2]
  ·exact(hnew b (by rw[hi];exact hp.1) (x.sub j b hj)).elim
  ·exact(hnew b (by rw[hj];exact hp.1) (x.sub i b hi)).elim
  ·exact x.dis i j b hi hj
 ·intro i b hi;split at hi
  ·exact .inr (.inl hi)
  ·exact .inl (x.sub i b hi)
 ·intro b hb;have n1:=VS.next;have n2:=VS.ro;rcases hb with hb|hb|hb
  ·have:=x.ok b hb;omega
  ·omega
  ·omega
theorem zbX(x:WT h m bs ps fs M F)(n:Int) :
  DC Tryz.prog 35 [pi m,pm n] h (rS h m M F n):=by
 apply Ym;intro hwf;have hro:=hwf.2;apply NT;unfold PY;have hm0:Iz h m M F h:=⟨F,⟨bs,ps,fs,x⟩,.refl _ _,λb hb => .inl hb⟩
 have hbad:n<0\/65536<n->rS h m M F n (.tuple #[pm 0,pm 1]) h:=λe=>by
  unfold rS zW;rw[aai e];exact⟨rfl,hm0⟩
 by_cases h1:n<0
 ·simp -implicitDefEqProofs only[zD,xg,zN,yg,yZ,Kb,xI,wS,uL,qJ,zO,yb,xF,yK,nw,Value.cells,BK,aaF,aay,uj,yD,zA,UF,zj,ie,QO,ZP,QT,h1];exact hbad (.inl h1)
 by_cases h2:65536<n
 ·simp -implicitDefEqProofs only[zD,xg,zN,yg,yZ,kV,yL,wS,uL,qJ,UK,zO,yb,xF,yK,nw,Value.cells,BK,aaF,aay,uj,vw,yD,zA,aas,UF,zj,ie,QO,ZP,QT,h1,h2];exact hbad (.inr h2)
 have hm:=x.hm;have hln:∀n c,zB Tryz.prog .len [114] 3 [.slice n M.length c] h=some (pm M.length,h):=λ_ _=>by simp only[K4]
 by_cases h3:100000<=(M.length:Int)
 ·have:rS h m M F n (.tuple #[pm 0,pm 2]) h:=by
   unfold rS zW;rw[aac (by omega),aai (by omega)];exact⟨rfl,hm0⟩
  rcases x.hb with⟨e1,rfl⟩|⟨bb,c,rfl,hc,fb,hbb,_⟩
  ·rw[e1]at h3;simp at h3
  ·simp -implicitDefEqProofs only[zD,xg,zN,yg,yZ,yr,kV,yL,wS,uL,qJ,UK,F6,zO,yb,xF,yH,yK,nw,Value.cells,BK,aak,aaF,aay,uj,vw,yD,zA,aas,UF,zj,ie,QO,ZP,QT,K4,h1,h2,hm,h3];exact this
 have hal:zW M n=(M++[fresh n],(M.length:Int)+1,0):=by unfold zW;rw[aac (by omega),aac (by omega)]
 have okm:=x.ok m x.fm;have hl:=SU M;have hmn:¬m=h.next:=by omega
 have hmn1:¬m=h.next+1:=by omega
 have hmn2:¬m=h.next+1+1:=by omega
 have hw1:IntKind.wrap .i64 ((live M:Int)+1)=((live M+1:Nat):Int):=by rw[ui (by omega) (by omega)];omega
 have hn0:((n.toNat:Nat):Int)=n:=by omega
 have hmn2':¬h.next+1+1=m:=by omega
 have hmn':¬h.next=m:=by omega
 have hm2:m<h.next+1+1:=by omega
 have hm3:m<h.next+1+1+1:=by omega
 have hnb:∀p v e,(h.push (.cells v e)).push (.cells [pi h.next] 120)=p->wR p 1 1 (.slice (some ⟨h.next+1,0,none⟩) 1 3)=some [pi h.next]:=λp v e hp=>by
  subst hp;have:(((h.push (.cells v e)).push (.cells [pi h.next] 120)).get (h.next+1))=some (.cells [pi h.next] 120):=zI rfl;simp only[wR,this];rfl
 have hap:=λv h' hh=>zgc 114 v (.slice (some ⟨h.next+1,0,none⟩) 1 3) 1 [pi h.next] h' rfl (hnb h' [pm n,pp,.bool false] 123 hh) rfl rfl;unfold rS;rw[hal];rcases x.hb with⟨rfl,rfl⟩|⟨bb,c,rfl,hc,fb,hbb,hfb⟩
 ·have hps:ps=[]:=abL.1 x.len;have h30:¬(100000:Int)<=((0:Nat):Int):=by decide
  have hle:h.ro<=m:=okm.1;have hw0:IntKind.wrap .i64 ((live []:Int)+1)=((live []+1:Nat):Int):=rfl;simp -implicitDefEqProofs only[zD,xg,zN,yg,yr,kV,yL,wS,uL,qJ,UK,F6,Xj,zO,yb,xF,yH,yK,qK,aW,nth,nw,Value.cells,BK,aak,aap,aaF,aay,aaE,aaz,aa6,abC,zb,abl,aa9,aad,abe,abb,Nat.reduceAdd,Nat.reduceLeDiff,Nat.reduceMul,Nat.reduceEqDiff,abg,aam,vw,yD,qC,lY,zt,zR,tG,yJ,zA,aas,UF,zj,zb7,WU,ie,QO,ZP,QT,K4,h1,h2,h30,hm,hap,Q9,Nat.reducePow,okm,hm2,hw0,aaz];refine⟨rfl,_,⟨_,_,_,x.grow (p:=h.next) (q:=h.next+1+1) (B:=fresh n) rfl (((((((Xm.refl F h).push _).push _).push _).set (.inl x.fm) _).set (.inl x.fm) _)) ?_ ?_ (by omega) hro zR (by simp) ?_ ?_ ?_ (λ_=>rfl)⟩,(((((((Xm.refl F h).push _).push _).push _).set (.inl x.fm) _).set (.inl x.fm) _)),λb hb=>?_⟩
  ·simp only[kf,yD];omega
  ·simp only[kf,yD];omega
  ·rw[zK hmn2',zK hmn2',zI (by simp only[yD])];rw[hps];rfl
  ·rw[zK hmn',zK hmn',zt (by simp only[yD];omega)];rw[zt (by simp only[yD];omega),zk];show some (wA.cells [pm n,_,_] 123)=some (wA.cells [pm ((n.toNat:Nat):Int),_,_] 123);rw[hn0];rfl
  ·intro b hb hbm1 hbb1;have hlt:=(x.ok b hb).2;rw[zK hbm1,zK hbm1,zt (by simp only[yD];omega)];rw[zt (by simp only[yD];omega),zt hlt]
  ·rcases hb with hb|hb|hb
   ·exact .inl hb
   ·exact .inr (by omega)
   ·exact .inr (by omega)
 ·have okb:=x.ok bb fb
  have hroom:roomFor c (M.length+1) 8=true:=by
   unfold roomFor;cases Nat.beq c 2 <;> simp only[aaC,aaK,acp] <;> omega
  have hlp:M.length<=ps.length:=by rw[x.len];omega
  have hbm:¬bb=m:=by intro e;subst e;rw[hbb]at hm;simp at hm
  have hmb:¬m=bb:=λe=>hbm e.symm;have hb0:¬bb=h.next:=by omega
  have hb2:¬bb=h.next+1+1:=by omega
  have hz:List.take M.length (List.map (λp=>Value.pointer (some ⟨p,0,none⟩)) ps)=List.map (λp=>Value.pointer (some ⟨p,0,none⟩)) ps:=ace (by simp[x.len]);simp -implicitDefEqProofs only[zD,xg,zN,yg,yr,kV,yL,wS,uL,qJ,UK,F6,Xj,zO,yb,xF,yH,yK,qK,aW,nth,nw,Value.cells,BK,aak,aap,aaF,aay,aaE,aaz,aaf,aa6,abC,zb,abl,aa9,abA,aad,abe,abb,Nat.reduceAdd,Nat.reduceLeDiff,Nat.reduceMod,Nat.reduceEqDiff,abg,aam,vw,yD,kf,qC,lY,zt,zR,zK,ne_eq,tG,yJ,zA,aas,UF,zj,zb7,WU,ie,QO,ZP,QT,K4,h1,h2,h3,hm,hap,Q9,okb,okm,hbb,hroom,hlp,abk,hc,hmb,hm2,hz,hw1];refine⟨rfl,_,⟨_,_,_,x.grow (p:=h.next) (q:=h.next+1+1) (B:=fresh n) rfl (((((((Xm.refl F h).push _).push _).set (.inl fb) _).push _).set (.inl x.fm) _).set (.inl x.fm) _) ?_ ?_ (by omega) hro zR (tp _ _) ?_ ?_ ?_ (λ_=>rfl)⟩,(((((((Xm.refl F h).push _).push _).set (.inl fb) _).push _).set (.inl x.fm) _).set (.inl x.fm) _),λb hb=>?_⟩
  ·simp only[kf,yD];omega
  ·simp only[kf,yD];omega
  ·rw[zK hmn2',zK hmn2',zI (by simp only[kf,yD])]
  ·have:¬h.next=bb:=λe=>hb0 e.symm;rw[zK hmn',zK hmn',zt (by simp only[kf,yD];omega)];rw[zK this];rw[zt (by simp only[yD];omega),zk];show some (wA.cells [pm n,_,_] 123)=some (wA.cells [pm ((n.toNat:Nat):Int),_,_] 123);rw[hn0];rfl
  ·intro b hb hbm1 hbb1;have hlt:=(x.ok b hb).2;rw[zK hbm1,zK hbm1,zt (by simp only[kf,yD];omega)];rw[zK (λe=>hbb1 c (by rw[e]))];rw[zt (by simp only[yD];omega),zt hlt]
  ·rcases hb with hb|hb|hb
   ·exact .inl hb
   ·exact .inr (by omega)
   ·exact .inr (by omega)
end
def AW(b n:Int):V:=if b<1 then v0 else ⟨2,n,b⟩
def isI(a:Int)(v:aaa)(_:za):Prop:=v=.int .i64 a
end Go.Mem
