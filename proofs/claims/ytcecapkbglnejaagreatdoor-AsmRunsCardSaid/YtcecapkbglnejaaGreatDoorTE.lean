import Derived.Test.YtcecapkbglnejaaGreatDoorChecked
import Derived.KernelRfl
import Derived.Test.YtcecapkbglnejaaGreatDoorTD
set_option linter.unusedVariables false
set_option linter.unusedSimpArgs false
set_option maxRecDepth 100000
namespace Go.Mem
open Go.Ai Go.Proofs Go.Proofs.Tryz
noncomputable abbrev zz:=prog
abbrev VK:=aaa->za->Prop
abbrev LK:=List aaa->za->Prop
abbrev ci(n:Int):Operand := .const (pm n)
abbrev fn(n:Nat):aaa := .func (.func n) #[] #[]
variable {h:za}{t0 t1 t2 t3 t4 t5 t6:aaa}{R:VK}
def qs:FuncId->Nat:=λg=>0
theorem mixed:prog.follows .mixedOrders=true:=ab4 Tryz.checked
theorem zT{f:FuncId}{args:List aaa}{X:Prop}(e:Rx zz (bJ zz qs) 200 f args h R=X)(hw:X):DC zz f args h R:=VQ mixed (q:=qs) (n:=200) (Eq.mpr e hw)
def zfP:=λ(h:za) f c (R:VK)=>
 opt (nb [c,pm 1] (zS zz .lss 3 (.tmp 5) (ci 1) c (pm 1))) λb=>GD b false (λP=>P c h) (λy z=>GD b false (λQ=>Q f z) (λS A=>GD b false (λT=>opt (vy S) λg=>T g A) (λg B=>GD b false (λU=>opt (ze zz 148 g 0) λi=>U i B) (λi j=>GD b false (λV=>opt (zd zz 146 i j) λd=>V d j) (λd C=>GD b false (λW=>yp (nb [d] (zP zz .len [146] 3 [d] C)) λe X=>W e X) (λe D=>GD b false (λY=>opt (nb [y,e] (zS zz .gtr 3 (.tmp 8) (.tmp 13) y e)) λk=>Y k D) (λk E=>opt (pk b (.bool true) k) λa=>GD a false (λZ=>Z f E) (λaa F=>GD a false (λab=>opt (vy aa) λl=>ab l F) (λl G=>GD a false (λac=>opt (ze zz 148 l 0) λm=>ac m G) (λm n=>GD a false (λad=>opt (zd zz 146 m n) λo=>ad o n) (λo H=>GD a false (λae=>ae c H) (λI J=>GD a false (λaf=>opt (nb [I,pm 1] (zS zz .sub 3 (.tmp 21) (ci 1) I (pm 1))) λp=>af p J) (λp K=>GD a false (λag=>opt (zJ zz 146 o p) λq=>ag q K) (λq r=>GD a false (λah=>opt (zd zz 152 q r) λs=>ah s r) (λs L=>GD a false (λai=>opt (vy s) λt=>ai t L) (λt M=>GD a false (λaj=>opt (ze zz 155 t 2) λu=>aj u M) (λu v=>GD a false (λak=>opt (zd zz 4 u v) λw=>ak w v) (λw N=>opt (pk a (.bool true) w) λal=>CD al (λO=>rv [.pointer none] N R)
 (λO=>O [.pointer none] N)
 (λau x=>opt (vy f) λam=>opt (ze zz 148 am 0) λan=>opt (zd zz 146 an x) λao=>opt (nb [c,pm 1] (zS zz .sub 3 (.tmp 33) (ci 1) c (pm 1))) λap=>opt (zJ zz 146 ao ap) λaq=>opt (zd zz 152 aq x) λar=>rv [ar] x R)) v) M) L) r) K) J) H) n) G) F) E) D) C) j) B) A) z) h
theorem zbl(hw:zfP h t0 t1 R):DC zz 82 [t0,t1] h R:=zT (by kernel_rfl) hw
def R3:=λ(h:za) k (R:VK)=>
 opt (nb [k] (some (Value.cells k).toList)) λs=>nw h s 64 λb a=>opt (ze zz 64 b 0) λt=>opt (zd zz 3 t a) λc=>BK (λu=>opt (nb [c,pm 0] (zS zz .eql 3 (.tmp 4) (ci 0) c (pm 0))) λv=>CD v (λl=>opt (zd zz 64 b a) λm=>opt (nb [] (yd zz 64 [])) λn=>opt (nb [m,n] (zS zz .eql 64 (.tmp 7) (.tmp 8) m n)) λw=>rv [w] a R)
 (λl=>opt (nb [c,pm 1] (zS zz .eql 3 (.tmp 4) (ci 1) c (pm 1))) λx=>CD x (λo=>opt (ze zz 64 b 2) λy=>opt (zd zz 3 y a) λp=>opt (nb [p,pm 0] (zS zz .eql 3 (.tmp 13) (ci 0) p (pm 0))) λz=>rv [z] a R)
 (λo=>o [.bool false] a)
 (λA B=>l [nth A 0] B))
 (λC D=>u [nth C 0] D))
 (λK f=>opt (ze zz 64 b 0) λE=>opt (zd zz 3 E f) λq=>opt (nb [q,pm 2] (zS zz .eql 3 (.tmp 16) (.const (pm 2)) q (pm 2))) λd=>GD d true (λF=>opt (ze zz 64 b 2) λg=>F g f) (λg i=>GD d true (λG=>opt (zd zz 3 g i) λe=>G e i) (λe r=>GD d true (λH=>opt (nb [e,pm 1] (zS zz .geq 3 (.tmp 20) (ci 1) e (pm 1))) λj=>H j r) (λj I=>opt (pk d j (.bool false)) λJ=>rv [J] I R) r) i) f)
theorem OW(hw:R3 h t0 R):DC zz 125 [t0] h R:=zT (by kernel_rfl) hw
def zcL:=λ(h:za) (R:VK)=>
 opt (nb [] (yd zz 148 [])) λa=>opt (nb [a] (some (Value.cells a).toList)) λb=>nw h b 148 λc d=>rv [c] d R
theorem R1(hw:zcL h  R):DC zz 60 [] h R:=zT (by kernel_rfl) hw
def MH:=λ(h:za) a b (R:VK)=>
 BK (λA=>opt (nb [b,pm 0] (zS zz .lss 3 (.tmp 7) (ci 0) b (pm 0))) λc=>GD c false (λB=>B b h) (λf g=>GD c false (λC=>opt (nb [f,pm 65536] (zS zz .gtr 3 (.tmp 10) (.const (pm 65536)) f (pm 65536))) λd=>C d g) (λd e=>opt (pk c (.bool true) d) λD=>CD D (λi=>rv [pm 0,pm 1] e R)
 (λi=>opt (vy a) λE=>opt (ze zz 148 E 0) λF=>opt (zd zz 146 F e) λj=>yp (nb [j] (zP zz .len [146] 3 [j] e)) λk l=>opt (nb [k,pm 100000] (zS zz .geq 3 (.tmp 18) (.const (pm 100000)) k (pm 100000))) λG=>CD G (λm=>rv [pm 0,pm 2] l R)
 (λm=>m [pm 0,pm 0] l)
 (λn H=>i [nth n 0,nth n 1] H))
 (λo I=>A [nth o 0,nth o 1] I)) g) h)
 (λaa p=>opt (vy a) λJ=>opt (ze zz 148 J 0) λK=>opt (zd zz 146 K p) λq=>opt (nb [b] (yd zz 155 [(0,b)])) λr=>opt (nb [r] (some (Value.cells r).toList)) λL=>nw p L 155 λs M=>yp (nb [s] (zZ zz 146 1 [(0,s)] M)) λt N=>yp (nb [q,t] (zP zz .append [146,146] 146 [q,t] N)) λu O=>opt (vy a) λP=>opt (ze zz 148 P 0) λQ=>opt (nb [u] (wx zz 146 Q u O)) λv=>opt (vy a) λS=>opt (ze zz 148 S 1) λT=>opt (zd zz 3 T v) λw=>opt (nb [w,pm 1] (zS zz .add 3 (.tmp 35) (ci 1) w (pm 1))) λx=>opt (vy a) λU=>opt (ze zz 148 U 1) λV=>opt (nb [x] (wx zz 3 V x v)) λy=>opt (vy a) λW=>opt (ze zz 148 W 0) λX=>opt (zd zz 146 X y) λz=>yp (nb [z] (zP zz .len [146] 3 [z] y)) λY Z=>rv [Y,pm 0] Z R)
theorem IC(hw:MH h t0 t1 R):DC zz 62 [t0,t1] h R:=zT (by kernel_rfl) hw
def MI:=λ(h:za) O m n o (R:VK)=>
 opt (nb [n] (some (Value.cells n).toList)) λP=>nw h P 64 λQ S=>opt (nb [o] (some (Value.cells o).toList)) λT=>nw S T 64 λb p=>opt (zd zz 64 b p) λU=>zq zz (fn 125) [U] p λV q=>opt (Vx zz .not V) λW=>CD W (λf=>opt (nb [] (yd zz 64 [])) λr=>opt (nb [r] (wx zz 64 b r q)) λX=>f [] X)
 (λf=>f [] q)
 (λa6 g=>opt (ze zz 64 b 0) λY=>opt (zd zz 3 Y g) λs=>opt (nb [s,pm 2] (zS zz .eql 3 (.tmp 17) (.const (pm 2)) s (pm 2))) λi=>GD i true (λZ=>Z m g) (λt u=>GD i true (λaa=>opt (nb [t,pm 8] (zS zz .neq 3 (.tmp 20) (.const (pm 8)) t (pm 8))) λj=>aa j u) (λj v=>opt (pk i j (.bool false)) λab=>CD ab (λw=>rv [.bool false] v R)
 (λw=>w [.bool false] v)
 (λac x=>opt (zd zz 64 Q x) λad=>zq zz (fn 126) [O,m,ad,.bool true] x λy z=>opt (kV y 0) λc=>opt (kV y 1) λae=>opt (Vx zz .not ae) λaf=>CD af (λA=>rv [.bool false] z R)
 (λA=>A [nth ac 0] z)
 (λa7 ag=>yp (nb [c] (zP zz .len [193] 3 [c] ag)) λB ah=>BK (λai=>LP (λa C aj=>opt (nb [nth a 0,B] (zS zz .lss 3 (.tmp 34) (.tmp 33) (nth a 0) B)) λak=>CD ak (λD=>D [] C)
 (λD=>ai [] C)
 (λa8 d=>BK (λal=>opt (ze zz 64 b 0) λam=>opt (zd zz 3 am d) λe=>BK (λan=>opt (nb [e,pm 1] (zS zz .eql 3 (.tmp 38) (ci 1) e (pm 1))) λao=>CD ao (λk=>opt (ze zz 64 b 1) λap=>opt (zd zz 2 ap d) λE=>opt (nb [pm 8,nth a 0] (zS zz .mul 3 (.const (pm 8)) (.tmp 49) (pm 8) (nth a 0))) λF=>opt (nb [E,F] (zS zz .shr 2 (.tmp 48) (.tmp 50) E F)) λG=>yp (nb [G] (vY zz 2 5 G d)) λH aq=>opt (nb [.int .u8 1,H] (yd zz 158 [(0,(.int .u8 1)),(1,H)])) λI=>opt (zJ zz 193 c (nth a 0)) λar=>opt (nb [I] (wx zz 158 ar I aq)) λau=>k [] au)
 (λk=>opt (nb [e,pm 2] (zS zz .eql 3 (.tmp 38) (.const (pm 2)) e (pm 2))) λav=>CD av (λl=>yp (nb [nth a 0] (vY zz 3 5 (nth a 0) d)) λJ K=>opt (zd zz 64 b K) λL=>opt (nb [.int .u8 2,J,L] (yd zz 158 [(0,(.int .u8 2)),(1,J),(2,L)])) λM=>opt (zJ zz 193 c (nth a 0)) λaw=>opt (nb [M] (wx zz 158 aw M K)) λax=>l [] ax)
 (λl=>opt (nb [] (yd zz 158 [])) λN=>opt (zJ zz 193 c (nth a 0)) λay=>opt (nb [N] (wx zz 158 ay N d)) λaz=>l [] az)
 (λa9 a0=>k [] a0))
 (λba a1=>an [] a1))
 (λbb a2=>al [] a2))
 (λbc a3=>opt (nb [nth a 0,pm 1] (zS zz .add 3 (.tmp 34) (ci 1) (nth a 0) (pm 1))) λa4=>aj [a4] a3)))
 [pm 0] ah)
 (λbd a5=>rv [.bool true] a5 R)))) u) g)
theorem ID(hw:MI h t0 t1 t2 t3 R):DC zz 107 [t0,t1,t2,t3] h R:=zT (by kernel_rfl) hw
def R0:=λ(h:za) bd j K (R:VK)=>
 opt (nb [K] (some (Value.cells K).toList)) λbe=>nw h be 64 λbf bg=>opt (Ye zz 64) λbh=>nw bg (Value.cells bh).toList 64 λc L=>opt (zd zz 64 bf L) λbi=>zq zz (fn 126) [bd,j,bi,.bool false] L λM N=>opt (kV M 0) λf=>opt (kV M 1) λbj=>opt (nb [f,pp] (zS zz .eql 193 (.tmp 22) (.const (pp)) f (pp))) λbk=>CD bk (λO=>opt (nb [] (yd zz 64 [])) λP=>opt (nb [P] (wx zz 64 c P N)) λQ=>opt (zd zz 64 c Q) λd=>rv [d,bj] Q R)
 (λO=>O [.bool false] N)
 (λbl bm=>opt (nb [j,pm 8] (zS zz .eql 3 (.tmp 26) (.const (pm 8)) j (pm 8))) λbn=>yp (nb [f] (zP zz .len [193] 3 [f] bm)) λS bo=>BK (λbp=>LP (λa T bq=>opt (nb [nth a 3,S] (zS zz .lss 3 (.tmp 30) (.tmp 29) (nth a 3) S)) λbr=>CD br (λU=>U [] T)
 (λU=>bp [nth a 0,nth a 1,nth a 2] T)
 (λdi V=>BK (λbs=>opt (zJ zz 193 f (nth a 3)) λbt=>opt (zd zz 158 bt V) λW=>opt (Ye zz 158) λbu=>nw V (Value.cells bu).toList 158 λg bv=>opt (nb [W] (wx zz 158 g W bv)) λX=>opt (ze zz 158 g 1) λbw=>opt (zd zz 5 bw X) λY=>yp (nb [Y] (vY zz 5 168 Y X)) λZ aa=>opt (nb [pm 8,nth a 3] (zS zz .mul 3 (.const (pm 8)) (.tmp 39) (pm 8) (nth a 3))) λab=>opt (nb [Z,ab] (zS zz .shl 168 (.tmp 38) (.tmp 40) Z ab)) λac=>opt (nb [nth a 0,ac] (zS zz .or 168 (.tmp 35) (.tmp 41) (nth a 0) ac)) λbx=>GD (nth a 1) true (λbz=>opt (ze zz 158 g 0) λr=>bz r aa) (λr s=>GD (nth a 1) true (λb0=>opt (zd zz 5 r s) λl=>b0 l s) (λl ad=>GD (nth a 1) true (λb1=>opt (nb [l,.int .u8 1] (zS zz .eql 5 (.tmp 46) (.const (.int .u8 1)) l (.int .u8 1))) λt=>b1 t ad) (λt ae=>opt (pk (nth a 1) t (.bool false)) λb2=>GD (nth a 2) true (λb3=>opt (ze zz 158 g 0) λu=>b3 u ae) (λu v=>GD (nth a 2) true (λb4=>opt (zd zz 5 u v) λm=>b4 m v) (λm af=>GD (nth a 2) true (λb5=>opt (nb [m,.int .u8 2] (zS zz .eql 5 (.tmp 52) (.const (.int .u8 2)) m (.int .u8 2))) λw=>b5 w af) (λw ag=>opt (pk (nth a 2) w (.bool false)) λi=>GD i true (λb6=>opt (ze zz 158 g 1) λx=>b6 x ag) (λx y=>GD i true (λb7=>opt (zd zz 5 x y) λn=>b7 n y) (λn ah=>GD i true (λb8=>yp (nb [n] (vY zz 5 3 n ah)) λo b9=>b8 o b9) (λo ai=>GD i true (λca=>ca (nth a 3) ai) (λaj ak=>GD i true (λcb=>opt (nb [o,aj] (zS zz .eql 3 (.tmp 58) (.tmp 59) o aj)) λz=>cb z ak) (λz al=>opt (pk i z (.bool false)) λe=>GD e true (λcc=>opt (ze zz 158 g 2) λA=>cc A al) (λA B=>GD e true (λcd=>opt (zd zz 64 A B) λp=>cd p B) (λp am=>GD e true (λce=>ce f am) (λcf an=>GD e true (λcg=>opt (zJ zz 193 cf (pm 0)) λC=>cg C an) (λC ao=>GD e true (λch=>opt (ze zz 158 C 2) λD=>ch D ao) (λD E=>GD e true (λcj=>opt (zd zz 64 D E) λq=>cj q E) (λq ap=>GD e true (λck=>opt (nb [p,q] (zS zz .eql 64 (.tmp 64) (.tmp 68) p q)) λF=>ck F ap) (λF cl=>opt (pk e F (.bool false)) λcm=>bs [bx,b2,cm] cl) ap) E) ao) an) am) B) al) ak) ai) ah) y) ag) af) v) ae) ad) s) aa)
 (λG cn=>opt (nb [nth a 3,pm 1] (zS zz .add 3 (.tmp 30) (ci 1) (nth a 3) (pm 1))) λco=>bq [nth G 0,nth G 1,nth G 2,co] cn)))
 [.int .u64 0,.bool true,bn,pm 0] bo)
 (λb aq=>BK (λcp=>GD (nth b 1) true (λcq=>cq j aq) (λar au=>GD (nth b 1) true (λcr=>opt (nb [ar,pm 8] (zS zz .eql 3 (.tmp 75) (.const (pm 8)) ar (pm 8))) λH=>cr H au) (λH I=>opt (pk (nth b 1) H (.bool false)) λcs=>CD cs (λav=>yp (nb [nth b 0] (vY zz 168 2 (nth b 0) I)) λct cu=>zq zz (fn 64) [ct] cu λaw cv=>opt (nb [aw] (wx zz 64 c aw cv)) λax=>opt (zd zz 64 c ax) λd=>rv [d,.bool true] ax R)
 (λav=>GD (nth b 1) true (λcw=>cw j I) (λay az=>GD (nth b 1) true (λcx=>opt (nb [ay,pm 4] (zS zz .eql 3 (.tmp 84) (.const (pm 4)) ay (pm 4))) λJ=>cx J az) (λJ k=>opt (pk (nth b 1) J (.bool false)) λcy=>CD cy (λa0=>yp (nb [nth b 0] (vY zz 168 21 (nth b 0) k)) λa1 cz=>yp (nb [a1] (vY zz 21 2 a1 cz)) λc0 c1=>zq zz (fn 64) [c0] c1 λa2 c2=>opt (nb [a2] (wx zz 64 c a2 c2)) λa3=>opt (zd zz 64 c a3) λd=>rv [d,.bool true] a3 R)
 (λa0=>CD (nth b 1) (λa4=>yp (nb [nth b 0] (vY zz 168 196 (nth b 0) k)) λa5 c3=>yp (nb [a5] (vY zz 196 2 a5 c3)) λc4 c5=>zq zz (fn 64) [c4] c5 λa6 c6=>opt (nb [a6] (wx zz 64 c a6 c6)) λa7=>opt (zd zz 64 c a7) λd=>rv [d,.bool true] a7 R)
 (λa4=>CD (nth b 2) (λa8=>opt (zJ zz 193 f (pm 0)) λc7=>opt (ze zz 158 c7 2) λc8=>opt (zd zz 64 c8 k) λa9=>opt (nb [a9] (wx zz 64 c a9 k)) λba=>opt (zd zz 64 c ba) λd=>rv [d,.bool true] ba R)
 (λa8=>a8 [nth bl 0] k)
 (λc9 da=>a4 [nth c9 0] da))
 (λdb dc=>a0 [nth db 0] dc))
 (λdd de=>av [nth dd 0] de)) az) I)
 (λdf dg=>cp [nth df 0] dg)) au) aq)
 (λdj dh=>opt (nb [] (yd zz 64 [])) λbb=>opt (nb [bb] (wx zz 64 c bb dh)) λbc=>opt (zd zz 64 c bc) λd=>rv [d,.bool true] bc R)))
theorem OU(hw:R0 h t0 t1 t2 R):DC zz 108 [t0,t1,t2] h R:=zT (by kernel_rfl) hw
def R2:=λ(h:za) k l (R:VK)=>
 zq zz (fn 82) [k,l] h λb c=>opt (nb [b,.pointer none] (zS zz .eql 152 (.tmp 10) (.const (.pointer none)) b (.pointer none))) λm=>CD m (λd=>rv [.bool false] c R)
 (λd=>d [.bool false] c)
 (λD e=>opt (vy b) λn=>opt (ze zz 155 n 0) λo=>opt (zd zz 3 o e) λf=>BK (λp=>LP (λa g q=>opt (nb [nth a 0,f] (zS zz .lss 3 (.tmp 16) (.tmp 15) (nth a 0) f)) λr=>CD r (λi=>i [] g)
 (λi=>p [] g)
 (λE s=>BK (λt=>zq zz (fn 83) [b,nth a 0,.bool true] s λu v=>opt (nb [nth a 0,pm 64] (zS zz .rem 3 (.tmp 22) (.const (pm 64)) (nth a 0) (pm 64))) λw=>opt (nb [.int .u8 1] (yd zz 158 [(0,(.int .u8 1))])) λj=>opt (vy u) λx=>opt (zJ zz 184 x w) λy=>opt (nb [j] (wx zz 158 y j v)) λz=>t [] z)
 (λF A=>opt (nb [nth a 0,pm 1] (zS zz .add 3 (.tmp 16) (ci 1) (nth a 0) (pm 1))) λB=>q [B] A)))
 [pm 0] e)
 (λG C=>rv [.bool true] C R))
theorem OV(hw:R2 h t0 t1 R):DC zz 63 [t0,t1] h R:=zT (by kernel_rfl) hw
def RY:=λ(h:za) a b (R:VK)=>
 zq zz (fn 82) [a,b] h λc e=>opt (nb [c,.pointer none] (zS zz .eql 152 (.tmp 9) (.const (.pointer none)) c (.pointer none))) λn=>CD n (λf=>rv [.bool false] e R)
 (λf=>f [.bool false] e)
 (λC d=>opt (vy a) λo=>opt (ze zz 148 o 0) λp=>opt (zd zz 146 p d) λq=>opt (nb [b,pm 1] (zS zz .sub 3 (.tmp 15) (ci 1) b (pm 1))) λr=>opt (vy c) λs=>opt (ze zz 155 s 0) λt=>opt (zd zz 3 t d) λg=>opt (nb [g,.bool true] (yd zz 155 [(0,g),(2,(.bool true))])) λi=>opt (nb [i] (some (Value.cells i).toList)) λu=>nw d u 155 λj v=>opt (zJ zz 146 q r) λw=>opt (nb [j] (wx zz 152 w j v)) λk=>opt (vy a) λx=>opt (ze zz 148 x 1) λy=>opt (zd zz 3 y k) λl=>opt (nb [l,pm 1] (zS zz .sub 3 (.tmp 27) (ci 1) l (pm 1))) λm=>opt (vy a) λz=>opt (ze zz 148 z 1) λA=>opt (nb [m] (wx zz 3 A m k)) λB=>rv [.bool true] B R)
theorem OT(hw:RY h t0 t1 R):DC zz 114 [t0,t1] h R:=zT (by kernel_rfl) hw
def su:=λ(h:za) a4 b L a5 (R:VK)=>
 opt (nb [L] (some (Value.cells L).toList)) λa6=>nw h a6 64 λc p=>opt (ze zz 64 c 0) λa7=>opt (zd zz 3 a7 p) λM=>opt (nb [M,pm 2] (zS zz .neq 3 (.tmp 14) (.const (pm 2)) M (pm 2))) λd=>GD d false (λa8=>a8 b p) (λN O=>GD d false (λa9=>opt (nb [N,pm 1] (zS zz .neq 3 (.tmp 17) (ci 1) N (pm 1))) λq=>a9 q O) (λq P=>GD d false (λba=>ba q P) (λr Q=>GD r true (λbb=>bb b Q) (λS T=>GD r true (λbc=>opt (nb [S,pm 4] (zS zz .neq 3 (.tmp 20) (.const (pm 4)) S (pm 4))) λs=>bc s T) (λs U=>GD d false (λbd=>opt (pk r s (.bool false)) λt=>bd t U) (λt V=>GD d false (λbe=>be t V) (λu W=>GD u true (λbf=>bf b W) (λX Y=>GD u true (λbg=>opt (nb [X,pm 8] (zS zz .neq 3 (.tmp 24) (.const (pm 8)) X (pm 8))) λv=>bg v Y) (λv Z=>GD d false (λbh=>opt (pk u v (.bool false)) λw=>bh w Z) (λw aa=>opt (pk d (.bool true) w) λbi=>CD bi (λab=>rv [pp,.bool false] aa R)
 (λab=>ab [pp,.bool false] aa)
 (λac ad=>opt (ze zz 64 c 2) λbj=>opt (zd zz 3 bj ad) λbk=>zq zz (fn 82) [a4,bk] ad λf ae=>opt (nb [f,.pointer none] (zS zz .eql 152 (.tmp 32) (.const (.pointer none)) f (.pointer none))) λg=>GD g false (λbl=>opt (ze zz 64 c 1) λx=>bl x ae) (λx y=>GD g false (λbm=>opt (zd zz 2 x y) λi=>bm i y) (λi af=>GD g false (λbn=>opt (nb [i,pm 0] (zS zz .lss 2 (.tmp 36) (ci 0) i (pm 0))) λz=>bn z af) (λz ag=>opt (pk g (.bool true) z) λa=>GD a false (λbo=>opt (ze zz 64 c 1) λA=>bo A ag) (λA B=>GD a false (λbp=>opt (zd zz 2 A B) λj=>bp j B) (λj ah=>GD a false (λbq=>bq f ah) (λbr ai=>GD a false (λbs=>opt (vy br) λC=>bs C ai) (λC aj=>GD a false (λbt=>opt (ze zz 155 C 0) λD=>bt D aj) (λD E=>GD a false (λbu=>opt (zd zz 3 D E) λk=>bu k E) (λk ak=>GD a false (λbv=>bv b ak) (λal am=>GD a false (λbw=>opt (nb [k,al] (zS zz .sub 3 (.tmp 45) (.tmp 46) k al)) λl=>bw l am) (λl an=>GD a false (λbx=>opt (nb [j,l] (zS zz .gtr 2 (.tmp 41) (.tmp 47) j l)) λF=>bx F an) (λF ao=>opt (pk a (.bool true) F) λe=>GD e false (λbz=>opt (ze zz 64 c 1) λG=>bz G ao) (λG H=>GD e false (λb0=>opt (zd zz 2 G H) λm=>b0 m H) (λm ap=>GD e false (λb1=>b1 b ap) (λaq ar=>GD e false (λb2=>opt (nb [m,aq] (zS zz .rem 2 (.tmp 52) (.tmp 53) m aq)) λn=>b2 n ar) (λn au=>GD e false (λb3=>opt (nb [n,pm 0] (zS zz .neq 2 (.tmp 54) (ci 0) n (pm 0))) λI=>b3 I au) (λI av=>opt (pk e (.bool true) I) λb4=>CD b4 (λaw=>rv [pp,.bool false] av R)
 (λaw=>aw [nth ac 0,nth ac 1] av)
 (λax ay=>opt (ze zz 64 c 1) λb5=>opt (zd zz 2 b5 ay) λb6=>zq zz (fn 83) [f,b6,a5] ay λJ az=>opt (nb [J,.pointer none] (zS zz .eql 159 (.tmp 62) (.const (.pointer none)) J (.pointer none))) λb7=>CD b7 (λa0=>rv [pp,.bool true] az R)
 (λa0=>a0 [nth ax 0,nth ax 1] az)
 (λca K=>opt (ze zz 64 c 1) λb8=>opt (zd zz 2 b8 K) λa1=>opt (nb [a1,pm 64] (zS zz .rem 3 (.tmp 65) (.const (pm 64)) a1 (pm 64))) λo=>opt (vy J) λa2=>opt (nb [o,b] (zS zz .add 3 (.tmp 70) (.tmp 71) o b)) λa3=>opt (nb [a2] (cond (HX (some o)&&HX (some a3)) (B7 zz 184 a2 (some o) (some a3) K) none)) λb9=>rv [b9,.bool true] K R))) au) ar) ap) H) ao) an) am) ak) E) aj) ai) ah) B) ag) af) y) ae)) Z) Y) W) V) U) T) Q) P) O) p
theorem pE(hw:su h t0 t1 t2 t3 R):DC zz 126 [t0,t1,t2,t3] h R:=zT (by kernel_rfl) hw
def zfO:=λ(h:za) a (R:VK)=>
 opt (Ye zz 64) λe=>nw h (Value.cells e).toList 64 λb f=>opt (nb [pm 1,a] (yd zz 64 [(0,(pm 1)),(1,a)])) λc=>opt (nb [c] (wx zz 64 b c f)) λd=>opt (zd zz 64 b d) λg=>rv [g] d R
theorem zbk(hw:zfO h t0 R):DC zz 64 [t0] h R:=zT (by kernel_rfl) hw
def IE:=λ(h:za) a b k (R:VK)=>
 opt (vy a) λy=>opt (ze zz 155 y 1) λz=>opt (zd zz 153 z h) λl=>opt (nb [l,pp] (zS zz .eql 153 (.tmp 10) (.const (pp)) l (pp))) λm=>GD m true (λA=>A k h) (λB d=>opt (pk m B (.bool false)) λC=>CD C (λe=>opt (vy a) λD=>opt (ze zz 155 D 0) λE=>opt (zd zz 3 E d) λn=>opt (nb [n,pm 64] (zS zz .add 3 (.tmp 19) (.const (pm 64)) n (pm 64))) λo=>opt (nb [o,pm 1] (zS zz .sub 3 (.tmp 20) (ci 1) o (pm 1))) λp=>opt (nb [p,pm 64] (zS zz .quo 3 (.tmp 21) (.const (pm 64)) p (pm 64))) λq=>yp (UJ zz 153 q q d) λr F=>opt (vy a) λG=>opt (ze zz 155 G 1) λH=>opt (nb [r] (wx zz 153 H r F)) λI=>e [] I)
 (λe=>e [] d)
 (λaj f=>opt (vy a) λJ=>opt (ze zz 155 J 1) λK=>opt (zd zz 153 K f) λs=>opt (nb [s,pp] (zS zz .eql 153 (.tmp 29) (.const (pp)) s (pp))) λL=>CD L (λt=>rv [.pointer none] f R)
 (λt=>t [.pointer none] f)
 (λak c=>opt (vy a) λM=>opt (ze zz 155 M 1) λN=>opt (zd zz 153 N c) λO=>opt (nb [b,pm 64] (zS zz .quo 3 (.tmp 35) (.const (pm 64)) b (pm 64))) λP=>opt (zJ zz 153 O P) λQ=>opt (zd zz 159 Q c) λu=>opt (nb [u,.pointer none] (zS zz .eql 159 (.tmp 38) (.const (.pointer none)) u (.pointer none))) λv=>GD v true (λS=>S k c) (λT g=>opt (pk v T (.bool false)) λU=>CD U (λi=>opt (vy a) λV=>opt (ze zz 155 V 1) λW=>opt (zd zz 153 W g) λX=>opt (nb [b,pm 64] (zS zz .quo 3 (.tmp 47) (.const (pm 64)) b (pm 64))) λY=>opt (nb [] (yd zz 184 [])) λw=>opt (nb [w] (some (Value.cells w).toList)) λZ=>nw g Z 184 λx aa=>opt (zJ zz 153 X Y) λab=>opt (nb [x] (wx zz 159 ab x aa)) λac=>i [] ac)
 (λi=>i [] g)
 (λal j=>opt (vy a) λad=>opt (ze zz 155 ad 1) λae=>opt (zd zz 153 ae j) λaf=>opt (nb [b,pm 64] (zS zz .quo 3 (.tmp 56) (.const (pm 64)) b (pm 64))) λag=>opt (zJ zz 153 af ag) λah=>opt (zd zz 159 ah j) λai=>rv [ai] j R)) c))) h
theorem Ch(hw:IE h t0 t1 t2 R):DC zz 83 [t0,t1,t2] h R:=zT (by kernel_rfl) hw
end Go.Mem
namespace Go.Ai
open Go.Ai Go.Proofs
abbrev WX(t k n:Nat):Prop := ∀(b off:Nat),ze Tryz.prog t (.pointer (some ⟨b,off,none⟩)) k=some (.pointer (some ⟨b,off+n,none⟩))
abbrev Iy(t k:Nat):Prop := ∀(b off:Nat),ze Tryz.prog t (.pointer (some ⟨b,off,none⟩)) k=some (.pointer (some ⟨b,off,none⟩))
abbrev rG(t:TypeId):Prop := ∀(b off:Nat) (h:za),zd Tryz.prog t (.pointer (some ⟨b,off,none⟩)) h=zo h b off
abbrev FcN(t:TypeId)(n:Nat):Prop := ∀(b off:Nat) (h:za),zd Tryz.prog t (.pointer (some ⟨b,off,none⟩)) h=zN h b off n
abbrev FcI(t:TypeId):Prop := ∀(b off:Nat) (v:Int) (h:za),wx Tryz.prog t (.pointer (some ⟨b,off,none⟩)) (pm v) h=xw h b off [(pm v)]
abbrev RG(t:TypeId):Prop := ∀(b off:Nat) (v:Option Addr) (vl vc:Nat) (h:za),wx Tryz.prog t (.pointer (some ⟨b,off,none⟩)) (.slice v vl vc) h=xw h b off [(.slice v vl vc)]
abbrev FcM(t:TypeId)(n:Nat):Prop := ∀(b off:Nat) (l:List aaa) (h:za) (_:l.length=n),wx Tryz.prog t (.pointer (some ⟨b,off,none⟩)) (.agg l.toArray) h=xw h b off l
abbrev Ry(t e s y:Nat):Prop := ∀(r:TypeId) (v x:aaa) (n:Nat) (new:List aaa) (h:za) (_:bF x=some n) (_:vW h n s x=some new) (_:new.all wI=true) (_:new.length=n*s),zP Tryz.prog .append [t,t] r [v,x] h=QG h e s y n new v
abbrev Mx(t n:Nat):Prop := ∀(b off len c:Nat) (k:IntKind) (i:Int),zJ Tryz.prog t (.slice (some ⟨b,off,none⟩) len c) (.int k i)=if 0<=i/\i<len then some (.pointer (some ⟨b,off+i.toNat*n,none⟩)) else none
abbrev Rz(t:TypeId):Prop := ∀(r:TypeId) (a:Option Addr) (n c:Nat) (h:za),zP Tryz.prog .len [t] r [.slice a n c] h=some (pm n,h)
noncomputable def HB:Array Field:=match Program.underlying Tryz.prog 64 with|some (.struct f)=>f|_ => #[]
theorem UD:rG 146:=wG (by kernel_rfl)
theorem SK:rG 152:=wG (by kernel_rfl)
theorem ov:rG 153:=wG (by kernel_rfl)
theorem Eo:FcN 158 5:=Wq (by kernel_rfl) (by kernel_rfl)
theorem Ab:rG 159:=wG (by kernel_rfl)
theorem WK:rG 2:=wG (by kernel_rfl)
theorem jr:rG 3:=wG (by kernel_rfl)
theorem ow:rG 4:=wG (by kernel_rfl)
theorem La:rG 5:=wG (by kernel_rfl)
theorem WY:FcN 64 3:=Wq (by kernel_rfl) (by kernel_rfl)
theorem zdT:Ry 146 152 1 8:=λr v x n w h h1 h2 h3 h4=>jw (e:=152) (e2:=152) (by kernel_rfl) (by kernel_rfl) (by kernel_rfl) (by kernel_rfl) (by decide) h1 h2 h3 h4
theorem S6:RG 146:=λb o _ _ _ h=>uc (by kernel_rfl) b o _ h rfl
theorem zdZ(b off:Nat)(v:Option Addr)(h:za):wx Tryz.prog 152 (.pointer (some ⟨b,off,none⟩)) (.pointer v) h=xw h b off [(.pointer v)]:=uc (by kernel_rfl) b off _ h rfl
theorem zd0:RG 153:=λb o _ _ _ h=>uc (by kernel_rfl) b o _ h rfl
theorem dy:FcM 158 5:=XV (by kernel_rfl)
theorem Ld(b off:Nat)(v:Option Addr)(h:za):wx Tryz.prog 159 (.pointer (some ⟨b,off,none⟩)) (.pointer v) h=xw h b off [(.pointer v)]:=uc (by kernel_rfl) b off _ h rfl
theorem Lf:FcI 3:=λb o _ h=>uc (by kernel_rfl) b o _ h rfl
theorem pU:FcM 64 3:=XV (by kernel_rfl)
theorem zd5:Ye Tryz.prog 158=some (.agg #[(.int .u8 0),(.int .u8 0),(pm 0),(pm 0),(pm 0)]):=zG (by kernel_rfl)
theorem Nv:Ye Tryz.prog 64=some (.agg #[(pm 0),(pm 0),(pm 0)]):=zG (by kernel_rfl)
theorem zbx:yd Tryz.prog 148 []=some (.agg #[(pp),(pm 0)]):=zG (by kernel_rfl)
theorem dF(v0:Int):yd Tryz.prog 155 [(0,(pm v0))]=some (.agg #[(pm v0),(pp),(.bool false)]):=zG (by kernel_rfl)
theorem Lj(v0:Int)(v2:Bool):yd Tryz.prog 155 [(0,(pm v0)),(2,(.bool v2))]=some (.agg #[(pm v0),(pp),(.bool v2)]):=zG (by kernel_rfl)
theorem zby:yd Tryz.prog 158 []=some (.agg #[(.int .u8 0),(.int .u8 0),(pm 0),(pm 0),(pm 0)]):=zG (by kernel_rfl)
theorem G6(v0:Int):yd Tryz.prog 158 [(0,(.int .u8 v0))]=some (.agg #[(.int .u8 v0),(.int .u8 0),(pm 0),(pm 0),(pm 0)]):=zG (by kernel_rfl)
theorem iR(v0:Int)(v1:Int):yd Tryz.prog 158 [(0,(.int .u8 v0)),(1,(.int .u8 v1))]=some (.agg #[(.int .u8 v0),(.int .u8 v1),(pm 0),(pm 0),(pm 0)]):=zG (by kernel_rfl)
theorem J7(v0:Int)(v1:Int)(v20:Int)(v21:Int)(v22:Int):yd Tryz.prog 158 [(0,(.int .u8 v0)),(1,(.int .u8 v1)),(2,(.agg #[(pm v20),(pm v21),(pm v22)]))]=some (.agg #[(.int .u8 v0),(.int .u8 v1),(pm v20),(pm v21),(pm v22)]):=zG (by kernel_rfl)
theorem dG:yd Tryz.prog 64 []=some (.agg #[(pm 0),(pm 0),(pm 0)]):=zG (by kernel_rfl)
theorem De(v0:Int)(v1:Int):yd Tryz.prog 64 [(0,(pm v0)),(1,(pm v1))]=some (.agg #[(pm v0),(pm v1),(pm 0)]):=zG (by kernel_rfl)
theorem QJ(v0:Option Addr)(h:za):zZ Tryz.prog 146 1 [(0,(.pointer v0))] h=some (.slice (some ⟨h.next,0,none⟩) 1 3,h.push (.cells [(.pointer v0)] 152)):=zG (by kernel_rfl)
theorem XW(n:Int)(h:za):vY Tryz.prog 168 196 (.int .u64 n) h=some (.int .i8 (IntKind.wrap .i8 n),h):=zG (by kernel_rfl)
theorem jO(n:Int)(h:za):vY Tryz.prog 168 2 (.int .u64 n) h=some (pm (IntKind.wrap .i64 n),h):=zG (by kernel_rfl)
theorem Vz(n:Int)(h:za):vY Tryz.prog 168 21 (.int .u64 n) h=some (.int .i32 (IntKind.wrap .i32 n),h):=zG (by kernel_rfl)
theorem Uo(n:Int)(h:za):vY Tryz.prog 196 2 (.int .i8 n) h=some (pm (IntKind.wrap .i64 n),h):=zG (by kernel_rfl)
theorem VJ(n:Int)(h:za):vY Tryz.prog 21 2 (.int .i32 n) h=some (pm (IntKind.wrap .i64 n),h):=zG (by kernel_rfl)
theorem Lq(n:Int)(h:za):vY Tryz.prog 2 5 (pm n) h=some (.int .u8 (IntKind.wrap .u8 n),h):=zG (by kernel_rfl)
theorem Aw(n:Int)(h:za):vY Tryz.prog 3 5 (pm n) h=some (.int .u8 (IntKind.wrap .u8 n),h):=zG (by kernel_rfl)
theorem mr(n:Int)(h:za):vY Tryz.prog 5 168 (.int .u8 n) h=some (.int .u64 (IntKind.wrap .u64 n),h):=zG (by kernel_rfl)
theorem Tt(n:Int)(h:za):vY Tryz.prog 5 3 (.int .u8 n) h=some (pm (IntKind.wrap .i64 n),h):=zG (by kernel_rfl)
theorem mB(x y:Operand):zS Tryz.prog .eql 152 x y (.pointer none) (.pointer none)=some (.bool true):=zG (by kernel_rfl)
theorem Hr(x y:Operand):zS Tryz.prog .eql 153 x y (pp) (pp)=some (.bool true):=zG (by kernel_rfl)
theorem mC(x y:Operand):zS Tryz.prog .eql 159 x y (.pointer none) (.pointer none)=some (.bool true):=zG (by kernel_rfl)
theorem Hs(x y:Operand):zS Tryz.prog .eql 193 x y (pp) (pp)=some (.bool true):=zG (by kernel_rfl)
theorem VL(x y:Operand)(a:Addr):zS Tryz.prog .eql 152 x y (.pointer (some a)) (.pointer none)=some (.bool false):=zg4 (e:=155) (by kernel_rfl) a
theorem mD(x y:Operand)(a:Addr)(n c:Nat):zS Tryz.prog .eql 153 x y (.slice (some a) n c) (pp)=some (.bool false):=zfb (e:=159) (by kernel_rfl) a n c
theorem rS(x y:Operand)(a:Addr):zS Tryz.prog .eql 159 x y (.pointer (some a)) (.pointer none)=some (.bool false):=zg4 (e:=184) (by kernel_rfl) a
theorem zbL(x y:Operand)(a:Addr)(n c:Nat):zS Tryz.prog .eql 193 x y (.slice (some a) n c) (pp)=some (.bool false):=zfb (e:=158) (by kernel_rfl) a n c
theorem QL(x y:Operand)(a0:Int)(a1:Int)(a2:Int)(b0:Int)(b1:Int)(b2:Int):zS Tryz.prog .eql 64 x y (.agg #[(pm a0),(pm a1),(pm a2)]) (.agg #[(pm b0),(pm b1),(pm b2)])=some (.bool ((a0 == b0)&&((a1 == b1)&&((a2 == b2))))):=(WJ (fs:=HB) (r:=(a0 == b0)&&((a1 == b1)&&((a2 == b2)))) (by kernel_rfl) (by kernel_rfl) (by kernel_rfl) rfl rfl (Eq.trans (b:=(cond (a0 == b0) (cond (a1 == b1) (cond (a2 == b2) (some true) (some false)) (some false)) (some false))) (by kernel_rfl) (by cases (a0 == b0) <;> cases (a1 == b1) <;> cases (a2 == b2) <;> rfl))).1
theorem Yg:Iy 148 0:=λb o=>zG (by kernel_rfl)
theorem QN:WX 148 1 1:=λb o=>zG (by kernel_rfl)
theorem jQ:Iy 155 0:=λb o=>zG (by kernel_rfl)
theorem Ju:WX 155 1 1:=λb o=>zG (by kernel_rfl)
theorem Hx:WX 155 2 2:=λb o=>zG (by kernel_rfl)
theorem TK:Iy 158 0:=λb o=>zG (by kernel_rfl)
theorem TL:WX 158 1 1:=λb o=>zG (by kernel_rfl)
theorem Jv:WX 158 2 2:=λb o=>zG (by kernel_rfl)
theorem uC:Iy 64 0:=λb o=>zG (by kernel_rfl)
theorem qU:WX 64 1 1:=λb o=>zG (by kernel_rfl)
theorem u6:WX 64 2 2:=λb o=>zG (by kernel_rfl)
theorem LO:Mx 146 1:=λb o l c k i=>vA (e:=152) (by kernel_rfl) (by kernel_rfl)
theorem AY:Mx 153 1:=λb o l c k i=>vA (e:=159) (by kernel_rfl) (by kernel_rfl)
theorem zez(b off:Nat)(k:IntKind)(i:Int):zJ Tryz.prog 184 (.pointer (some ⟨b,off,none⟩)) (.int k i)=if 0<=i/\i<64 then some (.pointer (some ⟨b,off+i.toNat*5,none⟩)) else none:=J0 (e:=158) (len:=64) (by kernel_rfl) (by kernel_rfl)
theorem VD:Mx 193 5:=λb o l c k i=>vA (e:=158) (by kernel_rfl) (by kernel_rfl)
theorem Kx:Rz 146:=λr a n c h=>zG (by kernel_rfl)
theorem aM:Rz 193:=λr a n c h=>zG (by kernel_rfl)
theorem zeK(k k2:IntKind)(l c:Int)(h:za)(h0:0<=l)(h1:l<=c)(h2:c<2^31):UJ Tryz.prog 153 (.int k l) (.int k2 c) h=some (.slice (some ⟨h.next,0,none⟩) l.toNat (c.toNat+2),h.push (.cells (Zu [(.pointer none)] (c.toNat*1)) 159)):=GV (e:=159) (z:=(.pointer none)) (n:=1) (bytes:=8) (by kernel_rfl) (by kernel_rfl) (by kernel_rfl) rfl (by decide) (by decide) rfl h0 h1 h2
theorem za2(b off:Nat)(lo hi:Option aaa)(h:za):B7 Tryz.prog 184 (.pointer (some ⟨b,off,none⟩)) lo hi h=(vV hi 64 64).bind λhh=>(vV lo 0 hh).bind λl=>some (.slice (some ⟨b,off+(if 64=l then 0 else l*5),none⟩) (hh-l) 0):=Pp (e:=158) (k:=64) (by kernel_rfl) (by kernel_rfl)
end Go.Ai
namespace Go.Mem
open Go.Ai Go.Proofs
structure V where
 k:Int
 n:Int
 b:Int
 deriving DecidableEq
def V.ke(v:V):List aaa:=[pm v.k,pm v.n,pm v.b]
def V.val(v:V):aaa := .agg #[pm v.k,pm v.n,pm v.b]
def v0:V:=⟨0,0,0⟩
structure Cl where
 k:Int
 n:Int
 p:V
 deriving DecidableEq
def Cl.ke(c:Cl):List aaa:=[.int .u8 c.k,.int .u8 c.n,pm c.p.k,pm c.p.n,pm c.p.b]
def pz:Cl:=⟨0,0,v0⟩
structure MB where
 size:Nat
 qy:Bool
 byte:Nat->Cl
abbrev MM:=List MB
def Z5:Option Nat->aaa
 |none => .pointer none
 |some g => .pointer (some ⟨g,0,none⟩)
def ss(h:za)(g:Nat)(f:Nat->Cl):Prop := ∃cs,h.get g=some (.cells cs 184)/\cs.length=320 /\ ∀k j,k<64->j<5->cs[k*5+j]? = (f k).ke[j]?
structure VR (h:za) (q:Nat) (gs:List (Option Nat)) (B:MB) (F:Nat->Prop):Prop where
 hl:gs.length=(B.size+63)/64
 fq:F q
 hq:h.get q=some (.cells (gs.map Z5) 159)
 hg:∀(j g:Nat),gs[j]? = some (some g)->F g/\ss h g (λk=>B.byte (64*j+k))
 hn:∀j:Nat,gs[j]? = some none->∀k,k<64->B.byte (64*j+k)=pz
 hd:∀i j g:Nat,gs[i]? = some (some g)->gs[j]? = some (some g)->i=j
 ht:∀k,64*gs.length<=k->B.byte k=pz
inductive UA (h:za) (pg:aaa) (B:MB) (F:Nat->Prop):Prop
 |empty (e:pg=.slice none 0 0) (u:∀k,B.byte k=pz):UA h pg B F
 |full (q c:Nat) (gs:List (Option Nat)) (e:pg=.slice (some ⟨q,0,none⟩) gs.length c) (x:VR h q gs B F):UA h pg B F
def sk(h:za)(p:Nat)(B:MB)(F:Nat->Prop):Prop := ∃pg,h.get p=some (.cells [pm B.size,pg,.bool B.qy] 155)/\F p/\UA h pg B F
def live(M:MM):Nat:=(M.filter λB => !B.qy).length
structure BR (h:za) (m:Nat) (bs:aaa) (ps:List Nat) (fs:Nat->Nat->Prop) (M:MM) (F:Nat->Prop):Prop where
 hm:h.get m=some (.cells [bs,pm (live M)] 148)
 fm:F m
 len:ps.length=M.length
 hb:(M=[]/\bs=.slice none 0 0) \/ ∃bb c,bs=.slice (some ⟨bb,0,none⟩) M.length c/\c≠0/\F bb/\h.get bb=some (.cells (ps.map λp => pi p) 152) /\ ∀i,¬fs i bb
 nm:∀i,¬fs i m
 qX:∀i p B,ps[i]? = some p->M[i]? = some B->sk h p B (fs i)
 RE:∀i j b,fs i b->fs j b->i=j
 sub:∀i b,fs i b->F b
 ok:∀b,F b->True/\b<h.next
structure Uz (h:za) (m:Nat) (bs:aaa) (ps:List Nat) (fs:Nat->Nat->Prop) (M:MM) (F:Nat->Prop):Prop where
 hm:h.get m=some (.cells [bs,pm (live M)] 148)
 fm:F m
 len:ps.length=M.length
 hb:(M=[]/\bs=.slice none 0 0) \/ ∃bb c,bs=.slice (some ⟨bb,0,none⟩) M.length c/\c≠0/\F bb/\h.get bb=some (.cells (ps.map λp => pi p) 152) /\ ∀i,¬fs i bb
 nm:∀i,¬fs i m
 qX:∀i p B,ps[i]? = some p->M[i]? = some B->sk h p B (fs i)
 RE:∀i j b,fs i b->fs j b->i=j
 sub:∀i b,fs i b->F b
 ok:∀b,F b->h.ro<=b/\b<h.next
theorem Uz.r{h:za}{m:Nat}{bs:aaa}{ps:List Nat}{fs:Nat->Nat->Prop}{M:MM}{F:Nat->Prop}(x:Uz h m bs ps fs M F):BR h m bs ps fs M F:=⟨x.hm,x.fm,x.len,x.hb,x.nm,x.qX,x.RE,x.sub,λb hb=>⟨trivial,(x.ok b hb).2⟩⟩
def DX(h:za)(m:Nat)(M:MM)(F:Nat->Prop):Prop := ∃bs ps fs,Uz h m bs ps fs M F
structure Xv (F:Nat->Prop) (h h':za):Prop where
 next:h.next<=h'.next
 ro:h'.ro=h.ro
 get:∀b,¬F b->b<h.next->h'.get b=h.get b
theorem Xv.refl(F:Nat->Prop)(h:za):Xv F h h:=⟨aam _,rfl,λ_ _ _=>rfl⟩
theorem Xv.trans{F:Nat->Prop}{a b c:za}(x:Xv F a b)(y:Xv F b c):Xv F a c :=
 ⟨aaZ x.next y.next,y.ro.trans x.ro,λi hi hlt=>(y.get i hi (aan hlt x.next)).trans (x.get i hi hlt)⟩
theorem Xv.mono{F G:Nat->Prop}{a b:za}(x:Xv F a b)(h:∀i,F i->G i):Xv G a b:=⟨x.next,x.ro,λi hi hlt=>x.get i (λe=>hi (h i e)) hlt⟩
def E5:Nat->Prop:=λ_=>False
theorem Xv.push{F:Nat->Prop}{h h':za}(x:Xv F h h')(o:wQ):Xv F h (h'.push o) :=
 ⟨abQ x.next,x.ro,λb hb hlt=>(zD (aan hlt x.next)).trans (x.get b hb hlt)⟩
theorem Xv.set{F:Nat->Prop}{h h':za}(x:Xv F h h'){b:Nat}(hb:F b\/h.next<=b)(o:Option wQ):Xv F h (h'.set b o) :=
 ⟨x.next,x.ro,λc hc hlt=>(zU (by rcases hb with e|e; (intro q;subst q;exact hc e);omega)).trans (x.get c hc hlt)⟩
section mono
variable {h h':za}
theorem ss.zG{g:Nat}{f:Nat->Cl}(x:ss h g f)(e:h'.get g=h.get g):ss h' g f:=by obtain⟨cs,a,b⟩:=x;exact⟨cs,e.trans a,b⟩
theorem VR.zG{q:Nat}{gs:List (Option Nat)}{B:MB}{F:Nat->Prop}(x:VR h q gs B F)(e:∀b,F b->h'.get b=h.get b):VR h' q gs B F :=
 ⟨x.hl,x.fq,(e q x.fq).trans x.hq,λj g hj=>⟨(x.hg j g hj).1,(x.hg j g hj).2.zG (e g (x.hg j g hj).1)⟩,x.hn,x.hd,x.ht⟩
theorem VR.more{q:Nat}{gs:List (Option Nat)}{B:MB}{F G:Nat->Prop}(x:VR h q gs B F)(e:∀b,F b->G b):VR h q gs B G :=
 ⟨x.hl,e q x.fq,x.hq,λj g hj=>⟨e _ (x.hg j g hj).1,(x.hg j g hj).2⟩,x.hn,x.hd,x.ht⟩
theorem UA.zG{pg:aaa}{B:MB}{F:Nat->Prop}(x:UA h pg B F)(e:∀b,F b->h'.get b=h.get b):UA h' pg B F:=by
 cases x with
 |empty a b=>exact .empty a b
 |full q c gs a x=>exact .full q c gs a (x.zG e)
theorem UA.more{pg:aaa}{B:MB}{F G:Nat->Prop}(x:UA h pg B F)(e:∀b,F b->G b):UA h pg B G:=by
 cases x with
 |empty a b=>exact .empty a b
 |full q c gs a x=>exact .full q c gs a (x.more e)
theorem sk.zG{p:Nat}{B:MB}{F:Nat->Prop}(x:sk h p B F)(e:∀b,F b->h'.get b=h.get b):sk h' p B F:=by
 obtain⟨pg,a,b,c⟩:=x;exact⟨pg,(e p b).trans a,b,c.zG e⟩
theorem sk.more{p:Nat}{B:MB}{F G:Nat->Prop}(x:sk h p B F)(e:∀b,F b->G b):sk h p B G:=by
 obtain⟨pg,a,b,c⟩:=x;exact⟨pg,a,e p b,c.more e⟩
theorem BR.zG{m:Nat}{bs:aaa}{ps:List Nat}{fs:Nat->Nat->Prop}{M:MM}{F:Nat->Prop}(x:BR h m bs ps fs M F)(e:∀b,F b->h'.get b=h.get b)(hn:h.next<=h'.next):BR h' m bs ps fs M F :=
 ⟨(e m x.fm).trans x.hm,x.fm,x.len,by
   rcases x.hb with a|⟨bb,c,a,b,d,g,o⟩
   ·exact .inl a
   ·exact .inr ⟨bb,c,a,b,d,(e bb d).trans g,o⟩,x.nm,λi p B hp hB=>(x.qX i p B hp hB).zG (λb hb=>e b (x.sub i b hb)),x.RE,x.sub,λb hb=>by
    exact⟨trivial,aan (x.ok b hb).2 hn⟩⟩
theorem Uz.zG{m:Nat}{bs:aaa}{ps:List Nat}{fs:Nat->Nat->Prop}{M:MM}{F:Nat->Prop}(x:Uz h m bs ps fs M F)(e:∀b,F b->h'.get b=h.get b)(hn:h.next<=h'.next)(hr:h'.ro=h.ro):Uz h' m bs ps fs M F :=
 ⟨(e m x.fm).trans x.hm,x.fm,x.len,by
   rcases x.hb with a|⟨bb,c,a,b,d,g,o⟩
   ·exact .inl a
   ·exact .inr ⟨bb,c,a,b,d,(e bb d).trans g,o⟩,x.nm,λi p B hp hB=>(x.qX i p B hp hB).zG (λb hb=>e b (x.sub i b hb)),x.RE,x.sub,λb hb=>by
    have:=x.ok b hb;rw[hr];omega⟩
theorem DX.zG{m:Nat}{M:MM}{F:Nat->Prop}(x:DX h m M F)(e:∀b,F b->h'.get b=h.get b)(hn:h.next<=h'.next)(hr:h'.ro=h.ro):DX h' m M F:=by
 obtain⟨bs,ps,fs,x⟩:=x;exact⟨bs,ps,fs,x.zG e hn hr⟩
theorem DX.Up{m:Nat}{M:MM}{F G:Nat->Prop}(x:DX h m M F)(e:Xv G h h')(hd:∀b,F b->¬G b):DX h' m M F:=by
 obtain⟨bs,ps,fs,x⟩:=x;exact⟨bs,ps,fs,x.zG (λb hb=>e.get b (hd b hb) (x.ok b hb).2) e.next e.ro⟩
end mono
theorem T9{M:MM}{i:Nat}{B B':MB}(h:M[i]? = some B)(hf:B'.qy=B.qy):live (M.set i B')=live M:=by
 unfold live
 induction M generalizing i with
 |nil=>rfl
 |cons A M ih=>
  cases i with
  |zero=>simp at h;subst h;simp[hf,abO];split <;> rfl
  |succ i=>simp at h;simp only[aa0,abO];split <;> simp[ih h]
theorem Ig{M:MM}{i:Nat}{B:MB}(h:M[i]? = some B):M.set i B=M:=by
 apply abw;intro j;by_cases e:i=j
 ·subst e
  have hlt:i<M.length:=by
   rcases aax i M.length with a|a
   ·exact a
   ·rw[aak a]at h;cases h
  rw[aaU hlt,h]
 ·rw[abj e]
theorem Uz.Fq{h h1:za}{m:Nat}{bs:aaa}{ps:List Nat}{fs:Nat->Nat->Prop}{M:MM}{F:Nat->Prop}(x:Uz h m bs ps fs M F){i q:Nat}{B B':MB}{F2:Nat->Prop}(hq:ps[i]? = some q)(hB:M[i]? = some B)(hf:B'.qy=B.qy)
  (Up:Xv (fs i) h h1) (hb:sk h1 q B' F2) (h2:∀b,F2 b->fs i b\/h.next<=b) (h3:∀b,F2 b->h1.ro<=b/\b<h1.next) :
  Uz h1 m bs ps (λk=>if k=i then F2 else fs k) (M.set i B') (λb=>F b\/F2 b):=by
 have old:∀b,F b->¬fs i b->h1.get b=h.get b:=λb hb hn=>Up.get b hn (x.ok b hb).2;have hnew:∀b,h.next<=b->F b->False:=λb hl hb=>by have:=(x.ok b hb).2;omega
 have hlt:i<M.length:=by
  rcases aax i M.length with a|a
  ·exact a
  ·rw[aak a]at hB;cases hB
 refine⟨by rw[old m x.fm (x.nm i),x.hm,T9 hB hf],.inl x.fm,by rw[x.len,abd],?_,?_,?_,?_,?_,?_⟩
 ·rcases x.hb with⟨rfl,_⟩|⟨bb,c,e1,e2,e3,e4,e5⟩
  ·cases hB
  ·refine .inr ⟨bb,c,by rw[e1,abd],e2,.inl e3,(old bb e3 (e5 i)).trans e4,λk hk=>?_⟩;split at hk
   ·rcases h2 bb hk with a|a
    ·exact e5 i a
    ·exact hnew bb a e3
   ·exact e5 k hk
 ·intro k hk;split at hk
  ·rcases h2 m hk with a|a
   ·exact x.nm i a
   ·exact hnew m a x.fm
  ·exact x.nm k hk
 ·intro k p C hp hC;by_cases e:k=i
  ·subst e;rw[aaU hlt]at hC;cases hC;rw[hq]at hp;cases hp;simp only[aai];exact hb
  ·rw[abj (λq=>e q.symm)]at hC;simp only[aae e];exact(x.qX k p C hp hC).zG (λb hb=>old b (x.sub k b hb) (λhc=>e (x.RE k i b hb hc)))
 ·intro a b z ha hz;split at ha <;> split at hz
  ·rename_i e1 e2;rw[e1,e2]
  ·rename_i e1 e2;rcases h2 z ha with c|c
   ·exact absurd (x.RE b i z hz c) e2
   ·exact(hnew z c (x.sub b z hz)).elim
  ·rename_i e1 e2;rcases h2 z hz with c|c
   ·exact absurd (x.RE a i z ha c) e1
   ·exact(hnew z c (x.sub a z ha)).elim
  ·exact x.RE a b z ha hz
 ·intro k b hk;split at hk
  ·exact .inr hk
  ·exact .inl (x.sub k b hk)
 ·intro b hb;have n1:=Up.next;have n2:=Up.ro;rcases hb with hb|hb
  ·have:=x.ok b hb;omega
  ·exact h3 b hb
def kW(v:V):Bool:=if v.k=0 then (v.n == 0&&v.b == 0) else if v.k=1 then v.b == 0 else v.k == 2&&decide (1<=v.b)
theorem iY(v:V)(h:za):xC Tryz.prog 125 [v.val] h (.bool (kW v)):=by
 refine xC.of rfl ?_;obtain⟨k,n,b⟩:=v;apply OW;unfold R3 V.val kW;by_cases h0:k=0
 ·subst h0;simp -implicitDefEqProofs only[zw,zF,yc,y6,yj,kU,WZ,zI,z8,yY,nth,nw,Value.cells,BK,aaf,aal,aaH,aay,aaE,aaC,aby,aaT,abx,aas,aar,abY,Nat.reduceAdd,Int.reduceEq,aam,uD,vN,Ql,zM,zN,zo,aap,abt,jr,WY,dG,QL,uC,u6]
  try rfl
 ·by_cases h1:k=1
  ·subst h1;simp -implicitDefEqProofs only[zw,zF,yc,y6,yj,kU,WZ,zI,z8,yY,nw,Value.cells,BK,aaf,aal,aaH,aay,aaE,aaC,aby,aaT,abx,aas,aar,Nat.reduceAdd,aam,uD,vN,Ql,zM,zN,zo,aap,jr,WY,dG,QL,uC,u6,h0]
   try rfl
  ·by_cases h2:k=2
   ·subst h2;simp -implicitDefEqProofs only[zw,zF,yc,yj,Zi,xX,kU,Dc,WZ,zI,z8,yY,nth,nw,Value.cells,BK,aaf,aal,aaH,aay,aaE,aaC,aby,aaT,abx,aas,aar,abY,Nat.reduceAdd,aam,uD,vN,Ql,zM,zN,zo,aap,abt,jr,WY,dG,QL,uC,u6,h0,h1]
    try rfl
   ·simp -implicitDefEqProofs only[zw,zF,yc,yj,Yu,yO,kU,WZ,zI,z8,yY,nth,nw,Value.cells,BK,aaf,aal,aaH,aay,aaE,aaC,aby,aaT,abx,aas,aar,Nat.reduceAdd,aam,vN,Ql,zM,zN,zo,aap,jr,WY,dG,QL,uC,u6,h0,h1,h2];simp[h2]
theorem Xo(n:Int)(h:za):DC Tryz.prog 64 [pm n] h (λv h1=>v=V.val ⟨1,n,0⟩/\Xv E5 h h1):=by
 apply YG;intro hwf;have hro:=hwf.2;apply zbk;unfold zfO V.val;simp -implicitDefEqProofs only[zw,zF,yc,kU,z8,yY,jm,nw,Value.cells,aaH,aay,aaE,aaC,abf,abD,zb,abb,aa0,aby,aaT,abx,aas,abe,Nat.reduceAdd,aba,ab1,aam,qZ,zM,yr,xw,zN,WY,pU,Nv,De,hro];exact((Xv.refl _ _).push _).set (.inr (aam _)) _
theorem vF{n:Int}(h1 : -9223372036854775808<=n)(h2:n<9223372036854775808):IntKind.wrap .i64 n=n:=by
 simp only[IntKind.wrap,IntKind.bits,IntKind.signed];simp;omega
def idx(M:MM)(n:Int):Option Nat:=if 1<=n/\n<=M.length then (match M[n.toNat-1]? with
 |some B=>if B.qy=true then none else some (n.toNat-1)
 |none=>none) else none
theorem Ut{M:MM}{n:Int}{i:Nat}(h:idx M n=some i):n=i+1 /\ ∃B,M[i]? = some B/\B.qy=false:=by
 unfold idx at h;split at h
 case isFalse=>cases h
 rename_i hn;split at h
 case h_2=>cases h
 rename_i B hB;split at h
 case isTrue=>cases h
 rename_i hf;simp only[aab]at h;subst h;exact⟨by omega,B,hB,by simpa using hf⟩
theorem zbU{ps:List Nat}{i p:Nat}(h:ps[i]? = some p):(ps.map λp=>Value.pointer (some ⟨p,0,none⟩))[i]? = some (pi p):=by simp[h]
theorem Nu{h:za}{m:Nat}{bs:aaa}{ps:List Nat}{fs:Nat->Nat->Prop}{M:MM}{F:Nat->Prop}(x:BR h m bs ps fs M F){n:Int}(hn:n<9223372036854775808) :
  DC Tryz.prog 82 [pi m,pm n] h (λv h1=>h1=h/\v=Z5 ((idx M n).bind λi=>ps[i]?)):=by
 apply zbl;unfold zfP;have hm:=x.hm;by_cases h1:n<1
 ·have e:idx M n=none:=by unfold idx;rw[aae (by omega)]
  simp -implicitDefEqProofs only[zw,zF,yc,y6,Q2,xX,vg,kU,ks,Un,zI,z8,wt,abg,aba,uD,zo,UD,Yg,h1,e,abg,Z5]
 ·rcases x.hb with⟨rfl,rfl⟩|⟨bb,c,rfl,hc,fb,hbb,_⟩
  ·have e:idx ([]:MM) n=none:=by unfold idx;rw[aae (by simp;omega)]
   have h2:((0:Nat):Int)<n:=by omega
   simp -implicitDefEqProofs only[zw,xf,zF,yc,y6,jn,Q2,xX,yO,vg,kU,ks,UK,Un,zI,z8,wt,yD,abg,aaf,aba,uD,vN,zo,aap,UD,Yg,Kx,h1,hm,h2,e,abg,Z5]
  ·by_cases h2:(M.length:Int)<n
   ·have e:idx M n=none:=(by unfold idx;rw[aae (by omega)]);simp -implicitDefEqProofs only[zw,xf,zF,yc,y6,jn,Q2,xX,yO,vg,kU,ks,UK,Un,zI,z8,wt,yD,abg,aaf,aba,uD,vN,zo,aap,UD,Yg,Kx,h1,hm,h2,e,abg,Z5]
   ·have hi:n.toNat-1<M.length:=(by omega);obtain⟨p,hp⟩:∃p,ps[n.toNat-1]? = some p:=⟨_,aac (by rw[x.len];exact hi)⟩;have hB:M[n.toNat-1]? = some M[n.toNat-1]:=aac hi;generalize M[n.toNat-1]=B at hB;obtain⟨pg,hbk,_,_⟩:=x.qX _ p B hp hB;have hw:IntKind.wrap .i64 (n-1)=n-1:=vF (by omega) (by omega);have ht:(n-1).toNat*1=n.toNat-1:=by omega
    have hc1:0<=n-1/\n-1<(M.length:Int):=(by omega);have hpp:=zbU hp;cases hf:B.qy with
    |true=>
     have e:idx M n=none:=(by unfold idx;rw[aai (by omega),hB];simp[hf]);simp -implicitDefEqProofs only[zw,xf,zF,yc,y6,jn,yO,vg,kU,ks,UK,Un,zI,z8,wt,yD,abg,aaf,aal,aay,aas,aba,vN,zo,aap,UD,SK,ow,Yg,Hx,LO,Kx,h1,hm,h2,hw,ht,hc1,hbb,hpp,hbk,hf,e,abg,Z5]
    |false=>
     have e:idx M n=some (n.toNat-1):=(by unfold idx;rw[aai (by omega),hB];simp[hf]);simp -implicitDefEqProofs only[zw,xf,zF,yc,yj,jn,yO,vg,kU,ks,UK,Un,zI,z8,wt,yD,aaK,aaf,aal,aay,aas,aba,ab1,vN,zo,aap,UD,SK,ow,Yg,Hx,LO,Kx,h1,hm,h2,hw,ht,hc1,hbb,hpp,hbk,hf,e,aaK,hp,Z5]
def zp:List aaa:=(List.replicate 64 [Value.int .u8 0,.int .u8 0,pm 0,pm 0,pm 0]).flatten
theorem Th:yd Tryz.prog 184 []=some (.agg zp.toArray):=zG (by kernel_rfl)
theorem zbh:zp.length=320:=by kernel_rfl
theorem zfz:∀k j,k<64->j<5->zp[k*5+j]? = pz.ke[j]?:=by
 have h:(List.range 64).all (λk=>(List.range 5).all λj=>decide (k*5+j<zp.length))=true:=by decide +kernel
 have key:∀k:Fin 64,∀j:Fin 5,zp[k.1*5+j.1]? = pz.ke[j.1]?:=by
  intro k j;have hl:k.1*5+j.1<zp.length:=by rw[zbh];omega
  have e1:zp[k.1*5+j.1]? = ([Value.int .u8 0,.int .u8 0,pm 0,pm 0,pm 0]:List aaa)[j.1]?:=by
   have aux:∀(n:Nat) (l:List aaa),l.length=5->∀k j,k<n->j<5->((List.replicate n l).flatten)[k*5+j]? = l[j]?:=by
    intro n l hl
    induction n with
    |zero=>intro k j hk;omega
    |succ n ih=>
     intro k j hk hj;rw[List.replicate_succ,acw];cases k with
     |zero=>rw[aa4 (by omega)];simp
     |succ k=>rw[abk (by omega),hl,show(k+1)*5+j-5=k*5+j by omega];exact ih k j (by omega) hj
   exact aux 64 _ rfl k.1 j.1 k.2 j.2
  rw[e1];rfl
 exact λk j hk hj=>key ⟨k,hk⟩ ⟨j,hj⟩
theorem zfw(v:aaa)(n:Nat):Zu [v] (n*1)=List.replicate n v:=by
 simp only[Zu,abA];apply abw;intro i;by_cases h:i<n
 ·simp[h,Nat.mod_one]
 ·simp[h]
theorem Bx{n j g:Nat}(h:(List.replicate n (none:Option Nat))[j]? = some (some g)):False:=by
 rw[List.getElem?_replicate]at h;split at h <;> cases h
theorem HH{gs:List (Option Nat)}{j:Nat}{o:Option Nat}(h:gs[j]? = some o):(gs.map Z5)[j]? = some (Z5 o):=by simp[h]
theorem HI(gs:List (Option Nat))(j g:Nat):(gs.map Z5).set j (pi g)=(gs.set j (some g)).map Z5:=by rw[acF];rfl
theorem Rf{h h1:za}{q j g:Nat}{gs:List (Option Nat)}{B:MB}{F:Nat->Prop}(hl:gs.length=(B.size+63)/64)(hg:∀(j g:Nat),gs[j]? = some (some g)->F g/\ss h g (λk=>B.byte (64*j+k)))(hn:∀j:Nat,gs[j]? = some none->∀k,k<64->B.byte (64*j+k)=pz)
  (hd:∀i j g:Nat,gs[i]? = some (some g)->gs[j]? = some (some g)->i=j) (ht:∀k,64*gs.length<=k->B.byte k=pz) (hj:gs[j]? = some none) (hq:h1.get q=some (.cells ((gs.set j (some g)).map Z5) 159)) (fq:F q)
  (hold:∀(i g:Nat),gs[i]? = some (some g)->h1.get g=h.get g) (hnew:h1.get g=some (.cells zp 184)) (fg:¬F g):VR h1 q (gs.set j (some g)) B (λb=>F b\/b=g):=by
 have hlt:j<gs.length:=by
  rcases aax j gs.length with a|a
  ·exact a
  ·rw[aak a]at hj;cases hj
 have hs:∀i o,(gs.set j (some g))[i]? = some o->(i=j/\o=some g)\/(i≠j/\gs[i]? = some o):=by
  intro i o hi;by_cases e:i=j
  ·subst e;rw[aaU hlt]at hi;exact .inl ⟨rfl,(abP hi).symm⟩
  ·rw[abj (λq=>e q.symm)]at hi;exact .inr ⟨e,hi⟩
 refine⟨by simp[hl],.inl fq,hq,λi g' hi=>?_,λi hi=>?_,λa b g' ha hb=>?_,by simpa using ht⟩
 ·rcases hs i _ hi with⟨rfl,e⟩|⟨_,e⟩
  ·cases e;refine⟨.inr rfl,zp,hnew,zbh,λk j' hk hj'=>?_⟩;rw[zfz k j' hk hj'];show _=(B.byte (64*i+k)).ke[j']?;rw[hn i hj k hk]
  ·exact⟨.inl (hg i g' e).1,(hg i g' e).2.zG (hold i g' e)⟩
 ·rcases hs i _ hi with⟨_,e⟩|⟨_,e⟩
  ·cases e
  ·exact hn i e
 ·rcases hs a _ ha with⟨e1,e2⟩|⟨_,e2⟩ <;> rcases hs b _ hb with⟨e3,e4⟩|⟨_,e4⟩
  ·rw[e1,e3]
  ·cases e2;exact absurd (hg _ _ e4).1 fg
  ·cases e4;exact absurd (hg _ _ e2).1 fg
  ·exact hd a b g' e2 e4
section
variable {h:za}{p:Nat}{B:MB}{F:Nat->Prop}{pg:aaa}{a:Int}
theorem zc5(h0:0<=a)(h1:a<4611686018427387904):IntKind.wrap .i64 (a.tdiv 64)=((a.toNat/64:Nat):Int):=by
 rw[acn h0,vF (by omega) (by omega)];omega
def zfL(h:za)(B:MB)(F:Nat->Prop)(a:Int)(v:aaa)(h1:za):Prop :=
 h1=h/\((v=Z5 none /\ ∀k,k<64->B.byte (64*(a.toNat/64)+k)=pz) \/ ∃g,v=Z5 (some g)/\F g/\ss h g (λk=>B.byte (64*(a.toNat/64)+k)))
theorem zeG(hb:h.get p=some (.cells [pm B.size,pg,.bool B.qy] 155))(x:UA h pg B F)(h0:0<=a)(h1:a<B.size)(hz:B.size<4611686018427387904) :
  DC Tryz.prog 83 [pi p,pm a,.bool false] h (zfL h B F a):=by
 apply Ch;unfold IE;cases x with
 |empty e u=>
  subst e;simp -implicitDefEqProofs only[zw,zF,yc,y6,yj,Zi,xX,vg,kU,Xs,Un,pV,zI,z8,wt,yD,nw,Value.cells,aaf,aal,aay,Int.reduceEq,zo,aap,ov,jr,Hr,jQ,Ju,hb];exact⟨rfl,.inl ⟨rfl,λk _=>u _⟩⟩
 |full q c gs e x=>
  obtain⟨hl,fq,hq,hg,hn,hd,ht⟩:=x;subst e;have hj:a.toNat/64<gs.length:=by rw[hl];omega
  have hw:=zc5 h0 (by omega);obtain⟨o,ho⟩:∃o,gs[a.toNat/64]? = some o:=⟨_,aac hj⟩;have hgg:=HH ho;have hc1:0<=((a.toNat/64:Nat):Int)/\((a.toNat/64:Nat):Int)<(gs.length:Int):=by omega
  cases o with
  |none=>
   simp -implicitDefEqProofs only[zw,zF,yc,yj,Zi,Yu,xX,yO,vg,kU,pV,zI,z8,wt,yD,fD,nw,Value.cells,aaf,aal,aay,aaE,aaC,abf,abD,zb,aas,abe,Int.reduceEq,aba,qZ,xw,zo,aap,ov,Ab,jr,Ld,mC,mD,jQ,Ju,AY,hb,hq,hw,hc1,aaw,abA,hgg,Z5];exact⟨rfl,.inl ⟨rfl,λk hk=>hn _ ho k hk⟩⟩
  |some g=>
   simp -implicitDefEqProofs only[zw,zF,yc,yj,Yu,yO,vg,kU,pV,zI,z8,wt,yD,nw,Value.cells,aaf,aal,aay,aas,Int.reduceEq,aba,zo,aap,ov,Ab,jr,mD,rS,jQ,Ju,AY,hb,hq,hw,hc1,aaw,abA,hgg,Z5];exact⟨rfl,.inr ⟨g,rfl,hg _ g ho⟩⟩
def FB(h:za)(p:Nat)(B:MB)(F:Nat->Prop)(a:Int)(v:aaa)(h1:za):Prop :=
 ∃g q c gs F',v=Z5 (some g)/\h1.get p=some (.cells [pm B.size,.slice (some ⟨q,0,none⟩) gs.length c,.bool B.qy] 155)/\VR h1 q gs B F'/\gs[a.toNat/64]? = some (some g)/\F' p/\Xv F h h1/\(∀b,F' b->F b\/h.next<=b) /\ ∀b,F' b->h1.ro<=b/\b<h1.next
theorem FB.mk{h h1:za}{p q c g:Nat}{gs:List (Option Nat)}{B:MB}{F:Nat->Prop}{a:Int}(fp:F p)(ok:∀b,F b->h.ro<=b/\b<h.next)(hl:gs.length=(B.size+63)/64)(hj:gs[a.toNat/64]? = some none)(fq:F q\/h.next<=q)
  (hg:∀(j g:Nat),gs[j]? = some (some g)->F g/\ss h g (λk=>B.byte (64*j+k))) (hn:∀j:Nat,gs[j]? = some none->∀k,k<64->B.byte (64*j+k)=pz)
  (hd:∀i j g:Nat,gs[i]? = some (some g)->gs[j]? = some (some g)->i=j) (ht:∀k,64*gs.length<=k->B.byte k=pz)
  (Up:Xv F h h1) (hqn:q<h1.next) (hgn:h.next<=g/\g<h1.next) (hro:h.ro<=h.next)
  (hp1:h1.get p=some (.cells [pm B.size,.slice (some ⟨q,0,none⟩) gs.length c,.bool B.qy] 155)) (hq1:h1.get q=some (.cells ((gs.set (a.toNat/64) (some g)).map Z5) 159)) (hg1:h1.get g=some (.cells zp 184))
  (hold:∀(i g:Nat),gs[i]? = some (some g)->h1.get g=h.get g):FB h p B F a (pi g) h1:=by
 have P:=Rf (F:=λb=>F b\/b=q) (h1:=h1) hl (λj g hj=>⟨.inl (hg j g hj).1,(hg j g hj).2⟩) hn hd ht hj hq1 (.inr rfl) hold hg1 (by
  rintro(e|e)
  ·have:=ok _ e;omega
  ·subst e;rw[hq1]at hg1;simp at hg1)
 have hlt:a.toNat/64<gs.length:=by
  rcases aax (a.toNat/64) gs.length with e|e
  ·exact e
  ·rw[aak e]at hj;cases hj
 refine⟨g,q,c,_,_,rfl,by rw[abd];exact hp1,P,aaU hlt,.inl (.inl fp),Up,λb hb=>?_,λb hb=>?_⟩
 ·rcases hb with(hb|hb)|hb
  ·exact .inl hb
  ·subst hb;exact fq
  ·subst hb;exact .inr hgn.1
 ·have n1:=Up.next;have n2:=Up.ro;rcases hb with(hb|hb)|hb
  ·have:=ok b hb;omega
  ·subst hb;rcases fq with fq|fq
   ·have:=ok b fq;omega
   ·omega
  ·subst hb;omega
theorem zab(hb:h.get p=some (.cells [pm B.size,pg,.bool B.qy] 155))(x:UA h pg B F)(fp:F p)(ok:∀b,F b->h.ro<=b/\b<h.next)(hro:h.ro<=h.next)(h0:0<=a)(h1:a<B.size)(hz:B.size<2147483648) :
  DC Tryz.prog 83 [pi p,pm a,.bool true] h (FB h p B F a):=by
 apply Ch;unfold IE;have hw:=zc5 h0 (by omega);have okp:=ok p fp;have hpn:¬p=h.next:=by omega
 have hnp:¬h.next=p:=by omega
 have hpn1:¬p=h.next+1:=by omega
 cases x with
 |empty e u=>
  subst e;have hn1:IntKind.wrap .i64 ((B.size:Int)+64)=(B.size:Int)+64:=vF (by omega) (by omega);have hn2:IntKind.wrap .i64 ((B.size:Int)+64-1)=((B.size+63:Nat):Int):=by rw[vF (by omega) (by omega)];omega
  have hn3:IntKind.wrap .i64 (((B.size+63:Nat):Int).tdiv 64)=(((B.size+63)/64:Nat):Int):=by
   rw[acn (by omega),vF (by omega) (by omega)];omega
  have hm:=zeK .i64 .i64 (((B.size+63)/64:Nat):Int) (((B.size+63)/64:Nat):Int) h (by omega) (by omega) (by omega);have hj:a.toNat/64<(B.size+63)/64:=by omega
  have hj1:a.toNat/64+1<=(B.size+63)/64:=hj;have hc1:0<=((a.toNat/64:Nat):Int)/\((a.toNat/64:Nat):Int)<(((B.size+63)/64:Nat):Int):=by omega
  have hrep:(List.replicate ((B.size+63)/64) (Value.pointer none))[a.toNat/64]? = some (.pointer none):=by simp[hj]
  have hset:∀v:aaa,((List.replicate ((B.size+63)/64) (Value.pointer none)).set (a.toNat/64) v)[a.toNat/64]? = some v:=λv=>aaU (by simpa using hj);simp only[aaw,zfw]at hm;simp -implicitDefEqProofs only[zw,xf,zF,yc,y6,yj,Zi,xX,vg,kU,Xs,Un,pV,zI,z8,wt,yD,yY,fD,Jp,nw,Value.cells,aaf,aal,aaH,aay,aaE,aaC,abM,abf,abD,zb,abb,aa0,aas,abe,Nat.reduceAdd,Nat.reduceLeDiff,Int.reduceEq,aba,yN,kQ,qZ,fP,zM,zD,yr,zU,sc,oT,xw,zo,aap,ov,Ab,jr,zd0,Ld,Hr,mC,mD,jQ,Ju,AY,hb,hn1,hn2,hn3,hm,okp,hpn,hnp,hw,hc1,aaw,abA,hrep,Th,hj1,hro,hset];have hnn:¬h.next+1=h.next:=by omega
  have hrl:(List.replicate ((B.size+63)/64) (none:Option Nat)).length=(B.size+63)/64:=abM
  refine FB.mk (q:=h.next) (c:=(B.size+63)/64+2) (gs:=List.replicate ((B.size+63)/64) none) fp ok hrl (by simp[hj]) (.inr (aam _)) (λj g hj=>(Bx hj).elim) (λ_ _ k _=>u _) (λi j g hi=>(Bx hi).elim) (λk _=>u k)
   ?_ ?_ ?_ hro ?_ ?_ ?_ (λi g hi=>(Bx hi).elim)
  ·exact((((Xv.refl F h).push _).set (.inl fp) _).push _).set (.inr (aam _)) _
  ·simp only[kQ,yN];omega
  ·simp only[kQ,yN];omega
  ·rw[hrl];simp -implicitDefEqProofs only[yN,kQ,zD,yr,zU,oT,aap,hpn,okp]
  ·simp -implicitDefEqProofs only[yr];rw[<- HI,List.map_replicate];rfl
  ·simp -implicitDefEqProofs only[yN,kQ,zM,zU,aap,hnn]
 |full q c gs e x=>
  obtain⟨hl,fq,hq,hg,hn,hd,ht⟩:=x;subst e;have hj:a.toNat/64<gs.length:=by rw[hl];omega
  have hj1:a.toNat/64+1<=gs.length:=hj;obtain⟨o,ho⟩:∃o,gs[a.toNat/64]? = some o:=⟨_,aac hj⟩;have hgg:=HH ho;have hc1:0<=((a.toNat/64:Nat):Int)/\((a.toNat/64:Nat):Int)<(gs.length:Int):=by omega
  have okq:=ok q fq;cases o with
  |some g=>
   simp -implicitDefEqProofs only[zw,zF,yc,yj,Yu,yO,vg,kU,pV,zI,z8,wt,yD,nw,Value.cells,aaf,aal,aay,aas,Int.reduceEq,aba,zo,aap,ov,Ab,jr,mD,rS,jQ,Ju,AY,hb,hq,hw,hc1,aaw,abA,hgg,Z5];exact⟨g,q,c,gs,F,rfl,hb,⟨hl,fq,hq,hg,hn,hd,ht⟩,ho,fp,.refl _ _,λb hb => .inl hb,ok⟩
  |none=>
   have hqn:¬q=h.next:=by omega
   have hnq:¬h.next=q:=by omega
   have hpq:¬p=q:=by intro e;subst e;rw[hb]at hq;simp at hq
   have hset:∀v:aaa,((gs.map Z5).set (a.toNat/64) v)[a.toNat/64]? = some v:=λv=>aaU (by simpa using hj);simp -implicitDefEqProofs only[zw,zF,yc,y6,yj,Zi,Yu,xX,yO,vg,kU,pV,zI,z8,wt,yD,yY,fD,nw,Value.cells,aaf,aal,aaH,aay,aaE,aaC,aav,abf,abD,zb,aas,abe,Int.reduceEq,aba,qZ,zD,yr,zU,xw,zo,aap,ov,Ab,jr,Ld,mC,mD,jQ,Ju,AY,hb,hq,hw,hc1,aaw,abA,hgg,Z5,Th,okq,okp,hj1,hset,hpq];refine FB.mk (q:=q) (c:=c) (gs:=gs) fp ok hl ho (.inl fq) hg hn hd ht ?_ ?_ ?_ hro ?_ ?_ ?_ (λi g hi=>?_)
   ·exact((Xv.refl F h).push _).set (.inl fq) _
   ·simp only[kQ,yN];omega
   ·simp only[kQ,yN];omega
   ·simp -implicitDefEqProofs only[zD,zU,aap,hpq,okp,hb]
   ·simp -implicitDefEqProofs only[yr];rw[<- HI]
   ·simp -implicitDefEqProofs only[zM,zU,aap,hnq]
   ·have hgq:¬g=q:=by
     intro e;subst e;obtain⟨cs,e1,_⟩:=(hg i g hi).2;rw[hq]at e1;simp at e1
    have:=(ok g (hg i g hi).1).2;simp -implicitDefEqProofs only[zD,zU,aap,hgq,this]
end
def right(M:MM)(c:Int)(p:V):Option Nat :=
 if p.k=2/\(c=1\/c=4\/c=8) then (match idx M p.b with
  |some i=>(match M[i]? with
   |some B=>if 0<=p.n/\p.n<=B.size-c/\p.n.tmod c=0 then some i else none
   |none=>none)
  |none=>none) else none
theorem aS{M:MM}{c:Int}{p:V}{i:Nat}(h:right M c p=some i):p.k=2/\(c=1\/c=4\/c=8)/\idx M p.b=some i /\ ∃B,M[i]? = some B/\0<=p.n/\p.n<=B.size-c/\p.n.tmod c=0:=by
 unfold right at h;split at h
 case isFalse=>cases h
 rename_i h1;split at h
 case h_2=>cases h
 rename_i j hj;split at h
 case h_2=>cases h
 rename_i B hB;split at h
 case isFalse=>cases h
 rename_i h2;simp only[aab]at h;subst h;exact⟨h1.1,h1.2,hj,B,hB,h2⟩
theorem Jy{M:MM}{c:Int}{p:V}{i:Nat}{B:MB}(hi:idx M p.b=some i)(hB:M[i]? = some B)(h:¬(0<=p.n/\p.n<=B.size-c/\p.n.tmod c=0)):right M c p=none:=by
 unfold right;split
 ·simp only[hi,hB];exact aae h
 ·rfl
theorem DP{M:MM}{c:Int}{p:V}{i:Nat}{B:MB}(hk:p.k=2)(hc:c=1\/c=4\/c=8)(hi:idx M p.b=some i)(hB:M[i]? = some B)(h:0<=p.n/\p.n<=B.size-c/\p.n.tmod c=0):right M c p=some i:=by
 unfold right;rw[aai ⟨hk,hc⟩];simp only[hi,hB];exact aai h
def zbi(h:za)(f:Nat->Cl)(n c:Nat)(F:Nat->Prop)(v:aaa):Prop :=
 (v=.slice none 0 0 /\ ∀k,k<c->f (n+k)=pz) \/ ∃g off cs cp,v=.slice (some ⟨g,off,none⟩) c cp/\F g/\h.get g=some (.cells cs 184)/\off+c*5<=cs.length/\off=n%64*5 /\ ∀k j,k<c->j<5->cs[off+k*5+j]? = (f (n+k)).ke[j]?
def zht(h:za)(M:MM)(F:Nat->Prop)(c:Int)(p:V)(v:aaa)(h1:za):Prop :=
 Xv E5 h h1/\match right M c p with
  |none=>v=.tuple #[.slice none 0 0,.bool false]
  |some i=>∃s,v=.tuple #[s,.bool true] /\ ∀B,M[i]? = some B->zbi h1 B.byte p.n.toNat c.toNat F s
def wH(n:Int):Prop := -9223372036854775808<=n/\n<9223372036854775808
def V.ok(v:V):Prop:=wH v.k/\wH v.n/\wH v.b
def small(M:MM):Prop := ∀(i:Nat) (B:MB),M[i]? = some B->B.size<2147483648
section
variable {h:za}{m:Nat}{bs:aaa}{ps:List Nat}{fs:Nat->Nat->Prop}{M:MM}{F:Nat->Prop}{c:Int}{p:V}
theorem SF(x:BR h m bs ps fs M F)(hs:small M)(hc:wH c)(hp:p.ok) :
  DC Tryz.prog 126 [pi m,pm c,p.val,.bool false] h (zht h M F c p):=by
 obtain⟨pk,pn,pb⟩:=p;obtain⟨hp1,hp2,hp3⟩:=hp;unfold wH at hc hp1 hp2 hp3;simp only at hp1 hp2 hp3;apply pE;unfold su V.val;have x1:BR (h.push (.cells [pm pk,pm pn,pm pb] 64)) m bs ps fs M F:=x.zG (λb hb=>zD (x.ok b hb).2) (abC _);have Up:Xv E5 h (h.push (.cells [pm pk,pm pn,pm pb] 64)):=(Xv.refl _ _).push _;by_cases hk:pk=2
 case neg=>
  have e:right M c ⟨pk,pn,pb⟩=none:=by unfold right;rw[aae (λq=>hk q.1)]
  simp -implicitDefEqProofs only[zw,zF,yc,y6,Q2,Mz,xX,ql,Xt,zI,z8,yD,yY,nw,Value.cells,aaf,aaH,aay,vN,zM,zo,aap,aa5,WK,jr,uC,qU,u6,hk];exact⟨Up,by rw[e]⟩
 subst hk;by_cases hcc:c=1\/c=4\/c=8
 case neg=>
  have e:right M c ⟨2,pn,pb⟩=none:=by unfold right;rw[aae (λq=>hcc q.2)]
  have n1:¬c=1:=λq=>hcc (.inl q);have n4:¬c=4:=λq=>hcc (.inr (.inl q));have n8:¬c=8:=λq=>hcc (.inr (.inr q));simp -implicitDefEqProofs only[zw,zF,yc,y6,Zi,jn,xX,yO,ql,Xt,zI,z8,yD,yY,nw,Value.cells,aaf,aaH,aay,uD,vN,zM,zo,aap,abv,aa5,WK,jr,uC,qU,u6,n1,n4,n8];exact⟨Up,by rw[e]⟩
 have hat:=Nu x1 hp3.2;cases hi:idx M pb with
 |none=>
  have e:right M c ⟨2,pn,pb⟩=none:=by unfold right;rw[aai ⟨rfl,hcc⟩];simp only[hi]
  rw[hi]at hat;rcases hcc with rfl|rfl|rfl <;> simp -implicitDefEqProofs only[zw,zF,yc,yj,Zi,jn,Yu,xX,yO,ql,Xt,zI,z8,yD,yY,nth,nw,Value.cells,aaf,aal,aaH,aay,Int.reduceEq,uD,vN,zM,zo,aap,abv,aa5,WK,jr,uC,qU,u6] <;> refine vM (by kernel_rfl) rfl hat ?_ <;> rintro v h1 ⟨rfl,rfl⟩ <;> simp -implicitDefEqProofs only[zw,zF,yc,y6,Q2,xX,zI,wt,abg,mB,abg,Z5] <;> exact⟨Up,by rw[e]⟩
 |some i=>
  obtain⟨hpb,B,hB,hf⟩:=Ut hi
  obtain⟨q,hq⟩:∃q,ps[i]? = some q:=by
   have hlt:i<M.length:=by
    rcases aax i M.length with a|a
    ·exact a
    ·rw[aak a]at hB;cases hB
   exact⟨_,aac (by rw[x.len];exact hlt)⟩
  obtain⟨pg,hbk,fq,hpg⟩:=x1.qX i q B hq hB;have hz:=hs i B hB;rw[hi]at hat;have hcb:1<=c/\c<=8:=by omega
  have hcn:¬c=0:=by omega
  have hw:IntKind.wrap .i64 ((B.size:Int)-c)=(B.size:Int)-c:=vF (by omega) (by omega);by_cases h0:pn<0
  ·have e:=Jy (p:=⟨2,pn,pb⟩) (c:=c) hi hB (λq=>by have:0<=pn:=q.1;omega);rcases hcc with rfl|rfl|rfl
   all_goals
    simp -implicitDefEqProofs only[zw,zF,yc,yj,Zi,jn,Yu,xX,yO,ql,Xt,zI,z8,yD,yY,nth,nw,Value.cells,aaf,aal,aaH,aay,Int.reduceEq,uD,vN,zM,zo,aap,abv,aa5,WK,jr,uC,qU,u6];refine vM (by kernel_rfl) rfl hat ?_;rintro v h1 ⟨rfl,rfl⟩;simp -implicitDefEqProofs only[zw,zF,yc,y6,jn,Q2,xX,yO,ks,zI,z8,wt,aaK,aaf,aal,uD,zM,zo,WK,VL,hq,Z5,h0];exact⟨Up,by rw[e]⟩
  by_cases h1:(B.size:Int)-c<pn
  ·have e:=Jy (p:=⟨2,pn,pb⟩) (c:=c) hi hB (λq=>by have:pn<=B.size-c:=q.2.1;omega);rcases hcc with rfl|rfl|rfl
   all_goals
    simp -implicitDefEqProofs only[zw,zF,yc,yj,Zi,jn,Yu,xX,yO,ql,Xt,zI,z8,yD,yY,nth,nw,Value.cells,aaf,aal,aaH,aay,Int.reduceEq,uD,vN,zM,zo,aap,abv,aa5,WK,jr,uC,qU,u6];refine vM (by kernel_rfl) rfl hat ?_;rintro v h1 ⟨rfl,rfl⟩;simp -implicitDefEqProofs only[zw,zF,yc,y6,jn,Q2,xX,yO,vg,ks,UK,Un,zI,z8,wt,aaK,aaf,aal,uD,vN,zM,zo,aap,WK,jr,VL,jQ,hq,Z5,h0,hbk,hw,h1];exact⟨Up,by rw[e]⟩
  by_cases h2:pn.tmod c=0
  case neg=>
   have e:=Jy (p:=⟨2,pn,pb⟩) (c:=c) hi hB (λq=>h2 q.2.2);rcases hcc with rfl|rfl|rfl
   all_goals
    simp -implicitDefEqProofs only[zw,zF,yc,yj,Zi,jn,Yu,xX,yO,ql,Xt,zI,z8,yD,yY,nth,nw,Value.cells,aaf,aal,aaH,aay,Int.reduceEq,uD,vN,zM,zo,aap,abv,aa5,WK,jr,uC,qU,u6];refine vM (by kernel_rfl) rfl hat ?_;rintro v h1 ⟨rfl,rfl⟩;simp -implicitDefEqProofs only[zw,zF,yc,y6,jn,yO,vg,ks,UK,Xt,Un,gj,zI,z8,wt,aaK,aaf,aal,Int.reduceEq,vN,zM,zo,aap,aa5,WK,jr,VL,jQ,hq,Z5,h0,hbk,hw,h1,h2];exact⟨Up,by rw[e]⟩
  have e:=DP (p:=⟨2,pn,pb⟩) (c:=c) rfl hcc hi hB ⟨by show 0<=pn;omega,by show pn<=_;omega,h2⟩;have hmd:=zeG hbk hpg (a:=pn) (by omega) (by omega) (by omega);have hr1:pn.tmod 64=((pn.toNat%64:Nat):Int):=by rw[abr (by omega)];omega
  have hr2:IntKind.wrap .i64 (((pn.toNat%64:Nat):Int)+c)=((pn.toNat%64:Nat):Int)+c:=vF (by omega) (by omega)
  have hin:((pn.toNat%64:Nat):Int)+c<=64:=by
   rw[abr (by omega)]at h2;rcases hcc with rfl|rfl|rfl <;> omega
  have hb1:0<=((pn.toNat%64:Nat):Int)+c/\((pn.toNat%64:Nat):Int)+c<=((64:Nat):Int):=by omega
  have hb2:0<=((pn.toNat%64:Nat):Int)/\((pn.toNat%64:Nat):Int)<=((((pn.toNat%64:Nat):Int)+c).toNat:Int):=by omega
  have hb3:¬64=pn.toNat%64:=by omega
  have hb4:(((pn.toNat%64:Nat):Int)+c).toNat-pn.toNat%64=c.toNat:=by omega
  rcases hcc with rfl|rfl|rfl
  all_goals
   simp -implicitDefEqProofs only[zw,zF,yc,yj,Zi,jn,Yu,xX,yO,ql,Xt,zI,z8,yD,yY,nth,nw,Value.cells,aaf,aal,aaH,aay,Int.reduceEq,uD,vN,zM,zo,aap,abv,aa5,WK,jr,uC,qU,u6];refine vM (by kernel_rfl) rfl hat ?_;rintro v h1 ⟨rfl,rfl⟩;simp -implicitDefEqProofs only[zw,zF,yc,yj,jn,yO,vg,ks,UK,Xt,Un,gj,zI,z8,wt,aaK,nth,aaf,aal,Int.reduceEq,uD,vN,zM,zo,aap,abv,WK,jr,VL,jQ,hq,Z5,h0,hbk,hw,h1,h2];refine vM (by kernel_rfl) rfl hmd ?_;rintro v h1 ⟨rfl,⟨rfl,hu⟩|⟨g,rfl,fg,hpage⟩⟩
   ·simp -implicitDefEqProofs only[zw,zF,yc,y6,wt,mC,Z5];refine⟨Up,?_⟩;rw[e];refine⟨_,rfl,λB' hB' => .inl ⟨rfl,λk hk=>?_⟩⟩;rw[hB]at hB';cases hB';have:=hu (pn.toNat%64+k) (by omega);rw[show 64*(pn.toNat/64)+(pn.toNat%64+k)=pn.toNat+k by omega]at this;exact this
   ·simp -implicitDefEqProofs only[zw,zF,yc,yj,vg,ql,Xs,gj,zI,z8,wt,yD,m8,aaB,Y3,aaK,aaf,aal,aay,aas,aar,abe,Int.reduceEq,Int.reduceToNat,aba,ab1,zM,aap,rS,za2,Z5,hr1,hr2,hb1,hb2,hb3,hb4,aaw];refine⟨Up,?_⟩;rw[e];refine⟨_,rfl,λB' hB' => .inr ?_⟩;rw[hB]at hB';cases hB';obtain⟨cs,hgc,hlen,hcs⟩:=hpage;refine⟨g,_,cs,0,rfl,x.sub i g fg,hgc,by rw[hlen];omega,rfl,λk j hk hj=>?_⟩;have:=hcs (pn.toNat%64+k) j (by omega) hj;rw[show(pn.toNat%64+k)*5+j=pn.toNat%64*5+k*5+j by omega]at this;rw[this];show(B.byte (64*(pn.toNat/64)+(pn.toNat%64+k))).ke[j]? = _;rw[show 64*(pn.toNat/64)+(pn.toNat%64+k)=pn.toNat+k by omega]
def ON(h:za)(m:Nat)(M:MM)(F:Nat->Prop)(c:Int)(p:V)(v:aaa)(h1:za):Prop :=
 match right M c p with
 |none=>v=.tuple #[.slice none 0 0,.bool false]/\Xv E5 h h1
 |some i=>∃g bs ps fs F' q qp cq gs B,M[i]? = some B/\v=.tuple #[.slice (some ⟨g,p.n.toNat%64*5,none⟩) c.toNat 0,.bool true]/\Uz h1 m bs ps fs M F'/\ps[i]? = some qp /\
   h1.get qp=some (.cells [pm B.size,.slice (some ⟨q,0,none⟩) gs.length cq,.bool B.qy] 155)/\fs i qp/\VR h1 q gs B (fs i)/\gs[p.n.toNat/64]? = some (some g)/\Xv F h h1 /\ ∀b,F' b->F b\/h.next<=b
theorem SG(hro:h.ro<=h.next)(x:Uz h m bs ps fs M F)(hs:small M)(hc:wH c)(hp:p.ok) :
  DC Tryz.prog 126 [pi m,pm c,p.val,.bool true] h (ON h m M F c p):=by
 obtain⟨pk,pn,pb⟩:=p;obtain⟨hp1,hp2,hp3⟩:=hp;unfold wH at hc hp1 hp2 hp3;simp only at hp1 hp2 hp3;apply pE;unfold su V.val;have x1:Uz (h.push (.cells [pm pk,pm pn,pm pb] 64)) m bs ps fs M F:=x.zG (λb hb=>zD (x.ok b hb).2) (abC _) rfl;have Up:Xv E5 h (h.push (.cells [pm pk,pm pn,pm pb] 64)):=(Xv.refl _ _).push _
 have no:∀{c},right M c ⟨pk,pn,pb⟩=none->ON h m M F c ⟨pk,pn,pb⟩ (.tuple #[pp,.bool false]) (h.push (.cells [pm pk,pm pn,pm pb] 64)):=λe=>by
  unfold ON;rw[e];exact⟨rfl,Up⟩
 by_cases hk:pk=2
 case neg=>
  have e:right M c ⟨pk,pn,pb⟩=none:=by unfold right;rw[aae (λq=>hk q.1)]
  simp -implicitDefEqProofs only[zw,zF,yc,y6,Q2,Mz,xX,ql,Xt,zI,z8,yD,yY,nw,Value.cells,aaf,aaH,aay,vN,zM,zo,aap,aa5,WK,jr,uC,qU,u6,hk];exact no e
 subst hk;by_cases hcc:c=1\/c=4\/c=8
 case neg=>
  have e:right M c ⟨2,pn,pb⟩=none:=by unfold right;rw[aae (λq=>hcc q.2)]
  have n1:¬c=1:=λq=>hcc (.inl q);have n4:¬c=4:=λq=>hcc (.inr (.inl q));have n8:¬c=8:=λq=>hcc (.inr (.inr q));simp -implicitDefEqProofs only[zw,zF,yc,y6,Zi,jn,xX,yO,ql,Xt,zI,z8,yD,yY,nw,Value.cells,aaf,aaH,aay,uD,vN,zM,zo,aap,abv,aa5,WK,jr,uC,qU,u6,n1,n4,n8];exact no e
 have hat:=Nu x1.r hp3.2;cases hi:idx M pb with
 |none=>
  have e:right M c ⟨2,pn,pb⟩=none:=by unfold right;rw[aai ⟨rfl,hcc⟩];simp only[hi]
  rw[hi]at hat;rcases hcc with rfl|rfl|rfl <;> simp -implicitDefEqProofs only[zw,zF,yc,yj,Zi,jn,Yu,xX,yO,ql,Xt,zI,z8,yD,yY,nth,nw,Value.cells,aaf,aal,aaH,aay,Int.reduceEq,uD,vN,zM,zo,aap,abv,aa5,WK,jr,uC,qU,u6] <;> refine vM (by kernel_rfl) rfl hat ?_ <;> rintro v h1 ⟨rfl,rfl⟩ <;> simp -implicitDefEqProofs only[zw,zF,yc,y6,Q2,xX,zI,wt,abg,mB,abg,Z5] <;> exact no e
 |some i=>
  obtain⟨hpb,B,hB,hf⟩:=Ut hi
  obtain⟨q,hq⟩:∃q,ps[i]? = some q:=by
   have hlt:i<M.length:=by
    rcases aax i M.length with a|a
    ·exact a
    ·rw[aak a]at hB;cases hB
   exact⟨_,aac (by rw[x.len];exact hlt)⟩
  obtain⟨pg,hbk,fq,hpg⟩:=x1.qX i q B hq hB;have hz:=hs i B hB;rw[hi]at hat;have hcb:1<=c/\c<=8:=by omega
  have hcn:¬c=0:=by omega
  have hw:IntKind.wrap .i64 ((B.size:Int)-c)=(B.size:Int)-c:=vF (by omega) (by omega);by_cases h0:pn<0
  ·have e:=Jy (p:=⟨2,pn,pb⟩) (c:=c) hi hB (λq=>by have:0<=pn:=q.1;omega);rcases hcc with rfl|rfl|rfl
   all_goals
    simp -implicitDefEqProofs only[zw,zF,yc,yj,Zi,jn,Yu,xX,yO,ql,Xt,zI,z8,yD,yY,nth,nw,Value.cells,aaf,aal,aaH,aay,Int.reduceEq,uD,vN,zM,zo,aap,abv,aa5,WK,jr,uC,qU,u6];refine vM (by kernel_rfl) rfl hat ?_;rintro v h1 ⟨rfl,rfl⟩;simp -implicitDefEqProofs only[zw,zF,yc,y6,jn,Q2,xX,yO,ks,zI,z8,wt,aaK,aaf,aal,uD,zM,zo,WK,VL,hq,Z5,h0];exact no e
  by_cases h1:(B.size:Int)-c<pn
  ·have e:=Jy (p:=⟨2,pn,pb⟩) (c:=c) hi hB (λq=>by have:pn<=B.size-c:=q.2.1;omega);rcases hcc with rfl|rfl|rfl
   all_goals
    simp -implicitDefEqProofs only[zw,zF,yc,yj,Zi,jn,Yu,xX,yO,ql,Xt,zI,z8,yD,yY,nth,nw,Value.cells,aaf,aal,aaH,aay,Int.reduceEq,uD,vN,zM,zo,aap,abv,aa5,WK,jr,uC,qU,u6];refine vM (by kernel_rfl) rfl hat ?_;rintro v h1 ⟨rfl,rfl⟩;simp -implicitDefEqProofs only[zw,zF,yc,y6,jn,Q2,xX,yO,vg,ks,UK,Un,zI,z8,wt,aaK,aaf,aal,uD,vN,zM,zo,aap,WK,jr,VL,jQ,hq,Z5,h0,hbk,hw,h1];exact no e
  by_cases h2:pn.tmod c=0
  case neg=>
   have e:=Jy (p:=⟨2,pn,pb⟩) (c:=c) hi hB (λq=>h2 q.2.2);rcases hcc with rfl|rfl|rfl
   all_goals
    simp -implicitDefEqProofs only[zw,zF,yc,yj,Zi,jn,Yu,xX,yO,ql,Xt,zI,z8,yD,yY,nth,nw,Value.cells,aaf,aal,aaH,aay,Int.reduceEq,uD,vN,zM,zo,aap,abv,aa5,WK,jr,uC,qU,u6];refine vM (by kernel_rfl) rfl hat ?_;rintro v h1 ⟨rfl,rfl⟩;simp -implicitDefEqProofs only[zw,zF,yc,y6,jn,yO,vg,ks,UK,Xt,Un,gj,zI,z8,wt,aaK,aaf,aal,Int.reduceEq,vN,zM,zo,aap,aa5,WK,jr,VL,jQ,hq,Z5,h0,hbk,hw,h1,h2];exact no e
  have e:=DP (p:=⟨2,pn,pb⟩) (c:=c) rfl hcc hi hB ⟨by show 0<=pn;omega,by show pn<=_;omega,h2⟩;have hmd:=zab hbk hpg fq (λb hb=>x1.ok b (x1.sub i b hb)) (by simp only[yN,qZ];omega) (a:=pn) (by omega) (by omega) (by omega);have hr1:pn.tmod 64=((pn.toNat%64:Nat):Int):=by rw[abr (by omega)];omega
  have hr2:IntKind.wrap .i64 (((pn.toNat%64:Nat):Int)+c)=((pn.toNat%64:Nat):Int)+c:=vF (by omega) (by omega)
  have hin:((pn.toNat%64:Nat):Int)+c<=64:=by
   rw[abr (by omega)]at h2;rcases hcc with rfl|rfl|rfl <;> omega
  have hb1:0<=((pn.toNat%64:Nat):Int)+c/\((pn.toNat%64:Nat):Int)+c<=((64:Nat):Int):=by omega
  have hb2:0<=((pn.toNat%64:Nat):Int)/\((pn.toNat%64:Nat):Int)<=((((pn.toNat%64:Nat):Int)+c).toNat:Int):=by omega
  have hb3:¬64=pn.toNat%64:=by omega
  have hb4:(((pn.toNat%64:Nat):Int)+c).toNat-pn.toNat%64=c.toNat:=by omega
  have hbox:∀h1,Xv (fs i) (h.push (.cells [pm 2,pm pn,pm pb] 64)) h1->h1.get h.next=some (.cells [pm 2,pm pn,pm pb] 64):=λh1 ef=>by
   rw[ef.get h.next (λhc=>by have:=(x.ok _ (x.sub i _ hc)).2;omega) (by simp only[yN];omega),zv]
  rcases hcc with rfl|rfl|rfl
  all_goals
   simp -implicitDefEqProofs only[zw,zF,yc,yj,Zi,jn,Yu,xX,yO,ql,Xt,zI,z8,yD,yY,nth,nw,Value.cells,aaf,aal,aaH,aay,Int.reduceEq,uD,vN,zM,zo,aap,abv,aa5,WK,jr,uC,qU,u6];refine vM (by kernel_rfl) rfl hat ?_;rintro v h1 ⟨rfl,rfl⟩;simp -implicitDefEqProofs only[zw,zF,yc,yj,jn,yO,vg,ks,UK,Xt,Un,gj,zI,z8,wt,aaK,nth,aaf,aal,Int.reduceEq,uD,vN,zM,zo,aap,abv,WK,jr,VL,jQ,hq,Z5,h0,hbk,hw,h1,h2];refine vM (by kernel_rfl) rfl hmd ?_;rintro v h1 ⟨g,pq,cq,gs,F',rfl,hbk1,hfull,hgs,fp1,ef,hsub,hok⟩;have hbx:=hbox h1 ef;simp -implicitDefEqProofs only[zw,zF,yc,yj,vg,ql,Xs,gj,zI,z8,wt,yD,m8,aaB,Y3,aaK,aaf,aal,aay,aas,aar,abe,Int.reduceEq,Int.reduceToNat,aba,ab1,aap,rS,za2,Z5,hr1,hr2,hb1,hb2,hb3,hb4,aaw,hbx];unfold ON;rw[e];have y:=x1.Fq hq hB rfl ef ⟨_,hbk1,fp1,.full pq cq gs rfl hfull⟩ hsub hok;rw[Ig hB]at y;refine⟨g,_,_,_,_,pq,q,cq,gs,B,hB,rfl,y,hq,hbk1,by simp only[aas];exact fp1,by simp only[aas];exact hfull,hgs,(Up.mono (λ_ h=>h.elim)).trans (ef.mono (λb hb=>x.sub i b hb)),λb hb=>?_⟩;rcases hb with hb|hb
   ·exact .inl hb
   ·rcases hsub b hb with hb|hb
    ·exact .inl (x.sub i b hb)
    ·exact .inr (by have:h.next+1<=b:=hb;omega)
end
def Bn(f:Nat->Cl)(n:Nat):Nat->Int
 |0=>0
 |k+1=>IntKind.wrap .u64 ((BitVec.ofInt 64 (Bn f n k) ||| BitVec.ofInt 64 (IntKind.wrap .u64 (IntKind.wrap .u64 (f (n+k)).n*2^(8*k)))).toNat)
def YB(f:Nat->Cl)(n:Nat):Nat->Bool
 |0=>true
 |k+1=>YB f n k&&decide ((f (n+k)).k=1)
def kJ(f:Nat->Cl)(n:Nat)(c:Int):Nat->Bool
 |0=>decide (c=8)
 |k+1=>kJ f n c k&&decide ((f (n+k)).k=2)&&decide (IntKind.wrap .i64 (f (n+k)).n=k)&&decide ((f (n+k)).p=(f n).p)
def bN(f:Nat->Cl)(n:Nat)(c:Int):V :=
 if YB f n c.toNat=true then ⟨1,if c=8 then IntKind.wrap .i64 (Bn f n c.toNat) else if c=4 then IntKind.wrap .i64 (IntKind.wrap .i32 (Bn f n c.toNat)) else IntKind.wrap .i64 (IntKind.wrap .i8 (Bn f n c.toNat)),0⟩
 else if kJ f n c c.toNat=true then (f n).p else v0
def Wx(M:MM)(c:Int)(p:V):Option V:=match right M c p with
 |none=>none
 |some i=>(M[i]?).map λB=>bN B.byte p.n.toNat c
def Cg(M:MM)(c:Int)(p:V)(v:aaa):Prop:=match Wx M c p with
 |none=>v=.tuple #[v0.val,.bool false]
 |some a=>v=.tuple #[a.val,.bool true]
theorem px{cs:List aaa}{o:Nat}{c:Cl}(h:∀j,j<5->cs[o+j]? = c.ke[j]?):(cs.drop o).take 5=c.ke:=by
 apply abw;intro j;by_cases hj:j<5
 ·rw[aa7 hj,aaW];exact h j hj
 ·rw[aak (by simp;omega),aak (by show 5<=j;omega)]
theorem zba{cs:List aaa}{o:Nat}{c:Cl}(h:∀j,j<5->cs[o+j]? = c.ke[j]?):(cs.drop (o+2)).take 3=[pm c.p.k,pm c.p.n,pm c.p.b]:=by
 have:=congrArg (List.drop 2) (px h);rw[List.drop_take,List.drop_drop]at this;exact this
theorem veq(a b:V):((a.k == b.k)&&((a.n == b.n)&&(a.b == b.b)))=decide (a=b):=by
 obtain⟨a1,a2,a3⟩:=a;obtain⟨b1,b2,b3⟩:=b;rw[aci];simp
theorem zaq{f:Nat->Cl}{n c:Nat}(h:∀k,k<c->f (n+k)=pz)(h1:1<=c):YB f n c=false:=by
 cases c with
 |zero=>omega
 |succ c=>unfold YB;rw[h c (by omega)];simp[pz]
theorem Rg{f:Nat->Cl}{n c:Nat}{d:Int}(h:∀k,k<c->f (n+k)=pz)(h1:1<=c):kJ f n d c=false:=by
 cases c with
 |zero=>omega
 |succ c=>unfold kJ;rw[h c (by omega)];simp[pz]
section
variable {h:za}{m:Nat}{bs:aaa}{ps:List Nat}{fs:Nat->Nat->Prop}{M:MM}{F:Nat->Prop}{c:Int}{p:V}
def zcG(h:za)(f:Nat->Cl)(n:Nat)(c:Int)(m:Nat)(vs:List aaa)(h':za):Prop :=
 ∃k,k<=c.toNat/\m=c.toNat-k/\vs=[.int .u64 (Bn f n k),.bool (YB f n k),.bool (kJ f n c k),pm k]/\Xv E5 h h'
theorem zb6(x:BR h m bs ps fs M F)(hs:small M)(hc:wH c)(hp:p.ok) :
  DC Tryz.prog 108 [pi m,pm c,p.val] h (λv h1=>Xv E5 h h1/\Cg M c p v):=by
 apply YG;intro hwf;have hro:=hwf.2;apply OU;unfold R0;have e1:p.val=.agg #[pm p.k,pm p.n,pm p.b]:=rfl;have Up:Xv E5 h ((h.push (.cells [pm p.k,pm p.n,pm p.b] 64)).push (.cells [pm 0,pm 0,pm 0] 64)):=((Xv.refl _ _).push _).push _
 have x1:BR ((h.push (.cells [pm p.k,pm p.n,pm p.b] 64)).push (.cells [pm 0,pm 0,pm 0] 64)) m bs ps fs M F :=
  x.zG (λb hb=>Up.get b (λe=>e) (x.ok b hb).2) Up.next
 have hac:=SF (c:=c) (p:=p) x1 hs hc hp;rw[e1];simp -implicitDefEqProofs only[zw,zF,yc,WZ,z8,yY,jm,nth,nw,Value.cells,BK,aaH,aay,aaE,aaC,abf,abD,zb,aby,aaT,abx,aas,abe,Nat.reduceAdd,aba,aam,yN,zM,zD,sc,xw,zN,zo,La,WY,pU,zd5,Nv,dG,TK,TL,Jv];rw[e1]at hac;refine vM (by kernel_rfl) rfl hac ?_;rintro v h1 ⟨ef,hr⟩
 have hl:h1.get (h.next+1)=some (.cells [pm 0,pm 0,pm 0] 64):=by
  rw[ef.get _ (λe=>e) (by simp only[yN];omega)];exact zM (by simp only[yN])
 have hr1:h1.ro<=h.next+1:=by rw[ef.ro];simp only[qZ];omega
 have hpost:∀a,Wx M c p=some a->Cg M c p (.tuple #[.agg #[pm a.k,pm a.n,pm a.b],.bool true]):=λa ha=>by unfold Cg;rw[ha];rfl
 cases e:right M c p with
 |none=>
  rw[e]at hr;subst hr;simp -implicitDefEqProofs only[J5,J6,zw,xf,zF,yc,y6,ql,zI,yD,yY,aay,aaE,aaC,abb,aa0,aaT,abx,aas,Nat.reduceAdd,aba,aam,yr,Hs,aM,hl,hr1];exact⟨(Up.trans ef).set (.inr (by omega)) _,by unfold Cg Wx;rw[e];rfl⟩
 |some i=>
  rw[e]at hr;obtain⟨s,rfl,hcell⟩:=hr;obtain⟨hk,hcc,hi,B,hB,hn0,hn1,hn2⟩:=aS e;have hlm:Wx M c p=some (bN B.byte p.n.toNat c):=by unfold Wx;rw[e];simp only[hB];rfl
  have hc1:1<=c.toNat/\c.toNat<=8:=by omega
  rcases hcell B hB with⟨rfl,hu⟩|⟨g,off,cs,cp,rfl,fg,hg,hlen,hoff,hcs⟩
  ·simp -implicitDefEqProofs only[J5,J6,zw,xf,zF,yc,y6,ql,zI,yD,yY,aay,aaE,aaC,abb,aa0,aaT,abx,aas,Nat.reduceAdd,aba,aam,yr,Hs,aM,hl,hr1];refine⟨(Up.trans ef).set (.inr (by omega)) _,?_⟩
   have:bN B.byte p.n.toNat c=v0:=by
    unfold bN;rw[zaq hu hc1.1,Rg hu hc1.1];rfl
   rw[this]at hlm;exact hpost _ hlm
  ·simp -implicitDefEqProofs only[J5,J6,zw,xf,zF,yc,yj,ql,zI,yD,yY,nth,aay,ab8,aaE,aaC,abb,aa0,aaT,abx,aas,Nat.reduceAdd,Nat.reduceMul,Int.reduceLE,Int.reduceToNat,aba,ab1,aam,yr,zbL,VD,aM,hl,hr1];refine qQ (zcG h1 B.byte p.n.toNat c) c.toNat ⟨0,by omega,by omega,rfl,.refl _ _⟩ ?_;rintro n vs h2 ⟨k,hk1,rfl,rfl,ef2⟩;have hg2:h2.get g=some (.cells cs 184):=by rw[ef2.get g (λe=>e) (by have:=(x.ok g fg).2;have:=ef.next;have:=Up.next;omega),hg]
   by_cases hlt:k<c.toNat
   ·have hki:(k:Int)<(c.toNat:Int):=(by omega);have hcel:=px (hcs k · hlt);have hc0:=px (hcs 0 · (by omega));have hb1:0<=(k:Int)/\(k:Int)<(c.toNat:Int):=by omega
    have hb2:off+k*5+5<=cs.length:=(by omega);have hb3:off+5<=cs.length:=(by omega);have hb4:0<=(0:Int)/\(0:Int)<(c.toNat:Int):=(by omega);have hw1:IntKind.wrap .i64 (8*(k:Int))=((8*k:Nat):Int):=(by rw[vF (by omega) (by omega)];omega);have hw2:IntKind.wrap .i64 ((k:Int)+1)=((k+1:Nat):Int):=(by rw[vF (by omega) (by omega)];omega);have hr2:h2.ro<=h2.next:=(by have:=ef2.ro;have:=ef2.next;have:=ef.next;simp only[yN]at this;omega);have hk0:0<=((8*k:Nat):Int):=(by omega);have hmin:min (8*k) IntKind.u64.bits=8*k:=by show min (8*k) 64=_;omega
    have hnext:∀{a b d h3},Xv E5 h2 h3->a=Bn B.byte p.n.toNat (k+1)->b=YB B.byte p.n.toNat (k+1)->d=kJ B.byte p.n.toNat c (k+1)->∃m,m<c.toNat-k/\zcG h1 B.byte p.n.toNat c m [.int .u64 a,.bool b,.bool d,pm ((k+1:Nat):Int)] h3:=λef3 ea eb ed=>
     ⟨c.toNat-(k+1),by omega,k+1,by omega,rfl,by rw[ea,eb,ed],ef2.trans ef3⟩
    have hefn:∀l l',Xv E5 h2 ((h2.push (.cells l 158)).set h2.next (some (.cells l' 158))):=λl l'=>((Xv.refl _ _).push _).set (.inr (aam _)) _;have hgn:∀l l',((h2.push (.cells l 158)).set h2.next (some (.cells l' 158))).get g=some (.cells cs 184):=λl l'=>by rw[(hefn l l').get g (λe=>e) (by have:=(x.ok g fg).2;have:=ef.next;have:=Up.next;have:=ef2.next;omega),hg2]
    simp only[Cl.ke]at hcel hc0;have hp3:(cs.drop (off+2)).take 3=[pm (B.byte p.n.toNat).p.k,pm (B.byte p.n.toNat).p.n,pm (B.byte p.n.toNat).p.b]:=zba (λj hj=>by simpa using hcs 0 j (by omega) hj);have hb5:off+2+3<=cs.length:=by omega
    cases hP:kJ B.byte p.n.toNat c k with
    |false=>
     cases hN:YB B.byte p.n.toNat k
     all_goals
      simp -implicitDefEqProofs only[zw,xf,zF,yc,y6,yj,Zi,Yu,xX,yO,ks,WZ,Xs,Kk,Dd,Pv,zI,z8,yY,jm,nth,aaf,aal,aay,aaE,aaC,abf,abD,zb,abb,aa0,aas,abe,Nat.reduceAdd,aba,aam,uD,qZ,zM,yr,xw,zN,zo,Eo,La,WY,dy,XW,jO,Vz,Uo,VJ,mr,Jv,VD,hki,hg2,hb1,hb2,hb4,hcel,hw1,hw2,aaw,hr2,hk0,hmin];refine hnext (hefn _ _) rfl ?_ ?_
      ·simp[YB,hN]
      ·simp[kJ,hP]
    |true=>
     by_cases hk2:(B.byte (p.n.toNat+k)).k=2
     ·by_cases hkk:IntKind.wrap .i64 (B.byte (p.n.toNat+k)).n=(k:Int)
      ·cases hN:YB B.byte p.n.toNat k
       all_goals
        simp -implicitDefEqProofs only[zw,xf,zF,yc,y6,yj,Zi,Yu,xX,yO,ks,WZ,Xs,Kk,Dd,Pv,zI,z8,yY,jm,nth,aaf,aal,aay,ab8,aaE,aaC,abf,abD,zb,abb,aa0,aby,aaT,acj,abx,aas,abe,Nat.reduceAdd,Nat.reduceMul,Int.reduceEq,Int.reduceToNat,aba,aam,uD,vN,qZ,zM,yr,xw,zN,zo,aap,Eo,La,WY,dy,pU,XW,jO,Vz,Uo,VJ,mr,Tt,QL,Jv,VD,hki,hg2,hb1,hb2,hb3,hb4,hp3,hcel,hw1,hw2,aaw,hr2,hk0,hgn,hmin,hk2,hkk];refine hnext (hefn _ _) rfl ?_ ?_
        ·simp[YB,hN,hk2]
        ·simp only[kJ,hP,hk2,hkk,veq,abY,decide_true]
      ·cases hN:YB B.byte p.n.toNat k
       all_goals
        simp -implicitDefEqProofs only[zw,xf,zF,yc,y6,yj,Zi,Yu,xX,yO,ks,WZ,Xs,Kk,Dd,Pv,zI,z8,yY,jm,nth,aaf,aal,aay,aaE,aaC,abf,abD,zb,abb,aa0,aas,abe,Nat.reduceAdd,Int.reduceEq,aba,aam,uD,vN,qZ,zM,yr,xw,zN,zo,aap,Eo,La,WY,dy,XW,jO,Vz,Uo,VJ,mr,Tt,Jv,VD,hki,hg2,hb1,hb2,hb3,hb4,hcel,hw1,hw2,aaw,hr2,hk0,hmin,hk2,hkk];refine hnext (hefn _ _) rfl ?_ ?_
        ·simp[YB,hN,hk2]
        ·simp[kJ,hP,hk2,hkk]
     ·cases hN:YB B.byte p.n.toNat k
      all_goals
       simp -implicitDefEqProofs only[zw,xf,zF,yc,y6,yj,Zi,Yu,xX,yO,ks,WZ,Xs,Kk,Dd,Pv,zI,z8,yY,jm,nth,aaf,aal,aay,aaE,aaC,abf,abD,zb,abb,aa0,aas,abe,Nat.reduceAdd,aba,aam,uD,vN,qZ,zM,yr,xw,zN,zo,aap,Eo,La,WY,dy,XW,jO,Vz,Uo,VJ,mr,Jv,VD,hki,hg2,hb1,hb2,hb3,hb4,hcel,hw1,hw2,aaw,hr2,hk0,hmin,hk2];refine hnext (hefn _ _) rfl ?_ ?_
       ·simp[YB,hN]
       ·simp[kJ,hP,hk2]
   ·have hki:¬(k:Int)<(c.toNat:Int):=(by omega);have hkc:k=c.toNat:=(by omega);subst hkc
    have hl2:h2.get (h.next+1)=some (.cells [pm 0,pm 0,pm 0] 64):=by
     rw[ef2.get _ (λe=>e) (by have:=ef.next;simp only[yN]at this;omega),hl]
    have hr2:h2.ro<=h.next+1:=(by rw[ef2.ro];exact hr1);have hof:∀n,DC Tryz.prog 64 [pm n] h2 (λv h1=>v=V.val ⟨1,n,0⟩/\Xv E5 h2 h1):=λn=>Xo n h2
    have hsl:∀h3,Xv E5 h2 h3->h3.get (h.next+1)=some (.cells [pm 0,pm 0,pm 0] 64)/\h3.ro<=h.next+1:=λh3 e3=>
     ⟨by rw[e3.get _ (λe=>e) (by have:=ef.next;have:=ef2.next;simp only[yN]at *;omega),hl2],by rw[e3.ro];exact hr2⟩
    have hfin:∀{h3 a v},Xv E5 h2 h3->bN B.byte p.n.toNat c=a->Xv E5 h (h3.set (h.next+1) v)/\Cg M c p (.tuple #[.agg #[pm a.k,pm a.n,pm a.b],.bool true]):=λe3 ea=>
     ⟨(((Up.trans ef).trans ef2).trans e3).set (.inr (by omega)) _,hpost _ (by rw[hlm,ea])⟩
    cases hN:YB B.byte p.n.toNat c.toNat with
    |true=>
     rcases hcc with rfl|rfl|rfl
     all_goals
      simp -implicitDefEqProofs only[zw,xf,zF,yc,y6,yj,Zi,xX,ks,WZ,Xs,Kk,zI,z8,nth,Nat.reduceSub,Int.reduceEq,Int.reduceToNat,uD,vN,zo,aap,La,XW,jO,Vz,Uo,VJ,VD];refine vM (by kernel_rfl) rfl (hof _) ?_;rintro v h3 ⟨rfl,e3⟩;obtain⟨g1,g2⟩:=hsl h3 e3;simp -implicitDefEqProofs only[zw,zF,yc,ql,zI,yY,jm,aay,aaE,aaC,abf,abD,zb,abb,aa0,aaT,abx,aas,abe,Nat.reduceAdd,aba,aam,yr,xw,pU,V.val,g1,g2];refine hfin (a:=⟨1,_,0⟩) e3 ?_;unfold bN;rw[aai hN];rfl
    |false=>
     cases hP:kJ B.byte p.n.toNat c c.toNat with
     |true=>
      have hp3:(cs.drop (off+2)).take 3=[pm (B.byte p.n.toNat).p.k,pm (B.byte p.n.toNat).p.n,pm (B.byte p.n.toNat).p.b]:=zba (λj hj=>by simpa using hcs 0 j (by omega) hj);have hb5:off+2+3<=cs.length:=by omega
      have hb4:0<=(0:Int)/\(0:Int)<(c.toNat:Int):=(by omega);have hgn:∀v,(h2.set (h.next+1) v).get g=some (.cells cs 184):=λv=>by rw[zU (by have:=(x.ok g fg).2;omega),hg2]
      ·simp -implicitDefEqProofs only[zw,xf,zF,yc,y6,yj,Zi,Yu,yO,ql,ks,Xs,Kk,zI,z8,yY,jm,nth,aay,aaE,aaC,abf,abD,zb,abb,aa0,aaT,abx,aas,abe,Nat.reduceAdd,aba,aam,vN,yr,xw,zN,zo,aap,La,WY,pU,XW,jO,Vz,Uo,VJ,Jv,VD,hki,hl2,hr2,hp3,hb5,hb4,hg2];refine hfin (a:=(B.byte p.n.toNat).p) (.refl _ _) ?_;unfold bN;rw[hN,hP];rfl
     |false=>
      rcases hcc with rfl|rfl|rfl
      all_goals
       simp -implicitDefEqProofs only[zw,xf,zF,yc,yj,Yu,yO,ql,ks,Xs,Kk,zI,z8,yY,nth,aay,aaE,aaC,abb,aa0,aaT,abx,aas,Nat.reduceAdd,Nat.reduceSub,Int.reduceToNat,aba,aam,yr,XW,jO,Vz,Uo,VJ,VD,hl2,hr2];refine hfin (a:=v0) (.refl _ _) ?_;unfold bN;rw[hN,hP];rfl
end
theorem Xv.more{F G:Nat->Prop}{a b c:za}(x:Xv F a b)(y:Xv G b c)(hg:∀i,G i->F i\/a.next<=i):Xv F a c :=
 ⟨aaZ x.next y.next,y.ro.trans x.ro,λi hi hlt=>by
  have hn:¬G i:=λe=>by
   rcases hg i e with q|q
   ·exact hi q
   ·omega
  rw[y.get i hn (aan hlt x.next),x.get i hi hlt]⟩
theorem zhu{b:Bool}{A B:(List aaa->za->Prop)->Prop}{J:List aaa->za->Prop}{vs:List aaa}{x y:za}(hA:∀j,A j=j vs x)(hB:∀j,B j=j vs y)(hJ:J vs (if b=true then x else y)):CD (.bool b) A B J:=by
 cases b
 ·rw[yj,hB];simpa using hJ
 ·rw[y6,hA];simpa using hJ
theorem Us(vs:List aaa):∀(cs:List aaa) (o i:Nat),o+vs.length<=cs.length->(zb cs o vs)[i]? = if o<=i/\i<o+vs.length then vs[i-o]? else cs[i]?:=by
 induction vs with
 |nil=>intro cs o i _;rw[aae (by simp)];rfl
 |cons v vs ih=>
  intro cs o i h;simp only[aaE]at h ⊢;unfold zb;rw[ih (cs.set o v) (o+1) i (by rw[abd];omega)];by_cases h1:o+1<=i/\i<o+1+vs.length
  ·rw[aai h1,aai (by omega),show i-o=i-(o+1)+1 by omega,aal]
  ·rw[aae h1];by_cases h2:i=o
   ·subst h2;rw[aai (by omega),aaU (by omega)];simp
   ·rw[aae (by omega),abj (by omega)]
def Fq(f:Nat->Cl)(a:Nat)(c:Cl):Nat->Cl:=λk=>if k=a then c else f k
theorem VR.put{h:za}{q:Nat}{gs:List (Option Nat)}{B:MB}{F:Nat->Prop}(x:VR h q gs B F){a g:Nat}(hg:gs[a/64]? = some (some g)) :
  ∃cs,h.get g=some (.cells cs 184)/\a%64*5+5<=cs.length /\ ∀c:Cl,VR (h.set g (some (.cells (zb cs (a%64*5) c.ke) 184))) q gs {B with byte:=Fq B.byte a c} F:=by
 obtain⟨hl,fq,hq,hgs,hn,hd,ht⟩:=x;obtain⟨fg,cs,hc,hlen,hcs⟩:=hgs _ g hg;refine⟨cs,hc,by omega,λc=>⟨hl,fq,?_,λj g' hj=>⟨(hgs j g' hj).1,?_⟩,λj hj k hk=>?_,hd,λk hk=>?_⟩⟩
 ·rw[zU (by intro e;subst e;rw[hq]at hc;simp at hc),hq]
 ·by_cases e:g'=g
  ·subst e;have ej:j=a/64:=hd j _ g' hj hg;subst ej;refine⟨_,yr,by rw[Zq,hlen],λk j hk hj=>?_⟩;have vlen:c.ke.length=5:=rfl;rw[Us _ _ _ _ (by rw[vlen];omega),vlen];show _=(Fq B.byte a c (64*(a/64)+k)).ke[j]?;unfold Fq;by_cases ek:k=a%64
   ·rw[aai (by omega),aai (by omega),show k*5+j-a%64*5=j by omega]
   ·rw[aae (by omega),aae (by omega)];exact hcs k j hk hj
  ·have ej:j≠a/64:=by intro ej;subst ej;rw[hg]at hj;cases hj;exact e rfl
   obtain⟨cs',hc',hlen',hcs'⟩:=(hgs j g' hj).2;refine⟨cs',by rw[zU e,hc'],hlen',λk j' hk hj'=>?_⟩;rw[hcs' k j' hk hj'];show _=(Fq B.byte a c (64*j+k)).ke[j']?;unfold Fq;rw[aae (by omega)]
 ·show Fq B.byte a c (64*j+k)=pz;unfold Fq
  rw[aae (by intro e;have:j=a/64:=by omega
             subst this;rw[hg]at hj;cases hj)]
  exact hn j hj k hk
 ·show Fq B.byte a c k=pz
  have hlt:a/64<gs.length:=by
   rcases aax (a/64) gs.length with e|e
   ·exact e
   ·rw[aak e]at hg;cases hg
  unfold Fq;rw[aae (by omega)];exact ht k hk
def norm(v:V):V:=if kW v=true then v else v0
def cellOf(v:V)(k:Nat):Cl:=if v.k=1 then ⟨1,IntKind.wrap .u8 (v.n.fdiv (2^(8*k))),v0⟩ else if v.k=2 then ⟨2,IntKind.wrap .u8 k,v⟩ else pz
def Xx(B:MB)(n:Nat)(v:V)(c:Nat):MB:={B with byte:=λa=>if n<=a/\a<n+c then cellOf v (a-n) else B.byte a}
theorem Ii(B:MB)(n:Nat)(v:V):Xx B n v 0=B:=by
 unfold Xx
 congr 1
 funext a
 rw[aae (by omega)]
theorem rj(B:MB)(n:Nat)(v:V)(c:Nat):{Xx B n v c with byte:=Fq (Xx B n v c).byte (n+c) (cellOf v c)} = Xx B n v (c+1):=by
 unfold Xx Fq;simp only[MB.mk.injEq,ab1]
 funext a
 by_cases e:a=n+c
 ·subst e;rw[aai rfl,aai (by omega),show n+c-n=c by omega]
 ·rw[aae e];by_cases e2:n<=a/\a<n+c
  ·rw[aai e2,aai (by omega)]
  ·rw[aae e2,aae (by omega)]
def kd(M:MM)(c:Int)(p v:V):Option MM:=if (norm v).k=2/\c≠8 then none else match right M c p with
 |none=>none
 |some i=>(M[i]?).map λB=>M.set i (Xx B p.n.toNat (norm v) c.toNat)
def FC(h:za)(m:Nat)(M':MM)(F:Nat->Prop)(h1:za):Prop := ∃F',DX h1 m M' F'/\Xv F h h1 /\ ∀b,F' b->F b\/h.next<=b
def gH(h:za)(m:Nat)(M:MM)(F:Nat->Prop)(c:Int)(p v:V)(r:aaa)(h1:za):Prop:=match kd M c p v with
 |none=>r=.bool false/\FC h m M F h1
 |some M'=>r=.bool true/\FC h m M' F h1
section
variable {h:za}{m:Nat}{bs:aaa}{ps:List Nat}{fs:Nat->Nat->Prop}{M:MM}{F:Nat->Prop}{c:Int}{p v:V}
def nB(h:za)(q g:Nat)(gs:List (Option Nat))(B:MB)(n:Nat)(v:V)(c:Int)(F:Nat->Prop)(m:Nat)(vs:List aaa)(h':za):Prop :=
 ∃k,k<=c.toNat/\m=c.toNat-k/\vs=[pm k]/\Xv (λb=>b=g) h h'/\VR h' q gs (Xx B n v k) F
theorem za9(x:Uz h m bs ps fs M F)(hs:small M)(hc:wH c)(hp:p.ok) :
  DC Tryz.prog 107 [pi m,pm c,p.val,v.val] h (gH h m M F c p v):=by
 apply YG;intro hwf;have hro:=hwf.2;apply ID;unfold MI;have e1:p.val=.agg #[pm p.k,pm p.n,pm p.b]:=rfl;have e2:v.val=.agg #[pm v.k,pm v.n,pm v.b]:=rfl;rw[e1,e2];simp -implicitDefEqProofs only[zw,zF,yc,kU,zI,z8,yY,jm,nw,Value.cells,BK,aaH,aay,aaE,aaC,abf,abD,zb,aby,aaT,abx,aas,abe,Nat.reduceAdd,aba,aam,yN,zM,xw,zN,zo,WK,jr,WY,pU,zby,dG,uC,qU];rw[<- e2];refine Ey (by kernel_rfl) rfl (iY v _) ?_;simp -implicitDefEqProofs only[zw,BJ,aay,aaE,aaC,abb,aa0,Nat.reduceAdd,ab1,aam,yN,qZ,zM]
 refine zhu (vs:=[]) (x:=((h.push (.cells [pm p.k,pm p.n,pm p.b] 64)).push (.cells [pm v.k,pm v.n,pm v.b] 64)).set (h.next+1) (some (.cells [pm 0,pm 0,pm 0] 64)))
  (y:=(h.push (.cells [pm p.k,pm p.n,pm p.b] 64)).push (.cells [pm v.k,pm v.n,pm v.b] 64)) ?_ ?_ ?_
 ·intro j;have:h.ro<=h.next+1:=by omega
  simp -implicitDefEqProofs only[zw,aas,this]
 ·intro j;rfl
 generalize hH:(if (!kW v)=true then ((h.push (.cells [pm p.k,pm p.n,pm p.b] 64)).push (.cells [pm v.k,pm v.n,pm v.b] 64)).set (h.next+1) (some (.cells [pm 0,pm 0,pm 0] 64)) else
  (h.push (.cells [pm p.k,pm p.n,pm p.b] 64)).push (.cells [pm v.k,pm v.n,pm v.b] 64))=H
 have Up:Xv E5 h H:=by
  subst hH;split
  ·exact(((Xv.refl _ _).push _).push _).set (.inr (by omega)) _
  ·exact((Xv.refl _ _).push _).push _
 have hx:H.get (h.next+1)=some (.cells [pm (norm v).k,pm (norm v).n,pm (norm v).b] 64):=by
  subst hH;unfold norm;cases kW v
  ·simp only[aa5,aas];rw[aae (by simp)];exact yr
  ·simp only[abv,aas];rw[aae (by simp)];exact zM rfl
 have hp1:H.get h.next=some (.cells [pm p.k,pm p.n,pm p.b] 64):=by
  have:¬h.next=h.next+1:=by omega
  have h3:((h.push (.cells [pm p.k,pm p.n,pm p.b] 64)).push (.cells [pm v.k,pm v.n,pm v.b] 64)).get h.next=some (.cells [pm p.k,pm p.n,pm p.b] 64):=by
   rw[zD (by simp only[yN];omega),zv]
  subst hH;split
  ·rw[zU this,h3]
  ·exact h3
 have hnx:H.next=h.next+2:=by
  subst hH;cases kW v <;> simp[yN,kQ]
 clear hH
 have hsm:kd M c p v=if (norm v).k=2/\c≠8 then none else match right M c p with
  |none=>none
  |some i=>(M[i]?).map λB=>M.set i (Xx B p.n.toNat (norm v) c.toNat):=rfl
 generalize norm v=w at hx hsm;have x1:Uz H m bs ps fs M F:=x.zG (λb hb=>Up.get b (λe=>e) (x.ok b hb).2) Up.next Up.ro;have hro1:H.ro<=H.next:=by rw[hnx,Up.ro];omega
 have hm0:∀{h1},Xv E5 H h1->FC h m M F h1:=λe3=>⟨F,⟨bs,ps,fs,x1.zG (λb hb=>e3.get b (λe=>e) (x1.ok b hb).2) e3.next e3.ro⟩,(Up.trans e3).mono (λ_ q=>q.elim),λb hb => .inl hb⟩;by_cases hbad:w.k=2/\c≠8
 ·rw[aai hbad]at hsm;have h1:=hbad.1;have h2:¬c=8:=hbad.2;simp -implicitDefEqProofs only[zw,zF,yc,y6,Zi,xX,WZ,Xt,zI,z8,aaf,uD,vN,aap,aa5,hx,h1,h2];unfold gH;rw[hsm];exact⟨rfl,hm0 (.refl _ _)⟩
 rw[aae hbad]at hsm;have hac:=SG (c:=c) (p:=p) hro1 x1 hs hc hp;rw[e1]at hac
 have hways:(w.k=2/\c=8) \/ ¬w.k=2:=by
  by_cases e:w.k=2
  ·by_cases e3:c=8
   ·exact .inl ⟨e,e3⟩
   ·exact(hbad ⟨e,e3⟩).elim
  ·exact .inr e
 have hall:∀r h1,ON H m M F c p r h1->(∃ok,r=.tuple #[pp,.bool ok]/\ok=false/\gH h m M F c p v (.bool false) h1) \/ ∃g,r=.tuple #[.slice (some ⟨g,p.n.toNat%64*5,none⟩) c.toNat 0,.bool true] /\ ∃q gs B G,nB h1 q g gs B p.n.toNat w c G c.toNat [pm 0] h1/\0<=c /\
   (∀k,k<c.toNat->gs[(p.n.toNat+k)/64]? = some (some g)/\(p.n.toNat+k)%64*5=p.n.toNat%64*5+k*5)/\c<=8/\H.ro<=g/\h1.ro=H.ro/\(∀h2,Xv (λb=>b=g) h1 h2->h2.get (h.next+1)=some (.cells [pm w.k,pm w.n,pm w.b] 64)) /\
   ∀h2,nB h1 q g gs B p.n.toNat w c G 0 [pm c.toNat] h2->gH h m M F c p v (.bool true) h2:=by
  intro r h1 hr;unfold ON at hr;cases e:right M c p with
  |none=>
   rw[e]at hr;obtain⟨rfl,e3⟩:=hr;refine .inl ⟨_,rfl,rfl,?_⟩;rw[e]at hsm;unfold gH;rw[hsm];exact⟨rfl,hm0 e3⟩
  |some i=>
   rw[e]at hr hsm;obtain⟨g,bs1,ps1,fs1,F1,q,qp,cq,gs,B,hB,rfl,x2,hq,hb,fq,full,hgs,ef,hsub⟩:=hr;obtain⟨hk,hcc,hi,B',hB',hn0,hn1,hn2⟩:=aS e;rw[hB]at hB';cases hB';have fg:=(full.hg _ g hgs).1;refine .inr ⟨g,rfl,q,gs,B,fs1 i,⟨0,by omega,by omega,rfl,.refl _ _,by rw[Ii];exact full⟩,by omega,λk hk=>?_,by omega,by have:=(x2.ok g (x2.sub i g fg)).1;have:=ef.ro;omega,ef.ro,λh2 e2=>?_,λh2 hst=>?_⟩
   ·have hal:p.n.toNat%64+c.toNat<=64:=by
     rw[abr hn0]at hn2;rcases hcc with rfl|rfl|rfl <;> omega
    exact⟨by rw[show(p.n.toNat+k)/64=p.n.toNat/64 by omega];exact hgs,by omega⟩
   ·have n1:h.next+1≠g:=by
     intro en;rcases hsub g (x2.sub i g fg) with h3|h3
     ·have:=(x.ok g h3).2;omega
     ·omega
    rw[e2.get _ n1 (by have:=ef.next;omega),ef.get _ (λh3=>by have:=(x.ok _ h3).2;omega) (by omega),hx]
   ·obtain⟨k,hk1,hk2,hk3,e2,full2⟩:=hst;have hkc:k=c.toNat:=by simp at hk3;omega
    subst hkc
    have hne:qp≠g:=by
     intro en;subst en;obtain⟨cs,hc1,_⟩:=(full.hg _ qp hgs).2;rw[hb]at hc1;simp at hc1
    have hb2:h2.get qp=some (.cells [pm B.size,.slice (some ⟨q,0,none⟩) gs.length cq,.bool B.qy] 155):=(by rw[e2.get _ hne (x2.ok qp (x2.sub i qp fq)).2,hb]);have y:=x2.Fq hq hB (B':=Xx B p.n.toNat w c.toNat) rfl (e2.mono (λb (hb:b=g)=>by rw[hb];exact fg)) ⟨_,hb2,fq,.full q cq gs rfl full2⟩ (λb hb => .inl hb) (λb hb=>by have:=x2.ok b (x2.sub i b hb);have:=e2.next;have:=e2.ro;omega);unfold gH;rw[hsm];simp only[hB,abn]
    have hsub2:∀b,F1 b->F b\/h.next<=b:=λb hb=>by
     rcases hsub b hb with q|q
     ·exact .inl q
     ·exact .inr (by omega)
    refine⟨trivial,_,⟨_,_,_,y⟩,((Up.mono (λ_ q=>q.elim)).trans ef).more e2 (λb (hb:b=g)=>by rw[hb];exact hsub2 g (x2.sub i g fg)),λb hb=>?_⟩;rcases hb with hb|hb
    ·exact hsub2 b hb
    ·exact hsub2 b (x2.sub i b hb)
 rcases hways with⟨w2,c8⟩|w2
 ·have d8:decide (c=8)=true:=uD c8;simp -implicitDefEqProofs only[zw,zF,yc,yj,Zi,xX,WZ,Xt,zI,z8,nth,aaf,aay,aaE,aaC,aaT,abx,aas,Nat.reduceAdd,aam,uD,abv,hx,hp1,w2,d8];refine vM (by kernel_rfl) rfl hac ?_;intro r h1 hr;rcases hall r h1 hr with⟨_,rfl,rfl,hf⟩|⟨g,rfl,q,gs,B,G,hI,hc0,hk,hc8,hgr,hr1,hbx,hend⟩
  ·simp -implicitDefEqProofs only[J5,J6,zw,xf,zF,yc,y6,BJ,zI,yD,aa5,aM];exact hf
  ·simp -implicitDefEqProofs only[J5,J6,zw,xf,zF,yc,yj,BJ,zI,yD,abv,aM];refine qQ (nB h1 q g gs B p.n.toNat w c G) c.toNat hI ?_;rintro n vs h2 ⟨k,hk1,rfl,rfl,ef2,full2⟩;by_cases hlt:k<c.toNat
   ·have hki:(k:Int)<(c.toNat:Int):=(by omega);obtain⟨hgk,hok⟩:=hk k hlt;obtain⟨cs,hcs,hle,hput⟩:=full2.put hgk;have hput':=hput (cellOf w k);rw[hok]at hle hput';have hbx2:=hbx h2 ef2;have hr2:h2.ro<=g:=by rw[ef2.ro,hr1];exact hgr
    have hb1:0<=(k:Int)/\(k:Int)<(c.toNat:Int):=(by omega);have hw1:IntKind.wrap .i64 (8*(k:Int))=((8*k:Nat):Int):=(by rw[vF (by omega) (by omega)];omega);have hw2:IntKind.wrap .i64 ((k:Int)+1)=((k+1:Nat):Int):=(by rw[vF (by omega) (by omega)];omega);have hk0:0<=((8*k:Nat):Int):=(by omega);have hmin:min (8*k) IntKind.i64.bits=8*k:=by show min (8*k) 64=_;omega
    have hnext:∀h3,h3=h2.set g (some (.cells (zb cs (p.n.toNat%64*5+k*5) (cellOf w k).ke) 184))->∃m,m<c.toNat-k/\nB h1 q g gs B p.n.toNat w c G m [pm ((k+1:Nat):Int)] h3:=λh3 e3=>
     ⟨c.toNat-(k+1),by omega,k+1,by omega,rfl,rfl,by rw[e3];exact ef2.set (.inl rfl) _,by rw[e3];have:=hput';unfold Fq at this;rw[<- rj];exact this⟩
    simp -implicitDefEqProofs only[zw,xf,zF,yc,y6,yj,ks,WZ,Xs,Kk,G5,z8,yY,jm,nth,aaf,aal,aay,aaE,aaC,abf,abD,zb,aaT,abx,aas,abe,Nat.reduceAdd,Int.reduceEq,aba,aam,uD,vN,xw,aap,dy,iR,J7,Lq,Aw,VD,hki,hbx2,hcs,hr2,hb1,hle,hw1,hw2,hk0,hmin,aaw,w2];refine hnext _ ?_;unfold cellOf Cl.ke;simp only[w2,zb,v0,pz,aas,aar,Int.reduceEq]
   ·have hkc:k=c.toNat:=(by omega);subst hkc;have hki:¬(c.toNat:Int)<(c.toNat:Int):=by omega
    simp -implicitDefEqProofs only[zw,xf,zF,yc,yj,ks,Xs,Kk,z8,nth,vN,aap,Aw,VD,hki];exact hend h2 ⟨c.toNat,by omega,by omega,rfl,ef2,full2⟩
 ·simp -implicitDefEqProofs only[zw,zF,yc,yj,Yu,yO,WZ,zI,z8,nth,aaf,aay,aaE,aaC,aaT,abx,aas,Nat.reduceAdd,aam,vN,aap,hx,hp1,w2];refine vM (by kernel_rfl) rfl hac ?_;intro r h1 hr;rcases hall r h1 hr with⟨_,rfl,rfl,hf⟩|⟨g,rfl,q,gs,B,G,hI,hc0,hk,hc8,hgr,hr1,hbx,hend⟩
  ·simp -implicitDefEqProofs only[J5,J6,zw,xf,zF,yc,y6,BJ,zI,yD,aa5,aM];exact hf
  ·simp -implicitDefEqProofs only[J5,J6,zw,xf,zF,yc,yj,BJ,zI,yD,abv,aM];refine qQ (nB h1 q g gs B p.n.toNat w c G) c.toNat hI ?_;rintro n vs h2 ⟨k,hk1,rfl,rfl,ef2,full2⟩;by_cases hlt:k<c.toNat
   ·have hki:(k:Int)<(c.toNat:Int):=(by omega);obtain⟨hgk,hok⟩:=hk k hlt;obtain⟨cs,hcs,hle,hput⟩:=full2.put hgk;have hput':=hput (cellOf w k);rw[hok]at hle hput';have hbx2:=hbx h2 ef2;have hr2:h2.ro<=g:=by rw[ef2.ro,hr1];exact hgr
    have hb1:0<=(k:Int)/\(k:Int)<(c.toNat:Int):=(by omega);have hw1:IntKind.wrap .i64 (8*(k:Int))=((8*k:Nat):Int):=(by rw[vF (by omega) (by omega)];omega);have hw2:IntKind.wrap .i64 ((k:Int)+1)=((k+1:Nat):Int):=(by rw[vF (by omega) (by omega)];omega);have hk0:0<=((8*k:Nat):Int):=(by omega);have hmin:min (8*k) IntKind.i64.bits=8*k:=by show min (8*k) 64=_;omega
    have hnext:∀h3,h3=h2.set g (some (.cells (zb cs (p.n.toNat%64*5+k*5) (cellOf w k).ke) 184))->∃m,m<c.toNat-k/\nB h1 q g gs B p.n.toNat w c G m [pm ((k+1:Nat):Int)] h3:=λh3 e3=>
     ⟨c.toNat-(k+1),by omega,k+1,by omega,rfl,rfl,by rw[e3];exact ef2.set (.inl rfl) _,by rw[e3];have:=hput';unfold Fq at this;rw[<- rj];exact this⟩
    by_cases w1:w.k=1
    ·simp -implicitDefEqProofs only[zw,xf,zF,yc,y6,yj,ks,WZ,Xs,Kk,G5,z8,yY,jm,nth,aaf,aal,aay,aaE,aaC,abf,abD,zb,aaT,abx,aas,abe,Nat.reduceAdd,Int.reduceEq,aba,aam,uD,vN,xw,aap,dy,iR,J7,Lq,Aw,VD,hki,hbx2,hcs,hr2,hb1,hle,hw1,hw2,hk0,hmin,aaw,w1];refine hnext _ ?_;unfold cellOf Cl.ke;simp only[w1,zb,v0,pz,aas,aar,Int.reduceEq]
    ·simp -implicitDefEqProofs only[zw,xf,zF,yc,y6,yj,ks,WZ,Xs,Kk,G5,z8,yY,jm,nth,aaf,aal,aay,aaE,aaC,abf,abD,zb,aaT,abx,aas,abe,Nat.reduceAdd,aba,aam,uD,vN,xw,aap,dy,iR,J7,Lq,Aw,VD,hki,hbx2,hcs,hr2,hb1,hle,hw1,hw2,hk0,hmin,aaw,w1,w2];refine hnext _ ?_;unfold cellOf Cl.ke;simp only[w1,w2,zb,v0,pz,aar]
   ·have hkc:k=c.toNat:=(by omega);subst hkc;have hki:¬(c.toNat:Int)<(c.toNat:Int):=by omega
    simp -implicitDefEqProofs only[zw,xf,zF,yc,yj,ks,Xs,Kk,z8,nth,vN,aap,Aw,VD,hki];exact hend h2 ⟨c.toNat,by omega,by omega,rfl,ef2,full2⟩
end
theorem zeP(h:za):DC Tryz.prog 60 [] h (λv h1=>v=.pointer (some ⟨h.next,0,none⟩)/\DX h1 h.next [] (λb=>b=h.next)/\Xv E5 h h1):=by
 apply YG;intro hwf;have hro:=hwf.2;apply R1;unfold zcL;simp -implicitDefEqProofs only[zw,zF,yc,kU,wt,yY,nw,Value.cells,aaH,ab1,zbx];refine⟨⟨_,[],λ_ _=>False,⟨zv,rfl,rfl,.inl ⟨rfl,rfl⟩,λ_ e=>e,λi p B hp=>by simp at hp,λi j b e=>e.elim,λi b e=>e.elim,λb hb=>?_⟩⟩,(Xv.refl _ _).push _⟩;subst hb;simp only[qZ,yN];omega
theorem oJ(c n:Nat):qh c n≠0:=by
 unfold qh;split
 ·cases Nat.ble n _ <;> simp
 ·simp
theorem Ob(M:MM):live M<=M.length:=List.length_filter_le _ _
theorem T8(M:MM)(B:MB)(hf:B.qy=false):live (M++[B])=live M+1:=by simp[live,hf]
def fresh(n:Int):MB:=⟨n.toNat,false,λ_=>pz⟩
def yJ(M:MM)(n:Int):MM×Int×Int:=if n<0\/65536<n then (M,0,1) else if 100000<=M.length then (M,0,2) else (M++[fresh n],M.length+1,0)
def nu(h:za)(m:Nat)(M:MM)(F:Nat->Prop)(n:Int)(r:aaa)(h1:za):Prop:=r=.tuple #[pm (yJ M n).2.1,pm (yJ M n).2.2]/\FC h m (yJ M n).1 F h1
section
variable {h:za}{m:Nat}{bs:aaa}{ps:List Nat}{fs:Nat->Nat->Prop}{M:MM}{F:Nat->Prop}
theorem Uz.grow(x:Uz h m bs ps fs M F){h1:za}{B:MB}{p q c:Nat}(hf:B.qy=false)(Up:Xv F h h1)(hp:h.next<=p/\p<h1.next)(hq:h.next<=q/\q<h1.next)(hpq:p≠q)(hro:h.ro<=h.next)
  (e1:h1.get m=some (.cells [.slice (some ⟨q,0,none⟩) (M.length+1) c,pm (live M+1:Nat)] 148)) (hc:c≠0) (e2:h1.get q=some (.cells ((ps.map λp => pi p)++[pi p]) 152))
  (e3:h1.get p=some (.cells [pm B.size,pp,.bool B.qy] 155)) (e4:∀b,F b->b≠m->(∀c,bs ≠ .slice (some ⟨b,0,none⟩) M.length c)->h1.get b=h.get b) (hu:∀k,B.byte k=pz) :
  Uz h1 m (.slice (some ⟨q,0,none⟩) (M.length+1) c) (ps++[p]) (λi b=>if i=M.length then b=p else fs i b) (M++[B]) (λb=>F b\/b=p\/b=q):=by
 have hnew:∀b,h.next<=b->F b->False:=λb hl hb=>by have:=(x.ok b hb).2;omega
 have hlp:=x.len;refine⟨by rw[T8 M B hf];exact e1,.inl x.fm,by simp[x.len],?_,?_,?_,?_,?_,?_⟩
 ·refine .inr ⟨q,c,by simp,hc,.inr (.inr rfl),by rw[e2];simp,λi hi=>?_⟩;split at hi
  ·exact hpq hi.symm
  ·exact hnew q hq.1 (x.sub i q hi)
 ·intro i hi;split at hi
  ·subst hi;exact hnew m hp.1 x.fm
  ·exact x.nm i hi
 ·intro i p' B' hp' hB';by_cases e:i=M.length
  ·subst e;rw[<- hlp]at hp';rw[abk (aam _),Nat.sub_self]at hp' hB';simp at hp' hB';subst hp' hB';simp only[aas];exact⟨_,e3,rfl,.empty rfl hu⟩
  ·have hlt:i<M.length:=by
    rcases aax i M.length with a|a
    ·exact a
    ·rw[aak (by simp;omega)]at hB';cases hB'
   rw[aa4 (by omega)]at hp' hB';simp only[aae e];refine(x.qX i p' B' hp' hB').zG (λb hb=>e4 b (x.sub i b hb) (λq=>?_) (λc q=>?_))
   ·subst q;exact x.nm i hb
   ·rcases x.hb with⟨rfl,_⟩|⟨bb,c',r,_,_,_,r5⟩
    ·cases hlt
    ·rw[r]at q;cases q;exact r5 i hb
 ·intro i j b hi hj;split at hi <;> split at hj
  ·rename_i a1 a2;rw[a1,a2]
  ·exact(hnew b (by rw[hi];exact hp.1) (x.sub j b hj)).elim
  ·exact(hnew b (by rw[hj];exact hp.1) (x.sub i b hi)).elim
  ·exact x.RE i j b hi hj
 ·intro i b hi;split at hi
  ·exact .inr (.inl hi)
  ·exact .inl (x.sub i b hi)
 ·intro b hb;have n1:=Up.next;have n2:=Up.ro;rcases hb with hb|hb|hb
  ·have:=x.ok b hb;omega
  ·omega
  ·omega
theorem SO(x:Uz h m bs ps fs M F)(n:Int) :
  DC Tryz.prog 62 [pi m,pm n] h (nu h m M F n):=by
 apply YG;intro hwf;have hro:=hwf.2;apply IC;unfold MH;have hm0:FC h m M F h:=⟨F,⟨bs,ps,fs,x⟩,.refl _ _,λb hb => .inl hb⟩
 have hbad:n<0\/65536<n->nu h m M F n (.tuple #[pm 0,pm 1]) h:=λe=>by
  unfold nu yJ;rw[aai e];exact⟨rfl,hm0⟩
 by_cases h1:n<0
 ·simp -implicitDefEqProofs only[zw,xf,zF,yc,y6,Q2,xX,vg,ql,ks,zI,z8,wt,yY,nw,Value.cells,BK,aaH,aay,uD,yN,zo,UD,jr,dF,QJ,Yg,QN,h1];exact hbad (.inl h1)
 by_cases h2:65536<n
 ·simp -implicitDefEqProofs only[zw,xf,zF,yc,y6,jn,yO,vg,ql,ks,UK,zI,z8,wt,yY,nw,Value.cells,BK,aaH,aay,uD,vN,yN,zo,aap,UD,jr,dF,QJ,Yg,QN,h1,h2];exact hbad (.inr h2)
 have hm:=x.hm;have hln:∀n c,zP Tryz.prog .len [146] 3 [.slice n M.length c] h=some (pm M.length,h):=λ_ _=>by simp only[Kx]
 by_cases h3:100000<=(M.length:Int)
 ·have:nu h m M F n (.tuple #[pm 0,pm 2]) h:=by
   unfold nu yJ;rw[aae (by omega),aai (by omega)];exact⟨rfl,hm0⟩
  rcases x.hb with⟨e1,rfl⟩|⟨bb,c,rfl,hc,fb,hbb,_⟩
  ·rw[e1]at h3;simp at h3
  ·simp -implicitDefEqProofs only[zw,xf,zF,yc,y6,yj,jn,yO,vg,ql,ks,UK,Dc,zI,z8,wt,yD,yY,nw,Value.cells,BK,aaf,aaH,aay,uD,vN,yN,zo,aap,UD,jr,dF,QJ,Yg,QN,Kx,h1,h2,hm,h3];exact this
 have hal:yJ M n=(M++[fresh n],(M.length:Int)+1,0):=by unfold yJ;rw[aae (by omega),aae (by omega)]
 have okm:=x.ok m x.fm;have hl:=Ob M;have hmn:¬m=h.next:=by omega
 have hmn1:¬m=h.next+1:=by omega
 have hmn2:¬m=h.next+1+1:=by omega
 have hw1:IntKind.wrap .i64 ((live M:Int)+1)=((live M+1:Nat):Int):=by rw[vF (by omega) (by omega)];omega
 have hn0:((n.toNat:Nat):Int)=n:=by omega
 have hmn2':¬h.next+1+1=m:=by omega
 have hmn':¬h.next=m:=by omega
 have hm2:m<h.next+1+1:=by omega
 have hm3:m<h.next+1+1+1:=by omega
 have hnb:∀p v e,(h.push (.cells v e)).push (.cells [pi h.next] 152)=p->vW p 1 1 (.slice (some ⟨h.next+1,0,none⟩) 1 3)=some [pi h.next]:=λp v e hp=>by
  subst hp;have:(((h.push (.cells v e)).push (.cells [pi h.next] 152)).get (h.next+1))=some (.cells [pi h.next] 152):=zM rfl;simp only[vW,this];rfl
 have hap:=λv h' hh=>zdT 146 v (.slice (some ⟨h.next+1,0,none⟩) 1 3) 1 [pi h.next] h' rfl (hnb h' [pm n,pp,.bool false] 155 hh) rfl rfl;unfold nu;rw[hal];rcases x.hb with⟨rfl,rfl⟩|⟨bb,c,rfl,hc,fb,hbb,hfb⟩
 ·have hps:ps=[]:=abF.1 x.len;have h30:¬(100000:Int)<=((0:Nat):Int):=by decide
  have hle:h.ro<=m:=okm.1;have hw0:IntKind.wrap .i64 ((live []:Int)+1)=((live []+1:Nat):Int):=rfl;simp -implicitDefEqProofs only[zw,xf,zF,yc,yj,jn,yO,vg,ql,ks,UK,Dc,Xs,zI,z8,wt,yD,yY,jm,Jp,nth,nw,Value.cells,BK,aaf,aal,aaH,aay,aaE,aaC,abf,abD,zb,abb,aa0,aas,aar,abe,Nat.reduceAdd,Nat.reduceLeDiff,Nat.reduceMul,Nat.reduceEqDiff,aba,aam,vN,yN,qZ,fP,zD,yr,oT,xw,zo,aap,UD,jr,S6,Lf,dF,QJ,Yg,QN,Kx,h1,h2,h30,hm,hap,QG,Nat.reducePow,okm,hm2,hw0,aaC];refine⟨rfl,_,⟨_,_,_,x.grow (p:=h.next) (q:=h.next+1+1) (B:=fresh n) rfl (((((((Xv.refl F h).push _).push _).push _).set (.inl x.fm) _).set (.inl x.fm) _)) ?_ ?_ (by omega) hro yr (by simp) ?_ ?_ ?_ (λ_=>rfl)⟩,(((((((Xv.refl F h).push _).push _).push _).set (.inl x.fm) _).set (.inl x.fm) _)),λb hb=>?_⟩
  ·simp only[kQ,yN];omega
  ·simp only[kQ,yN];omega
  ·rw[zU hmn2',zU hmn2',zM (by simp only[yN])];rw[hps];rfl
  ·rw[zU hmn',zU hmn',zD (by simp only[yN];omega)];rw[zD (by simp only[yN];omega),zv];show some (wQ.cells [pm n,_,_] 155)=some (wQ.cells [pm ((n.toNat:Nat):Int),_,_] 155);rw[hn0];rfl
  ·intro b hb hbm1 hbb1;have hlt:=(x.ok b hb).2;rw[zU hbm1,zU hbm1,zD (by simp only[yN];omega)];rw[zD (by simp only[yN];omega),zD hlt]
  ·rcases hb with hb|hb|hb
   ·exact .inl hb
   ·exact .inr (by omega)
   ·exact .inr (by omega)
 ·have okb:=x.ok bb fb
  have hroom:roomFor c (M.length+1) 8=true:=by
   unfold roomFor;cases Nat.beq c 2 <;> simp only[aaB,aaI,ach] <;> omega
  have hlp:M.length<=ps.length:=by rw[x.len];omega
  have hbm:¬bb=m:=by intro e;subst e;rw[hbb]at hm;simp at hm
  have hmb:¬m=bb:=λe=>hbm e.symm;have hb0:¬bb=h.next:=by omega
  have hb2:¬bb=h.next+1+1:=by omega
  have hz:List.take M.length (List.map (λp=>Value.pointer (some ⟨p,0,none⟩)) ps)=List.map (λp=>Value.pointer (some ⟨p,0,none⟩)) ps:=acm (by simp[x.len]);simp -implicitDefEqProofs only[zw,xf,zF,yc,yj,jn,yO,vg,ql,ks,UK,Dc,Xs,zI,z8,wt,yD,yY,jm,Jp,nth,nw,Value.cells,BK,aaf,aal,aaH,aay,aaE,aaC,aav,abf,abD,zb,abb,aa0,aby,aas,aar,abe,Nat.reduceAdd,Nat.reduceLeDiff,Nat.reduceMod,Nat.reduceEqDiff,aba,aam,vN,yN,kQ,qZ,fP,zD,yr,zU,ne_eq,oT,xw,zo,aap,UD,jr,S6,Lf,dF,QJ,Yg,QN,Kx,h1,h2,h3,hm,hap,QG,okb,okm,hbb,hroom,hlp,abA,hc,hmb,hm2,hz,hw1];refine⟨rfl,_,⟨_,_,_,x.grow (p:=h.next) (q:=h.next+1+1) (B:=fresh n) rfl (((((((Xv.refl F h).push _).push _).set (.inl fb) _).push _).set (.inl x.fm) _).set (.inl x.fm) _) ?_ ?_ (by omega) hro yr (oJ _ _) ?_ ?_ ?_ (λ_=>rfl)⟩,(((((((Xv.refl F h).push _).push _).set (.inl fb) _).push _).set (.inl x.fm) _).set (.inl x.fm) _),λb hb=>?_⟩
  ·simp only[kQ,yN];omega
  ·simp only[kQ,yN];omega
  ·rw[zU hmn2',zU hmn2',zM (by simp only[kQ,yN])]
  ·have:¬h.next=bb:=λe=>hb0 e.symm;rw[zU hmn',zU hmn',zD (by simp only[kQ,yN];omega)];rw[zU this];rw[zD (by simp only[yN];omega),zv];show some (wQ.cells [pm n,_,_] 155)=some (wQ.cells [pm ((n.toNat:Nat):Int),_,_] 155);rw[hn0];rfl
  ·intro b hb hbm1 hbb1;have hlt:=(x.ok b hb).2;rw[zU hbm1,zU hbm1,zD (by simp only[kQ,yN];omega)];rw[zU (λe=>hbb1 c (by rw[e]))];rw[zD (by simp only[yN];omega),zD hlt]
  ·rcases hb with hb|hb|hb
   ·exact .inl hb
   ·exact .inr (by omega)
   ·exact .inr (by omega)
end
def iQ(b n:Int):V:=if b<1 then v0 else ⟨2,n,b⟩
def isI(a:Int)(v:aaa)(_:za):Prop:=v=.int .i64 a
section
variable {h:za}{m:Nat}{bs:aaa}{ps:List Nat}{fs:Nat->Nat->Prop}{M:MM}{F:Nat->Prop}
theorem Du(x:Uz h m bs ps fs M F){n:Int}{i:Nat}(hi:idx M n=some i):n=i+1/\i<M.length /\ ∃q B pg,ps[i]? = some q/\M[i]? = some B/\B.qy=false/\h.get q=some (.cells [pm B.size,pg,.bool B.qy] 155)/\fs i q/\UA h pg B (fs i):=by
 obtain⟨hn,B,hB,hf⟩:=Ut hi
 have hlt:i<M.length:=by
  rcases aax i M.length with a|a
  ·exact a
  ·rw[aak a]at hB;cases hB
 obtain⟨q,hq⟩:∃q,ps[i]? = some q:=⟨_,aac (by rw[x.len];exact hlt)⟩;obtain⟨pg,hbk,fq,hpg⟩:=x.qX i q B hq hB;exact⟨hn,hlt,q,B,pg,hq,hB,hf,hbk,fq,hpg⟩
theorem Uz.swap(x:Uz h m bs ps fs M F){h1:za}{i p bb c:Nat}{B:MB}(hbs:bs=.slice (some ⟨bb,0,none⟩) M.length c)(hi:i<M.length)(Up:Xv F h h1)(hp:h.next<=p/\p<h1.next)
  (e1:h1.get m=some (.cells [bs,pm (live (M.set i B))] 148)) (e2:h1.get bb=some (.cells ((ps.set i p).map λp => pi p) 152))
  (e3:h1.get p=some (.cells [pm B.size,pp,.bool B.qy] 155)) (hu:∀k,B.byte k=pz) (e4:∀b,F b->b≠m->b≠bb->h1.get b=h.get b) :
  Uz h1 m bs (ps.set i p) (λk b=>if k=i then b=p else fs k b) (M.set i B) (λb=>F b\/b=p):=by
 have hnew:∀b,h.next<=b->F b->False:=λb hl hb=>by have:=(x.ok b hb).2;omega
 have hlp:=x.len
 have hbb:F bb/\c≠0 /\ ∀i,¬fs i bb:=by
  rcases x.hb with⟨rfl,_⟩|⟨bb',c',r,r1,r2,_,r4⟩
  ·cases hi
  ·rw[hbs]at r;cases r;exact⟨r2,r1,r4⟩
 refine⟨e1,.inl x.fm,by simp[hlp],?_,?_,?_,?_,?_,?_⟩
 ·refine .inr ⟨bb,c,by rw[hbs,abd],hbb.2.1,.inl hbb.1,e2,λk hk=>?_⟩;split at hk
  ·exact hnew bb (by rw[hk];exact hp.1) hbb.1
  ·exact hbb.2.2 k hk
 ·intro k hk;split at hk
  ·exact hnew m (by rw[hk];exact hp.1) x.fm
  ·exact x.nm k hk
 ·intro k q C hq hC;by_cases e:k=i
  ·subst e;rw[aaU (by omega)]at hq hC;cases hq;cases hC;simp only[aas];exact⟨_,e3,rfl,.empty rfl hu⟩
  ·rw[abj (λz=>e z.symm)]at hq hC;simp only[aae e];exact(x.qX k q C hq hC).zG (λb hb=>e4 b (x.sub k b hb) (λz=>by subst z;exact x.nm k hb) (λz=>by subst z;exact hbb.2.2 k hb))
 ·intro a b z ha hz;split at ha <;> split at hz
  ·rename_i e1 e2;rw[e1,e2]
  ·exact(hnew z (by rw[ha];exact hp.1) (x.sub b z hz)).elim
  ·exact(hnew z (by rw[hz];exact hp.1) (x.sub a z ha)).elim
  ·exact x.RE a b z ha hz
 ·intro k b hk;split at hk
  ·exact .inr hk
  ·exact .inl (x.sub k b hk)
 ·intro b hb;have n1:=Up.next;have n2:=Up.ro;have o1:=x.ok m x.fm;rcases hb with hb|hb
  ·have:=x.ok b hb;omega
  ·omega
theorem PV{M:MM}{i:Nat}{B B':MB}(h:M[i]? = some B)(hf:B.qy=false)(hf':B'.qy=true):live (M.set i B')+1=live M:=by
 unfold live
 induction M generalizing i with
 |nil=>cases h
 |cons A M ih=>
  cases i with
  |zero=>simp at h;subst h;simp[hf,hf']
  |succ i=>simp at h;simp only[aa0,abO];split <;> simp[<- ih h]
def gone(B:MB):MB:=⟨B.size,true,λ_=>pz⟩
def Yw(M:MM)(n:Int):Option MM:=(idx M n).bind λi=>(M[i]?).map λB=>M.set i (gone B)
def My(h:za)(m:Nat)(M:MM)(F:Nat->Prop)(n:Int)(r:aaa)(h1:za):Prop:=match Yw M n with
 |none=>r=.bool false/\h1=h
 |some M'=>r=.bool true/\FC h m M' F h1
theorem zbQ(x:Uz h m bs ps fs M F)(hL:M.length<=100000){n:Int}(hn:n<9223372036854775808):DC Tryz.prog 114 [pi m,pm n] h (My h m M F n):=by
 apply YG;intro hwf;have hro:=hwf.2;apply OT;unfold RY;refine vM (by kernel_rfl) rfl (Nu x.r hn) ?_;rintro v h1 ⟨rfl,rfl⟩;cases hi:idx M n with
 |none=>
  simp -implicitDefEqProofs only[zw,zF,yc,y6,vg,kU,Un,zI,z8,wt,abg,nw,Value.cells,aay,zo,UD,jr,mB,Yg,QN,abg,Z5];unfold My Yw;simp only[hi,abg,and_self]
 |some i=>
  obtain⟨hni,hlt,q,B,pg,hq,hB,hf,hbk,fq,_⟩:=Du x hi;have hfm:Yw M n=some (M.set i (gone B)):=by unfold Yw;rw[hi];simp[hB]
  rcases x.hb with⟨rfl,_⟩|⟨bb,c,hbs,hc,fb,hbb,nb⟩
  ·cases hlt
  have hm:=x.hm;have hw:IntKind.wrap .i64 (n-1)=(i:Int):=by rw[vF (by omega) (by omega)];omega
  have hc1:0<=(i:Int)/\(i:Int)<(M.length:Int):=by omega
  have okm:=x.ok m x.fm;have okb:=x.ok bb fb;have hbm:¬bb=m:=by intro e;subst e;rw[hbb]at hm;simp at hm
  have hmb:¬m=bb:=λe=>hbm e.symm;have hb0:¬bb=h1.next:=by omega
  have hm0:¬m=h1.next:=by omega
  have hi1:i+1<=ps.length:=by rw[x.len];omega
  have hlv:=PV (B':=gone B) hB hf rfl;have hl:=Ob M;have hll:((live M:Nat):Int)-1=((live (M.set i (gone B)):Nat):Int):=by omega
  have hlw:IntKind.wrap .i64 (((live M:Nat):Int)-1)=((live (M.set i (gone B)):Nat):Int):=by rw[hll];exact vF (by omega) (by omega)
  have hset:∀v:aaa,zb (ps.map λp=>Value.pointer (some ⟨p,0,none⟩)) i [v]=(ps.map λp=>Value.pointer (some ⟨p,0,none⟩)).set i v:=λv=>rfl;rw[hbs]at hm;simp -implicitDefEqProofs only[zw,zF,yc,yj,vg,kU,Un,zI,z8,wt,yY,jm,fD,aaK,nw,Value.cells,aaf,aal,aay,aaE,aaC,aav,abf,abD,zb,abb,aa0,aas,abe,Nat.reduceAdd,aba,aam,qZ,fP,zD,zU,xw,zo,aap,UD,jr,zdZ,Lf,Lj,VL,Yg,QN,jQ,LO,aaK,Z5,hq,hbk,hm,hw,hc1,hbb,aaw,abA,okb,okm,hmb,hi1,hlw];unfold My;rw[hfm]
  have Up:Xv F h1 (((h1.push (.cells [pm B.size,pp,.bool true] 155)).set bb (some (.cells ((ps.map λp=>Value.pointer (some ⟨p,0,none⟩)).set i (pi h1.next)) 152))).set m
    (some (.cells [.slice (some ⟨bb,0,none⟩) M.length c,pm (live (M.set i (gone B)))] 148))):=(((Xv.refl _ _).push _).set (.inl fb) _).set (.inl x.fm) _
  refine⟨rfl,_,⟨_,_,_,x.swap (p:=h1.next) (B:=gone B) hbs hlt Up ⟨aam _,?_⟩ ?_ ?_ ?_ (λ_=>rfl) ?_⟩,Up,λb hb=>?_⟩
  ·simp only[kQ,yN];omega
  ·rw[yr,hbs]
  ·rw[zU hbm,yr,acF]
  ·have n1:¬h1.next=m:=λe=>hm0 e.symm;have n2:¬h1.next=bb:=λe=>hb0 e.symm;rw[zU n1,zU n2,zv];rfl
  ·intro b hb b1 b2;have:=x.ok b hb;rw[zU b1,zU b2,zD this.2]
  ·rcases hb with hb|hb
   ·exact .inl hb
   ·exact .inr (by omega)
def zc:Cl:=⟨1,0,v0⟩
def Uy(B:MB)(k:Nat):MB:={B with byte:=λa=>if a<k then zc else B.byte a}
theorem Mu(B:MB):Uy B 0=B:=by
 unfold Uy
 congr 1
theorem Mt(B:MB)(k:Nat):{Uy B k with byte:=Fq (Uy B k).byte k zc} = Uy B (k+1):=by
 unfold Uy Fq;simp only[MB.mk.injEq,ab1]
 funext a
 by_cases e:a=k
 ·subst e;rw[aai rfl,aai (by omega)]
 ·rw[aae e];by_cases e2:a<k
  ·rw[aai e2,aai (by omega)]
  ·rw[aae e2,aae (by omega)]
def Xu(M:MM)(n:Int):Option MM:=(idx M n).bind λi=>(M[i]?).map λB=>M.set i (Uy B B.size)
def Nm(h:za)(m:Nat)(M:MM)(F:Nat->Prop)(n:Int)(r:aaa)(h1:za):Prop:=match Xu M n with
 |none=>r=.bool false/\h1=h
 |some M'=>r=.bool true/\FC h m M' F h1
def zfU(h:za)(m:Nat)(bs:aaa)(ps:List Nat)(M:MM)(F:Nat->Prop)(i:Nat)(B:MB)(n:Nat)(vs:List aaa)(h':za):Prop :=
 ∃k fs F',k<=B.size/\n=B.size-k/\vs=[pm k]/\Uz h' m bs ps fs (M.set i (Uy B k)) F'/\Xv F h h' /\ ∀b,F' b->F b\/h.next<=b
theorem Rr{M:MM}{i:Nat}{A B:MB}:(M.set i A).set i B=M.set i B:=by simp
theorem zcF(x:Uz h m bs ps fs M F)(hs:small M){n:Int}(hn:n<9223372036854775808):DC Tryz.prog 63 [pi m,pm n] h (Nm h m M F n):=by
 apply YG;intro hwf;have hro:=hwf.2;apply OV;unfold R2;refine vM (by kernel_rfl) rfl (Nu x.r hn) ?_;rintro v h1 ⟨rfl,rfl⟩;cases hi:idx M n with
 |none=>
  simp -implicitDefEqProofs only[zw,zF,yc,y6,kU,zI,z8,wt,yY,abg,BK,G6,mB,abg,Z5];unfold Nm Xu;simp only[hi,abg,and_self]
 |some i=>
  obtain⟨hni,hlt,q,B,pg,hq,hB,hf,hbk,fq,_⟩:=Du x hi;have hfm:Xu M n=some (M.set i (Uy B B.size)):=by unfold Xu;rw[hi];simp[hB]
  have hz:=hs i B hB;simp -implicitDefEqProofs only[zw,zF,yc,yj,vg,kU,zI,z8,wt,yY,aaK,BK,aaf,zo,jr,G6,VL,jQ,aaK,Z5,hq,hbk];refine qQ (zfU h1 m bs ps M F i B) B.size ⟨0,fs,F,by omega,rfl,rfl,by rw[Mu,Ig hB];exact x,.refl _ _,λb hb => .inl hb⟩ ?_;rintro n' vs h2 ⟨k,fs2,F2,hk,rfl,rfl,y,e2,s2⟩;have hmi:(M.set i (Uy B k))[i]? = some (Uy B k):=aaU hlt;obtain⟨pg2,hbk2,fq2,hpg2⟩:=y.qX i q _ hq hmi;have hzs:(Uy B k).size=B.size:=rfl;have hzf:(Uy B k).qy=B.qy:=rfl;by_cases hki:k<B.size
  ·have hki':(k:Int)<(B.size:Int):=by omega
   have hmd:=zab hbk2 hpg2 fq2 (λb hb=>y.ok b (y.sub i b hb)) (by rw[e2.ro];have:=e2.next;omega) (a:=k) (by omega) (by omega) (by omega);simp -implicitDefEqProofs only[zw,zF,yc,y6,ks,Xs,gj,z8,nth,Int.reduceEq,uD,aap,hki'];refine vM (by kernel_rfl) rfl hmd ?_;rintro v h3 ⟨g,pq,cq,gs,F3,rfl,hbk3,hfull,hgs,fp3,ef3,hsub3,hok3⟩;rw[aaw]at hgs;obtain⟨cs,hcs,hle,hput⟩:=hfull.put hgs;have hput':=hput zc;have hr1:(k:Int).tmod 64=((k%64:Nat):Int):=by rw[abr (by omega)];omega
   have hb1:0<=((k%64:Nat):Int)/\((k%64:Nat):Int)<64:=by omega
   have fg:=(hfull.hg _ g hgs).1;have okg:=(hok3 g fg).1;have hw2:IntKind.wrap .i64 ((k:Int)+1)=((k+1:Nat):Int):=by rw[vF (by omega) (by omega)];omega
   simp -implicitDefEqProofs only[zw,vg,jm,aay,aaE,aaC,abf,abD,zb,aas,abe,Nat.reduceAdd,aba,xw,dy,zez,Z5,hr1,hb1,aaw,hcs,hle,okg,hw2];have hne:q≠g:=by intro e;subst e;rw[hcs]at hbk3;simp at hbk3
   generalize hH:h3.set g _=H
   have hfull2:VR H pq gs (Uy B (k+1)) F3:=by
    rw[<- hH,<- Mt];exact hput'
   have ef4:Xv (fs2 i) h2 H:=by
    rw[<- hH];exact ef3.set (hsub3 g fg) _
   have hbk4:H.get q=some (.cells [pm B.size,.slice (some ⟨pq,0,none⟩) gs.length cq,.bool B.qy] 155):=by
    rw[<- hH,zU hne];exact hbk3
   have hok4:∀b,F3 b->H.ro<=b/\b<H.next:=by
    rw[<- hH];exact hok3
   have z:=y.Fq hq hmi (B':=Uy B (k+1)) rfl ef4 ⟨_,hbk4,fp3,.full pq cq gs rfl hfull2⟩ hsub3 hok4;rw[Rr]at z;have hcl:∀b,fs2 i b->F b\/h1.next<=b:=λb hb=>s2 b (y.sub i b hb);refine⟨B.size-(k+1),by omega,k+1,_,_,by omega,rfl,rfl,z,e2.more ef4 hcl,λb hb=>?_⟩;rcases hb with hb|hb
   ·exact s2 b hb
   ·rcases hsub3 b hb with q|q
    ·exact hcl b q
    ·exact .inr (by have:=e2.next;omega)
  ·have hkb:k=B.size:=by omega
   subst hkb;have hki':¬(B.size:Int)<(B.size:Int):=by omega
   simp -implicitDefEqProofs only[zw,zF,yc,yj,ks,Xs,gj,z8,nth,Int.reduceEq,vN,aap,hki'];unfold Nm;rw[hfm];exact⟨rfl,_,⟨_,_,_,y⟩,e2,s2⟩
end
def Own(H:za)(F:Nat->Prop)(h':za):Prop:=Xv E5 H h' /\ ∀b,F b->H.next<=b
theorem Own.Up{H h1 h2:za}{F:Nat->Prop}(o:Own H F h1)(e:Xv E5 h1 h2):Own H F h2:=⟨o.1.trans e,o.2⟩
end Go.Mem
