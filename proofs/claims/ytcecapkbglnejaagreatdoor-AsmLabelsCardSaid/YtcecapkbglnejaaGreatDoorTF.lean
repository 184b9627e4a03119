/- A part of the proof. -/
import Derived.Test.YtcecapkbglnejaaGreatDoorChecked
import Derived.KernelRfl
import Derived.Test.YtcecapkbglnejaaGreatDoorTE
import Derived.Test.YtcecapkbglnejaaGreatDoorTD
set_option linter.unusedVariables false
set_option linter.unusedSimpArgs false
set_option maxRecDepth 100000
namespace Go.Mem
open Go.Ai Go.Proofs Go.Proofs.Tryz
noncomputable abbrev zz:=prog
abbrev VK:=Value->za->Prop
abbrev LK:=List Value->za->Prop
abbrev ci(n:Int):Operand := .const (.int .i64 n)
abbrev fn(n:Nat):Value := .func (.func n) #[] #[]
variable {h:za}{t0 t1 t2 t3 t4 t5 t6:Value}{R:VK}
def qs:FuncId->Nat:=λg=>0
theorem mixed:prog.follows .mixedOrders=true:=ab6 Tryz.checked
theorem q9{f:FuncId}{args:List Value}{X:Prop}(e:Vz zz (uI zz qs) 200 f args h R=X)(hw:X):DC zz f args h R:=yT mixed (q:=qs) (n:=200) (Eq.mpr e hw)
def PT:=λ(h:za) f c (R:VK)=>
 opt (nb [c,.int .i64 1] (ze zz .lss 3 (.tmp 5) (ci 1) c (.int .i64 1))) λb=>GD b false (λP=>P c h) (λy z=>GD b false (λQ=>Q f z) (λS A=>GD b false (λT=>opt (vd S) λg=>T g A) (λg B=>GD b false (λU=>opt (zb zz 148 g 0) λi=>U i B) (λi j=>GD b false (λV=>opt (zd zz 146 i j) λd=>V d j) (λd C=>GD b false (λW=>xK (nb [d] (zk zz .len [146] 3 [d] C)) λe X=>W e X) (λe D=>GD b false (λY=>opt (nb [y,e] (ze zz .gtr 3 (.tmp 8) (.tmp 13) y e)) λk=>Y k D) (λk E=>opt (pk b (.bool true) k) λa=>GD a false (λZ=>Z f E) (λaa F=>GD a false (λab=>opt (vd aa) λl=>ab l F) (λl G=>GD a false (λac=>opt (zb zz 148 l 0) λm=>ac m G) (λm n=>GD a false (λad=>opt (zd zz 146 m n) λo=>ad o n) (λo H=>GD a false (λae=>ae c H) (λI J=>GD a false (λaf=>opt (nb [I,.int .i64 1] (ze zz .sub 3 (.tmp 21) (ci 1) I (.int .i64 1))) λp=>af p J) (λp K=>GD a false (λag=>opt (zA zz 146 o p) λq=>ag q K) (λq r=>GD a false (λah=>opt (zd zz 152 q r) λs=>ah s r) (λs L=>GD a false (λai=>opt (vd s) λt=>ai t L) (λt M=>GD a false (λaj=>opt (zb zz 155 t 2) λu=>aj u M) (λu v=>GD a false (λak=>opt (zd zz 4 u v) λw=>ak w v) (λw N=>opt (pk a (.bool true) w) λal=>CD al (λO=>rv [.pointer none] N R)
 (λO=>O [.pointer none] N)
 (λau x=>opt (vd f) λam=>opt (zb zz 148 am 0) λan=>opt (zd zz 146 an x) λao=>opt (nb [c,.int .i64 1] (ze zz .sub 3 (.tmp 33) (ci 1) c (.int .i64 1))) λap=>opt (zA zz 146 ao ap) λaq=>opt (zd zz 152 aq x) λar=>rv [ar] x R)) v) M) L) r) K) J) H) n) G) F) E) D) C) j) B) A) z) h
theorem Md(hw:PT h t0 t1 R):DC zz 82 [t0,t1] h R:=q9 (by kernel_rfl) hw
def Hp:=λ(h:za) k (R:VK)=>
 opt (nb [k] (some (Value.cells k).toList)) λs=>nw h s 64 λb a=>opt (zb zz 64 b 0) λt=>opt (zd zz 3 t a) λc=>BK (λu=>opt (nb [c,.int .i64 0] (ze zz .eql 3 (.tmp 4) (ci 0) c (.int .i64 0))) λv=>CD v (λl=>opt (zd zz 64 b a) λm=>opt (nb [] (yU zz 64 [])) λn=>opt (nb [m,n] (ze zz .eql 64 (.tmp 7) (.tmp 8) m n)) λw=>rv [w] a R)
 (λl=>opt (nb [c,.int .i64 1] (ze zz .eql 3 (.tmp 4) (ci 1) c (.int .i64 1))) λx=>CD x (λo=>opt (zb zz 64 b 2) λy=>opt (zd zz 3 y a) λp=>opt (nb [p,.int .i64 0] (ze zz .eql 3 (.tmp 13) (ci 0) p (.int .i64 0))) λz=>rv [z] a R)
 (λo=>o [.bool false] a)
 (λA B=>l [nth A 0] B))
 (λC D=>u [nth C 0] D))
 (λK f=>opt (zb zz 64 b 0) λE=>opt (zd zz 3 E f) λq=>opt (nb [q,.int .i64 2] (ze zz .eql 3 (.tmp 16) (.const (.int .i64 2)) q (.int .i64 2))) λd=>GD d true (λF=>opt (zb zz 64 b 2) λg=>F g f) (λg i=>GD d true (λG=>opt (zd zz 3 g i) λe=>G e i) (λe r=>GD d true (λH=>opt (nb [e,.int .i64 1] (ze zz .geq 3 (.tmp 20) (ci 1) e (.int .i64 1))) λj=>H j r) (λj I=>opt (pk d j (.bool false)) λJ=>rv [J] I R) r) i) f)
theorem Fo(hw:Hp h t0 R):DC zz 125 [t0] h R:=q9 (by kernel_rfl) hw
def Nz:=λ(h:za) (R:VK)=>
 opt (nb [] (yU zz 148 [])) λa=>opt (nb [a] (some (Value.cells a).toList)) λb=>nw h b 148 λc d=>rv [c] d R
theorem Hn(hw:Nz h  R):DC zz 60 [] h R:=q9 (by kernel_rfl) hw
def Ec:=λ(h:za) a b (R:VK)=>
 BK (λA=>opt (nb [b,.int .i64 0] (ze zz .lss 3 (.tmp 7) (ci 0) b (.int .i64 0))) λc=>GD c false (λB=>B b h) (λf g=>GD c false (λC=>opt (nb [f,.int .i64 65536] (ze zz .gtr 3 (.tmp 10) (.const (.int .i64 65536)) f (.int .i64 65536))) λd=>C d g) (λd e=>opt (pk c (.bool true) d) λD=>CD D (λi=>rv [.int .i64 0,.int .i64 1] e R)
 (λi=>opt (vd a) λE=>opt (zb zz 148 E 0) λF=>opt (zd zz 146 F e) λj=>xK (nb [j] (zk zz .len [146] 3 [j] e)) λk l=>opt (nb [k,.int .i64 100000] (ze zz .geq 3 (.tmp 18) (.const (.int .i64 100000)) k (.int .i64 100000))) λG=>CD G (λm=>rv [.int .i64 0,.int .i64 2] l R)
 (λm=>m [.int .i64 0,.int .i64 0] l)
 (λn H=>i [nth n 0,nth n 1] H))
 (λo I=>A [nth o 0,nth o 1] I)) g) h)
 (λaa p=>opt (vd a) λJ=>opt (zb zz 148 J 0) λK=>opt (zd zz 146 K p) λq=>opt (nb [b] (yU zz 155 [(0,b)])) λr=>opt (nb [r] (some (Value.cells r).toList)) λL=>nw p L 155 λs M=>xK (nb [s] (yC zz 146 1 [(0,s)] M)) λt N=>xK (nb [q,t] (zk zz .append [146,146] 146 [q,t] N)) λu O=>opt (vd a) λP=>opt (zb zz 148 P 0) λQ=>opt (nb [u] (zn zz 146 Q u O)) λv=>opt (vd a) λS=>opt (zb zz 148 S 1) λT=>opt (zd zz 3 T v) λw=>opt (nb [w,.int .i64 1] (ze zz .add 3 (.tmp 35) (ci 1) w (.int .i64 1))) λx=>opt (vd a) λU=>opt (zb zz 148 U 1) λV=>opt (nb [x] (zn zz 3 V x v)) λy=>opt (vd a) λW=>opt (zb zz 148 W 0) λX=>opt (zd zz 146 X y) λz=>xK (nb [z] (zk zz .len [146] 3 [z] y)) λY Z=>rv [Y,.int .i64 0] Z R)
theorem B7(hw:Ec h t0 t1 R):DC zz 62 [t0,t1] h R:=q9 (by kernel_rfl) hw
def Ed:=λ(h:za) O m n o (R:VK)=>
 opt (nb [n] (some (Value.cells n).toList)) λP=>nw h P 64 λQ S=>opt (nb [o] (some (Value.cells o).toList)) λT=>nw S T 64 λb p=>opt (zd zz 64 b p) λU=>zR zz (fn 125) [U] p λV q=>opt (dH zz .not V) λW=>CD W (λf=>opt (nb [] (yU zz 64 [])) λr=>opt (nb [r] (zn zz 64 b r q)) λX=>f [] X)
 (λf=>f [] q)
 (λa6 g=>opt (zb zz 64 b 0) λY=>opt (zd zz 3 Y g) λs=>opt (nb [s,.int .i64 2] (ze zz .eql 3 (.tmp 17) (.const (.int .i64 2)) s (.int .i64 2))) λi=>GD i true (λZ=>Z m g) (λt u=>GD i true (λaa=>opt (nb [t,.int .i64 8] (ze zz .neq 3 (.tmp 20) (.const (.int .i64 8)) t (.int .i64 8))) λj=>aa j u) (λj v=>opt (pk i j (.bool false)) λab=>CD ab (λw=>rv [.bool false] v R)
 (λw=>w [.bool false] v)
 (λac x=>opt (zd zz 64 Q x) λad=>zR zz (fn 126) [O,m,ad,.bool true] x λy z=>opt (WM y 0) λc=>opt (WM y 1) λae=>opt (dH zz .not ae) λaf=>CD af (λA=>rv [.bool false] z R)
 (λA=>A [nth ac 0] z)
 (λa7 ag=>xK (nb [c] (zk zz .len [193] 3 [c] ag)) λB ah=>BK (λai=>LP (λa C aj=>opt (nb [nth a 0,B] (ze zz .lss 3 (.tmp 34) (.tmp 33) (nth a 0) B)) λak=>CD ak (λD=>D [] C)
 (λD=>ai [] C)
 (λa8 d=>BK (λal=>opt (zb zz 64 b 0) λam=>opt (zd zz 3 am d) λe=>BK (λan=>opt (nb [e,.int .i64 1] (ze zz .eql 3 (.tmp 38) (ci 1) e (.int .i64 1))) λao=>CD ao (λk=>opt (zb zz 64 b 1) λap=>opt (zd zz 2 ap d) λE=>opt (nb [.int .i64 8,nth a 0] (ze zz .mul 3 (.const (.int .i64 8)) (.tmp 49) (.int .i64 8) (nth a 0))) λF=>opt (nb [E,F] (ze zz .shr 2 (.tmp 48) (.tmp 50) E F)) λG=>xK (nb [G] (qE zz 2 5 G d)) λH aq=>opt (nb [.int .u8 1,H] (yU zz 158 [(0,(.int .u8 1)),(1,H)])) λI=>opt (zA zz 193 c (nth a 0)) λar=>opt (nb [I] (zn zz 158 ar I aq)) λau=>k [] au)
 (λk=>opt (nb [e,.int .i64 2] (ze zz .eql 3 (.tmp 38) (.const (.int .i64 2)) e (.int .i64 2))) λav=>CD av (λl=>xK (nb [nth a 0] (qE zz 3 5 (nth a 0) d)) λJ K=>opt (zd zz 64 b K) λL=>opt (nb [.int .u8 2,J,L] (yU zz 158 [(0,(.int .u8 2)),(1,J),(2,L)])) λM=>opt (zA zz 193 c (nth a 0)) λaw=>opt (nb [M] (zn zz 158 aw M K)) λax=>l [] ax)
 (λl=>opt (nb [] (yU zz 158 [])) λN=>opt (zA zz 193 c (nth a 0)) λay=>opt (nb [N] (zn zz 158 ay N d)) λaz=>l [] az)
 (λa9 a0=>k [] a0))
 (λba a1=>an [] a1))
 (λbb a2=>al [] a2))
 (λbc a3=>opt (nb [nth a 0,.int .i64 1] (ze zz .add 3 (.tmp 34) (ci 1) (nth a 0) (.int .i64 1))) λa4=>aj [a4] a3)))
 [.int .i64 0] ah)
 (λbd a5=>rv [.bool true] a5 R)))) u) g)
theorem B8(hw:Ed h t0 t1 t2 t3 R):DC zz 107 [t0,t1,t2,t3] h R:=q9 (by kernel_rfl) hw
def Hm:=λ(h:za) bd j K (R:VK)=>
 opt (nb [K] (some (Value.cells K).toList)) λbe=>nw h be 64 λbf bg=>opt (wD zz 64) λbh=>nw bg (Value.cells bh).toList 64 λc L=>opt (zd zz 64 bf L) λbi=>zR zz (fn 126) [bd,j,bi,.bool false] L λM N=>opt (WM M 0) λf=>opt (WM M 1) λbj=>opt (nb [f,.slice none 0 0] (ze zz .eql 193 (.tmp 22) (.const (.slice none 0 0)) f (.slice none 0 0))) λbk=>CD bk (λO=>opt (nb [] (yU zz 64 [])) λP=>opt (nb [P] (zn zz 64 c P N)) λQ=>opt (zd zz 64 c Q) λd=>rv [d,bj] Q R)
 (λO=>O [.bool false] N)
 (λbl bm=>opt (nb [j,.int .i64 8] (ze zz .eql 3 (.tmp 26) (.const (.int .i64 8)) j (.int .i64 8))) λbn=>xK (nb [f] (zk zz .len [193] 3 [f] bm)) λS bo=>BK (λbp=>LP (λa T bq=>opt (nb [nth a 3,S] (ze zz .lss 3 (.tmp 30) (.tmp 29) (nth a 3) S)) λbr=>CD br (λU=>U [] T)
 (λU=>bp [nth a 0,nth a 1,nth a 2] T)
 (λdi V=>BK (λbs=>opt (zA zz 193 f (nth a 3)) λbt=>opt (zd zz 158 bt V) λW=>opt (wD zz 158) λbu=>nw V (Value.cells bu).toList 158 λg bv=>opt (nb [W] (zn zz 158 g W bv)) λX=>opt (zb zz 158 g 1) λbw=>opt (zd zz 5 bw X) λY=>xK (nb [Y] (qE zz 5 168 Y X)) λZ aa=>opt (nb [.int .i64 8,nth a 3] (ze zz .mul 3 (.const (.int .i64 8)) (.tmp 39) (.int .i64 8) (nth a 3))) λab=>opt (nb [Z,ab] (ze zz .shl 168 (.tmp 38) (.tmp 40) Z ab)) λac=>opt (nb [nth a 0,ac] (ze zz .or 168 (.tmp 35) (.tmp 41) (nth a 0) ac)) λbx=>GD (nth a 1) true (λbz=>opt (zb zz 158 g 0) λr=>bz r aa) (λr s=>GD (nth a 1) true (λb0=>opt (zd zz 5 r s) λl=>b0 l s) (λl ad=>GD (nth a 1) true (λb1=>opt (nb [l,.int .u8 1] (ze zz .eql 5 (.tmp 46) (.const (.int .u8 1)) l (.int .u8 1))) λt=>b1 t ad) (λt ae=>opt (pk (nth a 1) t (.bool false)) λb2=>GD (nth a 2) true (λb3=>opt (zb zz 158 g 0) λu=>b3 u ae) (λu v=>GD (nth a 2) true (λb4=>opt (zd zz 5 u v) λm=>b4 m v) (λm af=>GD (nth a 2) true (λb5=>opt (nb [m,.int .u8 2] (ze zz .eql 5 (.tmp 52) (.const (.int .u8 2)) m (.int .u8 2))) λw=>b5 w af) (λw ag=>opt (pk (nth a 2) w (.bool false)) λi=>GD i true (λb6=>opt (zb zz 158 g 1) λx=>b6 x ag) (λx y=>GD i true (λb7=>opt (zd zz 5 x y) λn=>b7 n y) (λn ah=>GD i true (λb8=>xK (nb [n] (qE zz 5 3 n ah)) λo b9=>b8 o b9) (λo ai=>GD i true (λca=>ca (nth a 3) ai) (λaj ak=>GD i true (λcb=>opt (nb [o,aj] (ze zz .eql 3 (.tmp 58) (.tmp 59) o aj)) λz=>cb z ak) (λz al=>opt (pk i z (.bool false)) λe=>GD e true (λcc=>opt (zb zz 158 g 2) λA=>cc A al) (λA B=>GD e true (λcd=>opt (zd zz 64 A B) λp=>cd p B) (λp am=>GD e true (λce=>ce f am) (λcf an=>GD e true (λcg=>opt (zA zz 193 cf (.int .i64 0)) λC=>cg C an) (λC ao=>GD e true (λch=>opt (zb zz 158 C 2) λD=>ch D ao) (λD E=>GD e true (λcj=>opt (zd zz 64 D E) λq=>cj q E) (λq ap=>GD e true (λck=>opt (nb [p,q] (ze zz .eql 64 (.tmp 64) (.tmp 68) p q)) λF=>ck F ap) (λF cl=>opt (pk e F (.bool false)) λcm=>bs [bx,b2,cm] cl) ap) E) ao) an) am) B) al) ak) ai) ah) y) ag) af) v) ae) ad) s) aa)
 (λG cn=>opt (nb [nth a 3,.int .i64 1] (ze zz .add 3 (.tmp 30) (ci 1) (nth a 3) (.int .i64 1))) λco=>bq [nth G 0,nth G 1,nth G 2,co] cn)))
 [.int .u64 0,.bool true,bn,.int .i64 0] bo)
 (λb aq=>BK (λcp=>GD (nth b 1) true (λcq=>cq j aq) (λar au=>GD (nth b 1) true (λcr=>opt (nb [ar,.int .i64 8] (ze zz .eql 3 (.tmp 75) (.const (.int .i64 8)) ar (.int .i64 8))) λH=>cr H au) (λH I=>opt (pk (nth b 1) H (.bool false)) λcs=>CD cs (λav=>xK (nb [nth b 0] (qE zz 168 2 (nth b 0) I)) λct cu=>zR zz (fn 64) [ct] cu λaw cv=>opt (nb [aw] (zn zz 64 c aw cv)) λax=>opt (zd zz 64 c ax) λd=>rv [d,.bool true] ax R)
 (λav=>GD (nth b 1) true (λcw=>cw j I) (λay az=>GD (nth b 1) true (λcx=>opt (nb [ay,.int .i64 4] (ze zz .eql 3 (.tmp 84) (.const (.int .i64 4)) ay (.int .i64 4))) λJ=>cx J az) (λJ k=>opt (pk (nth b 1) J (.bool false)) λcy=>CD cy (λa0=>xK (nb [nth b 0] (qE zz 168 21 (nth b 0) k)) λa1 cz=>xK (nb [a1] (qE zz 21 2 a1 cz)) λc0 c1=>zR zz (fn 64) [c0] c1 λa2 c2=>opt (nb [a2] (zn zz 64 c a2 c2)) λa3=>opt (zd zz 64 c a3) λd=>rv [d,.bool true] a3 R)
 (λa0=>CD (nth b 1) (λa4=>xK (nb [nth b 0] (qE zz 168 196 (nth b 0) k)) λa5 c3=>xK (nb [a5] (qE zz 196 2 a5 c3)) λc4 c5=>zR zz (fn 64) [c4] c5 λa6 c6=>opt (nb [a6] (zn zz 64 c a6 c6)) λa7=>opt (zd zz 64 c a7) λd=>rv [d,.bool true] a7 R)
 (λa4=>CD (nth b 2) (λa8=>opt (zA zz 193 f (.int .i64 0)) λc7=>opt (zb zz 158 c7 2) λc8=>opt (zd zz 64 c8 k) λa9=>opt (nb [a9] (zn zz 64 c a9 k)) λba=>opt (zd zz 64 c ba) λd=>rv [d,.bool true] ba R)
 (λa8=>a8 [nth bl 0] k)
 (λc9 da=>a4 [nth c9 0] da))
 (λdb dc=>a0 [nth db 0] dc))
 (λdd de=>av [nth dd 0] de)) az) I)
 (λdf dg=>cp [nth df 0] dg)) au) aq)
 (λdj dh=>opt (nb [] (yU zz 64 [])) λbb=>opt (nb [bb] (zn zz 64 c bb dh)) λbc=>opt (zd zz 64 c bc) λd=>rv [d,.bool true] bc R)))
theorem Fl(hw:Hm h t0 t1 t2 R):DC zz 108 [t0,t1,t2] h R:=q9 (by kernel_rfl) hw
def Ho:=λ(h:za) k l (R:VK)=>
 zR zz (fn 82) [k,l] h λb c=>opt (nb [b,.pointer none] (ze zz .eql 152 (.tmp 10) (.const (.pointer none)) b (.pointer none))) λm=>CD m (λd=>rv [.bool false] c R)
 (λd=>d [.bool false] c)
 (λD e=>opt (vd b) λn=>opt (zb zz 155 n 0) λo=>opt (zd zz 3 o e) λf=>BK (λp=>LP (λa g q=>opt (nb [nth a 0,f] (ze zz .lss 3 (.tmp 16) (.tmp 15) (nth a 0) f)) λr=>CD r (λi=>i [] g)
 (λi=>p [] g)
 (λE s=>BK (λt=>zR zz (fn 83) [b,nth a 0,.bool true] s λu v=>opt (nb [nth a 0,.int .i64 64] (ze zz .rem 3 (.tmp 22) (.const (.int .i64 64)) (nth a 0) (.int .i64 64))) λw=>opt (nb [.int .u8 1] (yU zz 158 [(0,(.int .u8 1))])) λj=>opt (vd u) λx=>opt (zA zz 184 x w) λy=>opt (nb [j] (zn zz 158 y j v)) λz=>t [] z)
 (λF A=>opt (nb [nth a 0,.int .i64 1] (ze zz .add 3 (.tmp 16) (ci 1) (nth a 0) (.int .i64 1))) λB=>q [B] A)))
 [.int .i64 0] e)
 (λG C=>rv [.bool true] C R))
theorem Fm(hw:Ho h t0 t1 R):DC zz 63 [t0,t1] h R:=q9 (by kernel_rfl) hw
def Hl:=λ(h:za) a b (R:VK)=>
 zR zz (fn 82) [a,b] h λc e=>opt (nb [c,.pointer none] (ze zz .eql 152 (.tmp 9) (.const (.pointer none)) c (.pointer none))) λn=>CD n (λf=>rv [.bool false] e R)
 (λf=>f [.bool false] e)
 (λC d=>opt (vd a) λo=>opt (zb zz 148 o 0) λp=>opt (zd zz 146 p d) λq=>opt (nb [b,.int .i64 1] (ze zz .sub 3 (.tmp 15) (ci 1) b (.int .i64 1))) λr=>opt (vd c) λs=>opt (zb zz 155 s 0) λt=>opt (zd zz 3 t d) λg=>opt (nb [g,.bool true] (yU zz 155 [(0,g),(2,(.bool true))])) λi=>opt (nb [i] (some (Value.cells i).toList)) λu=>nw d u 155 λj v=>opt (zA zz 146 q r) λw=>opt (nb [j] (zn zz 152 w j v)) λk=>opt (vd a) λx=>opt (zb zz 148 x 1) λy=>opt (zd zz 3 y k) λl=>opt (nb [l,.int .i64 1] (ze zz .sub 3 (.tmp 27) (ci 1) l (.int .i64 1))) λm=>opt (vd a) λz=>opt (zb zz 148 z 1) λA=>opt (nb [m] (zn zz 3 A m k)) λB=>rv [.bool true] B R)
theorem Fk(hw:Hl h t0 t1 R):DC zz 114 [t0,t1] h R:=q9 (by kernel_rfl) hw
def f7:=λ(h:za) a4 b L a5 (R:VK)=>
 opt (nb [L] (some (Value.cells L).toList)) λa6=>nw h a6 64 λc p=>opt (zb zz 64 c 0) λa7=>opt (zd zz 3 a7 p) λM=>opt (nb [M,.int .i64 2] (ze zz .neq 3 (.tmp 14) (.const (.int .i64 2)) M (.int .i64 2))) λd=>GD d false (λa8=>a8 b p) (λN O=>GD d false (λa9=>opt (nb [N,.int .i64 1] (ze zz .neq 3 (.tmp 17) (ci 1) N (.int .i64 1))) λq=>a9 q O) (λq P=>GD d false (λba=>ba q P) (λr Q=>GD r true (λbb=>bb b Q) (λS T=>GD r true (λbc=>opt (nb [S,.int .i64 4] (ze zz .neq 3 (.tmp 20) (.const (.int .i64 4)) S (.int .i64 4))) λs=>bc s T) (λs U=>GD d false (λbd=>opt (pk r s (.bool false)) λt=>bd t U) (λt V=>GD d false (λbe=>be t V) (λu W=>GD u true (λbf=>bf b W) (λX Y=>GD u true (λbg=>opt (nb [X,.int .i64 8] (ze zz .neq 3 (.tmp 24) (.const (.int .i64 8)) X (.int .i64 8))) λv=>bg v Y) (λv Z=>GD d false (λbh=>opt (pk u v (.bool false)) λw=>bh w Z) (λw aa=>opt (pk d (.bool true) w) λbi=>CD bi (λab=>rv [.slice none 0 0,.bool false] aa R)
 (λab=>ab [.slice none 0 0,.bool false] aa)
 (λac ad=>opt (zb zz 64 c 2) λbj=>opt (zd zz 3 bj ad) λbk=>zR zz (fn 82) [a4,bk] ad λf ae=>opt (nb [f,.pointer none] (ze zz .eql 152 (.tmp 32) (.const (.pointer none)) f (.pointer none))) λg=>GD g false (λbl=>opt (zb zz 64 c 1) λx=>bl x ae) (λx y=>GD g false (λbm=>opt (zd zz 2 x y) λi=>bm i y) (λi af=>GD g false (λbn=>opt (nb [i,.int .i64 0] (ze zz .lss 2 (.tmp 36) (ci 0) i (.int .i64 0))) λz=>bn z af) (λz ag=>opt (pk g (.bool true) z) λa=>GD a false (λbo=>opt (zb zz 64 c 1) λA=>bo A ag) (λA B=>GD a false (λbp=>opt (zd zz 2 A B) λj=>bp j B) (λj ah=>GD a false (λbq=>bq f ah) (λbr ai=>GD a false (λbs=>opt (vd br) λC=>bs C ai) (λC aj=>GD a false (λbt=>opt (zb zz 155 C 0) λD=>bt D aj) (λD E=>GD a false (λbu=>opt (zd zz 3 D E) λk=>bu k E) (λk ak=>GD a false (λbv=>bv b ak) (λal am=>GD a false (λbw=>opt (nb [k,al] (ze zz .sub 3 (.tmp 45) (.tmp 46) k al)) λl=>bw l am) (λl an=>GD a false (λbx=>opt (nb [j,l] (ze zz .gtr 2 (.tmp 41) (.tmp 47) j l)) λF=>bx F an) (λF ao=>opt (pk a (.bool true) F) λe=>GD e false (λbz=>opt (zb zz 64 c 1) λG=>bz G ao) (λG H=>GD e false (λb0=>opt (zd zz 2 G H) λm=>b0 m H) (λm ap=>GD e false (λb1=>b1 b ap) (λaq ar=>GD e false (λb2=>opt (nb [m,aq] (ze zz .rem 2 (.tmp 52) (.tmp 53) m aq)) λn=>b2 n ar) (λn au=>GD e false (λb3=>opt (nb [n,.int .i64 0] (ze zz .neq 2 (.tmp 54) (ci 0) n (.int .i64 0))) λI=>b3 I au) (λI av=>opt (pk e (.bool true) I) λb4=>CD b4 (λaw=>rv [.slice none 0 0,.bool false] av R)
 (λaw=>aw [nth ac 0,nth ac 1] av)
 (λax ay=>opt (zb zz 64 c 1) λb5=>opt (zd zz 2 b5 ay) λb6=>zR zz (fn 83) [f,b6,a5] ay λJ az=>opt (nb [J,.pointer none] (ze zz .eql 159 (.tmp 62) (.const (.pointer none)) J (.pointer none))) λb7=>CD b7 (λa0=>rv [.slice none 0 0,.bool true] az R)
 (λa0=>a0 [nth ax 0,nth ax 1] az)
 (λca K=>opt (zb zz 64 c 1) λb8=>opt (zd zz 2 b8 K) λa1=>opt (nb [a1,.int .i64 64] (ze zz .rem 3 (.tmp 65) (.const (.int .i64 64)) a1 (.int .i64 64))) λo=>opt (vd J) λa2=>opt (nb [o,b] (ze zz .add 3 (.tmp 70) (.tmp 71) o b)) λa3=>opt (nb [a2] (cond (Lq (some o)&&Lq (some a3)) (Il zz 184 a2 (some o) (some a3) K) none)) λb9=>rv [b9,.bool true] K R))) au) ar) ap) H) ao) an) am) ak) E) aj) ai) ah) B) ag) af) y) ae)) Z) Y) W) V) U) T) Q) P) O) p
theorem eJ(hw:f7 h t0 t1 t2 t3 R):DC zz 126 [t0,t1,t2,t3] h R:=q9 (by kernel_rfl) hw
def PS:=λ(h:za) a (R:VK)=>
 opt (wD zz 64) λe=>nw h (Value.cells e).toList 64 λb f=>opt (nb [.int .i64 1,a] (yU zz 64 [(0,(.int .i64 1)),(1,a)])) λc=>opt (nb [c] (zn zz 64 b c f)) λd=>opt (zd zz 64 b d) λg=>rv [g] d R
theorem Mc(hw:PS h t0 R):DC zz 64 [t0] h R:=q9 (by kernel_rfl) hw
def B9:=λ(h:za) a b k (R:VK)=>
 opt (vd a) λy=>opt (zb zz 155 y 1) λz=>opt (zd zz 153 z h) λl=>opt (nb [l,.slice none 0 0] (ze zz .eql 153 (.tmp 10) (.const (.slice none 0 0)) l (.slice none 0 0))) λm=>GD m true (λA=>A k h) (λB d=>opt (pk m B (.bool false)) λC=>CD C (λe=>opt (vd a) λD=>opt (zb zz 155 D 0) λE=>opt (zd zz 3 E d) λn=>opt (nb [n,.int .i64 64] (ze zz .add 3 (.tmp 19) (.const (.int .i64 64)) n (.int .i64 64))) λo=>opt (nb [o,.int .i64 1] (ze zz .sub 3 (.tmp 20) (ci 1) o (.int .i64 1))) λp=>opt (nb [p,.int .i64 64] (ze zz .quo 3 (.tmp 21) (.const (.int .i64 64)) p (.int .i64 64))) λq=>xK (VN zz 153 q q d) λr F=>opt (vd a) λG=>opt (zb zz 155 G 1) λH=>opt (nb [r] (zn zz 153 H r F)) λI=>e [] I)
 (λe=>e [] d)
 (λaj f=>opt (vd a) λJ=>opt (zb zz 155 J 1) λK=>opt (zd zz 153 K f) λs=>opt (nb [s,.slice none 0 0] (ze zz .eql 153 (.tmp 29) (.const (.slice none 0 0)) s (.slice none 0 0))) λL=>CD L (λt=>rv [.pointer none] f R)
 (λt=>t [.pointer none] f)
 (λak c=>opt (vd a) λM=>opt (zb zz 155 M 1) λN=>opt (zd zz 153 N c) λO=>opt (nb [b,.int .i64 64] (ze zz .quo 3 (.tmp 35) (.const (.int .i64 64)) b (.int .i64 64))) λP=>opt (zA zz 153 O P) λQ=>opt (zd zz 159 Q c) λu=>opt (nb [u,.pointer none] (ze zz .eql 159 (.tmp 38) (.const (.pointer none)) u (.pointer none))) λv=>GD v true (λS=>S k c) (λT g=>opt (pk v T (.bool false)) λU=>CD U (λi=>opt (vd a) λV=>opt (zb zz 155 V 1) λW=>opt (zd zz 153 W g) λX=>opt (nb [b,.int .i64 64] (ze zz .quo 3 (.tmp 47) (.const (.int .i64 64)) b (.int .i64 64))) λY=>opt (nb [] (yU zz 184 [])) λw=>opt (nb [w] (some (Value.cells w).toList)) λZ=>nw g Z 184 λx aa=>opt (zA zz 153 X Y) λab=>opt (nb [x] (zn zz 159 ab x aa)) λac=>i [] ac)
 (λi=>i [] g)
 (λal j=>opt (vd a) λad=>opt (zb zz 155 ad 1) λae=>opt (zd zz 153 ae j) λaf=>opt (nb [b,.int .i64 64] (ze zz .quo 3 (.tmp 56) (.const (.int .i64 64)) b (.int .i64 64))) λag=>opt (zA zz 153 af ag) λah=>opt (zd zz 159 ah j) λai=>rv [ai] j R)) c))) h
theorem mY(hw:B9 h t0 t1 t2 R):DC zz 83 [t0,t1,t2] h R:=q9 (by kernel_rfl) hw
end Go.Mem
namespace Go.Ai
open Go.Ai Go.Proofs
abbrev Nu(t k n:Nat):Prop := ∀(b off:Nat),zb Tryz.prog t (.pointer (some ⟨b,off,none⟩)) k=some (.pointer (some ⟨b,off+n,none⟩))
abbrev PM(t k:Nat):Prop := ∀(b off:Nat),zb Tryz.prog t (.pointer (some ⟨b,off,none⟩)) k=some (.pointer (some ⟨b,off,none⟩))
abbrev L7(t:TypeId):Prop := ∀(b off:Nat) (h:za),zd Tryz.prog t (.pointer (some ⟨b,off,none⟩)) h=zw h b off
abbrev TV(t:TypeId)(n:Nat):Prop := ∀(b off:Nat) (h:za),zd Tryz.prog t (.pointer (some ⟨b,off,none⟩)) h=yg h b off n
abbrev T4(t:TypeId):Prop := ∀(b off:Nat) (v:Int) (h:za),zn Tryz.prog t (.pointer (some ⟨b,off,none⟩)) (.int .i64 v) h=vi h b off [(.int .i64 v)]
abbrev TW(t:TypeId):Prop := ∀(b off:Nat) (v:Option Addr) (vl vc:Nat) (h:za),zn Tryz.prog t (.pointer (some ⟨b,off,none⟩)) (.slice v vl vc) h=vi h b off [(.slice v vl vc)]
abbrev TU(t:TypeId)(n:Nat):Prop := ∀(b off:Nat) (l:List Value) (h:za) (_:l.length=n),zn Tryz.prog t (.pointer (some ⟨b,off,none⟩)) (.agg l.toArray) h=vi h b off l
abbrev TT(t e s y:Nat):Prop := ∀(r:TypeId) (v x:Value) (n:Nat) (new:List Value) (h:za) (_:YP x=some n) (_:vE h n s x=some new) (_:new.all wi=true) (_:new.length=n*s),zk Tryz.prog .append [t,t] r [v,x] h=Yq h e s y n new v
abbrev SM(t n:Nat):Prop := ∀(b off len c:Nat) (k:IntKind) (i:Int),zA Tryz.prog t (.slice (some ⟨b,off,none⟩) len c) (.int k i)=if 0<=i/\i<len then some (.pointer (some ⟨b,off+i.toNat*n,none⟩)) else none
abbrev S3(t:TypeId):Prop := ∀(r:TypeId) (a:Option Addr) (n c:Nat) (h:za),zk Tryz.prog .len [t] r [.slice a n c] h=some (.int .i64 n,h)
noncomputable def iX:Array Field:=match Program.underlying Tryz.prog 64 with|some (.struct f)=>f|_ => #[]
theorem Wo:L7 146:=yc (by kernel_rfl)
theorem H5:L7 152:=yc (by kernel_rfl)
theorem dC:L7 153:=yc (by kernel_rfl)
theorem rI:TV 158 5:=u0 (by kernel_rfl) (by kernel_rfl)
theorem iz:L7 159:=yc (by kernel_rfl)
theorem yR:L7 2:=yc (by kernel_rfl)
theorem zh:L7 3:=yc (by kernel_rfl)
theorem CW:L7 4:=yc (by kernel_rfl)
theorem CX:L7 5:=yc (by kernel_rfl)
theorem zq:TV 64 3:=u0 (by kernel_rfl) (by kernel_rfl)
theorem Ol:TT 146 152 1 8:=λr v x n w h h1 h2 h3 h4=>Zi (e:=152) (e2:=152) (by kernel_rfl) (by kernel_rfl) (by kernel_rfl) (by kernel_rfl) (by decide) h1 h2 h3 h4
theorem Ik:TW 146:=λb o _ _ _ h=>uf (by kernel_rfl) b o _ h rfl
theorem Ot(b off:Nat)(v:Option Addr)(h:za):zn Tryz.prog 152 (.pointer (some ⟨b,off,none⟩)) (.pointer v) h=vi h b off [(.pointer v)]:=uf (by kernel_rfl) b off _ h rfl
theorem Ou:TW 153:=λb o _ _ _ h=>uf (by kernel_rfl) b o _ h rfl
theorem QS:TU 158 5:=qf (by kernel_rfl)
theorem C0(b off:Nat)(v:Option Addr)(h:za):zn Tryz.prog 159 (.pointer (some ⟨b,off,none⟩)) (.pointer v) h=vi h b off [(.pointer v)]:=uf (by kernel_rfl) b off _ h rfl
theorem WL:T4 3:=λb o _ h=>uf (by kernel_rfl) b o _ h rfl
theorem zM:TU 64 3:=qf (by kernel_rfl)
theorem Oy:wD Tryz.prog 158=some (.agg #[(.int .u8 0),(.int .u8 0),(.int .i64 0),(.int .i64 0),(.int .i64 0)]):=zE (by kernel_rfl)
theorem vT:wD Tryz.prog 64=some (.agg #[(.int .i64 0),(.int .i64 0),(.int .i64 0)]):=zE (by kernel_rfl)
theorem Mn:yU Tryz.prog 148 []=some (.agg #[(.slice none 0 0),(.int .i64 0)]):=zE (by kernel_rfl)
theorem QT(v0:Int):yU Tryz.prog 155 [(0,(.int .i64 v0))]=some (.agg #[(.int .i64 v0),(.slice none 0 0),(.bool false)]):=zE (by kernel_rfl)
theorem C4(v0:Int)(v2:Bool):yU Tryz.prog 155 [(0,(.int .i64 v0)),(2,(.bool v2))]=some (.agg #[(.int .i64 v0),(.slice none 0 0),(.bool v2)]):=zE (by kernel_rfl)
theorem Mo:yU Tryz.prog 158 []=some (.agg #[(.int .u8 0),(.int .u8 0),(.int .i64 0),(.int .i64 0),(.int .i64 0)]):=zE (by kernel_rfl)
theorem AK(v0:Int):yU Tryz.prog 158 [(0,(.int .u8 v0))]=some (.agg #[(.int .u8 v0),(.int .u8 0),(.int .i64 0),(.int .i64 0),(.int .i64 0)]):=zE (by kernel_rfl)
theorem JF(v0:Int)(v1:Int):yU Tryz.prog 158 [(0,(.int .u8 v0)),(1,(.int .u8 v1))]=some (.agg #[(.int .u8 v0),(.int .u8 v1),(.int .i64 0),(.int .i64 0),(.int .i64 0)]):=zE (by kernel_rfl)
theorem U5(v0:Int)(v1:Int)(v20:Int)(v21:Int)(v22:Int):yU Tryz.prog 158 [(0,(.int .u8 v0)),(1,(.int .u8 v1)),(2,(.agg #[(.int .i64 v20),(.int .i64 v21),(.int .i64 v22)]))]=some (.agg #[(.int .u8 v0),(.int .u8 v1),(.int .i64 v20),(.int .i64 v21),(.int .i64 v22)]):=zE (by kernel_rfl)
theorem y9:yU Tryz.prog 64 []=some (.agg #[(.int .i64 0),(.int .i64 0),(.int .i64 0)]):=zE (by kernel_rfl)
theorem Gc(v0:Int)(v1:Int):yU Tryz.prog 64 [(0,(.int .i64 v0)),(1,(.int .i64 v1))]=some (.agg #[(.int .i64 v0),(.int .i64 v1),(.int .i64 0)]):=zE (by kernel_rfl)
theorem Vh(v0:Option Addr)(h:za):yC Tryz.prog 146 1 [(0,(.pointer v0))] h=some (.slice (some ⟨h.next,0,none⟩) 1 3,h.push (.cells [(.pointer v0)] 152)):=zE (by kernel_rfl)
theorem Ys(n:Int)(h:za):qE Tryz.prog 168 196 (.int .u64 n) h=some (.int .i8 (IntKind.wrap .i8 n),h):=zE (by kernel_rfl)
theorem Vj(n:Int)(h:za):qE Tryz.prog 168 2 (.int .u64 n) h=some (.int .i64 (IntKind.wrap .i64 n),h):=zE (by kernel_rfl)
theorem XE(n:Int)(h:za):qE Tryz.prog 168 21 (.int .u64 n) h=some (.int .i32 (IntKind.wrap .i32 n),h):=zE (by kernel_rfl)
theorem X9(n:Int)(h:za):qE Tryz.prog 196 2 (.int .i8 n) h=some (.int .i64 (IntKind.wrap .i64 n),h):=zE (by kernel_rfl)
theorem Xc(n:Int)(h:za):qE Tryz.prog 21 2 (.int .i32 n) h=some (.int .i64 (IntKind.wrap .i64 n),h):=zE (by kernel_rfl)
theorem Da(n:Int)(h:za):qE Tryz.prog 2 5 (.int .i64 n) h=some (.int .u8 (IntKind.wrap .u8 n),h):=zE (by kernel_rfl)
theorem iM(n:Int)(h:za):qE Tryz.prog 3 5 (.int .i64 n) h=some (.int .u8 (IntKind.wrap .u8 n),h):=zE (by kernel_rfl)
theorem aP(n:Int)(h:za):qE Tryz.prog 5 168 (.int .u8 n) h=some (.int .u64 (IntKind.wrap .u64 n),h):=zE (by kernel_rfl)
theorem IG(n:Int)(h:za):qE Tryz.prog 5 3 (.int .u8 n) h=some (.int .i64 (IntKind.wrap .i64 n),h):=zE (by kernel_rfl)
theorem aS(x y:Operand):ze Tryz.prog .eql 152 x y (.pointer none) (.pointer none)=some (.bool true):=zE (by kernel_rfl)
theorem A5(x y:Operand):ze Tryz.prog .eql 153 x y (.slice none 0 0) (.slice none 0 0)=some (.bool true):=zE (by kernel_rfl)
theorem aT(x y:Operand):ze Tryz.prog .eql 159 x y (.pointer none) (.pointer none)=some (.bool true):=zE (by kernel_rfl)
theorem A6(x y:Operand):ze Tryz.prog .eql 193 x y (.slice none 0 0) (.slice none 0 0)=some (.bool true):=zE (by kernel_rfl)
theorem XL(x y:Operand)(a:Addr):ze Tryz.prog .eql 152 x y (.pointer (some a)) (.pointer none)=some (.bool false):=Sn (e:=155) (by kernel_rfl) a
theorem aU(x y:Operand)(a:Addr)(n c:Nat):ze Tryz.prog .eql 153 x y (.slice (some a) n c) (.slice none 0 0)=some (.bool false):=Pl (e:=159) (by kernel_rfl) a n c
theorem fN(x y:Operand)(a:Addr):ze Tryz.prog .eql 159 x y (.pointer (some a)) (.pointer none)=some (.bool false):=Sn (e:=184) (by kernel_rfl) a
theorem MA(x y:Operand)(a:Addr)(n c:Nat):ze Tryz.prog .eql 193 x y (.slice (some a) n c) (.slice none 0 0)=some (.bool false):=Pl (e:=158) (by kernel_rfl) a n c
theorem U8(x y:Operand)(a0:Int)(a1:Int)(a2:Int)(b0:Int)(b1:Int)(b2:Int):ze Tryz.prog .eql 64 x y (.agg #[(.int .i64 a0),(.int .i64 a1),(.int .i64 a2)]) (.agg #[(.int .i64 b0),(.int .i64 b1),(.int .i64 b2)])=some (.bool ((a0 == b0)&&((a1 == b1)&&((a2 == b2))))):=(WK (fs:=iX) (r:=(a0 == b0)&&((a1 == b1)&&((a2 == b2)))) (by kernel_rfl) (by kernel_rfl) (by kernel_rfl) rfl rfl (Eq.trans (b:=(cond (a0 == b0) (cond (a1 == b1) (cond (a2 == b2) (some true) (some false)) (some false)) (some false))) (by kernel_rfl) (by cases (a0 == b0) <;> cases (a1 == b1) <;> cases (a2 == b2) <;> rfl))).1
theorem Ze:PM 148 0:=λb o=>zE (by kernel_rfl)
theorem Vl:Nu 148 1 1:=λb o=>zE (by kernel_rfl)
theorem kQ:PM 155 0:=λb o=>zE (by kernel_rfl)
theorem Uv:Nu 155 1 1:=λb o=>zE (by kernel_rfl)
theorem Bb:Nu 155 2 2:=λb o=>zE (by kernel_rfl)
theorem IQ:PM 158 0:=λb o=>zE (by kernel_rfl)
theorem IS:Nu 158 1 1:=λb o=>zE (by kernel_rfl)
theorem Uw:Nu 158 2 2:=λb o=>zE (by kernel_rfl)
theorem wA:PM 64 0:=λb o=>zE (by kernel_rfl)
theorem wx:Nu 64 1 1:=λb o=>zE (by kernel_rfl)
theorem uR:Nu 64 2 2:=λb o=>zE (by kernel_rfl)
theorem Dr:SM 146 1:=λb o l c k i=>xp (e:=152) (by kernel_rfl) (by kernel_rfl)
theorem lB:SM 153 1:=λb o l c k i=>xp (e:=159) (by kernel_rfl) (by kernel_rfl)
theorem OV(b off:Nat)(k:IntKind)(i:Int):zA Tryz.prog 184 (.pointer (some ⟨b,off,none⟩)) (.int k i)=if 0<=i/\i<64 then some (.pointer (some ⟨b,off+i.toNat*5,none⟩)) else none:=UY (e:=158) (len:=64) (by kernel_rfl) (by kernel_rfl)
theorem XH:SM 193 5:=λb o l c k i=>xp (e:=158) (by kernel_rfl) (by kernel_rfl)
theorem VZ:S3 146:=λr a n c h=>zE (by kernel_rfl)
theorem Qg:S3 193:=λr a n c h=>zE (by kernel_rfl)
theorem O3(k k2:IntKind)(l c:Int)(h:za)(h0:0<=l)(h1:l<=c)(h2:c<2^31):VN Tryz.prog 153 (.int k l) (.int k2 c) h=some (.slice (some ⟨h.next,0,none⟩) l.toNat (c.toNat+2),h.push (.cells (Ya [(.pointer none)] (c.toNat*1)) 159)):=Ia (e:=159) (z:=(.pointer none)) (n:=1) (bytes:=8) (by kernel_rfl) (by kernel_rfl) (by kernel_rfl) rfl (by decide) (by decide) rfl h0 h1 h2
theorem LH(b off:Nat)(lo hi:Option Value)(h:za):Il Tryz.prog 184 (.pointer (some ⟨b,off,none⟩)) lo hi h=(qP hi 64 64).bind λhh=>(qP lo 0 hh).bind λl=>some (.slice (some ⟨b,off+(if 64=l then 0 else l*5),none⟩) (hh-l) 0):=FY (e:=158) (k:=64) (by kernel_rfl) (by kernel_rfl)
end Go.Ai
namespace Go.Mem
open Go.Ai Go.Proofs
structure V where
 k:Int
 n:Int
 b:Int
 deriving DecidableEq
def V.Xk(v:V):List Value:=[.int .i64 v.k,.int .i64 v.n,.int .i64 v.b]
def V.val(v:V):Value := .agg #[.int .i64 v.k,.int .i64 v.n,.int .i64 v.b]
def v0:V:=⟨0,0,0⟩
structure Cl where
 k:Int
 n:Int
 p:V
 deriving DecidableEq
def Cl.Xk(c:Cl):List Value:=[.int .u8 c.k,.int .u8 c.n,.int .i64 c.p.k,.int .i64 c.p.n,.int .i64 c.p.b]
def fB:Cl:=⟨0,0,v0⟩
structure MB where
 size:Nat
 jQ:Bool
 byte:Nat->Cl
abbrev MM:=List MB
def j6:Option Nat->Value
 |none => .pointer none
 |some g => .pointer (some ⟨g,0,none⟩)
def fZ(h:za)(g:Nat)(f:Nat->Cl):Prop := ∃cs,h.get g=some (.cells cs 184)/\cs.length=320 /\ ∀k j,k<64->j<5->cs[k*5+j]? = (f k).Xk[j]?
structure XR (h:za) (q:Nat) (gs:List (Option Nat)) (B:MB) (F:Nat->Prop):Prop where
 hl:gs.length=(B.size+63)/64
 fq:F q
 hq:h.get q=some (.cells (gs.map j6) 159)
 hg:∀(j g:Nat),gs[j]? = some (some g)->F g/\fZ h g (λk=>B.byte (64*j+k))
 hn:∀j:Nat,gs[j]? = some none->∀k,k<64->B.byte (64*j+k)=fB
 hd:∀i j g:Nat,gs[i]? = some (some g)->gs[j]? = some (some g)->i=j
 ht:∀k,64*gs.length<=k->B.byte k=fB
inductive Wl (h:za) (pg:Value) (B:MB) (F:Nat->Prop):Prop
 |empty (e:pg=.slice none 0 0) (u:∀k,B.byte k=fB):Wl h pg B F
 |full (q c:Nat) (gs:List (Option Nat)) (e:pg=.slice (some ⟨q,0,none⟩) gs.length c) (x:XR h q gs B F):Wl h pg B F
def fV(h:za)(p:Nat)(B:MB)(F:Nat->Prop):Prop := ∃pg,h.get p=some (.cells [.int .i64 B.size,pg,.bool B.jQ] 155)/\F p/\Wl h pg B F
def live(M:MM):Nat:=(M.filter λB => !B.jQ).length
structure mA (h:za) (m:Nat) (bs:Value) (ps:List Nat) (fs:Nat->Nat->Prop) (M:MM) (F:Nat->Prop):Prop where
 hm:h.get m=some (.cells [bs,.int .i64 (live M)] 148)
 fm:F m
 len:ps.length=M.length
 hb:(M=[]/\bs=.slice none 0 0) \/ ∃bb c,bs=.slice (some ⟨bb,0,none⟩) M.length c/\c≠0/\F bb/\h.get bb=some (.cells (ps.map λp => .pointer (some ⟨p,0,none⟩)) 152) /\ ∀i,¬fs i bb
 nm:∀i,¬fs i m
 YR:∀i p B,ps[i]? = some p->M[i]? = some B->fV h p B (fs i)
 Hc:∀i j b,fs i b->fs j b->i=j
 sub:∀i b,fs i b->F b
 ok:∀b,F b->True/\b<h.next
structure Wk (h:za) (m:Nat) (bs:Value) (ps:List Nat) (fs:Nat->Nat->Prop) (M:MM) (F:Nat->Prop):Prop where
 hm:h.get m=some (.cells [bs,.int .i64 (live M)] 148)
 fm:F m
 len:ps.length=M.length
 hb:(M=[]/\bs=.slice none 0 0) \/ ∃bb c,bs=.slice (some ⟨bb,0,none⟩) M.length c/\c≠0/\F bb/\h.get bb=some (.cells (ps.map λp => .pointer (some ⟨p,0,none⟩)) 152) /\ ∀i,¬fs i bb
 nm:∀i,¬fs i m
 YR:∀i p B,ps[i]? = some p->M[i]? = some B->fV h p B (fs i)
 Hc:∀i j b,fs i b->fs j b->i=j
 sub:∀i b,fs i b->F b
 ok:∀b,F b->h.ro<=b/\b<h.next
theorem Wk.r{h:za}{m:Nat}{bs:Value}{ps:List Nat}{fs:Nat->Nat->Prop}{M:MM}{F:Nat->Prop}(x:Wk h m bs ps fs M F):mA h m bs ps fs M F:=⟨x.hm,x.fm,x.len,x.hb,x.nm,x.YR,x.Hc,x.sub,λb hb=>⟨trivial,(x.ok b hb).2⟩⟩
def pM(h:za)(m:Nat)(M:MM)(F:Nat->Prop):Prop := ∃bs ps fs,Wk h m bs ps fs M F
structure Z5 (F:Nat->Prop) (h h':za):Prop where
 next:h.next<=h'.next
 ro:h'.ro=h.ro
 get:∀b,¬F b->b<h.next->h'.get b=h.get b
theorem Z5.refl(F:Nat->Prop)(h:za):Z5 F h h:=⟨aal _,rfl,λ_ _ _=>rfl⟩
theorem Z5.trans{F:Nat->Prop}{a b c:za}(x:Z5 F a b)(y:Z5 F b c):Z5 F a c :=
 ⟨aaY x.next y.next,y.ro.trans x.ro,λi hi hlt=>(y.get i hi (aan hlt x.next)).trans (x.get i hi hlt)⟩
theorem Z5.mono{F G:Nat->Prop}{a b:za}(x:Z5 F a b)(h:∀i,F i->G i):Z5 G a b:=⟨x.next,x.ro,λi hi hlt=>x.get i (λe=>hi (h i e)) hlt⟩
def ss:Nat->Prop:=λ_=>False
theorem Z5.push{F:Nat->Prop}{h h':za}(x:Z5 F h h')(o:vg):Z5 F h (h'.push o) :=
 ⟨abG x.next,x.ro,λb hb hlt=>(zL (aan hlt x.next)).trans (x.get b hb hlt)⟩
theorem Z5.set{F:Nat->Prop}{h h':za}(x:Z5 F h h'){b:Nat}(hb:F b\/h.next<=b)(o:Option vg):Z5 F h (h'.set b o) :=
 ⟨x.next,x.ro,λc hc hlt=>(zP (by rcases hb with e|e; (intro q;subst q;exact hc e);omega)).trans (x.get c hc hlt)⟩
section mono
variable {h h':za}
theorem fZ.zE{g:Nat}{f:Nat->Cl}(x:fZ h g f)(e:h'.get g=h.get g):fZ h' g f:=by obtain⟨cs,a,b⟩:=x;exact⟨cs,e.trans a,b⟩
theorem XR.zE{q:Nat}{gs:List (Option Nat)}{B:MB}{F:Nat->Prop}(x:XR h q gs B F)(e:∀b,F b->h'.get b=h.get b):XR h' q gs B F :=
 ⟨x.hl,x.fq,(e q x.fq).trans x.hq,λj g hj=>⟨(x.hg j g hj).1,(x.hg j g hj).2.zE (e g (x.hg j g hj).1)⟩,x.hn,x.hd,x.ht⟩
theorem XR.more{q:Nat}{gs:List (Option Nat)}{B:MB}{F G:Nat->Prop}(x:XR h q gs B F)(e:∀b,F b->G b):XR h q gs B G :=
 ⟨x.hl,e q x.fq,x.hq,λj g hj=>⟨e _ (x.hg j g hj).1,(x.hg j g hj).2⟩,x.hn,x.hd,x.ht⟩
theorem Wl.zE{pg:Value}{B:MB}{F:Nat->Prop}(x:Wl h pg B F)(e:∀b,F b->h'.get b=h.get b):Wl h' pg B F:=by
 cases x with
 |empty a b=>exact .empty a b
 |full q c gs a x=>exact .full q c gs a (x.zE e)
theorem Wl.more{pg:Value}{B:MB}{F G:Nat->Prop}(x:Wl h pg B F)(e:∀b,F b->G b):Wl h pg B G:=by
 cases x with
 |empty a b=>exact .empty a b
 |full q c gs a x=>exact .full q c gs a (x.more e)
theorem fV.zE{p:Nat}{B:MB}{F:Nat->Prop}(x:fV h p B F)(e:∀b,F b->h'.get b=h.get b):fV h' p B F:=by
 obtain⟨pg,a,b,c⟩:=x;exact⟨pg,(e p b).trans a,b,c.zE e⟩
theorem fV.more{p:Nat}{B:MB}{F G:Nat->Prop}(x:fV h p B F)(e:∀b,F b->G b):fV h p B G:=by
 obtain⟨pg,a,b,c⟩:=x;exact⟨pg,a,e p b,c.more e⟩
theorem mA.zE{m:Nat}{bs:Value}{ps:List Nat}{fs:Nat->Nat->Prop}{M:MM}{F:Nat->Prop}(x:mA h m bs ps fs M F)(e:∀b,F b->h'.get b=h.get b)(hn:h.next<=h'.next):mA h' m bs ps fs M F :=
 ⟨(e m x.fm).trans x.hm,x.fm,x.len,by
   rcases x.hb with a|⟨bb,c,a,b,d,g,o⟩
   ·exact .inl a
   ·exact .inr ⟨bb,c,a,b,d,(e bb d).trans g,o⟩,x.nm,λi p B hp hB=>(x.YR i p B hp hB).zE (λb hb=>e b (x.sub i b hb)),x.Hc,x.sub,λb hb=>by
    exact⟨trivial,aan (x.ok b hb).2 hn⟩⟩
theorem Wk.zE{m:Nat}{bs:Value}{ps:List Nat}{fs:Nat->Nat->Prop}{M:MM}{F:Nat->Prop}(x:Wk h m bs ps fs M F)(e:∀b,F b->h'.get b=h.get b)(hn:h.next<=h'.next)(hr:h'.ro=h.ro):Wk h' m bs ps fs M F :=
 ⟨(e m x.fm).trans x.hm,x.fm,x.len,by
   rcases x.hb with a|⟨bb,c,a,b,d,g,o⟩
   ·exact .inl a
   ·exact .inr ⟨bb,c,a,b,d,(e bb d).trans g,o⟩,x.nm,λi p B hp hB=>(x.YR i p B hp hB).zE (λb hb=>e b (x.sub i b hb)),x.Hc,x.sub,λb hb=>by
    have:=x.ok b hb;rw[hr];omega⟩
theorem pM.zE{m:Nat}{M:MM}{F:Nat->Prop}(x:pM h m M F)(e:∀b,F b->h'.get b=h.get b)(hn:h.next<=h'.next)(hr:h'.ro=h.ro):pM h' m M F:=by
 obtain⟨bs,ps,fs,x⟩:=x;exact⟨bs,ps,fs,x.zE e hn hr⟩
theorem pM.Wa{m:Nat}{M:MM}{F G:Nat->Prop}(x:pM h m M F)(e:Z5 G h h')(hd:∀b,F b->¬G b):pM h' m M F:=by
 obtain⟨bs,ps,fs,x⟩:=x;exact⟨bs,ps,fs,x.zE (λb hb=>e.get b (hd b hb) (x.ok b hb).2) e.next e.ro⟩
end mono
theorem Lc{M:MM}{i:Nat}{B B':MB}(h:M[i]? = some B)(hf:B'.jQ=B.jQ):live (M.set i B')=live M:=by
 unfold live
 induction M generalizing i with
 |nil=>rfl
 |cons A M ih=>
  cases i with
  |zero=>simp at h;subst h;simp[hf,abF];split <;> rfl
  |succ i=>simp at h;simp only[aa3,abF];split <;> simp[ih h]
theorem BQ{M:MM}{i:Nat}{B:MB}(h:M[i]? = some B):M.set i B=M:=by
 apply abe;intro j;by_cases e:i=j
 ·subst e
  have hlt:i<M.length:=by
   rcases aaA i M.length with a|a
   ·exact a
   ·rw[aao a]at h;cases h
  rw[aaZ hlt,h]
 ·rw[abo e]
theorem Wk.sN{h h1:za}{m:Nat}{bs:Value}{ps:List Nat}{fs:Nat->Nat->Prop}{M:MM}{F:Nat->Prop}(x:Wk h m bs ps fs M F){i q:Nat}{B B':MB}{F2:Nat->Prop}(hq:ps[i]? = some q)(hB:M[i]? = some B)(hf:B'.jQ=B.jQ)
  (Wa:Z5 (fs i) h h1) (hb:fV h1 q B' F2) (h2:∀b,F2 b->fs i b\/h.next<=b) (h3:∀b,F2 b->h1.ro<=b/\b<h1.next) :
  Wk h1 m bs ps (λk=>if k=i then F2 else fs k) (M.set i B') (λb=>F b\/F2 b):=by
 have old:∀b,F b->¬fs i b->h1.get b=h.get b:=λb hb hn=>Wa.get b hn (x.ok b hb).2;have hnew:∀b,h.next<=b->F b->False:=λb hl hb=>by have:=(x.ok b hb).2;omega
 have hlt:i<M.length:=by
  rcases aaA i M.length with a|a
  ·exact a
  ·rw[aao a]at hB;cases hB
 refine⟨by rw[old m x.fm (x.nm i),x.hm,Lc hB hf],.inl x.fm,by rw[x.len,abf],?_,?_,?_,?_,?_,?_⟩
 ·rcases x.hb with⟨rfl,_⟩|⟨bb,c,e1,e2,e3,e4,e5⟩
  ·cases hB
  ·refine .inr ⟨bb,c,by rw[e1,abf],e2,.inl e3,(old bb e3 (e5 i)).trans e4,λk hk=>?_⟩;split at hk
   ·rcases h2 bb hk with a|a
    ·exact e5 i a
    ·exact hnew bb a e3
   ·exact e5 k hk
 ·intro k hk;split at hk
  ·rcases h2 m hk with a|a
   ·exact x.nm i a
   ·exact hnew m a x.fm
  ·exact x.nm k hk
 ·intro k p C hp hC;by_cases e:k=i
  ·subst e;rw[aaZ hlt]at hC;cases hC;rw[hq]at hp;cases hp;simp only[aam];exact hb
  ·rw[abo (λq=>e q.symm)]at hC;simp only[aak e];exact(x.YR k p C hp hC).zE (λb hb=>old b (x.sub k b hb) (λhc=>e (x.Hc k i b hb hc)))
 ·intro a b z ha hz;split at ha <;> split at hz
  ·rename_i e1 e2;rw[e1,e2]
  ·rename_i e1 e2;rcases h2 z ha with c|c
   ·exact absurd (x.Hc b i z hz c) e2
   ·exact(hnew z c (x.sub b z hz)).elim
  ·rename_i e1 e2;rcases h2 z hz with c|c
   ·exact absurd (x.Hc a i z ha c) e1
   ·exact(hnew z c (x.sub a z ha)).elim
  ·exact x.Hc a b z ha hz
 ·intro k b hk;split at hk
  ·exact .inr hk
  ·exact .inl (x.sub k b hk)
 ·intro b hb;have n1:=Wa.next;have n2:=Wa.ro;rcases hb with hb|hb
  ·have:=x.ok b hb;omega
  ·exact h3 b hb
def Q2(v:V):Bool:=if v.k=0 then (v.n == 0&&v.b == 0) else if v.k=1 then v.b == 0 else v.k == 2&&decide (1<=v.b)
theorem Qd(v:V)(h:za):vH Tryz.prog 125 [v.val] h (.bool (Q2 v)):=by
 refine vH.of rfl ?_;obtain⟨k,n,b⟩:=v;apply Fo;unfold Hp V.val Q2;by_cases h0:k=0
 ·subst h0;simp -implicitDefEqProofs only[zu,zG,zU,yS,z7,qS,Xo,zH,zS,yO,nth,nw,Value.cells,BK,aaf,aaj,aaF,aau,aaB,aaz,abt,aaT,abr,aac,aat,abO,Nat.reduceAdd,Int.reduceEq,aal,uH,vJ,WV,zJ,yg,zw,aaq,ab9,zh,zq,y9,U8,wA,uR]
  try rfl
 ·by_cases h1:k=1
  ·subst h1;simp -implicitDefEqProofs only[zu,zG,zU,yS,z7,qS,Xo,zH,zS,yO,nw,Value.cells,BK,aaf,aaj,aaF,aau,aaB,aaz,abt,aaT,abr,aac,aat,Nat.reduceAdd,aal,uH,vJ,WV,zJ,yg,zw,aaq,zh,zq,y9,U8,wA,uR,h0]
   try rfl
  ·by_cases h2:k=2
   ·subst h2;simp -implicitDefEqProofs only[zu,zG,zU,z7,jo,wt,qS,oM,Xo,zH,zS,yO,nth,nw,Value.cells,BK,aaf,aaj,aaF,aau,aaB,aaz,abt,aaT,abr,aac,aat,abO,Nat.reduceAdd,aal,uH,vJ,WV,zJ,yg,zw,aaq,ab9,zh,zq,y9,U8,wA,uR,h0,h1]
    try rfl
   ·simp -implicitDefEqProofs only[zu,zG,zU,z7,Zm,yq,qS,Xo,zH,zS,yO,nth,nw,Value.cells,BK,aaf,aaj,aaF,aau,aaB,aaz,abt,aaT,abr,aac,aat,Nat.reduceAdd,aal,vJ,WV,zJ,yg,zw,aaq,zh,zq,y9,U8,wA,uR,h0,h1,h2];simp[h2]
theorem ZZ(n:Int)(h:za):DC Tryz.prog 64 [.int .i64 n] h (λv h1=>v=V.val ⟨1,n,0⟩/\Z5 ss h h1):=by
 apply Y3;intro hwf;have hro:=hwf.2;apply Mc;unfold PS V.val;simp -implicitDefEqProofs only[zu,zG,zU,qS,zS,yO,kd,nw,Value.cells,aaF,aau,aaB,aaz,aba,abu,zf,aa8,aa3,abt,aaT,abr,aac,aa9,Nat.reduceAdd,abg,ace,aal,qz,zJ,ye,vi,yg,zq,zM,vT,Gc,hro];exact((Z5.refl _ _).push _).set (.inr (aal _)) _
theorem Yo{n:Int}(h1 : -9223372036854775808<=n)(h2:n<9223372036854775808):IntKind.wrap .i64 n=n:=by
 simp only[IntKind.wrap,IntKind.bits,IntKind.signed];simp;omega
def idx(M:MM)(n:Int):Option Nat:=if 1<=n/\n<=M.length then (match M[n.toNat-1]? with
 |some B=>if B.jQ=true then none else some (n.toNat-1)
 |none=>none) else none
theorem lz{M:MM}{n:Int}{i:Nat}(h:idx M n=some i):n=i+1 /\ ∃B,M[i]? = some B/\B.jQ=false:=by
 unfold idx at h;split at h
 case isFalse=>cases h
 rename_i hn;split at h
 case h_2=>cases h
 rename_i B hB;split at h
 case isTrue=>cases h
 rename_i hf;simp only[aab]at h;subst h;exact⟨by omega,B,hB,by simpa using hf⟩
theorem MJ{ps:List Nat}{i p:Nat}(h:ps[i]? = some p):(ps.map λp=>Value.pointer (some ⟨p,0,none⟩))[i]? = some (.pointer (some ⟨p,0,none⟩)):=by simp[h]
theorem Ew{h:za}{m:Nat}{bs:Value}{ps:List Nat}{fs:Nat->Nat->Prop}{M:MM}{F:Nat->Prop}(x:mA h m bs ps fs M F){n:Int}(hn:n<9223372036854775808) :
  DC Tryz.prog 82 [.pointer (some ⟨m,0,none⟩),.int .i64 n] h (λv h1=>h1=h/\v=j6 ((idx M n).bind λi=>ps[i]?)):=by
 apply Md;unfold PT;have hm:=x.hm;by_cases h1:n<1
 ·have e:idx M n=none:=by unfold idx;rw[aak (by omega)]
  simp -implicitDefEqProofs only[zu,zG,zU,yS,VC,wt,vm,qS,qF,X8,zH,zS,wB,abb,abg,uH,zw,Wo,Ze,h1,e,abb,j6]
 ·rcases x.hb with⟨rfl,rfl⟩|⟨bb,c,rfl,hc,fb,hbb,_⟩
  ·have e:idx ([]:MM) n=none:=by unfold idx;rw[aak (by simp;omega)]
   have h2:((0:Nat):Int)<n:=by omega
   simp -implicitDefEqProofs only[zu,xe,zG,zU,yS,kh,VC,wt,yq,vm,qS,qF,Ww,X8,zH,zS,wB,yj,abb,aaf,abg,uH,vJ,zw,aaq,Wo,Ze,VZ,h1,hm,h2,e,abb,j6]
  ·by_cases h2:(M.length:Int)<n
   ·have e:idx M n=none:=(by unfold idx;rw[aak (by omega)]);simp -implicitDefEqProofs only[zu,xe,zG,zU,yS,kh,VC,wt,yq,vm,qS,qF,Ww,X8,zH,zS,wB,yj,abb,aaf,abg,uH,vJ,zw,aaq,Wo,Ze,VZ,h1,hm,h2,e,abb,j6]
   ·have hi:n.toNat-1<M.length:=(by omega);obtain⟨p,hp⟩:∃p,ps[n.toNat-1]? = some p:=⟨_,aae (by rw[x.len];exact hi)⟩;have hB:M[n.toNat-1]? = some M[n.toNat-1]:=aae hi;generalize M[n.toNat-1]=B at hB;obtain⟨pg,hbk,_,_⟩:=x.YR _ p B hp hB;have hw:IntKind.wrap .i64 (n-1)=n-1:=Yo (by omega) (by omega);have ht:(n-1).toNat*1=n.toNat-1:=by omega
    have hc1:0<=n-1/\n-1<(M.length:Int):=(by omega);have hpp:=MJ hp;cases hf:B.jQ with
    |true=>
     have e:idx M n=none:=(by unfold idx;rw[aam (by omega),hB];simp[hf]);simp -implicitDefEqProofs only[zu,xe,zG,zU,yS,kh,yq,vm,qS,qF,Ww,X8,zH,zS,wB,yj,abb,aaf,aaj,aau,aac,abg,vJ,zw,aaq,Wo,H5,CW,Ze,Bb,Dr,VZ,h1,hm,h2,hw,ht,hc1,hbb,hpp,hbk,hf,e,abb,j6]
    |false=>
     have e:idx M n=some (n.toNat-1):=(by unfold idx;rw[aam (by omega),hB];simp[hf]);simp -implicitDefEqProofs only[zu,xe,zG,zU,z7,kh,yq,vm,qS,qF,Ww,X8,zH,zS,wB,yj,aaQ,aaf,aaj,aau,aac,abg,ace,vJ,zw,aaq,Wo,H5,CW,Ze,Bb,Dr,VZ,h1,hm,h2,hw,ht,hc1,hbb,hpp,hbk,hf,e,aaQ,hp,j6]
def zp:List Value:=(List.replicate 64 [Value.int .u8 0,.int .u8 0,.int .i64 0,.int .i64 0,.int .i64 0]).flatten
theorem It:yU Tryz.prog 184 []=some (.agg zp.toArray):=zE (by kernel_rfl)
theorem LZ:zp.length=320:=by kernel_rfl
theorem PE:∀k j,k<64->j<5->zp[k*5+j]? = fB.Xk[j]?:=by
 have h:(List.range 64).all (λk=>(List.range 5).all λj=>decide (k*5+j<zp.length))=true:=by decide +kernel
 have key:∀k:Fin 64,∀j:Fin 5,zp[k.1*5+j.1]? = fB.Xk[j.1]?:=by
  intro k j;have hl:k.1*5+j.1<zp.length:=by rw[LZ];omega
  have e1:zp[k.1*5+j.1]? = ([Value.int .u8 0,.int .u8 0,.int .i64 0,.int .i64 0,.int .i64 0]:List Value)[j.1]?:=by
   have aux:∀(n:Nat) (l:List Value),l.length=5->∀k j,k<n->j<5->((List.replicate n l).flatten)[k*5+j]? = l[j]?:=by
    intro n l hl
    induction n with
    |zero=>intro k j hk;omega
    |succ n ih=>
     intro k j hk hj;rw[List.replicate_succ,aci];cases k with
     |zero=>rw[abh (by omega)];simp
     |succ k=>rw[abl (by omega),hl,show(k+1)*5+j-5=k*5+j by omega];exact ih k j (by omega) hj
   exact aux 64 _ rfl k.1 j.1 k.2 j.2
  rw[e1];rfl
 exact λk j hk hj=>key ⟨k,hk⟩ ⟨j,hj⟩
theorem PC(v:Value)(n:Nat):Ya [v] (n*1)=List.replicate n v:=by
 simp only[Ya,abH];apply abe;intro i;by_cases h:i<n
 ·simp[h,Nat.mod_one]
 ·simp[h]
theorem lY{n j g:Nat}(h:(List.replicate n (none:Option Nat))[j]? = some (some g)):False:=by
 rw[List.getElem?_replicate]at h;split at h <;> cases h
theorem Bj{gs:List (Option Nat)}{j:Nat}{o:Option Nat}(h:gs[j]? = some o):(gs.map j6)[j]? = some (j6 o):=by simp[h]
theorem Bk(gs:List (Option Nat))(j g:Nat):(gs.map j6).set j (.pointer (some ⟨g,0,none⟩))=(gs.set j (some g)).map j6:=by rw[List.map_set];rfl
theorem GQ{h h1:za}{q j g:Nat}{gs:List (Option Nat)}{B:MB}{F:Nat->Prop}(hl:gs.length=(B.size+63)/64)(hg:∀(j g:Nat),gs[j]? = some (some g)->F g/\fZ h g (λk=>B.byte (64*j+k)))(hn:∀j:Nat,gs[j]? = some none->∀k,k<64->B.byte (64*j+k)=fB)
  (hd:∀i j g:Nat,gs[i]? = some (some g)->gs[j]? = some (some g)->i=j) (ht:∀k,64*gs.length<=k->B.byte k=fB) (hj:gs[j]? = some none) (hq:h1.get q=some (.cells ((gs.set j (some g)).map j6) 159)) (fq:F q)
  (hold:∀(i g:Nat),gs[i]? = some (some g)->h1.get g=h.get g) (hnew:h1.get g=some (.cells zp 184)) (fg:¬F g):XR h1 q (gs.set j (some g)) B (λb=>F b\/b=g):=by
 have hlt:j<gs.length:=by
  rcases aaA j gs.length with a|a
  ·exact a
  ·rw[aao a]at hj;cases hj
 have hs:∀i o,(gs.set j (some g))[i]? = some o->(i=j/\o=some g)\/(i≠j/\gs[i]? = some o):=by
  intro i o hi;by_cases e:i=j
  ·subst e;rw[aaZ hlt]at hi;exact .inl ⟨rfl,(acw hi).symm⟩
  ·rw[abo (λq=>e q.symm)]at hi;exact .inr ⟨e,hi⟩
 refine⟨by simp[hl],.inl fq,hq,λi g' hi=>?_,λi hi=>?_,λa b g' ha hb=>?_,by simpa using ht⟩
 ·rcases hs i _ hi with⟨rfl,e⟩|⟨_,e⟩
  ·cases e;refine⟨.inr rfl,zp,hnew,LZ,λk j' hk hj'=>?_⟩;rw[PE k j' hk hj'];show _=(B.byte (64*i+k)).Xk[j']?;rw[hn i hj k hk]
  ·exact⟨.inl (hg i g' e).1,(hg i g' e).2.zE (hold i g' e)⟩
 ·rcases hs i _ hi with⟨_,e⟩|⟨_,e⟩
  ·cases e
  ·exact hn i e
 ·rcases hs a _ ha with⟨e1,e2⟩|⟨_,e2⟩ <;> rcases hs b _ hb with⟨e3,e4⟩|⟨_,e4⟩
  ·rw[e1,e3]
  ·cases e2;exact absurd (hg _ _ e4).1 fg
  ·cases e4;exact absurd (hg _ _ e2).1 fg
  ·exact hd a b g' e2 e4
section
variable {h:za}{p:Nat}{B:MB}{F:Nat->Prop}{pg:Value}{a:Int}
theorem NJ(h0:0<=a)(h1:a<4611686018427387904):IntKind.wrap .i64 (a.tdiv 64)=((a.toNat/64:Nat):Int):=by
 rw[Int.tdiv_eq_ediv_of_nonneg h0,Yo (by omega) (by omega)];omega
def PN(h:za)(B:MB)(F:Nat->Prop)(a:Int)(v:Value)(h1:za):Prop :=
 h1=h/\((v=j6 none /\ ∀k,k<64->B.byte (64*(a.toNat/64)+k)=fB) \/ ∃g,v=j6 (some g)/\F g/\fZ h g (λk=>B.byte (64*(a.toNat/64)+k)))
theorem O0(hb:h.get p=some (.cells [.int .i64 B.size,pg,.bool B.jQ] 155))(x:Wl h pg B F)(h0:0<=a)(h1:a<B.size)(hz:B.size<4611686018427387904) :
  DC Tryz.prog 83 [.pointer (some ⟨p,0,none⟩),.int .i64 a,.bool false] h (PN h B F a):=by
 apply mY;unfold B9;cases x with
 |empty e u=>
  subst e;simp -implicitDefEqProofs only[zu,zG,zU,yS,z7,jo,wt,vm,qS,Z2,X8,eQ,zH,zS,wB,yj,nw,Value.cells,aaf,aaj,aau,Int.reduceEq,zw,aaq,dC,zh,A5,kQ,Uv,hb];exact⟨rfl,.inl ⟨rfl,λk _=>u _⟩⟩
 |full q c gs e x=>
  obtain⟨hl,fq,hq,hg,hn,hd,ht⟩:=x;subst e;have hj:a.toNat/64<gs.length:=by rw[hl];omega
  have hw:=NJ h0 (by omega);obtain⟨o,ho⟩:∃o,gs[a.toNat/64]? = some o:=⟨_,aae hj⟩;have hgg:=Bj ho;have hc1:0<=((a.toNat/64:Nat):Int)/\((a.toNat/64:Nat):Int)<(gs.length:Int):=by omega
  cases o with
  |none=>
   simp -implicitDefEqProofs only[zu,zG,zU,z7,jo,Zm,wt,yq,vm,qS,eQ,zH,zS,wB,yj,KM,nw,Value.cells,aaf,aaj,aau,aaB,aaz,aba,abu,zf,aac,aa9,Int.reduceEq,abg,qz,vi,zw,aaq,dC,iz,zh,C0,aT,aU,kQ,Uv,lB,hb,hq,hw,hc1,aaE,abH,hgg,j6];exact⟨rfl,.inl ⟨rfl,λk hk=>hn _ ho k hk⟩⟩
  |some g=>
   simp -implicitDefEqProofs only[zu,zG,zU,z7,Zm,yq,vm,qS,eQ,zH,zS,wB,yj,nw,Value.cells,aaf,aaj,aau,aac,Int.reduceEq,abg,zw,aaq,dC,iz,zh,aU,fN,kQ,Uv,lB,hb,hq,hw,hc1,aaE,abH,hgg,j6];exact⟨rfl,.inr ⟨g,rfl,hg _ g ho⟩⟩
def sW(h:za)(p:Nat)(B:MB)(F:Nat->Prop)(a:Int)(v:Value)(h1:za):Prop :=
 ∃g q c gs F',v=j6 (some g)/\h1.get p=some (.cells [.int .i64 B.size,.slice (some ⟨q,0,none⟩) gs.length c,.bool B.jQ] 155)/\XR h1 q gs B F'/\gs[a.toNat/64]? = some (some g)/\F' p/\Z5 F h h1/\(∀b,F' b->F b\/h.next<=b) /\ ∀b,F' b->h1.ro<=b/\b<h1.next
theorem sW.mk{h h1:za}{p q c g:Nat}{gs:List (Option Nat)}{B:MB}{F:Nat->Prop}{a:Int}(fp:F p)(ok:∀b,F b->h.ro<=b/\b<h.next)(hl:gs.length=(B.size+63)/64)(hj:gs[a.toNat/64]? = some none)(fq:F q\/h.next<=q)
  (hg:∀(j g:Nat),gs[j]? = some (some g)->F g/\fZ h g (λk=>B.byte (64*j+k))) (hn:∀j:Nat,gs[j]? = some none->∀k,k<64->B.byte (64*j+k)=fB)
  (hd:∀i j g:Nat,gs[i]? = some (some g)->gs[j]? = some (some g)->i=j) (ht:∀k,64*gs.length<=k->B.byte k=fB)
  (Wa:Z5 F h h1) (hqn:q<h1.next) (hgn:h.next<=g/\g<h1.next) (hro:h.ro<=h.next)
  (hp1:h1.get p=some (.cells [.int .i64 B.size,.slice (some ⟨q,0,none⟩) gs.length c,.bool B.jQ] 155)) (hq1:h1.get q=some (.cells ((gs.set (a.toNat/64) (some g)).map j6) 159)) (hg1:h1.get g=some (.cells zp 184))
  (hold:∀(i g:Nat),gs[i]? = some (some g)->h1.get g=h.get g):sW h p B F a (.pointer (some ⟨g,0,none⟩)) h1:=by
 have P:=GQ (F:=λb=>F b\/b=q) (h1:=h1) hl (λj g hj=>⟨.inl (hg j g hj).1,(hg j g hj).2⟩) hn hd ht hj hq1 (.inr rfl) hold hg1 (by
  rintro(e|e)
  ·have:=ok _ e;omega
  ·subst e;rw[hq1]at hg1;simp at hg1)
 have hlt:a.toNat/64<gs.length:=by
  rcases aaA (a.toNat/64) gs.length with e|e
  ·exact e
  ·rw[aao e]at hj;cases hj
 refine⟨g,q,c,_,_,rfl,by rw[abf];exact hp1,P,aaZ hlt,.inl (.inl fp),Wa,λb hb=>?_,λb hb=>?_⟩
 ·rcases hb with(hb|hb)|hb
  ·exact .inl hb
  ·subst hb;exact fq
  ·subst hb;exact .inr hgn.1
 ·have n1:=Wa.next;have n2:=Wa.ro;rcases hb with(hb|hb)|hb
  ·have:=ok b hb;omega
  ·subst hb;rcases fq with fq|fq
   ·have:=ok b fq;omega
   ·omega
  ·subst hb;omega
theorem Ld(hb:h.get p=some (.cells [.int .i64 B.size,pg,.bool B.jQ] 155))(x:Wl h pg B F)(fp:F p)(ok:∀b,F b->h.ro<=b/\b<h.next)(hro:h.ro<=h.next)(h0:0<=a)(h1:a<B.size)(hz:B.size<2147483648) :
  DC Tryz.prog 83 [.pointer (some ⟨p,0,none⟩),.int .i64 a,.bool true] h (sW h p B F a):=by
 apply mY;unfold B9;have hw:=NJ h0 (by omega);have okp:=ok p fp;have hpn:¬p=h.next:=by omega
 have hnp:¬h.next=p:=by omega
 have hpn1:¬p=h.next+1:=by omega
 cases x with
 |empty e u=>
  subst e;have hn1:IntKind.wrap .i64 ((B.size:Int)+64)=(B.size:Int)+64:=Yo (by omega) (by omega);have hn2:IntKind.wrap .i64 ((B.size:Int)+64-1)=((B.size+63:Nat):Int):=by rw[Yo (by omega) (by omega)];omega
  have hn3:IntKind.wrap .i64 (((B.size+63:Nat):Int).tdiv 64)=(((B.size+63)/64:Nat):Int):=by
   rw[Int.tdiv_eq_ediv_of_nonneg (by omega),Yo (by omega) (by omega)];omega
  have hm:=O3 .i64 .i64 (((B.size+63)/64:Nat):Int) (((B.size+63)/64:Nat):Int) h (by omega) (by omega) (by omega);have hj:a.toNat/64<(B.size+63)/64:=by omega
  have hj1:a.toNat/64+1<=(B.size+63)/64:=hj;have hc1:0<=((a.toNat/64:Nat):Int)/\((a.toNat/64:Nat):Int)<(((B.size+63)/64:Nat):Int):=by omega
  have hrep:(List.replicate ((B.size+63)/64) (Value.pointer none))[a.toNat/64]? = some (.pointer none):=by simp[hj]
  have hset:∀v:Value,((List.replicate ((B.size+63)/64) (Value.pointer none)).set (a.toNat/64) v)[a.toNat/64]? = some v:=λv=>aaZ (by simpa using hj);simp only[aaE,PC]at hm;simp -implicitDefEqProofs only[zu,xe,zG,zU,yS,z7,jo,wt,vm,qS,Z2,X8,eQ,zH,zS,wB,yj,yO,KM,Uq,nw,Value.cells,aaf,aaj,aaF,aau,aaB,aaz,List.length_replicate,aba,abu,zf,aa8,aa3,aac,aa9,Nat.reduceAdd,Nat.reduceLeDiff,Int.reduceEq,abg,yp,qR,qz,KV,zJ,zL,ye,zP,fS,dW,vi,zw,aaq,dC,iz,zh,Ou,C0,A5,aT,aU,kQ,Uv,lB,hb,hn1,hn2,hn3,hm,okp,hpn,hnp,hw,hc1,aaE,abH,hrep,It,hj1,hro,hset];have hnn:¬h.next+1=h.next:=by omega
  have hrl:(List.replicate ((B.size+63)/64) (none:Option Nat)).length=(B.size+63)/64:=List.length_replicate
  refine sW.mk (q:=h.next) (c:=(B.size+63)/64+2) (gs:=List.replicate ((B.size+63)/64) none) fp ok hrl (by simp[hj]) (.inr (aal _)) (λj g hj=>(lY hj).elim) (λ_ _ k _=>u _) (λi j g hi=>(lY hi).elim) (λk _=>u k)
   ?_ ?_ ?_ hro ?_ ?_ ?_ (λi g hi=>(lY hi).elim)
  ·exact((((Z5.refl F h).push _).set (.inl fp) _).push _).set (.inr (aal _)) _
  ·simp only[qR,yp];omega
  ·simp only[qR,yp];omega
  ·rw[hrl];simp -implicitDefEqProofs only[yp,qR,zL,ye,zP,dW,aaq,hpn,okp]
  ·simp -implicitDefEqProofs only[ye];rw[<- Bk,List.map_replicate];rfl
  ·simp -implicitDefEqProofs only[yp,qR,zJ,zP,aaq,hnn]
 |full q c gs e x=>
  obtain⟨hl,fq,hq,hg,hn,hd,ht⟩:=x;subst e;have hj:a.toNat/64<gs.length:=by rw[hl];omega
  have hj1:a.toNat/64+1<=gs.length:=hj;obtain⟨o,ho⟩:∃o,gs[a.toNat/64]? = some o:=⟨_,aae hj⟩;have hgg:=Bj ho;have hc1:0<=((a.toNat/64:Nat):Int)/\((a.toNat/64:Nat):Int)<(gs.length:Int):=by omega
  have okq:=ok q fq;cases o with
  |some g=>
   simp -implicitDefEqProofs only[zu,zG,zU,z7,Zm,yq,vm,qS,eQ,zH,zS,wB,yj,nw,Value.cells,aaf,aaj,aau,aac,Int.reduceEq,abg,zw,aaq,dC,iz,zh,aU,fN,kQ,Uv,lB,hb,hq,hw,hc1,aaE,abH,hgg,j6];exact⟨g,q,c,gs,F,rfl,hb,⟨hl,fq,hq,hg,hn,hd,ht⟩,ho,fp,.refl _ _,λb hb => .inl hb,ok⟩
  |none=>
   have hqn:¬q=h.next:=by omega
   have hnq:¬h.next=q:=by omega
   have hpq:¬p=q:=by intro e;subst e;rw[hb]at hq;simp at hq
   have hset:∀v:Value,((gs.map j6).set (a.toNat/64) v)[a.toNat/64]? = some v:=λv=>aaZ (by simpa using hj);simp -implicitDefEqProofs only[zu,zG,zU,yS,z7,jo,Zm,wt,yq,vm,qS,eQ,zH,zS,wB,yj,yO,KM,nw,Value.cells,aaf,aaj,aaF,aau,aaB,aaz,aaD,aba,abu,zf,aac,aa9,Int.reduceEq,abg,qz,zL,ye,zP,vi,zw,aaq,dC,iz,zh,C0,aT,aU,kQ,Uv,lB,hb,hq,hw,hc1,aaE,abH,hgg,j6,It,okq,okp,hj1,hset,hpq];refine sW.mk (q:=q) (c:=c) (gs:=gs) fp ok hl ho (.inl fq) hg hn hd ht ?_ ?_ ?_ hro ?_ ?_ ?_ (λi g hi=>?_)
   ·exact((Z5.refl F h).push _).set (.inl fq) _
   ·simp only[qR,yp];omega
   ·simp only[qR,yp];omega
   ·simp -implicitDefEqProofs only[zL,zP,aaq,hpq,okp,hb]
   ·simp -implicitDefEqProofs only[ye];rw[<- Bk]
   ·simp -implicitDefEqProofs only[zJ,zP,aaq,hnq]
   ·have hgq:¬g=q:=by
     intro e;subst e;obtain⟨cs,e1,_⟩:=(hg i g hi).2;rw[hq]at e1;simp at e1
    have:=(ok g (hg i g hi).1).2;simp -implicitDefEqProofs only[zL,zP,aaq,hgq,this]
end
def right(M:MM)(c:Int)(p:V):Option Nat :=
 if p.k=2/\(c=1\/c=4\/c=8) then (match idx M p.b with
  |some i=>(match M[i]? with
   |some B=>if 0<=p.n/\p.n<=B.size-c/\p.n.tmod c=0 then some i else none
   |none=>none)
  |none=>none) else none
theorem lZ{M:MM}{c:Int}{p:V}{i:Nat}(h:right M c p=some i):p.k=2/\(c=1\/c=4\/c=8)/\idx M p.b=some i /\ ∃B,M[i]? = some B/\0<=p.n/\p.n<=B.size-c/\p.n.tmod c=0:=by
 unfold right at h;split at h
 case isFalse=>cases h
 rename_i h1;split at h
 case h_2=>cases h
 rename_i j hj;split at h
 case h_2=>cases h
 rename_i B hB;split at h
 case isFalse=>cases h
 rename_i h2;simp only[aab]at h;subst h;exact⟨h1.1,h1.2,hj,B,hB,h2⟩
theorem Uy{M:MM}{c:Int}{p:V}{i:Nat}{B:MB}(hi:idx M p.b=some i)(hB:M[i]? = some B)(h:¬(0<=p.n/\p.n<=B.size-c/\p.n.tmod c=0)):right M c p=none:=by
 unfold right;split
 ·simp only[hi,hB];exact aak h
 ·rfl
theorem pG{M:MM}{c:Int}{p:V}{i:Nat}{B:MB}(hk:p.k=2)(hc:c=1\/c=4\/c=8)(hi:idx M p.b=some i)(hB:M[i]? = some B)(h:0<=p.n/\p.n<=B.size-c/\p.n.tmod c=0):right M c p=some i:=by
 unfold right;rw[aam ⟨hk,hc⟩];simp only[hi,hB];exact aam h
def L6(h:za)(f:Nat->Cl)(n c:Nat)(F:Nat->Prop)(v:Value):Prop :=
 (v=.slice none 0 0 /\ ∀k,k<c->f (n+k)=fB) \/ ∃g off cs cp,v=.slice (some ⟨g,off,none⟩) c cp/\F g/\h.get g=some (.cells cs 184)/\off+c*5<=cs.length/\off=n%64*5 /\ ∀k j,k<c->j<5->cs[off+k*5+j]? = (f (n+k)).Xk[j]?
def SY(h:za)(M:MM)(F:Nat->Prop)(c:Int)(p:V)(v:Value)(h1:za):Prop :=
 Z5 ss h h1/\match right M c p with
  |none=>v=.tuple #[.slice none 0 0,.bool false]
  |some i=>∃s,v=.tuple #[s,.bool true] /\ ∀B,M[i]? = some B->L6 h1 B.byte p.n.toNat c.toNat F s
def Xl(n:Int):Prop := -9223372036854775808<=n/\n<9223372036854775808
def V.ok(v:V):Prop:=Xl v.k/\Xl v.n/\Xl v.b
def small(M:MM):Prop := ∀(i:Nat) (B:MB),M[i]? = some B->B.size<2147483648
section
variable {h:za}{m:Nat}{bs:Value}{ps:List Nat}{fs:Nat->Nat->Prop}{M:MM}{F:Nat->Prop}{c:Int}{p:V}
theorem HZ(x:mA h m bs ps fs M F)(hs:small M)(hc:Xl c)(hp:p.ok) :
  DC Tryz.prog 126 [.pointer (some ⟨m,0,none⟩),.int .i64 c,p.val,.bool false] h (SY h M F c p):=by
 obtain⟨pk,pn,pb⟩:=p;obtain⟨hp1,hp2,hp3⟩:=hp;unfold Xl at hc hp1 hp2 hp3;simp only at hp1 hp2 hp3;apply eJ;unfold f7 V.val;have x1:mA (h.push (.cells [.int .i64 pk,.int .i64 pn,.int .i64 pb] 64)) m bs ps fs M F:=x.zE (λb hb=>zL (x.ok b hb).2) (abC _);have Wa:Z5 ss h (h.push (.cells [.int .i64 pk,.int .i64 pn,.int .i64 pb] 64)):=(Z5.refl _ _).push _;by_cases hk:pk=2
 case neg=>
  have e:right M c ⟨pk,pn,pb⟩=none:=by unfold right;rw[aak (λq=>hk q.1)]
  simp -implicitDefEqProofs only[zu,zG,zU,yS,VC,D4,wt,uU,Z3,zH,zS,yj,yO,nw,Value.cells,aaf,aaF,aau,vJ,zJ,zw,aaq,aa1,yR,zh,wA,wx,uR,hk];exact⟨Wa,by rw[e]⟩
 subst hk;by_cases hcc:c=1\/c=4\/c=8
 case neg=>
  have e:right M c ⟨2,pn,pb⟩=none:=by unfold right;rw[aak (λq=>hcc q.2)]
  have n1:¬c=1:=λq=>hcc (.inl q);have n4:¬c=4:=λq=>hcc (.inr (.inl q));have n8:¬c=8:=λq=>hcc (.inr (.inr q));simp -implicitDefEqProofs only[zu,zG,zU,yS,jo,kh,wt,yq,uU,Z3,zH,zS,yj,yO,nw,Value.cells,aaf,aaF,aau,uH,vJ,zJ,zw,aaq,abp,aa1,yR,zh,wA,wx,uR,n1,n4,n8];exact⟨Wa,by rw[e]⟩
 have hat:=Ew x1 hp3.2;cases hi:idx M pb with
 |none=>
  have e:right M c ⟨2,pn,pb⟩=none:=by unfold right;rw[aam ⟨rfl,hcc⟩];simp only[hi]
  rw[hi]at hat;rcases hcc with rfl|rfl|rfl <;> simp -implicitDefEqProofs only[zu,zG,zU,z7,jo,kh,Zm,wt,yq,uU,Z3,zH,zS,yj,yO,nth,nw,Value.cells,aaf,aaj,aaF,aau,Int.reduceEq,uH,vJ,zJ,zw,aaq,abp,aa1,yR,zh,wA,wx,uR] <;> refine yb (by kernel_rfl) rfl hat ?_ <;> rintro v h1 ⟨rfl,rfl⟩ <;> simp -implicitDefEqProofs only[zu,zG,zU,yS,VC,wt,zH,wB,abb,aS,abb,j6] <;> exact⟨Wa,by rw[e]⟩
 |some i=>
  obtain⟨hpb,B,hB,hf⟩:=lz hi
  obtain⟨q,hq⟩:∃q,ps[i]? = some q:=by
   have hlt:i<M.length:=by
    rcases aaA i M.length with a|a
    ·exact a
    ·rw[aao a]at hB;cases hB
   exact⟨_,aae (by rw[x.len];exact hlt)⟩
  obtain⟨pg,hbk,fq,hpg⟩:=x1.YR i q B hq hB;have hz:=hs i B hB;rw[hi]at hat;have hcb:1<=c/\c<=8:=by omega
  have hcn:¬c=0:=by omega
  have hw:IntKind.wrap .i64 ((B.size:Int)-c)=(B.size:Int)-c:=Yo (by omega) (by omega);by_cases h0:pn<0
  ·have e:=Uy (p:=⟨2,pn,pb⟩) (c:=c) hi hB (λq=>by have:0<=pn:=q.1;omega);rcases hcc with rfl|rfl|rfl
   all_goals
    simp -implicitDefEqProofs only[zu,zG,zU,z7,jo,kh,Zm,wt,yq,uU,Z3,zH,zS,yj,yO,nth,nw,Value.cells,aaf,aaj,aaF,aau,Int.reduceEq,uH,vJ,zJ,zw,aaq,abp,aa1,yR,zh,wA,wx,uR];refine yb (by kernel_rfl) rfl hat ?_;rintro v h1 ⟨rfl,rfl⟩;simp -implicitDefEqProofs only[zu,zG,zU,yS,kh,VC,wt,yq,qF,zH,zS,wB,aaQ,aaf,aaj,uH,zJ,zw,yR,XL,hq,j6,h0];exact⟨Wa,by rw[e]⟩
  by_cases h1:(B.size:Int)-c<pn
  ·have e:=Uy (p:=⟨2,pn,pb⟩) (c:=c) hi hB (λq=>by have:pn<=B.size-c:=q.2.1;omega);rcases hcc with rfl|rfl|rfl
   all_goals
    simp -implicitDefEqProofs only[zu,zG,zU,z7,jo,kh,Zm,wt,yq,uU,Z3,zH,zS,yj,yO,nth,nw,Value.cells,aaf,aaj,aaF,aau,Int.reduceEq,uH,vJ,zJ,zw,aaq,abp,aa1,yR,zh,wA,wx,uR];refine yb (by kernel_rfl) rfl hat ?_;rintro v h1 ⟨rfl,rfl⟩;simp -implicitDefEqProofs only[zu,zG,zU,yS,kh,VC,wt,yq,vm,qF,Ww,X8,zH,zS,wB,aaQ,aaf,aaj,uH,vJ,zJ,zw,aaq,yR,zh,XL,kQ,hq,j6,h0,hbk,hw,h1];exact⟨Wa,by rw[e]⟩
  by_cases h2:pn.tmod c=0
  case neg=>
   have e:=Uy (p:=⟨2,pn,pb⟩) (c:=c) hi hB (λq=>h2 q.2.2);rcases hcc with rfl|rfl|rfl
   all_goals
    simp -implicitDefEqProofs only[zu,zG,zU,z7,jo,kh,Zm,wt,yq,uU,Z3,zH,zS,yj,yO,nth,nw,Value.cells,aaf,aaj,aaF,aau,Int.reduceEq,uH,vJ,zJ,zw,aaq,abp,aa1,yR,zh,wA,wx,uR];refine yb (by kernel_rfl) rfl hat ?_;rintro v h1 ⟨rfl,rfl⟩;simp -implicitDefEqProofs only[zu,zG,zU,yS,kh,yq,vm,qF,Ww,Z3,X8,Jb,zH,zS,wB,aaQ,aaf,aaj,Int.reduceEq,vJ,zJ,zw,aaq,aa1,yR,zh,XL,kQ,hq,j6,h0,hbk,hw,h1,h2];exact⟨Wa,by rw[e]⟩
  have e:=pG (p:=⟨2,pn,pb⟩) (c:=c) rfl hcc hi hB ⟨by show 0<=pn;omega,by show pn<=_;omega,h2⟩;have hmd:=O0 hbk hpg (a:=pn) (by omega) (by omega) (by omega);have hr1:pn.tmod 64=((pn.toNat%64:Nat):Int):=by rw[abK (by omega)];omega
  have hr2:IntKind.wrap .i64 (((pn.toNat%64:Nat):Int)+c)=((pn.toNat%64:Nat):Int)+c:=Yo (by omega) (by omega)
  have hin:((pn.toNat%64:Nat):Int)+c<=64:=by
   rw[abK (by omega)]at h2;rcases hcc with rfl|rfl|rfl <;> omega
  have hb1:0<=((pn.toNat%64:Nat):Int)+c/\((pn.toNat%64:Nat):Int)+c<=((64:Nat):Int):=by omega
  have hb2:0<=((pn.toNat%64:Nat):Int)/\((pn.toNat%64:Nat):Int)<=((((pn.toNat%64:Nat):Int)+c).toNat:Int):=by omega
  have hb3:¬64=pn.toNat%64:=by omega
  have hb4:(((pn.toNat%64:Nat):Int)+c).toNat-pn.toNat%64=c.toNat:=by omega
  rcases hcc with rfl|rfl|rfl
  all_goals
   simp -implicitDefEqProofs only[zu,zG,zU,z7,jo,kh,Zm,wt,yq,uU,Z3,zH,zS,yj,yO,nth,nw,Value.cells,aaf,aaj,aaF,aau,Int.reduceEq,uH,vJ,zJ,zw,aaq,abp,aa1,yR,zh,wA,wx,uR];refine yb (by kernel_rfl) rfl hat ?_;rintro v h1 ⟨rfl,rfl⟩;simp -implicitDefEqProofs only[zu,zG,zU,z7,kh,yq,vm,qF,Ww,Z3,X8,Jb,zH,zS,wB,aaQ,nth,aaf,aaj,Int.reduceEq,uH,vJ,zJ,zw,aaq,abp,yR,zh,XL,kQ,hq,j6,h0,hbk,hw,h1,h2];refine yb (by kernel_rfl) rfl hmd ?_;rintro v h1 ⟨rfl,⟨rfl,hu⟩|⟨g,rfl,fg,hpage⟩⟩
   ·simp -implicitDefEqProofs only[zu,zG,zU,yS,wB,aT,j6];refine⟨Wa,?_⟩;rw[e];refine⟨_,rfl,λB' hB' => .inl ⟨rfl,λk hk=>?_⟩⟩;rw[hB]at hB';cases hB';have:=hu (pn.toNat%64+k) (by omega);rw[show 64*(pn.toNat/64)+(pn.toNat%64+k)=pn.toNat+k by omega]at this;exact this
   ·simp -implicitDefEqProofs only[zu,zG,zU,z7,vm,uU,Z2,Jb,zH,zS,wB,yj,bS,aax,Vc,aaQ,aaf,aaj,aau,aac,aat,aa9,Int.reduceEq,Int.reduceToNat,abg,ace,zJ,aaq,fN,LH,j6,hr1,hr2,hb1,hb2,hb3,hb4,aaE];refine⟨Wa,?_⟩;rw[e];refine⟨_,rfl,λB' hB' => .inr ?_⟩;rw[hB]at hB';cases hB';obtain⟨cs,hgc,hlen,hcs⟩:=hpage;refine⟨g,_,cs,0,rfl,x.sub i g fg,hgc,by rw[hlen];omega,rfl,λk j hk hj=>?_⟩;have:=hcs (pn.toNat%64+k) j (by omega) hj;rw[show(pn.toNat%64+k)*5+j=pn.toNat%64*5+k*5+j by omega]at this;rw[this];show(B.byte (64*(pn.toNat/64)+(pn.toNat%64+k))).Xk[j]? = _;rw[show 64*(pn.toNat/64)+(pn.toNat%64+k)=pn.toNat+k by omega]
def Fe(h:za)(m:Nat)(M:MM)(F:Nat->Prop)(c:Int)(p:V)(v:Value)(h1:za):Prop :=
 match right M c p with
 |none=>v=.tuple #[.slice none 0 0,.bool false]/\Z5 ss h h1
 |some i=>∃g bs ps fs F' q qp cq gs B,M[i]? = some B/\v=.tuple #[.slice (some ⟨g,p.n.toNat%64*5,none⟩) c.toNat 0,.bool true]/\Wk h1 m bs ps fs M F'/\ps[i]? = some qp /\
   h1.get qp=some (.cells [.int .i64 B.size,.slice (some ⟨q,0,none⟩) gs.length cq,.bool B.jQ] 155)/\fs i qp/\XR h1 q gs B (fs i)/\gs[p.n.toNat/64]? = some (some g)/\Z5 F h h1 /\ ∀b,F' b->F b\/h.next<=b
theorem H0(hro:h.ro<=h.next)(x:Wk h m bs ps fs M F)(hs:small M)(hc:Xl c)(hp:p.ok) :
  DC Tryz.prog 126 [.pointer (some ⟨m,0,none⟩),.int .i64 c,p.val,.bool true] h (Fe h m M F c p):=by
 obtain⟨pk,pn,pb⟩:=p;obtain⟨hp1,hp2,hp3⟩:=hp;unfold Xl at hc hp1 hp2 hp3;simp only at hp1 hp2 hp3;apply eJ;unfold f7 V.val;have x1:Wk (h.push (.cells [.int .i64 pk,.int .i64 pn,.int .i64 pb] 64)) m bs ps fs M F:=x.zE (λb hb=>zL (x.ok b hb).2) (abC _) rfl;have Wa:Z5 ss h (h.push (.cells [.int .i64 pk,.int .i64 pn,.int .i64 pb] 64)):=(Z5.refl _ _).push _
 have no:∀{c},right M c ⟨pk,pn,pb⟩=none->Fe h m M F c ⟨pk,pn,pb⟩ (.tuple #[.slice none 0 0,.bool false]) (h.push (.cells [.int .i64 pk,.int .i64 pn,.int .i64 pb] 64)):=λe=>by
  unfold Fe;rw[e];exact⟨rfl,Wa⟩
 by_cases hk:pk=2
 case neg=>
  have e:right M c ⟨pk,pn,pb⟩=none:=by unfold right;rw[aak (λq=>hk q.1)]
  simp -implicitDefEqProofs only[zu,zG,zU,yS,VC,D4,wt,uU,Z3,zH,zS,yj,yO,nw,Value.cells,aaf,aaF,aau,vJ,zJ,zw,aaq,aa1,yR,zh,wA,wx,uR,hk];exact no e
 subst hk;by_cases hcc:c=1\/c=4\/c=8
 case neg=>
  have e:right M c ⟨2,pn,pb⟩=none:=by unfold right;rw[aak (λq=>hcc q.2)]
  have n1:¬c=1:=λq=>hcc (.inl q);have n4:¬c=4:=λq=>hcc (.inr (.inl q));have n8:¬c=8:=λq=>hcc (.inr (.inr q));simp -implicitDefEqProofs only[zu,zG,zU,yS,jo,kh,wt,yq,uU,Z3,zH,zS,yj,yO,nw,Value.cells,aaf,aaF,aau,uH,vJ,zJ,zw,aaq,abp,aa1,yR,zh,wA,wx,uR,n1,n4,n8];exact no e
 have hat:=Ew x1.r hp3.2;cases hi:idx M pb with
 |none=>
  have e:right M c ⟨2,pn,pb⟩=none:=by unfold right;rw[aam ⟨rfl,hcc⟩];simp only[hi]
  rw[hi]at hat;rcases hcc with rfl|rfl|rfl <;> simp -implicitDefEqProofs only[zu,zG,zU,z7,jo,kh,Zm,wt,yq,uU,Z3,zH,zS,yj,yO,nth,nw,Value.cells,aaf,aaj,aaF,aau,Int.reduceEq,uH,vJ,zJ,zw,aaq,abp,aa1,yR,zh,wA,wx,uR] <;> refine yb (by kernel_rfl) rfl hat ?_ <;> rintro v h1 ⟨rfl,rfl⟩ <;> simp -implicitDefEqProofs only[zu,zG,zU,yS,VC,wt,zH,wB,abb,aS,abb,j6] <;> exact no e
 |some i=>
  obtain⟨hpb,B,hB,hf⟩:=lz hi
  obtain⟨q,hq⟩:∃q,ps[i]? = some q:=by
   have hlt:i<M.length:=by
    rcases aaA i M.length with a|a
    ·exact a
    ·rw[aao a]at hB;cases hB
   exact⟨_,aae (by rw[x.len];exact hlt)⟩
  obtain⟨pg,hbk,fq,hpg⟩:=x1.YR i q B hq hB;have hz:=hs i B hB;rw[hi]at hat;have hcb:1<=c/\c<=8:=by omega
  have hcn:¬c=0:=by omega
  have hw:IntKind.wrap .i64 ((B.size:Int)-c)=(B.size:Int)-c:=Yo (by omega) (by omega);by_cases h0:pn<0
  ·have e:=Uy (p:=⟨2,pn,pb⟩) (c:=c) hi hB (λq=>by have:0<=pn:=q.1;omega);rcases hcc with rfl|rfl|rfl
   all_goals
    simp -implicitDefEqProofs only[zu,zG,zU,z7,jo,kh,Zm,wt,yq,uU,Z3,zH,zS,yj,yO,nth,nw,Value.cells,aaf,aaj,aaF,aau,Int.reduceEq,uH,vJ,zJ,zw,aaq,abp,aa1,yR,zh,wA,wx,uR];refine yb (by kernel_rfl) rfl hat ?_;rintro v h1 ⟨rfl,rfl⟩;simp -implicitDefEqProofs only[zu,zG,zU,yS,kh,VC,wt,yq,qF,zH,zS,wB,aaQ,aaf,aaj,uH,zJ,zw,yR,XL,hq,j6,h0];exact no e
  by_cases h1:(B.size:Int)-c<pn
  ·have e:=Uy (p:=⟨2,pn,pb⟩) (c:=c) hi hB (λq=>by have:pn<=B.size-c:=q.2.1;omega);rcases hcc with rfl|rfl|rfl
   all_goals
    simp -implicitDefEqProofs only[zu,zG,zU,z7,jo,kh,Zm,wt,yq,uU,Z3,zH,zS,yj,yO,nth,nw,Value.cells,aaf,aaj,aaF,aau,Int.reduceEq,uH,vJ,zJ,zw,aaq,abp,aa1,yR,zh,wA,wx,uR];refine yb (by kernel_rfl) rfl hat ?_;rintro v h1 ⟨rfl,rfl⟩;simp -implicitDefEqProofs only[zu,zG,zU,yS,kh,VC,wt,yq,vm,qF,Ww,X8,zH,zS,wB,aaQ,aaf,aaj,uH,vJ,zJ,zw,aaq,yR,zh,XL,kQ,hq,j6,h0,hbk,hw,h1];exact no e
  by_cases h2:pn.tmod c=0
  case neg=>
   have e:=Uy (p:=⟨2,pn,pb⟩) (c:=c) hi hB (λq=>h2 q.2.2);rcases hcc with rfl|rfl|rfl
   all_goals
    simp -implicitDefEqProofs only[zu,zG,zU,z7,jo,kh,Zm,wt,yq,uU,Z3,zH,zS,yj,yO,nth,nw,Value.cells,aaf,aaj,aaF,aau,Int.reduceEq,uH,vJ,zJ,zw,aaq,abp,aa1,yR,zh,wA,wx,uR];refine yb (by kernel_rfl) rfl hat ?_;rintro v h1 ⟨rfl,rfl⟩;simp -implicitDefEqProofs only[zu,zG,zU,yS,kh,yq,vm,qF,Ww,Z3,X8,Jb,zH,zS,wB,aaQ,aaf,aaj,Int.reduceEq,vJ,zJ,zw,aaq,aa1,yR,zh,XL,kQ,hq,j6,h0,hbk,hw,h1,h2];exact no e
  have e:=pG (p:=⟨2,pn,pb⟩) (c:=c) rfl hcc hi hB ⟨by show 0<=pn;omega,by show pn<=_;omega,h2⟩;have hmd:=Ld hbk hpg fq (λb hb=>x1.ok b (x1.sub i b hb)) (by simp only[yp,qz];omega) (a:=pn) (by omega) (by omega) (by omega);have hr1:pn.tmod 64=((pn.toNat%64:Nat):Int):=by rw[abK (by omega)];omega
  have hr2:IntKind.wrap .i64 (((pn.toNat%64:Nat):Int)+c)=((pn.toNat%64:Nat):Int)+c:=Yo (by omega) (by omega)
  have hin:((pn.toNat%64:Nat):Int)+c<=64:=by
   rw[abK (by omega)]at h2;rcases hcc with rfl|rfl|rfl <;> omega
  have hb1:0<=((pn.toNat%64:Nat):Int)+c/\((pn.toNat%64:Nat):Int)+c<=((64:Nat):Int):=by omega
  have hb2:0<=((pn.toNat%64:Nat):Int)/\((pn.toNat%64:Nat):Int)<=((((pn.toNat%64:Nat):Int)+c).toNat:Int):=by omega
  have hb3:¬64=pn.toNat%64:=by omega
  have hb4:(((pn.toNat%64:Nat):Int)+c).toNat-pn.toNat%64=c.toNat:=by omega
  have hbox:∀h1,Z5 (fs i) (h.push (.cells [.int .i64 2,.int .i64 pn,.int .i64 pb] 64)) h1->h1.get h.next=some (.cells [.int .i64 2,.int .i64 pn,.int .i64 pb] 64):=λh1 ef=>by
   rw[ef.get h.next (λhc=>by have:=(x.ok _ (x.sub i _ hc)).2;omega) (by simp only[yp];omega),zO]
  rcases hcc with rfl|rfl|rfl
  all_goals
   simp -implicitDefEqProofs only[zu,zG,zU,z7,jo,kh,Zm,wt,yq,uU,Z3,zH,zS,yj,yO,nth,nw,Value.cells,aaf,aaj,aaF,aau,Int.reduceEq,uH,vJ,zJ,zw,aaq,abp,aa1,yR,zh,wA,wx,uR];refine yb (by kernel_rfl) rfl hat ?_;rintro v h1 ⟨rfl,rfl⟩;simp -implicitDefEqProofs only[zu,zG,zU,z7,kh,yq,vm,qF,Ww,Z3,X8,Jb,zH,zS,wB,aaQ,nth,aaf,aaj,Int.reduceEq,uH,vJ,zJ,zw,aaq,abp,yR,zh,XL,kQ,hq,j6,h0,hbk,hw,h1,h2];refine yb (by kernel_rfl) rfl hmd ?_;rintro v h1 ⟨g,pq,cq,gs,F',rfl,hbk1,hfull,hgs,fp1,ef,hsub,hok⟩;have hbx:=hbox h1 ef;simp -implicitDefEqProofs only[zu,zG,zU,z7,vm,uU,Z2,Jb,zH,zS,wB,yj,bS,aax,Vc,aaQ,aaf,aaj,aau,aac,aat,aa9,Int.reduceEq,Int.reduceToNat,abg,ace,aaq,fN,LH,j6,hr1,hr2,hb1,hb2,hb3,hb4,aaE,hbx];unfold Fe;rw[e];have y:=x1.sN hq hB rfl ef ⟨_,hbk1,fp1,.full pq cq gs rfl hfull⟩ hsub hok;rw[BQ hB]at y;refine⟨g,_,_,_,_,pq,q,cq,gs,B,hB,rfl,y,hq,hbk1,by simp only[aac];exact fp1,by simp only[aac];exact hfull,hgs,(Wa.mono (λ_ h=>h.elim)).trans (ef.mono (λb hb=>x.sub i b hb)),λb hb=>?_⟩;rcases hb with hb|hb
   ·exact .inl hb
   ·rcases hsub b hb with hb|hb
    ·exact .inl (x.sub i b hb)
    ·exact .inr (by have:h.next+1<=b:=hb;omega)
end
def GM(f:Nat->Cl)(n:Nat):Nat->Int
 |0=>0
 |k+1=>IntKind.wrap .u64 ((BitVec.ofInt 64 (GM f n k) ||| BitVec.ofInt 64 (IntKind.wrap .u64 (IntKind.wrap .u64 (f (n+k)).n*2^(8*k)))).toNat)
def Vr(f:Nat->Cl)(n:Nat):Nat->Bool
 |0=>true
 |k+1=>Vr f n k&&decide ((f (n+k)).k=1)
def Wr(f:Nat->Cl)(n:Nat)(c:Int):Nat->Bool
 |0=>decide (c=8)
 |k+1=>Wr f n c k&&decide ((f (n+k)).k=2)&&decide (IntKind.wrap .i64 (f (n+k)).n=k)&&decide ((f (n+k)).p=(f n).p)
def bL(f:Nat->Cl)(n:Nat)(c:Int):V :=
 if Vr f n c.toNat=true then ⟨1,if c=8 then IntKind.wrap .i64 (GM f n c.toNat) else if c=4 then IntKind.wrap .i64 (IntKind.wrap .i32 (GM f n c.toNat)) else IntKind.wrap .i64 (IntKind.wrap .i8 (GM f n c.toNat)),0⟩
 else if Wr f n c c.toNat=true then (f n).p else v0
def Q5(M:MM)(c:Int)(p:V):Option V:=match right M c p with
 |none=>none
 |some i=>(M[i]?).map λB=>bL B.byte p.n.toNat c
def mX(M:MM)(c:Int)(p:V)(v:Value):Prop:=match Q5 M c p with
 |none=>v=.tuple #[v0.val,.bool false]
 |some a=>v=.tuple #[a.val,.bool true]
theorem eG{cs:List Value}{o:Nat}{c:Cl}(h:∀j,j<5->cs[o+j]? = c.Xk[j]?):(cs.drop o).take 5=c.Xk:=by
 apply abe;intro j;by_cases hj:j<5
 ·rw[aaX hj,aaW];exact h j hj
 ·rw[aao (by simp;omega),aao (by show 5<=j;omega)]
theorem LU{cs:List Value}{o:Nat}{c:Cl}(h:∀j,j<5->cs[o+j]? = c.Xk[j]?):(cs.drop (o+2)).take 3=[.int .i64 c.p.k,.int .i64 c.p.n,.int .i64 c.p.b]:=by
 have:=congrArg (List.drop 2) (eG h);rw[List.drop_take,List.drop_drop]at this;exact this
theorem SX(a b:V):((a.k == b.k)&&((a.n == b.n)&&(a.b == b.b)))=decide (a=b):=by
 obtain⟨a1,a2,a3⟩:=a;obtain⟨b1,b2,b3⟩:=b;rw[ab3];simp
theorem Lo{f:Nat->Cl}{n c:Nat}(h:∀k,k<c->f (n+k)=fB)(h1:1<=c):Vr f n c=false:=by
 cases c with
 |zero=>omega
 |succ c=>unfold Vr;rw[h c (by omega)];simp[fB]
theorem GS{f:Nat->Cl}{n c:Nat}{d:Int}(h:∀k,k<c->f (n+k)=fB)(h1:1<=c):Wr f n d c=false:=by
 cases c with
 |zero=>omega
 |succ c=>unfold Wr;rw[h c (by omega)];simp[fB]
section
variable {h:za}{m:Nat}{bs:Value}{ps:List Nat}{fs:Nat->Nat->Prop}{M:MM}{F:Nat->Prop}{c:Int}{p:V}
def Nv(h:za)(f:Nat->Cl)(n:Nat)(c:Int)(m:Nat)(vs:List Value)(h':za):Prop :=
 ∃k,k<=c.toNat/\m=c.toNat-k/\vs=[.int .u64 (GM f n k),.bool (Vr f n k),.bool (Wr f n c k),.int .i64 k]/\Z5 ss h h'
theorem MV(x:mA h m bs ps fs M F)(hs:small M)(hc:Xl c)(hp:p.ok) :
  DC Tryz.prog 108 [.pointer (some ⟨m,0,none⟩),.int .i64 c,p.val] h (λv h1=>Z5 ss h h1/\mX M c p v):=by
 apply Y3;intro hwf;have hro:=hwf.2;apply Fl;unfold Hm;have e1:p.val=.agg #[.int .i64 p.k,.int .i64 p.n,.int .i64 p.b]:=rfl;have Wa:Z5 ss h ((h.push (.cells [.int .i64 p.k,.int .i64 p.n,.int .i64 p.b] 64)).push (.cells [.int .i64 0,.int .i64 0,.int .i64 0] 64)):=((Z5.refl _ _).push _).push _
 have x1:mA ((h.push (.cells [.int .i64 p.k,.int .i64 p.n,.int .i64 p.b] 64)).push (.cells [.int .i64 0,.int .i64 0,.int .i64 0] 64)) m bs ps fs M F :=
  x.zE (λb hb=>Wa.get b (λe=>e) (x.ok b hb).2) Wa.next
 have hac:=HZ (c:=c) (p:=p) x1 hs hc hp;rw[e1];simp -implicitDefEqProofs only[zu,zG,zU,Xo,zS,yO,kd,nth,nw,Value.cells,BK,aaF,aau,aaB,aaz,aba,abu,zf,abt,aaT,abr,aac,aa9,Nat.reduceAdd,abg,aal,yp,zJ,zL,fS,vi,yg,zw,CX,zq,zM,Oy,vT,y9,IQ,IS,Uw];rw[e1]at hac;refine yb (by kernel_rfl) rfl hac ?_;rintro v h1 ⟨ef,hr⟩
 have hl:h1.get (h.next+1)=some (.cells [.int .i64 0,.int .i64 0,.int .i64 0] 64):=by
  rw[ef.get _ (λe=>e) (by simp only[yp];omega)];exact zJ (by simp only[yp])
 have hr1:h1.ro<=h.next+1:=by rw[ef.ro];simp only[qz];omega
 have hpost:∀a,Q5 M c p=some a->mX M c p (.tuple #[.agg #[.int .i64 a.k,.int .i64 a.n,.int .i64 a.b],.bool true]):=λa ha=>by unfold mX;rw[ha];rfl
 cases e:right M c p with
 |none=>
  rw[e]at hr;subst hr;simp -implicitDefEqProofs only[U3,U4,zu,xe,zG,zU,yS,uU,zH,yj,yO,aau,aaB,aaz,aa8,aa3,aaT,abr,aac,Nat.reduceAdd,abg,aal,ye,A6,Qg,hl,hr1];exact⟨(Wa.trans ef).set (.inr (by omega)) _,by unfold mX Q5;rw[e];rfl⟩
 |some i=>
  rw[e]at hr;obtain⟨s,rfl,hcell⟩:=hr;obtain⟨hk,hcc,hi,B,hB,hn0,hn1,hn2⟩:=lZ e;have hlm:Q5 M c p=some (bL B.byte p.n.toNat c):=by unfold Q5;rw[e];simp only[hB];rfl
  have hc1:1<=c.toNat/\c.toNat<=8:=by omega
  rcases hcell B hB with⟨rfl,hu⟩|⟨g,off,cs,cp,rfl,fg,hg,hlen,hoff,hcs⟩
  ·simp -implicitDefEqProofs only[U3,U4,zu,xe,zG,zU,yS,uU,zH,yj,yO,aau,aaB,aaz,aa8,aa3,aaT,abr,aac,Nat.reduceAdd,abg,aal,ye,A6,Qg,hl,hr1];refine⟨(Wa.trans ef).set (.inr (by omega)) _,?_⟩
   have:bL B.byte p.n.toNat c=v0:=by
    unfold bL;rw[Lo hu hc1.1,GS hu hc1.1];rfl
   rw[this]at hlm;exact hpost _ hlm
  ·simp -implicitDefEqProofs only[U3,U4,zu,xe,zG,zU,z7,uU,zH,yj,yO,nth,aau,acf,aaB,aaz,aa8,aa3,aaT,abr,aac,Nat.reduceAdd,Nat.reduceMul,Int.reduceLE,Int.reduceToNat,abg,ace,aal,ye,MA,XH,Qg,hl,hr1];refine jz (Nv h1 B.byte p.n.toNat c) c.toNat ⟨0,by omega,by omega,rfl,.refl _ _⟩ ?_;rintro n vs h2 ⟨k,hk1,rfl,rfl,ef2⟩;have hg2:h2.get g=some (.cells cs 184):=by rw[ef2.get g (λe=>e) (by have:=(x.ok g fg).2;have:=ef.next;have:=Wa.next;omega),hg]
   by_cases hlt:k<c.toNat
   ·have hki:(k:Int)<(c.toNat:Int):=(by omega);have hcel:=eG (hcs k · hlt);have hc0:=eG (hcs 0 · (by omega));have hb1:0<=(k:Int)/\(k:Int)<(c.toNat:Int):=by omega
    have hb2:off+k*5+5<=cs.length:=(by omega);have hb3:off+5<=cs.length:=(by omega);have hb4:0<=(0:Int)/\(0:Int)<(c.toNat:Int):=(by omega);have hw1:IntKind.wrap .i64 (8*(k:Int))=((8*k:Nat):Int):=(by rw[Yo (by omega) (by omega)];omega);have hw2:IntKind.wrap .i64 ((k:Int)+1)=((k+1:Nat):Int):=(by rw[Yo (by omega) (by omega)];omega);have hr2:h2.ro<=h2.next:=(by have:=ef2.ro;have:=ef2.next;have:=ef.next;simp only[yp]at this;omega);have hk0:0<=((8*k:Nat):Int):=(by omega);have hmin:min (8*k) IntKind.u64.bits=8*k:=by show min (8*k) 64=_;omega
    have hnext:∀{a b d h3},Z5 ss h2 h3->a=GM B.byte p.n.toNat (k+1)->b=Vr B.byte p.n.toNat (k+1)->d=Wr B.byte p.n.toNat c (k+1)->∃m,m<c.toNat-k/\Nv h1 B.byte p.n.toNat c m [.int .u64 a,.bool b,.bool d,.int .i64 ((k+1:Nat):Int)] h3:=λef3 ea eb ed=>
     ⟨c.toNat-(k+1),by omega,k+1,by omega,rfl,by rw[ea,eb,ed],ef2.trans ef3⟩
    have hefn:∀l l',Z5 ss h2 ((h2.push (.cells l 158)).set h2.next (some (.cells l' 158))):=λl l'=>((Z5.refl _ _).push _).set (.inr (aal _)) _;have hgn:∀l l',((h2.push (.cells l 158)).set h2.next (some (.cells l' 158))).get g=some (.cells cs 184):=λl l'=>by rw[(hefn l l').get g (λe=>e) (by have:=(x.ok g fg).2;have:=ef.next;have:=Wa.next;have:=ef2.next;omega),hg2]
    simp only[Cl.Xk]at hcel hc0;have hp3:(cs.drop (off+2)).take 3=[.int .i64 (B.byte p.n.toNat).p.k,.int .i64 (B.byte p.n.toNat).p.n,.int .i64 (B.byte p.n.toNat).p.b]:=LU (λj hj=>by simpa using hcs 0 j (by omega) hj);have hb5:off+2+3<=cs.length:=by omega
    cases hP:Wr B.byte p.n.toNat c k with
    |false=>
     cases hN:Vr B.byte p.n.toNat k
     all_goals
      simp -implicitDefEqProofs only[zu,xe,zG,zU,yS,z7,jo,Zm,wt,yq,qF,Xo,Z2,VP,oN,Ga,zH,zS,yO,kd,nth,aaf,aaj,aau,aaB,aaz,aba,abu,zf,aa8,aa3,aac,aa9,Nat.reduceAdd,abg,aal,uH,qz,zJ,ye,vi,yg,zw,rI,CX,zq,QS,Ys,Vj,XE,X9,Xc,aP,Uw,XH,hki,hg2,hb1,hb2,hb4,hcel,hw1,hw2,aaE,hr2,hk0,hmin];refine hnext (hefn _ _) rfl ?_ ?_
      ·simp[Vr,hN]
      ·simp[Wr,hP]
    |true=>
     by_cases hk2:(B.byte (p.n.toNat+k)).k=2
     ·by_cases hkk:IntKind.wrap .i64 (B.byte (p.n.toNat+k)).n=(k:Int)
      ·cases hN:Vr B.byte p.n.toNat k
       all_goals
        simp -implicitDefEqProofs only[zu,xe,zG,zU,yS,z7,jo,Zm,wt,yq,qF,Xo,Z2,VP,oN,Ga,zH,zS,yO,kd,nth,aaf,aaj,aau,acf,aaB,aaz,aba,abu,zf,aa8,aa3,abt,aaT,ab4,abr,aac,aa9,Nat.reduceAdd,Nat.reduceMul,Int.reduceEq,Int.reduceToNat,abg,aal,uH,vJ,qz,zJ,ye,vi,yg,zw,aaq,rI,CX,zq,QS,zM,Ys,Vj,XE,X9,Xc,aP,IG,U8,Uw,XH,hki,hg2,hb1,hb2,hb3,hb4,hp3,hcel,hw1,hw2,aaE,hr2,hk0,hgn,hmin,hk2,hkk];refine hnext (hefn _ _) rfl ?_ ?_
        ·simp[Vr,hN,hk2]
        ·simp only[Wr,hP,hk2,hkk,SX,abO,decide_true]
      ·cases hN:Vr B.byte p.n.toNat k
       all_goals
        simp -implicitDefEqProofs only[zu,xe,zG,zU,yS,z7,jo,Zm,wt,yq,qF,Xo,Z2,VP,oN,Ga,zH,zS,yO,kd,nth,aaf,aaj,aau,aaB,aaz,aba,abu,zf,aa8,aa3,aac,aa9,Nat.reduceAdd,Int.reduceEq,abg,aal,uH,vJ,qz,zJ,ye,vi,yg,zw,aaq,rI,CX,zq,QS,Ys,Vj,XE,X9,Xc,aP,IG,Uw,XH,hki,hg2,hb1,hb2,hb3,hb4,hcel,hw1,hw2,aaE,hr2,hk0,hmin,hk2,hkk];refine hnext (hefn _ _) rfl ?_ ?_
        ·simp[Vr,hN,hk2]
        ·simp[Wr,hP,hk2,hkk]
     ·cases hN:Vr B.byte p.n.toNat k
      all_goals
       simp -implicitDefEqProofs only[zu,xe,zG,zU,yS,z7,jo,Zm,wt,yq,qF,Xo,Z2,VP,oN,Ga,zH,zS,yO,kd,nth,aaf,aaj,aau,aaB,aaz,aba,abu,zf,aa8,aa3,aac,aa9,Nat.reduceAdd,abg,aal,uH,vJ,qz,zJ,ye,vi,yg,zw,aaq,rI,CX,zq,QS,Ys,Vj,XE,X9,Xc,aP,Uw,XH,hki,hg2,hb1,hb2,hb3,hb4,hcel,hw1,hw2,aaE,hr2,hk0,hmin,hk2];refine hnext (hefn _ _) rfl ?_ ?_
       ·simp[Vr,hN]
       ·simp[Wr,hP,hk2]
   ·have hki:¬(k:Int)<(c.toNat:Int):=(by omega);have hkc:k=c.toNat:=(by omega);subst hkc
    have hl2:h2.get (h.next+1)=some (.cells [.int .i64 0,.int .i64 0,.int .i64 0] 64):=by
     rw[ef2.get _ (λe=>e) (by have:=ef.next;simp only[yp]at this;omega),hl]
    have hr2:h2.ro<=h.next+1:=(by rw[ef2.ro];exact hr1);have hof:∀n,DC Tryz.prog 64 [.int .i64 n] h2 (λv h1=>v=V.val ⟨1,n,0⟩/\Z5 ss h2 h1):=λn=>ZZ n h2
    have Tq:∀h3,Z5 ss h2 h3->h3.get (h.next+1)=some (.cells [.int .i64 0,.int .i64 0,.int .i64 0] 64)/\h3.ro<=h.next+1:=λh3 e3=>
     ⟨by rw[e3.get _ (λe=>e) (by have:=ef.next;have:=ef2.next;simp only[yp]at *;omega),hl2],by rw[e3.ro];exact hr2⟩
    have hfin:∀{h3 a v},Z5 ss h2 h3->bL B.byte p.n.toNat c=a->Z5 ss h (h3.set (h.next+1) v)/\mX M c p (.tuple #[.agg #[.int .i64 a.k,.int .i64 a.n,.int .i64 a.b],.bool true]):=λe3 ea=>
     ⟨(((Wa.trans ef).trans ef2).trans e3).set (.inr (by omega)) _,hpost _ (by rw[hlm,ea])⟩
    cases hN:Vr B.byte p.n.toNat c.toNat with
    |true=>
     rcases hcc with rfl|rfl|rfl
     all_goals
      simp -implicitDefEqProofs only[zu,xe,zG,zU,yS,z7,jo,wt,qF,Xo,Z2,VP,zH,zS,nth,Nat.reduceSub,Int.reduceEq,Int.reduceToNat,uH,vJ,zw,aaq,CX,Ys,Vj,XE,X9,Xc,XH];refine yb (by kernel_rfl) rfl (hof _) ?_;rintro v h3 ⟨rfl,e3⟩;obtain⟨g1,g2⟩:=Tq h3 e3;simp -implicitDefEqProofs only[zu,zG,zU,uU,zH,yO,kd,aau,aaB,aaz,aba,abu,zf,aa8,aa3,aaT,abr,aac,aa9,Nat.reduceAdd,abg,aal,ye,vi,zM,V.val,g1,g2];refine hfin (a:=⟨1,_,0⟩) e3 ?_;unfold bL;rw[aam hN];rfl
    |false=>
     cases hP:Wr B.byte p.n.toNat c c.toNat with
     |true=>
      have hp3:(cs.drop (off+2)).take 3=[.int .i64 (B.byte p.n.toNat).p.k,.int .i64 (B.byte p.n.toNat).p.n,.int .i64 (B.byte p.n.toNat).p.b]:=LU (λj hj=>by simpa using hcs 0 j (by omega) hj);have hb5:off+2+3<=cs.length:=by omega
      have hb4:0<=(0:Int)/\(0:Int)<(c.toNat:Int):=(by omega);have hgn:∀v,(h2.set (h.next+1) v).get g=some (.cells cs 184):=λv=>by rw[zP (by have:=(x.ok g fg).2;omega),hg2]
      ·simp -implicitDefEqProofs only[zu,xe,zG,zU,yS,z7,jo,Zm,yq,uU,qF,Z2,VP,zH,zS,yO,kd,nth,aau,aaB,aaz,aba,abu,zf,aa8,aa3,aaT,abr,aac,aa9,Nat.reduceAdd,abg,aal,vJ,ye,vi,yg,zw,aaq,CX,zq,zM,Ys,Vj,XE,X9,Xc,Uw,XH,hki,hl2,hr2,hp3,hb5,hb4,hg2];refine hfin (a:=(B.byte p.n.toNat).p) (.refl _ _) ?_;unfold bL;rw[hN,hP];rfl
     |false=>
      rcases hcc with rfl|rfl|rfl
      all_goals
       simp -implicitDefEqProofs only[zu,xe,zG,zU,z7,Zm,yq,uU,qF,Z2,VP,zH,zS,yO,nth,aau,aaB,aaz,aa8,aa3,aaT,abr,aac,Nat.reduceAdd,Nat.reduceSub,Int.reduceToNat,abg,aal,ye,Ys,Vj,XE,X9,Xc,XH,hl2,hr2];refine hfin (a:=v0) (.refl _ _) ?_;unfold bL;rw[hN,hP];rfl
end
theorem Z5.more{F G:Nat->Prop}{a b c:za}(x:Z5 F a b)(y:Z5 G b c)(hg:∀i,G i->F i\/a.next<=i):Z5 F a c :=
 ⟨aaY x.next y.next,y.ro.trans x.ro,λi hi hlt=>by
  have hn:¬G i:=λe=>by
   rcases hg i e with q|q
   ·exact hi q
   ·omega
  rw[y.get i hn (aan hlt x.next),x.get i hi hlt]⟩
theorem SZ{b:Bool}{A B:(List Value->za->Prop)->Prop}{J:List Value->za->Prop}{vs:List Value}{x y:za}(hA:∀j,A j=j vs x)(hB:∀j,B j=j vs y)(hJ:J vs (if b=true then x else y)):CD (.bool b) A B J:=by
 cases b
 ·rw[z7,hB];simpa using hJ
 ·rw[yS,hA];simpa using hJ
theorem YS(vs:List Value):∀(cs:List Value) (o i:Nat),o+vs.length<=cs.length->(zf cs o vs)[i]? = if o<=i/\i<o+vs.length then vs[i-o]? else cs[i]?:=by
 induction vs with
 |nil=>intro cs o i _;rw[aak (by simp)];rfl
 |cons v vs ih=>
  intro cs o i h;simp only[aaB]at h ⊢;unfold zf;rw[ih (cs.set o v) (o+1) i (by rw[abf];omega)];by_cases h1:o+1<=i/\i<o+1+vs.length
  ·rw[aam h1,aam (by omega),show i-o=i-(o+1)+1 by omega,aaj]
  ·rw[aak h1];by_cases h2:i=o
   ·subst h2;rw[aam (by omega),aaZ (by omega)];simp
   ·rw[aak (by omega),abo (by omega)]
def sN(f:Nat->Cl)(a:Nat)(c:Cl):Nat->Cl:=λk=>if k=a then c else f k
theorem XR.put{h:za}{q:Nat}{gs:List (Option Nat)}{B:MB}{F:Nat->Prop}(x:XR h q gs B F){a g:Nat}(hg:gs[a/64]? = some (some g)) :
  ∃cs,h.get g=some (.cells cs 184)/\a%64*5+5<=cs.length /\ ∀c:Cl,XR (h.set g (some (.cells (zf cs (a%64*5) c.Xk) 184))) q gs {B with byte:=sN B.byte a c} F:=by
 obtain⟨hl,fq,hq,hgs,hn,hd,ht⟩:=x;obtain⟨fg,cs,hc,hlen,hcs⟩:=hgs _ g hg;refine⟨cs,hc,by omega,λc=>⟨hl,fq,?_,λj g' hj=>⟨(hgs j g' hj).1,?_⟩,λj hj k hk=>?_,hd,λk hk=>?_⟩⟩
 ·rw[zP (by intro e;subst e;rw[hq]at hc;simp at hc),hq]
 ·by_cases e:g'=g
  ·subst e;have ej:j=a/64:=hd j _ g' hj hg;subst ej;refine⟨_,ye,by rw[ju,hlen],λk j hk hj=>?_⟩;have vlen:c.Xk.length=5:=rfl;rw[YS _ _ _ _ (by rw[vlen];omega),vlen];show _=(sN B.byte a c (64*(a/64)+k)).Xk[j]?;unfold sN;by_cases ek:k=a%64
   ·rw[aam (by omega),aam (by omega),show k*5+j-a%64*5=j by omega]
   ·rw[aak (by omega),aak (by omega)];exact hcs k j hk hj
  ·have ej:j≠a/64:=by intro ej;subst ej;rw[hg]at hj;cases hj;exact e rfl
   obtain⟨cs',hc',hlen',hcs'⟩:=(hgs j g' hj).2;refine⟨cs',by rw[zP e,hc'],hlen',λk j' hk hj'=>?_⟩;rw[hcs' k j' hk hj'];show _=(sN B.byte a c (64*j+k)).Xk[j']?;unfold sN;rw[aak (by omega)]
 ·show sN B.byte a c (64*j+k)=fB;unfold sN
  rw[aak (by intro e;have:j=a/64:=by omega
             subst this;rw[hg]at hj;cases hj)]
  exact hn j hj k hk
 ·show sN B.byte a c k=fB
  have hlt:a/64<gs.length:=by
   rcases aaA (a/64) gs.length with e|e
   ·exact e
   ·rw[aao e]at hg;cases hg
  unfold sN;rw[aak (by omega)];exact ht k hk
def norm(v:V):V:=if Q2 v=true then v else v0
def cellOf(v:V)(k:Nat):Cl:=if v.k=1 then ⟨1,IntKind.wrap .u8 (v.n.fdiv (2^(8*k))),v0⟩ else if v.k=2 then ⟨2,IntKind.wrap .u8 k,v⟩ else fB
def Ue(B:MB)(n:Nat)(v:V)(c:Nat):MB:={B with byte:=λa=>if n<=a/\a<n+c then cellOf v (a-n) else B.byte a}
theorem BT(B:MB)(n:Nat)(v:V):Ue B n v 0=B:=by
 unfold Ue
 congr 1
 funext a
 rw[aak (by omega)]
theorem fe(B:MB)(n:Nat)(v:V)(c:Nat):{Ue B n v c with byte:=sN (Ue B n v c).byte (n+c) (cellOf v c)} = Ue B n v (c+1):=by
 unfold Ue sN;simp only[MB.mk.injEq,ace]
 funext a
 by_cases e:a=n+c
 ·subst e;rw[aam rfl,aam (by omega),show n+c-n=c by omega]
 ·rw[aak e];by_cases e2:n<=a/\a<n+c
  ·rw[aam e2,aam (by omega)]
  ·rw[aak e2,aak (by omega)]
def Vx(M:MM)(c:Int)(p v:V):Option MM:=if (norm v).k=2/\c≠8 then none else match right M c p with
 |none=>none
 |some i=>(M[i]?).map λB=>M.set i (Ue B p.n.toNat (norm v) c.toNat)
def sX(h:za)(m:Nat)(M':MM)(F:Nat->Prop)(h1:za):Prop := ∃F',pM h1 m M' F'/\Z5 F h h1 /\ ∀b,F' b->F b\/h.next<=b
def Jk(h:za)(m:Nat)(M:MM)(F:Nat->Prop)(c:Int)(p v:V)(r:Value)(h1:za):Prop:=match Vx M c p v with
 |none=>r=.bool false/\sX h m M F h1
 |some M'=>r=.bool true/\sX h m M' F h1
section
variable {h:za}{m:Nat}{bs:Value}{ps:List Nat}{fs:Nat->Nat->Prop}{M:MM}{F:Nat->Prop}{c:Int}{p v:V}
def cF(h:za)(q g:Nat)(gs:List (Option Nat))(B:MB)(n:Nat)(v:V)(c:Int)(F:Nat->Prop)(m:Nat)(vs:List Value)(h':za):Prop :=
 ∃k,k<=c.toNat/\m=c.toNat-k/\vs=[.int .i64 k]/\Z5 (λb=>b=g) h h'/\XR h' q gs (Ue B n v k) F
theorem LS(x:Wk h m bs ps fs M F)(hs:small M)(hc:Xl c)(hp:p.ok) :
  DC Tryz.prog 107 [.pointer (some ⟨m,0,none⟩),.int .i64 c,p.val,v.val] h (Jk h m M F c p v):=by
 apply Y3;intro hwf;have hro:=hwf.2;apply B8;unfold Ed;have e1:p.val=.agg #[.int .i64 p.k,.int .i64 p.n,.int .i64 p.b]:=rfl;have e2:v.val=.agg #[.int .i64 v.k,.int .i64 v.n,.int .i64 v.b]:=rfl;rw[e1,e2];simp -implicitDefEqProofs only[zu,zG,zU,qS,zH,zS,yO,kd,nw,Value.cells,BK,aaF,aau,aaB,aaz,aba,abu,zf,abt,aaT,abr,aac,aa9,Nat.reduceAdd,abg,aal,yp,zJ,vi,yg,zw,yR,zh,zq,zM,Mo,y9,wA,wx];rw[<- e2];refine zi (by kernel_rfl) rfl (Qd v _) ?_;simp -implicitDefEqProofs only[zu,mr,aau,aaB,aaz,aa8,aa3,Nat.reduceAdd,ace,aal,yp,qz,zJ]
 refine SZ (vs:=[]) (x:=((h.push (.cells [.int .i64 p.k,.int .i64 p.n,.int .i64 p.b] 64)).push (.cells [.int .i64 v.k,.int .i64 v.n,.int .i64 v.b] 64)).set (h.next+1) (some (.cells [.int .i64 0,.int .i64 0,.int .i64 0] 64)))
  (y:=(h.push (.cells [.int .i64 p.k,.int .i64 p.n,.int .i64 p.b] 64)).push (.cells [.int .i64 v.k,.int .i64 v.n,.int .i64 v.b] 64)) ?_ ?_ ?_
 ·intro j;have:h.ro<=h.next+1:=by omega
  simp -implicitDefEqProofs only[zu,aac,this]
 ·intro j;rfl
 generalize hH:(if (!Q2 v)=true then ((h.push (.cells [.int .i64 p.k,.int .i64 p.n,.int .i64 p.b] 64)).push (.cells [.int .i64 v.k,.int .i64 v.n,.int .i64 v.b] 64)).set (h.next+1) (some (.cells [.int .i64 0,.int .i64 0,.int .i64 0] 64)) else
  (h.push (.cells [.int .i64 p.k,.int .i64 p.n,.int .i64 p.b] 64)).push (.cells [.int .i64 v.k,.int .i64 v.n,.int .i64 v.b] 64))=H
 have Wa:Z5 ss h H:=by
  subst hH;split
  ·exact(((Z5.refl _ _).push _).push _).set (.inr (by omega)) _
  ·exact((Z5.refl _ _).push _).push _
 have hx:H.get (h.next+1)=some (.cells [.int .i64 (norm v).k,.int .i64 (norm v).n,.int .i64 (norm v).b] 64):=by
  subst hH;unfold norm;cases Q2 v
  ·simp only[aa1,aac];rw[aak (by simp)];exact ye
  ·simp only[abp,aac];rw[aak (by simp)];exact zJ rfl
 have hp1:H.get h.next=some (.cells [.int .i64 p.k,.int .i64 p.n,.int .i64 p.b] 64):=by
  have:¬h.next=h.next+1:=by omega
  have h3:((h.push (.cells [.int .i64 p.k,.int .i64 p.n,.int .i64 p.b] 64)).push (.cells [.int .i64 v.k,.int .i64 v.n,.int .i64 v.b] 64)).get h.next=some (.cells [.int .i64 p.k,.int .i64 p.n,.int .i64 p.b] 64):=by
   rw[zL (by simp only[yp];omega),zO]
  subst hH;split
  ·rw[zP this,h3]
  ·exact h3
 have hnx:H.next=h.next+2:=by
  subst hH;cases Q2 v <;> simp[yp,qR]
 clear hH
 have hsm:Vx M c p v=if (norm v).k=2/\c≠8 then none else match right M c p with
  |none=>none
  |some i=>(M[i]?).map λB=>M.set i (Ue B p.n.toNat (norm v) c.toNat):=rfl
 generalize norm v=w at hx hsm;have x1:Wk H m bs ps fs M F:=x.zE (λb hb=>Wa.get b (λe=>e) (x.ok b hb).2) Wa.next Wa.ro;have hro1:H.ro<=H.next:=by rw[hnx,Wa.ro];omega
 have hm0:∀{h1},Z5 ss H h1->sX h m M F h1:=λe3=>⟨F,⟨bs,ps,fs,x1.zE (λb hb=>e3.get b (λe=>e) (x1.ok b hb).2) e3.next e3.ro⟩,(Wa.trans e3).mono (λ_ q=>q.elim),λb hb => .inl hb⟩;by_cases hbad:w.k=2/\c≠8
 ·rw[aam hbad]at hsm;have h1:=hbad.1;have h2:¬c=8:=hbad.2;simp -implicitDefEqProofs only[zu,zG,zU,yS,jo,wt,Xo,Z3,zH,zS,aaf,uH,vJ,aaq,aa1,hx,h1,h2];unfold Jk;rw[hsm];exact⟨rfl,hm0 (.refl _ _)⟩
 rw[aak hbad]at hsm;have hac:=H0 (c:=c) (p:=p) hro1 x1 hs hc hp;rw[e1]at hac
 have hways:(w.k=2/\c=8) \/ ¬w.k=2:=by
  by_cases e:w.k=2
  ·by_cases e3:c=8
   ·exact .inl ⟨e,e3⟩
   ·exact(hbad ⟨e,e3⟩).elim
  ·exact .inr e
 have hall:∀r h1,Fe H m M F c p r h1->(∃ok,r=.tuple #[.slice none 0 0,.bool ok]/\ok=false/\Jk h m M F c p v (.bool false) h1) \/ ∃g,r=.tuple #[.slice (some ⟨g,p.n.toNat%64*5,none⟩) c.toNat 0,.bool true] /\ ∃q gs B G,cF h1 q g gs B p.n.toNat w c G c.toNat [.int .i64 0] h1/\0<=c /\
   (∀k,k<c.toNat->gs[(p.n.toNat+k)/64]? = some (some g)/\(p.n.toNat+k)%64*5=p.n.toNat%64*5+k*5)/\c<=8/\H.ro<=g/\h1.ro=H.ro/\(∀h2,Z5 (λb=>b=g) h1 h2->h2.get (h.next+1)=some (.cells [.int .i64 w.k,.int .i64 w.n,.int .i64 w.b] 64)) /\
   ∀h2,cF h1 q g gs B p.n.toNat w c G 0 [.int .i64 c.toNat] h2->Jk h m M F c p v (.bool true) h2:=by
  intro r h1 hr;unfold Fe at hr;cases e:right M c p with
  |none=>
   rw[e]at hr;obtain⟨rfl,e3⟩:=hr;refine .inl ⟨_,rfl,rfl,?_⟩;rw[e]at hsm;unfold Jk;rw[hsm];exact⟨rfl,hm0 e3⟩
  |some i=>
   rw[e]at hr hsm;obtain⟨g,bs1,ps1,fs1,F1,q,qp,cq,gs,B,hB,rfl,x2,hq,hb,fq,full,hgs,ef,hsub⟩:=hr;obtain⟨hk,hcc,hi,B',hB',hn0,hn1,hn2⟩:=lZ e;rw[hB]at hB';cases hB';have fg:=(full.hg _ g hgs).1;refine .inr ⟨g,rfl,q,gs,B,fs1 i,⟨0,by omega,by omega,rfl,.refl _ _,by rw[BT];exact full⟩,by omega,λk hk=>?_,by omega,by have:=(x2.ok g (x2.sub i g fg)).1;have:=ef.ro;omega,ef.ro,λh2 e2=>?_,λh2 hst=>?_⟩
   ·have hal:p.n.toNat%64+c.toNat<=64:=by
     rw[abK hn0]at hn2;rcases hcc with rfl|rfl|rfl <;> omega
    exact⟨by rw[show(p.n.toNat+k)/64=p.n.toNat/64 by omega];exact hgs,by omega⟩
   ·have n1:h.next+1≠g:=by
     intro en;rcases hsub g (x2.sub i g fg) with h3|h3
     ·have:=(x.ok g h3).2;omega
     ·omega
    rw[e2.get _ n1 (by have:=ef.next;omega),ef.get _ (λh3=>by have:=(x.ok _ h3).2;omega) (by omega),hx]
   ·obtain⟨k,hk1,hk2,hk3,e2,full2⟩:=hst;have hkc:k=c.toNat:=by simp at hk3;omega
    subst hkc
    have hne:qp≠g:=by
     intro en;subst en;obtain⟨cs,hc1,_⟩:=(full.hg _ qp hgs).2;rw[hb]at hc1;simp at hc1
    have hb2:h2.get qp=some (.cells [.int .i64 B.size,.slice (some ⟨q,0,none⟩) gs.length cq,.bool B.jQ] 155):=(by rw[e2.get _ hne (x2.ok qp (x2.sub i qp fq)).2,hb]);have y:=x2.sN hq hB (B':=Ue B p.n.toNat w c.toNat) rfl (e2.mono (λb (hb:b=g)=>by rw[hb];exact fg)) ⟨_,hb2,fq,.full q cq gs rfl full2⟩ (λb hb => .inl hb) (λb hb=>by have:=x2.ok b (x2.sub i b hb);have:=e2.next;have:=e2.ro;omega);unfold Jk;rw[hsm];simp only[hB,abq]
    have hsub2:∀b,F1 b->F b\/h.next<=b:=λb hb=>by
     rcases hsub b hb with q|q
     ·exact .inl q
     ·exact .inr (by omega)
    refine⟨trivial,_,⟨_,_,_,y⟩,((Wa.mono (λ_ q=>q.elim)).trans ef).more e2 (λb (hb:b=g)=>by rw[hb];exact hsub2 g (x2.sub i g fg)),λb hb=>?_⟩;rcases hb with hb|hb
    ·exact hsub2 b hb
    ·exact hsub2 b (x2.sub i b hb)
 rcases hways with⟨w2,c8⟩|w2
 ·have d8:decide (c=8)=true:=uH c8;simp -implicitDefEqProofs only[zu,zG,zU,z7,jo,wt,Xo,Z3,zH,zS,nth,aaf,aau,aaB,aaz,aaT,abr,aac,Nat.reduceAdd,aal,uH,abp,hx,hp1,w2,d8];refine yb (by kernel_rfl) rfl hac ?_;intro r h1 hr;rcases hall r h1 hr with⟨_,rfl,rfl,hf⟩|⟨g,rfl,q,gs,B,G,hI,hc0,hk,hc8,hgr,hr1,hbx,hend⟩
  ·simp -implicitDefEqProofs only[U3,U4,zu,xe,zG,zU,yS,mr,zH,yj,aa1,Qg];exact hf
  ·simp -implicitDefEqProofs only[U3,U4,zu,xe,zG,zU,z7,mr,zH,yj,abp,Qg];refine jz (cF h1 q g gs B p.n.toNat w c G) c.toNat hI ?_;rintro n vs h2 ⟨k,hk1,rfl,rfl,ef2,full2⟩;by_cases hlt:k<c.toNat
   ·have hki:(k:Int)<(c.toNat:Int):=(by omega);obtain⟨hgk,hok⟩:=hk k hlt;obtain⟨cs,hcs,hle,hput⟩:=full2.put hgk;have hput':=hput (cellOf w k);rw[hok]at hle hput';have hbx2:=hbx h2 ef2;have hr2:h2.ro<=g:=by rw[ef2.ro,hr1];exact hgr
    have hb1:0<=(k:Int)/\(k:Int)<(c.toNat:Int):=(by omega);have hw1:IntKind.wrap .i64 (8*(k:Int))=((8*k:Nat):Int):=(by rw[Yo (by omega) (by omega)];omega);have hw2:IntKind.wrap .i64 ((k:Int)+1)=((k+1:Nat):Int):=(by rw[Yo (by omega) (by omega)];omega);have hk0:0<=((8*k:Nat):Int):=(by omega);have hmin:min (8*k) IntKind.i64.bits=8*k:=by show min (8*k) 64=_;omega
    have hnext:∀h3,h3=h2.set g (some (.cells (zf cs (p.n.toNat%64*5+k*5) (cellOf w k).Xk) 184))->∃m,m<c.toNat-k/\cF h1 q g gs B p.n.toNat w c G m [.int .i64 ((k+1:Nat):Int)] h3:=λh3 e3=>
     ⟨c.toNat-(k+1),by omega,k+1,by omega,rfl,rfl,by rw[e3];exact ef2.set (.inl rfl) _,by rw[e3];have:=hput';unfold sN at this;rw[<- fe];exact this⟩
    simp -implicitDefEqProofs only[zu,xe,zG,zU,yS,z7,qF,Xo,Z2,VP,AJ,zS,yO,kd,nth,aaf,aaj,aau,aaB,aaz,aba,abu,zf,aaT,abr,aac,aa9,Nat.reduceAdd,Int.reduceEq,abg,aal,uH,vJ,vi,aaq,QS,JF,U5,Da,iM,XH,hki,hbx2,hcs,hr2,hb1,hle,hw1,hw2,hk0,hmin,aaE,w2];refine hnext _ ?_;unfold cellOf Cl.Xk;simp only[w2,zf,v0,fB,aac,aat,Int.reduceEq]
   ·have hkc:k=c.toNat:=(by omega);subst hkc;have hki:¬(c.toNat:Int)<(c.toNat:Int):=by omega
    simp -implicitDefEqProofs only[zu,xe,zG,zU,z7,qF,Z2,VP,zS,nth,vJ,aaq,iM,XH,hki];exact hend h2 ⟨c.toNat,by omega,by omega,rfl,ef2,full2⟩
 ·simp -implicitDefEqProofs only[zu,zG,zU,z7,Zm,yq,Xo,zH,zS,nth,aaf,aau,aaB,aaz,aaT,abr,aac,Nat.reduceAdd,aal,vJ,aaq,hx,hp1,w2];refine yb (by kernel_rfl) rfl hac ?_;intro r h1 hr;rcases hall r h1 hr with⟨_,rfl,rfl,hf⟩|⟨g,rfl,q,gs,B,G,hI,hc0,hk,hc8,hgr,hr1,hbx,hend⟩
  ·simp -implicitDefEqProofs only[U3,U4,zu,xe,zG,zU,yS,mr,zH,yj,aa1,Qg];exact hf
  ·simp -implicitDefEqProofs only[U3,U4,zu,xe,zG,zU,z7,mr,zH,yj,abp,Qg];refine jz (cF h1 q g gs B p.n.toNat w c G) c.toNat hI ?_;rintro n vs h2 ⟨k,hk1,rfl,rfl,ef2,full2⟩;by_cases hlt:k<c.toNat
   ·have hki:(k:Int)<(c.toNat:Int):=(by omega);obtain⟨hgk,hok⟩:=hk k hlt;obtain⟨cs,hcs,hle,hput⟩:=full2.put hgk;have hput':=hput (cellOf w k);rw[hok]at hle hput';have hbx2:=hbx h2 ef2;have hr2:h2.ro<=g:=by rw[ef2.ro,hr1];exact hgr
    have hb1:0<=(k:Int)/\(k:Int)<(c.toNat:Int):=(by omega);have hw1:IntKind.wrap .i64 (8*(k:Int))=((8*k:Nat):Int):=(by rw[Yo (by omega) (by omega)];omega);have hw2:IntKind.wrap .i64 ((k:Int)+1)=((k+1:Nat):Int):=(by rw[Yo (by omega) (by omega)];omega);have hk0:0<=((8*k:Nat):Int):=(by omega);have hmin:min (8*k) IntKind.i64.bits=8*k:=by show min (8*k) 64=_;omega
    have hnext:∀h3,h3=h2.set g (some (.cells (zf cs (p.n.toNat%64*5+k*5) (cellOf w k).Xk) 184))->∃m,m<c.toNat-k/\cF h1 q g gs B p.n.toNat w c G m [.int .i64 ((k+1:Nat):Int)] h3:=λh3 e3=>
     ⟨c.toNat-(k+1),by omega,k+1,by omega,rfl,rfl,by rw[e3];exact ef2.set (.inl rfl) _,by rw[e3];have:=hput';unfold sN at this;rw[<- fe];exact this⟩
    by_cases w1:w.k=1
    ·simp -implicitDefEqProofs only[zu,xe,zG,zU,yS,z7,qF,Xo,Z2,VP,AJ,zS,yO,kd,nth,aaf,aaj,aau,aaB,aaz,aba,abu,zf,aaT,abr,aac,aa9,Nat.reduceAdd,Int.reduceEq,abg,aal,uH,vJ,vi,aaq,QS,JF,U5,Da,iM,XH,hki,hbx2,hcs,hr2,hb1,hle,hw1,hw2,hk0,hmin,aaE,w1];refine hnext _ ?_;unfold cellOf Cl.Xk;simp only[w1,zf,v0,fB,aac,aat,Int.reduceEq]
    ·simp -implicitDefEqProofs only[zu,xe,zG,zU,yS,z7,qF,Xo,Z2,VP,AJ,zS,yO,kd,nth,aaf,aaj,aau,aaB,aaz,aba,abu,zf,aaT,abr,aac,aa9,Nat.reduceAdd,abg,aal,uH,vJ,vi,aaq,QS,JF,U5,Da,iM,XH,hki,hbx2,hcs,hr2,hb1,hle,hw1,hw2,hk0,hmin,aaE,w1,w2];refine hnext _ ?_;unfold cellOf Cl.Xk;simp only[w1,w2,zf,v0,fB,aat]
   ·have hkc:k=c.toNat:=(by omega);subst hkc;have hki:¬(c.toNat:Int)<(c.toNat:Int):=by omega
    simp -implicitDefEqProofs only[zu,xe,zG,zU,z7,qF,Z2,VP,zS,nth,vJ,aaq,iM,XH,hki];exact hend h2 ⟨c.toNat,by omega,by omega,rfl,ef2,full2⟩
end
theorem O7(h:za):DC Tryz.prog 60 [] h (λv h1=>v=.pointer (some ⟨h.next,0,none⟩)/\pM h1 h.next [] (λb=>b=h.next)/\Z5 ss h h1):=by
 apply Y3;intro hwf;have hro:=hwf.2;apply Hn;unfold Nz;simp -implicitDefEqProofs only[zu,zG,zU,qS,wB,yO,nw,Value.cells,aaF,ace,Mn];refine⟨⟨_,[],λ_ _=>False,⟨zO,rfl,rfl,.inl ⟨rfl,rfl⟩,λ_ e=>e,λi p B hp=>by simp at hp,λi j b e=>e.elim,λi b e=>e.elim,λb hb=>?_⟩⟩,(Z5.refl _ _).push _⟩;subst hb;simp only[qz,yp];omega
theorem dJ(c n:Nat):uQ c n≠0:=by
 unfold uQ;split
 ·cases Nat.ble n _ <;> simp
 ·simp
theorem EP(M:MM):live M<=M.length:=List.length_filter_le _ _
theorem Lb(M:MM)(B:MB)(hf:B.jQ=false):live (M++[B])=live M+1:=by simp[live,hf]
def fresh(n:Int):MB:=⟨n.toNat,false,λ_=>fB⟩
def w7(M:MM)(n:Int):MM×Int×Int:=if n<0\/65536<n then (M,0,1) else if 100000<=M.length then (M,0,2) else (M++[fresh n],M.length+1,0)
def cC(h:za)(m:Nat)(M:MM)(F:Nat->Prop)(n:Int)(r:Value)(h1:za):Prop:=r=.tuple #[.int .i64 (w7 M n).2.1,.int .i64 (w7 M n).2.2]/\sX h m (w7 M n).1 F h1
section
variable {h:za}{m:Nat}{bs:Value}{ps:List Nat}{fs:Nat->Nat->Prop}{M:MM}{F:Nat->Prop}
theorem Wk.grow(x:Wk h m bs ps fs M F){h1:za}{B:MB}{p q c:Nat}(hf:B.jQ=false)(Wa:Z5 F h h1)(hp:h.next<=p/\p<h1.next)(hq:h.next<=q/\q<h1.next)(hpq:p≠q)(hro:h.ro<=h.next)
  (e1:h1.get m=some (.cells [.slice (some ⟨q,0,none⟩) (M.length+1) c,.int .i64 (live M+1:Nat)] 148)) (hc:c≠0) (e2:h1.get q=some (.cells ((ps.map λp => .pointer (some ⟨p,0,none⟩))++[.pointer (some ⟨p,0,none⟩)]) 152))
  (e3:h1.get p=some (.cells [.int .i64 B.size,.slice none 0 0,.bool B.jQ] 155)) (e4:∀b,F b->b≠m->(∀c,bs ≠ .slice (some ⟨b,0,none⟩) M.length c)->h1.get b=h.get b) (hu:∀k,B.byte k=fB) :
  Wk h1 m (.slice (some ⟨q,0,none⟩) (M.length+1) c) (ps++[p]) (λi b=>if i=M.length then b=p else fs i b) (M++[B]) (λb=>F b\/b=p\/b=q):=by
 have hnew:∀b,h.next<=b->F b->False:=λb hl hb=>by have:=(x.ok b hb).2;omega
 have hlp:=x.len;refine⟨by rw[Lb M B hf];exact e1,.inl x.fm,by simp[x.len],?_,?_,?_,?_,?_,?_⟩
 ·refine .inr ⟨q,c,by simp,hc,.inr (.inr rfl),by rw[e2];simp,λi hi=>?_⟩;split at hi
  ·exact hpq hi.symm
  ·exact hnew q hq.1 (x.sub i q hi)
 ·intro i hi;split at hi
  ·subst hi;exact hnew m hp.1 x.fm
  ·exact x.nm i hi
 ·intro i p' B' hp' hB';by_cases e:i=M.length
  ·subst e;rw[<- hlp]at hp';rw[abl (aal _),Nat.sub_self]at hp' hB';simp at hp' hB';subst hp' hB';simp only[aac];exact⟨_,e3,rfl,.empty rfl hu⟩
  ·have hlt:i<M.length:=by
    rcases aaA i M.length with a|a
    ·exact a
    ·rw[aao (by simp;omega)]at hB';cases hB'
   rw[abh (by omega)]at hp' hB';simp only[aak e];refine(x.YR i p' B' hp' hB').zE (λb hb=>e4 b (x.sub i b hb) (λq=>?_) (λc q=>?_))
   ·subst q;exact x.nm i hb
   ·rcases x.hb with⟨rfl,_⟩|⟨bb,c',r,_,_,_,r5⟩
    ·cases hlt
    ·rw[r]at q;cases q;exact r5 i hb
 ·intro i j b hi hj;split at hi <;> split at hj
  ·rename_i a1 a2;rw[a1,a2]
  ·exact(hnew b (by rw[hi];exact hp.1) (x.sub j b hj)).elim
  ·exact(hnew b (by rw[hj];exact hp.1) (x.sub i b hi)).elim
  ·exact x.Hc i j b hi hj
 ·intro i b hi;split at hi
  ·exact .inr (.inl hi)
  ·exact .inl (x.sub i b hi)
 ·intro b hb;have n1:=Wa.next;have n2:=Wa.ro;rcases hb with hb|hb|hb
  ·have:=x.ok b hb;omega
  ·omega
  ·omega
theorem H9(x:Wk h m bs ps fs M F)(n:Int) :
  DC Tryz.prog 62 [.pointer (some ⟨m,0,none⟩),.int .i64 n] h (cC h m M F n):=by
 apply Y3;intro hwf;have hro:=hwf.2;apply B7;unfold Ec;have hm0:sX h m M F h:=⟨F,⟨bs,ps,fs,x⟩,.refl _ _,λb hb => .inl hb⟩
 have hbad:n<0\/65536<n->cC h m M F n (.tuple #[.int .i64 0,.int .i64 1]) h:=λe=>by
  unfold cC w7;rw[aam e];exact⟨rfl,hm0⟩
 by_cases h1:n<0
 ·simp -implicitDefEqProofs only[zu,xe,zG,zU,yS,VC,wt,vm,uU,qF,zH,zS,wB,yO,nw,Value.cells,BK,aaF,aau,uH,yp,zw,Wo,zh,QT,Vh,Ze,Vl,h1];exact hbad (.inl h1)
 by_cases h2:65536<n
 ·simp -implicitDefEqProofs only[zu,xe,zG,zU,yS,kh,yq,vm,uU,qF,Ww,zH,zS,wB,yO,nw,Value.cells,BK,aaF,aau,uH,vJ,yp,zw,aaq,Wo,zh,QT,Vh,Ze,Vl,h1,h2];exact hbad (.inr h2)
 have hm:=x.hm;have hln:∀n c,zk Tryz.prog .len [146] 3 [.slice n M.length c] h=some (.int .i64 M.length,h):=λ_ _=>by simp only[VZ]
 by_cases h3:100000<=(M.length:Int)
 ·have:cC h m M F n (.tuple #[.int .i64 0,.int .i64 2]) h:=by
   unfold cC w7;rw[aak (by omega),aam (by omega)];exact⟨rfl,hm0⟩
  rcases x.hb with⟨e1,rfl⟩|⟨bb,c,rfl,hc,fb,hbb,_⟩
  ·rw[e1]at h3;simp at h3
  ·simp -implicitDefEqProofs only[zu,xe,zG,zU,yS,z7,kh,yq,vm,uU,qF,Ww,oM,zH,zS,wB,yj,yO,nw,Value.cells,BK,aaf,aaF,aau,uH,vJ,yp,zw,aaq,Wo,zh,QT,Vh,Ze,Vl,VZ,h1,h2,hm,h3];exact this
 have hal:w7 M n=(M++[fresh n],(M.length:Int)+1,0):=by unfold w7;rw[aak (by omega),aak (by omega)]
 have okm:=x.ok m x.fm;have hl:=EP M;have hmn:¬m=h.next:=by omega
 have hmn1:¬m=h.next+1:=by omega
 have hmn2:¬m=h.next+1+1:=by omega
 have hw1:IntKind.wrap .i64 ((live M:Int)+1)=((live M+1:Nat):Int):=by rw[Yo (by omega) (by omega)];omega
 have hn0:((n.toNat:Nat):Int)=n:=by omega
 have hmn2':¬h.next+1+1=m:=by omega
 have hmn':¬h.next=m:=by omega
 have hm2:m<h.next+1+1:=by omega
 have hm3:m<h.next+1+1+1:=by omega
 have hnb:∀p v e,(h.push (.cells v e)).push (.cells [.pointer (some ⟨h.next,0,none⟩)] 152)=p->vE p 1 1 (.slice (some ⟨h.next+1,0,none⟩) 1 3)=some [.pointer (some ⟨h.next,0,none⟩)]:=λp v e hp=>by
  subst hp;have:(((h.push (.cells v e)).push (.cells [.pointer (some ⟨h.next,0,none⟩)] 152)).get (h.next+1))=some (.cells [.pointer (some ⟨h.next,0,none⟩)] 152):=zJ rfl;simp only[vE,this];rfl
 have hap:=λv h' hh=>Ol 146 v (.slice (some ⟨h.next+1,0,none⟩) 1 3) 1 [.pointer (some ⟨h.next,0,none⟩)] h' rfl (hnb h' [.int .i64 n,.slice none 0 0,.bool false] 155 hh) rfl rfl;unfold cC;rw[hal];rcases x.hb with⟨rfl,rfl⟩|⟨bb,c,rfl,hc,fb,hbb,hfb⟩
 ·have hps:ps=[]:=abw.1 x.len;have h30:¬(100000:Int)<=((0:Nat):Int):=by decide
  have hle:h.ro<=m:=okm.1;have hw0:IntKind.wrap .i64 ((live []:Int)+1)=((live []+1:Nat):Int):=rfl;simp -implicitDefEqProofs only[zu,xe,zG,zU,z7,kh,yq,vm,uU,qF,Ww,oM,Z2,zH,zS,wB,yj,yO,kd,Uq,nth,nw,Value.cells,BK,aaf,aaj,aaF,aau,aaB,aaz,aba,abu,zf,aa8,aa3,aac,aat,aa9,Nat.reduceAdd,Nat.reduceLeDiff,Nat.reduceMul,Nat.reduceEqDiff,abg,aal,vJ,yp,qz,KV,zL,ye,dW,vi,zw,aaq,Wo,zh,Ik,WL,QT,Vh,Ze,Vl,VZ,h1,h2,h30,hm,hap,Yq,Nat.reducePow,okm,hm2,hw0,aaz];refine⟨rfl,_,⟨_,_,_,x.grow (p:=h.next) (q:=h.next+1+1) (B:=fresh n) rfl (((((((Z5.refl F h).push _).push _).push _).set (.inl x.fm) _).set (.inl x.fm) _)) ?_ ?_ (by omega) hro ye (by simp) ?_ ?_ ?_ (λ_=>rfl)⟩,(((((((Z5.refl F h).push _).push _).push _).set (.inl x.fm) _).set (.inl x.fm) _)),λb hb=>?_⟩
  ·simp only[qR,yp];omega
  ·simp only[qR,yp];omega
  ·rw[zP hmn2',zP hmn2',zJ (by simp only[yp])];rw[hps];rfl
  ·rw[zP hmn',zP hmn',zL (by simp only[yp];omega)];rw[zL (by simp only[yp];omega),zO];show some (vg.cells [.int .i64 n,_,_] 155)=some (vg.cells [.int .i64 ((n.toNat:Nat):Int),_,_] 155);rw[hn0];rfl
  ·intro b hb hbm1 hbb1;have hlt:=(x.ok b hb).2;rw[zP hbm1,zP hbm1,zL (by simp only[yp];omega)];rw[zL (by simp only[yp];omega),zL hlt]
  ·rcases hb with hb|hb|hb
   ·exact .inl hb
   ·exact .inr (by omega)
   ·exact .inr (by omega)
 ·have okb:=x.ok bb fb
  have hroom:roomFor c (M.length+1) 8=true:=by
   unfold roomFor;cases Nat.beq c 2 <;> simp only[aax,aaK,ab2] <;> omega
  have hlp:M.length<=ps.length:=by rw[x.len];omega
  have hbm:¬bb=m:=by intro e;subst e;rw[hbb]at hm;simp at hm
  have hmb:¬m=bb:=λe=>hbm e.symm;have hb0:¬bb=h.next:=by omega
  have hb2:¬bb=h.next+1+1:=by omega
  have hz:List.take M.length (List.map (λp=>Value.pointer (some ⟨p,0,none⟩)) ps)=List.map (λp=>Value.pointer (some ⟨p,0,none⟩)) ps:=ab5 (by simp[x.len]);simp -implicitDefEqProofs only[zu,xe,zG,zU,z7,kh,yq,vm,uU,qF,Ww,oM,Z2,zH,zS,wB,yj,yO,kd,Uq,nth,nw,Value.cells,BK,aaf,aaj,aaF,aau,aaB,aaz,aaD,aba,abu,zf,aa8,aa3,abt,aac,aat,aa9,Nat.reduceAdd,Nat.reduceLeDiff,Nat.reduceMod,Nat.reduceEqDiff,abg,aal,vJ,yp,qR,qz,KV,zL,ye,zP,ne_eq,dW,vi,zw,aaq,Wo,zh,Ik,WL,QT,Vh,Ze,Vl,VZ,h1,h2,h3,hm,hap,Yq,okb,okm,hbb,hroom,hlp,abH,hc,hmb,hm2,hz,hw1];refine⟨rfl,_,⟨_,_,_,x.grow (p:=h.next) (q:=h.next+1+1) (B:=fresh n) rfl (((((((Z5.refl F h).push _).push _).set (.inl fb) _).push _).set (.inl x.fm) _).set (.inl x.fm) _) ?_ ?_ (by omega) hro ye (dJ _ _) ?_ ?_ ?_ (λ_=>rfl)⟩,(((((((Z5.refl F h).push _).push _).set (.inl fb) _).push _).set (.inl x.fm) _).set (.inl x.fm) _),λb hb=>?_⟩
  ·simp only[qR,yp];omega
  ·simp only[qR,yp];omega
  ·rw[zP hmn2',zP hmn2',zJ (by simp only[qR,yp])]
  ·have:¬h.next=bb:=λe=>hb0 e.symm;rw[zP hmn',zP hmn',zL (by simp only[qR,yp];omega)];rw[zP this];rw[zL (by simp only[yp];omega),zO];show some (vg.cells [.int .i64 n,_,_] 155)=some (vg.cells [.int .i64 ((n.toNat:Nat):Int),_,_] 155);rw[hn0];rfl
  ·intro b hb hbm1 hbb1;have hlt:=(x.ok b hb).2;rw[zP hbm1,zP hbm1,zL (by simp only[qR,yp];omega)];rw[zP (λe=>hbb1 c (by rw[e]))];rw[zL (by simp only[yp];omega),zL hlt]
  ·rcases hb with hb|hb|hb
   ·exact .inl hb
   ·exact .inr (by omega)
   ·exact .inr (by omega)
end
def oK(b n:Int):V:=if b<1 then v0 else ⟨2,n,b⟩
end Go.Mem
