/- A part of the proof. -/
import Derived.Test.YtfhacoddmpbgnaaGreatDoorChecked
import Derived.KernelRfl
import Derived.Test.YtfhacoddmpbgnaaGreatDoorTE
set_option linter.unusedVariables false
set_option linter.unusedSimpArgs false
set_option maxRecDepth 100000
namespace Go.Mem
open Go.Ai Go.Proofs Go.Proofs.Tryz
noncomputable abbrev zz:=prog
abbrev VK:=Value->za->Prop
abbrev LK:=List Value->za->Prop
abbrev ci (n:Int):Operand := .const (.int .i64 n)
abbrev fn (n:Nat):Value := .func (.func n) #[] #[]
variable {h:za} {t0 t1 t2 t3 t4 t5 t6:Value} {R:VK}
def qs:FuncId->Nat:=fun g=>0
theorem mixed:prog.follows .mixedOrders=true:=Checked.mixed Tryz.checked
def Rx:=fun (h:za) f c (R:VK)=>
 opt (nb [c,.int .i64 1] (ze zz .lss 3 (.tmp 5) (ci 1) c (.int .i64 1))) fun b=>GD b false (fun P=>P c h) (fun y z=>GD b false (fun Q=>Q f z) (fun S A=>GD b false (fun T=>opt (uk S) fun g=>T g A) (fun g B=>GD b false (fun U=>opt (zb zz 138 g 0) fun i=>U i B) (fun i j=>GD b false (fun V=>opt (zd zz 136 i j) fun d=>V d j) (fun d C=>GD b false (fun W=>zV (nb [d] (zg zz .len [136] 3 [d] C)) fun e X=>W e X) (fun e D=>GD b false (fun Y=>opt (nb [y,e] (ze zz .gtr 3 (.tmp 8) (.tmp 13) y e)) fun k=>Y k D) (fun k E=>opt (pk b (.bool true) k) fun a=>GD a false (fun Z=>Z f E) (fun aa F=>GD a false (fun ab=>opt (uk aa) fun l=>ab l F) (fun l G=>GD a false (fun ac=>opt (zb zz 138 l 0) fun m=>ac m G) (fun m n=>GD a false (fun ad=>opt (zd zz 136 m n) fun o=>ad o n) (fun o H=>GD a false (fun ae=>ae c H) (fun I J=>GD a false (fun af=>opt (nb [I,.int .i64 1] (ze zz .sub 3 (.tmp 21) (ci 1) I (.int .i64 1))) fun p=>af p J) (fun p K=>GD a false (fun ag=>opt (zw zz 136 o p) fun q=>ag q K) (fun q r=>GD a false (fun ah=>opt (zd zz 142 q r) fun s=>ah s r) (fun s L=>GD a false (fun ai=>opt (uk s) fun t=>ai t L) (fun t M=>GD a false (fun aj=>opt (zb zz 145 t 2) fun u=>aj u M) (fun u v=>GD a false (fun ak=>opt (zd zz 4 u v) fun w=>ak w v) (fun w N=>opt (pk a (.bool true) w) fun al=>CD al (fun O=>rv [.pointer none] N R)
 (fun O=>O [.pointer none] N)
 (fun au x=>opt (uk f) fun am=>opt (zb zz 138 am 0) fun an=>opt (zd zz 136 an x) fun ao=>opt (nb [c,.int .i64 1] (ze zz .sub 3 (.tmp 33) (ci 1) c (.int .i64 1))) fun ap=>opt (zw zz 136 ao ap) fun aq=>opt (zd zz 142 aq x) fun ar=>rv [ar] x R)) v) M) L) r) K) J) H) n) G) F) E) D) C) j) B) A) z) h
theorem M7 (hw:Rx h t0 t1 R):DC zz 75 [t0,t1] h R:=zL mixed (q:=qs) (n:=200) (Eq.mpr (by kernel_rfl) hw)
def H7:=fun (h:za) k (R:VK)=>
 opt (nb [k] (some (Value.cells k).toList)) fun s=>nw h s 69 fun b a=>opt (zb zz 69 b 0) fun t=>opt (zd zz 3 t a) fun c=>BK (fun u=>opt (nb [c,.int .i64 0] (ze zz .eql 3 (.tmp 4) (ci 0) c (.int .i64 0))) fun v=>CD v (fun l=>opt (zd zz 69 b a) fun m=>opt (nb [] (yg zz 69 [])) fun n=>opt (nb [m,n] (ze zz .eql 69 (.tmp 7) (.tmp 8) m n)) fun w=>rv [w] a R)
 (fun l=>opt (nb [c,.int .i64 1] (ze zz .eql 3 (.tmp 4) (ci 1) c (.int .i64 1))) fun x=>CD x (fun o=>opt (zb zz 69 b 2) fun y=>opt (zd zz 3 y a) fun p=>opt (nb [p,.int .i64 0] (ze zz .eql 3 (.tmp 13) (ci 0) p (.int .i64 0))) fun z=>rv [z] a R)
 (fun o=>o [.bool false] a)
 (fun A B=>l [nth A 0] B))
 (fun C D=>u [nth C 0] D))
 (fun K f=>opt (zb zz 69 b 0) fun E=>opt (zd zz 3 E f) fun q=>opt (nb [q,.int .i64 2] (ze zz .eql 3 (.tmp 16) (.const (.int .i64 2)) q (.int .i64 2))) fun d=>GD d true (fun F=>opt (zb zz 69 b 2) fun g=>F g f) (fun g i=>GD d true (fun G=>opt (zd zz 3 g i) fun e=>G e i) (fun e r=>GD d true (fun H=>opt (nb [e,.int .i64 1] (ze zz .geq 3 (.tmp 20) (ci 1) e (.int .i64 1))) fun j=>H j r) (fun j I=>opt (pk d j (.bool false)) fun J=>rv [J] I R) r) i) f)
theorem Gd (hw:H7 h t0 R):DC zz 119 [t0] h R:=zL mixed (q:=qs) (n:=200) (Eq.mpr (by kernel_rfl) hw)
def N6:=fun (h:za) (R:VK)=>
 opt (nb [] (yg zz 138 [])) fun a=>opt (nb [a] (some (Value.cells a).toList)) fun b=>nw h b 138 fun c d=>rv [c] d R
theorem H5 (hw:N6 h  R):DC zz 45 [] h R:=zL mixed (q:=qs) (n:=200) (Eq.mpr (by kernel_rfl) hw)
def Ew:=fun (h:za) a b (R:VK)=>
 BK (fun A=>opt (nb [b,.int .i64 0] (ze zz .lss 3 (.tmp 7) (ci 0) b (.int .i64 0))) fun c=>GD c false (fun B=>B b h) (fun f g=>GD c false (fun C=>opt (nb [f,.int .i64 65536] (ze zz .gtr 3 (.tmp 10) (.const (.int .i64 65536)) f (.int .i64 65536))) fun d=>C d g) (fun d e=>opt (pk c (.bool true) d) fun D=>CD D (fun i=>rv [.int .i64 0,.int .i64 1] e R)
 (fun i=>opt (uk a) fun E=>opt (zb zz 138 E 0) fun F=>opt (zd zz 136 F e) fun j=>zV (nb [j] (zg zz .len [136] 3 [j] e)) fun k l=>opt (nb [k,.int .i64 100000] (ze zz .geq 3 (.tmp 18) (.const (.int .i64 100000)) k (.int .i64 100000))) fun G=>CD G (fun m=>rv [.int .i64 0,.int .i64 2] l R)
 (fun m=>m [.int .i64 0,.int .i64 0] l)
 (fun n H=>i [nth n 0,nth n 1] H))
 (fun o I=>A [nth o 0,nth o 1] I)) g) h)
 (fun aa p=>opt (uk a) fun J=>opt (zb zz 138 J 0) fun K=>opt (zd zz 136 K p) fun q=>opt (nb [b] (yg zz 145 [(0,b)])) fun r=>opt (nb [r] (some (Value.cells r).toList)) fun L=>nw p L 145 fun s M=>zV (nb [s] (zO zz 136 1 [(0,s)] M)) fun t N=>zV (nb [q,t] (zg zz .append [136,136] 136 [q,t] N)) fun u O=>opt (uk a) fun P=>opt (zb zz 138 P 0) fun Q=>opt (nb [u] (zh zz 136 Q u O)) fun v=>opt (uk a) fun S=>opt (zb zz 138 S 1) fun T=>opt (zd zz 3 T v) fun w=>opt (nb [w,.int .i64 1] (ze zz .add 3 (.tmp 35) (ci 1) w (.int .i64 1))) fun x=>opt (uk a) fun U=>opt (zb zz 138 U 1) fun V=>opt (nb [x] (zh zz 3 V x v)) fun y=>opt (uk a) fun W=>opt (zb zz 138 W 0) fun X=>opt (zd zz 136 X y) fun z=>zV (nb [z] (zg zz .len [136] 3 [z] y)) fun Y Z=>rv [Y,.int .i64 0] Z R)
theorem CS (hw:Ew h t0 t1 R):DC zz 47 [t0,t1] h R:=zL mixed (q:=qs) (n:=200) (Eq.mpr (by kernel_rfl) hw)
def Ey:=fun (h:za) O m n o (R:VK)=>
 opt (nb [n] (some (Value.cells n).toList)) fun P=>nw h P 69 fun Q S=>opt (nb [o] (some (Value.cells o).toList)) fun T=>nw S T 69 fun b p=>opt (zd zz 69 b p) fun U=>zH zz (fn 119) [U] p fun V q=>opt (Wz zz .not V) fun W=>CD W (fun f=>opt (nb [] (yg zz 69 [])) fun r=>opt (nb [r] (zh zz 69 b r q)) fun X=>f [] X)
 (fun f=>f [] q)
 (fun a6 g=>opt (zb zz 69 b 0) fun Y=>opt (zd zz 3 Y g) fun s=>opt (nb [s,.int .i64 2] (ze zz .eql 3 (.tmp 17) (.const (.int .i64 2)) s (.int .i64 2))) fun i=>GD i true (fun Z=>Z m g) (fun t u=>GD i true (fun aa=>opt (nb [t,.int .i64 8] (ze zz .neq 3 (.tmp 20) (.const (.int .i64 8)) t (.int .i64 8))) fun j=>aa j u) (fun j v=>opt (pk i j (.bool false)) fun ab=>CD ab (fun w=>rv [.bool false] v R)
 (fun w=>w [.bool false] v)
 (fun ac x=>opt (zd zz 69 Q x) fun ad=>zH zz (fn 118) [O,m,ad,.bool true] x fun y z=>opt (Wf y 0) fun c=>opt (Wf y 1) fun ae=>opt (Wz zz .not ae) fun af=>CD af (fun A=>rv [.bool false] z R)
 (fun A=>A [nth ac 0] z)
 (fun a7 ag=>zV (nb [c] (zg zz .len [187] 3 [c] ag)) fun B ah=>BK (fun ai=>LP (fun a C aj=>opt (nb [nth a 0,B] (ze zz .lss 3 (.tmp 34) (.tmp 33) (nth a 0) B)) fun ak=>CD ak (fun D=>D [] C)
 (fun D=>ai [] C)
 (fun a8 d=>BK (fun al=>opt (zb zz 69 b 0) fun am=>opt (zd zz 3 am d) fun e=>BK (fun an=>opt (nb [e,.int .i64 1] (ze zz .eql 3 (.tmp 38) (ci 1) e (.int .i64 1))) fun ao=>CD ao (fun k=>opt (zb zz 69 b 1) fun ap=>opt (zd zz 2 ap d) fun E=>opt (nb [.int .i64 8,nth a 0] (ze zz .mul 3 (.const (.int .i64 8)) (.tmp 49) (.int .i64 8) (nth a 0))) fun F=>opt (nb [E,F] (ze zz .shr 2 (.tmp 48) (.tmp 50) E F)) fun G=>zV (nb [G] (uf zz 2 5 G d)) fun H aq=>opt (nb [.int .u8 1,H] (yg zz 148 [(0,(.int .u8 1)),(1,H)])) fun I=>opt (zw zz 187 c (nth a 0)) fun ar=>opt (nb [I] (zh zz 148 ar I aq)) fun au=>k [] au)
 (fun k=>opt (nb [e,.int .i64 2] (ze zz .eql 3 (.tmp 38) (.const (.int .i64 2)) e (.int .i64 2))) fun av=>CD av (fun l=>zV (nb [nth a 0] (uf zz 3 5 (nth a 0) d)) fun J K=>opt (zd zz 69 b K) fun L=>opt (nb [.int .u8 2,J,L] (yg zz 148 [(0,(.int .u8 2)),(1,J),(2,L)])) fun M=>opt (zw zz 187 c (nth a 0)) fun aw=>opt (nb [M] (zh zz 148 aw M K)) fun ax=>l [] ax)
 (fun l=>opt (nb [] (yg zz 148 [])) fun N=>opt (zw zz 187 c (nth a 0)) fun ay=>opt (nb [N] (zh zz 148 ay N d)) fun az=>l [] az)
 (fun a9 a0=>k [] a0))
 (fun ba a1=>an [] a1))
 (fun bb a2=>al [] a2))
 (fun bc a3=>opt (nb [nth a 0,.int .i64 1] (ze zz .add 3 (.tmp 34) (ci 1) (nth a 0) (.int .i64 1))) fun a4=>aj [a4] a3)))
 [.int .i64 0] ah)
 (fun bd a5=>rv [.bool true] a5 R)))) u) g)
theorem CT (hw:Ey h t0 t1 t2 t3 R):DC zz 85 [t0,t1,t2,t3] h R:=zL mixed (q:=qs) (n:=200) (Eq.mpr (by kernel_rfl) hw)
def H4:=fun (h:za) bd j K (R:VK)=>
 opt (nb [K] (some (Value.cells K).toList)) fun be=>nw h be 69 fun bf bg=>opt (yV zz 69) fun bh=>nw bg (Value.cells bh).toList 69 fun c L=>opt (zd zz 69 bf L) fun bi=>zH zz (fn 118) [bd,j,bi,.bool false] L fun M N=>opt (Wf M 0) fun f=>opt (Wf M 1) fun bj=>opt (nb [f,.slice none 0 0] (ze zz .eql 187 (.tmp 22) (.const (.slice none 0 0)) f (.slice none 0 0))) fun bk=>CD bk (fun O=>opt (nb [] (yg zz 69 [])) fun P=>opt (nb [P] (zh zz 69 c P N)) fun Q=>opt (zd zz 69 c Q) fun d=>rv [d,bj] Q R)
 (fun O=>O [.bool false] N)
 (fun bl bm=>opt (nb [j,.int .i64 8] (ze zz .eql 3 (.tmp 26) (.const (.int .i64 8)) j (.int .i64 8))) fun bn=>zV (nb [f] (zg zz .len [187] 3 [f] bm)) fun S bo=>BK (fun bp=>LP (fun a T bq=>opt (nb [nth a 3,S] (ze zz .lss 3 (.tmp 30) (.tmp 29) (nth a 3) S)) fun br=>CD br (fun U=>U [] T)
 (fun U=>bp [nth a 0,nth a 1,nth a 2] T)
 (fun di V=>BK (fun bs=>opt (zw zz 187 f (nth a 3)) fun bt=>opt (zd zz 148 bt V) fun W=>opt (yV zz 148) fun bu=>nw V (Value.cells bu).toList 148 fun g bv=>opt (nb [W] (zh zz 148 g W bv)) fun X=>opt (zb zz 148 g 1) fun bw=>opt (zd zz 5 bw X) fun Y=>zV (nb [Y] (uf zz 5 177 Y X)) fun Z aa=>opt (nb [.int .i64 8,nth a 3] (ze zz .mul 3 (.const (.int .i64 8)) (.tmp 39) (.int .i64 8) (nth a 3))) fun ab=>opt (nb [Z,ab] (ze zz .shl 177 (.tmp 38) (.tmp 40) Z ab)) fun ac=>opt (nb [nth a 0,ac] (ze zz .or 177 (.tmp 35) (.tmp 41) (nth a 0) ac)) fun bx=>GD (nth a 1) true (fun bz=>opt (zb zz 148 g 0) fun r=>bz r aa) (fun r s=>GD (nth a 1) true (fun b0=>opt (zd zz 5 r s) fun l=>b0 l s) (fun l ad=>GD (nth a 1) true (fun b1=>opt (nb [l,.int .u8 1] (ze zz .eql 5 (.tmp 46) (.const (.int .u8 1)) l (.int .u8 1))) fun t=>b1 t ad) (fun t ae=>opt (pk (nth a 1) t (.bool false)) fun b2=>GD (nth a 2) true (fun b3=>opt (zb zz 148 g 0) fun u=>b3 u ae) (fun u v=>GD (nth a 2) true (fun b4=>opt (zd zz 5 u v) fun m=>b4 m v) (fun m af=>GD (nth a 2) true (fun b5=>opt (nb [m,.int .u8 2] (ze zz .eql 5 (.tmp 52) (.const (.int .u8 2)) m (.int .u8 2))) fun w=>b5 w af) (fun w ag=>opt (pk (nth a 2) w (.bool false)) fun i=>GD i true (fun b6=>opt (zb zz 148 g 1) fun x=>b6 x ag) (fun x y=>GD i true (fun b7=>opt (zd zz 5 x y) fun n=>b7 n y) (fun n ah=>GD i true (fun b8=>zV (nb [n] (uf zz 5 3 n ah)) fun o b9=>b8 o b9) (fun o ai=>GD i true (fun ca=>ca (nth a 3) ai) (fun aj ak=>GD i true (fun cb=>opt (nb [o,aj] (ze zz .eql 3 (.tmp 58) (.tmp 59) o aj)) fun z=>cb z ak) (fun z al=>opt (pk i z (.bool false)) fun e=>GD e true (fun cc=>opt (zb zz 148 g 2) fun A=>cc A al) (fun A B=>GD e true (fun cd=>opt (zd zz 69 A B) fun p=>cd p B) (fun p am=>GD e true (fun ce=>ce f am) (fun cf an=>GD e true (fun cg=>opt (zw zz 187 cf (.int .i64 0)) fun C=>cg C an) (fun C ao=>GD e true (fun ch=>opt (zb zz 148 C 2) fun D=>ch D ao) (fun D E=>GD e true (fun cj=>opt (zd zz 69 D E) fun q=>cj q E) (fun q ap=>GD e true (fun ck=>opt (nb [p,q] (ze zz .eql 69 (.tmp 64) (.tmp 68) p q)) fun F=>ck F ap) (fun F cl=>opt (pk e F (.bool false)) fun cm=>bs [bx,b2,cm] cl) ap) E) ao) an) am) B) al) ak) ai) ah) y) ag) af) v) ae) ad) s) aa)
 (fun G cn=>opt (nb [nth a 3,.int .i64 1] (ze zz .add 3 (.tmp 30) (ci 1) (nth a 3) (.int .i64 1))) fun co=>bq [nth G 0,nth G 1,nth G 2,co] cn)))
 [.int .u64 0,.bool true,bn,.int .i64 0] bo)
 (fun b aq=>BK (fun cp=>GD (nth b 1) true (fun cq=>cq j aq) (fun ar au=>GD (nth b 1) true (fun cr=>opt (nb [ar,.int .i64 8] (ze zz .eql 3 (.tmp 75) (.const (.int .i64 8)) ar (.int .i64 8))) fun H=>cr H au) (fun H I=>opt (pk (nth b 1) H (.bool false)) fun cs=>CD cs (fun av=>zV (nb [nth b 0] (uf zz 177 2 (nth b 0) I)) fun ct cu=>zH zz (fn 49) [ct] cu fun aw cv=>opt (nb [aw] (zh zz 69 c aw cv)) fun ax=>opt (zd zz 69 c ax) fun d=>rv [d,.bool true] ax R)
 (fun av=>GD (nth b 1) true (fun cw=>cw j I) (fun ay az=>GD (nth b 1) true (fun cx=>opt (nb [ay,.int .i64 4] (ze zz .eql 3 (.tmp 84) (.const (.int .i64 4)) ay (.int .i64 4))) fun J=>cx J az) (fun J k=>opt (pk (nth b 1) J (.bool false)) fun cy=>CD cy (fun a0=>zV (nb [nth b 0] (uf zz 177 21 (nth b 0) k)) fun a1 cz=>zV (nb [a1] (uf zz 21 2 a1 cz)) fun c0 c1=>zH zz (fn 49) [c0] c1 fun a2 c2=>opt (nb [a2] (zh zz 69 c a2 c2)) fun a3=>opt (zd zz 69 c a3) fun d=>rv [d,.bool true] a3 R)
 (fun a0=>CD (nth b 1) (fun a4=>zV (nb [nth b 0] (uf zz 177 186 (nth b 0) k)) fun a5 c3=>zV (nb [a5] (uf zz 186 2 a5 c3)) fun c4 c5=>zH zz (fn 49) [c4] c5 fun a6 c6=>opt (nb [a6] (zh zz 69 c a6 c6)) fun a7=>opt (zd zz 69 c a7) fun d=>rv [d,.bool true] a7 R)
 (fun a4=>CD (nth b 2) (fun a8=>opt (zw zz 187 f (.int .i64 0)) fun c7=>opt (zb zz 148 c7 2) fun c8=>opt (zd zz 69 c8 k) fun a9=>opt (nb [a9] (zh zz 69 c a9 k)) fun ba=>opt (zd zz 69 c ba) fun d=>rv [d,.bool true] ba R)
 (fun a8=>a8 [nth bl 0] k)
 (fun c9 da=>a4 [nth c9 0] da))
 (fun db dc=>a0 [nth db 0] dc))
 (fun dd de=>av [nth dd 0] de)) az) I)
 (fun df dg=>cp [nth df 0] dg)) au) aq)
 (fun dj dh=>opt (nb [] (yg zz 69 [])) fun bb=>opt (nb [bb] (zh zz 69 c bb dh)) fun bc=>opt (zd zz 69 c bc) fun d=>rv [d,.bool true] bc R)))
theorem Gb (hw:H4 h t0 t1 t2 R):DC zz 84 [t0,t1,t2] h R:=zL mixed (q:=qs) (n:=200) (Eq.mpr (by kernel_rfl) hw)
def H6:=fun (h:za) k l (R:VK)=>
 zH zz (fn 75) [k,l] h fun b c=>opt (nb [b,.pointer none] (ze zz .eql 142 (.tmp 10) (.const (.pointer none)) b (.pointer none))) fun m=>CD m (fun d=>rv [.bool false] c R)
 (fun d=>d [.bool false] c)
 (fun D e=>opt (uk b) fun n=>opt (zb zz 145 n 0) fun o=>opt (zd zz 3 o e) fun f=>BK (fun p=>LP (fun a g q=>opt (nb [nth a 0,f] (ze zz .lss 3 (.tmp 16) (.tmp 15) (nth a 0) f)) fun r=>CD r (fun i=>i [] g)
 (fun i=>p [] g)
 (fun E s=>BK (fun t=>zH zz (fn 76) [b,nth a 0,.bool true] s fun u v=>opt (nb [nth a 0,.int .i64 64] (ze zz .rem 3 (.tmp 22) (.const (.int .i64 64)) (nth a 0) (.int .i64 64))) fun w=>opt (nb [.int .u8 1] (yg zz 148 [(0,(.int .u8 1))])) fun j=>opt (uk u) fun x=>opt (zw zz 185 x w) fun y=>opt (nb [j] (zh zz 148 y j v)) fun z=>t [] z)
 (fun F A=>opt (nb [nth a 0,.int .i64 1] (ze zz .add 3 (.tmp 16) (ci 1) (nth a 0) (.int .i64 1))) fun B=>q [B] A)))
 [.int .i64 0] e)
 (fun G C=>rv [.bool true] C R))
theorem Gc (hw:H6 h t0 t1 R):DC zz 48 [t0,t1] h R:=zL mixed (q:=qs) (n:=200) (Eq.mpr (by kernel_rfl) hw)
def H3:=fun (h:za) a b (R:VK)=>
 zH zz (fn 75) [a,b] h fun c e=>opt (nb [c,.pointer none] (ze zz .eql 142 (.tmp 9) (.const (.pointer none)) c (.pointer none))) fun n=>CD n (fun f=>rv [.bool false] e R)
 (fun f=>f [.bool false] e)
 (fun C d=>opt (uk a) fun o=>opt (zb zz 138 o 0) fun p=>opt (zd zz 136 p d) fun q=>opt (nb [b,.int .i64 1] (ze zz .sub 3 (.tmp 15) (ci 1) b (.int .i64 1))) fun r=>opt (uk c) fun s=>opt (zb zz 145 s 0) fun t=>opt (zd zz 3 t d) fun g=>opt (nb [g,.bool true] (yg zz 145 [(0,g),(2,(.bool true))])) fun i=>opt (nb [i] (some (Value.cells i).toList)) fun u=>nw d u 145 fun j v=>opt (zw zz 136 q r) fun w=>opt (nb [j] (zh zz 142 w j v)) fun k=>opt (uk a) fun x=>opt (zb zz 138 x 1) fun y=>opt (zd zz 3 y k) fun l=>opt (nb [l,.int .i64 1] (ze zz .sub 3 (.tmp 27) (ci 1) l (.int .i64 1))) fun m=>opt (uk a) fun z=>opt (zb zz 138 z 1) fun A=>opt (nb [m] (zh zz 3 A m k)) fun B=>rv [.bool true] B R)
theorem Ga (hw:H3 h t0 t1 R):DC zz 120 [t0,t1] h R:=zL mixed (q:=qs) (n:=200) (Eq.mpr (by kernel_rfl) hw)
def iO:=fun (h:za) a4 b L a5 (R:VK)=>
 opt (nb [L] (some (Value.cells L).toList)) fun a6=>nw h a6 69 fun c p=>opt (zb zz 69 c 0) fun a7=>opt (zd zz 3 a7 p) fun M=>opt (nb [M,.int .i64 2] (ze zz .neq 3 (.tmp 14) (.const (.int .i64 2)) M (.int .i64 2))) fun d=>GD d false (fun a8=>a8 b p) (fun N O=>GD d false (fun a9=>opt (nb [N,.int .i64 1] (ze zz .neq 3 (.tmp 17) (ci 1) N (.int .i64 1))) fun q=>a9 q O) (fun q P=>GD d false (fun ba=>ba q P) (fun r Q=>GD r true (fun bb=>bb b Q) (fun S T=>GD r true (fun bc=>opt (nb [S,.int .i64 4] (ze zz .neq 3 (.tmp 20) (.const (.int .i64 4)) S (.int .i64 4))) fun s=>bc s T) (fun s U=>GD d false (fun bd=>opt (pk r s (.bool false)) fun t=>bd t U) (fun t V=>GD d false (fun be=>be t V) (fun u W=>GD u true (fun bf=>bf b W) (fun X Y=>GD u true (fun bg=>opt (nb [X,.int .i64 8] (ze zz .neq 3 (.tmp 24) (.const (.int .i64 8)) X (.int .i64 8))) fun v=>bg v Y) (fun v Z=>GD d false (fun bh=>opt (pk u v (.bool false)) fun w=>bh w Z) (fun w aa=>opt (pk d (.bool true) w) fun bi=>CD bi (fun ab=>rv [.slice none 0 0,.bool false] aa R)
 (fun ab=>ab [.slice none 0 0,.bool false] aa)
 (fun ac ad=>opt (zb zz 69 c 2) fun bj=>opt (zd zz 3 bj ad) fun bk=>zH zz (fn 75) [a4,bk] ad fun f ae=>opt (nb [f,.pointer none] (ze zz .eql 142 (.tmp 32) (.const (.pointer none)) f (.pointer none))) fun g=>GD g false (fun bl=>opt (zb zz 69 c 1) fun x=>bl x ae) (fun x y=>GD g false (fun bm=>opt (zd zz 2 x y) fun i=>bm i y) (fun i af=>GD g false (fun bn=>opt (nb [i,.int .i64 0] (ze zz .lss 2 (.tmp 36) (ci 0) i (.int .i64 0))) fun z=>bn z af) (fun z ag=>opt (pk g (.bool true) z) fun a=>GD a false (fun bo=>opt (zb zz 69 c 1) fun A=>bo A ag) (fun A B=>GD a false (fun bp=>opt (zd zz 2 A B) fun j=>bp j B) (fun j ah=>GD a false (fun bq=>bq f ah) (fun br ai=>GD a false (fun bs=>opt (uk br) fun C=>bs C ai) (fun C aj=>GD a false (fun bt=>opt (zb zz 145 C 0) fun D=>bt D aj) (fun D E=>GD a false (fun bu=>opt (zd zz 3 D E) fun k=>bu k E) (fun k ak=>GD a false (fun bv=>bv b ak) (fun al am=>GD a false (fun bw=>opt (nb [k,al] (ze zz .sub 3 (.tmp 45) (.tmp 46) k al)) fun l=>bw l am) (fun l an=>GD a false (fun bx=>opt (nb [j,l] (ze zz .gtr 2 (.tmp 41) (.tmp 47) j l)) fun F=>bx F an) (fun F ao=>opt (pk a (.bool true) F) fun e=>GD e false (fun bz=>opt (zb zz 69 c 1) fun G=>bz G ao) (fun G H=>GD e false (fun b0=>opt (zd zz 2 G H) fun m=>b0 m H) (fun m ap=>GD e false (fun b1=>b1 b ap) (fun aq ar=>GD e false (fun b2=>opt (nb [m,aq] (ze zz .rem 2 (.tmp 52) (.tmp 53) m aq)) fun n=>b2 n ar) (fun n au=>GD e false (fun b3=>opt (nb [n,.int .i64 0] (ze zz .neq 2 (.tmp 54) (ci 0) n (.int .i64 0))) fun I=>b3 I au) (fun I av=>opt (pk e (.bool true) I) fun b4=>CD b4 (fun aw=>rv [.slice none 0 0,.bool false] av R)
 (fun aw=>aw [nth ac 0,nth ac 1] av)
 (fun ax ay=>opt (zb zz 69 c 1) fun b5=>opt (zd zz 2 b5 ay) fun b6=>zH zz (fn 76) [f,b6,a5] ay fun J az=>opt (nb [J,.pointer none] (ze zz .eql 149 (.tmp 62) (.const (.pointer none)) J (.pointer none))) fun b7=>CD b7 (fun a0=>rv [.slice none 0 0,.bool true] az R)
 (fun a0=>a0 [nth ax 0,nth ax 1] az)
 (fun ca K=>opt (zb zz 69 c 1) fun b8=>opt (zd zz 2 b8 K) fun a1=>opt (nb [a1,.int .i64 64] (ze zz .rem 3 (.tmp 65) (.const (.int .i64 64)) a1 (.int .i64 64))) fun o=>opt (uk J) fun a2=>opt (nb [o,b] (ze zz .add 3 (.tmp 70) (.tmp 71) o b)) fun a3=>opt (nb [a2] (cond (Mh (some o) && Mh (some a3)) (MY zz 185 a2 (some o) (some a3) K) none)) fun b9=>rv [b9,.bool true] K R))) au) ar) ap) H) ao) an) am) ak) E) aj) ai) ah) B) ag) af) y) ae)) Z) Y) W) V) U) T) Q) P) O) p
theorem fH (hw:iO h t0 t1 t2 t3 R):DC zz 118 [t0,t1,t2,t3] h R:=zL mixed (q:=qs) (n:=200) (Eq.mpr (by kernel_rfl) hw)
def Rw:=fun (h:za) a (R:VK)=>
 opt (yV zz 69) fun e=>nw h (Value.cells e).toList 69 fun b f=>opt (nb [.int .i64 1,a] (yg zz 69 [(0,(.int .i64 1)),(1,a)])) fun c=>opt (nb [c] (zh zz 69 b c f)) fun d=>opt (zd zz 69 b d) fun g=>rv [g] d R
theorem M6 (hw:Rw h t0 R):DC zz 49 [t0] h R:=zL mixed (q:=qs) (n:=200) (Eq.mpr (by kernel_rfl) hw)
def CU:=fun (h:za) a b k (R:VK)=>
 opt (uk a) fun y=>opt (zb zz 145 y 1) fun z=>opt (zd zz 143 z h) fun l=>opt (nb [l,.slice none 0 0] (ze zz .eql 143 (.tmp 10) (.const (.slice none 0 0)) l (.slice none 0 0))) fun m=>GD m true (fun A=>A k h) (fun B d=>opt (pk m B (.bool false)) fun C=>CD C (fun e=>opt (uk a) fun D=>opt (zb zz 145 D 0) fun E=>opt (zd zz 3 E d) fun n=>opt (nb [n,.int .i64 64] (ze zz .add 3 (.tmp 19) (.const (.int .i64 64)) n (.int .i64 64))) fun o=>opt (nb [o,.int .i64 1] (ze zz .sub 3 (.tmp 20) (ci 1) o (.int .i64 1))) fun p=>opt (nb [p,.int .i64 64] (ze zz .quo 3 (.tmp 21) (.const (.int .i64 64)) p (.int .i64 64))) fun q=>zV (ZY zz 143 q q d) fun r F=>opt (uk a) fun G=>opt (zb zz 145 G 1) fun H=>opt (nb [r] (zh zz 143 H r F)) fun I=>e [] I)
 (fun e=>e [] d)
 (fun aj f=>opt (uk a) fun J=>opt (zb zz 145 J 1) fun K=>opt (zd zz 143 K f) fun s=>opt (nb [s,.slice none 0 0] (ze zz .eql 143 (.tmp 29) (.const (.slice none 0 0)) s (.slice none 0 0))) fun L=>CD L (fun t=>rv [.pointer none] f R)
 (fun t=>t [.pointer none] f)
 (fun ak c=>opt (uk a) fun M=>opt (zb zz 145 M 1) fun N=>opt (zd zz 143 N c) fun O=>opt (nb [b,.int .i64 64] (ze zz .quo 3 (.tmp 35) (.const (.int .i64 64)) b (.int .i64 64))) fun P=>opt (zw zz 143 O P) fun Q=>opt (zd zz 149 Q c) fun u=>opt (nb [u,.pointer none] (ze zz .eql 149 (.tmp 38) (.const (.pointer none)) u (.pointer none))) fun v=>GD v true (fun S=>S k c) (fun T g=>opt (pk v T (.bool false)) fun U=>CD U (fun i=>opt (uk a) fun V=>opt (zb zz 145 V 1) fun W=>opt (zd zz 143 W g) fun X=>opt (nb [b,.int .i64 64] (ze zz .quo 3 (.tmp 47) (.const (.int .i64 64)) b (.int .i64 64))) fun Y=>opt (nb [] (yg zz 185 [])) fun w=>opt (nb [w] (some (Value.cells w).toList)) fun Z=>nw g Z 185 fun x aa=>opt (zw zz 143 X Y) fun ab=>opt (nb [x] (zh zz 149 ab x aa)) fun ac=>i [] ac)
 (fun i=>i [] g)
 (fun al j=>opt (uk a) fun ad=>opt (zb zz 145 ad 1) fun ae=>opt (zd zz 143 ae j) fun af=>opt (nb [b,.int .i64 64] (ze zz .quo 3 (.tmp 56) (.const (.int .i64 64)) b (.int .i64 64))) fun ag=>opt (zw zz 143 af ag) fun ah=>opt (zd zz 149 ah j) fun ai=>rv [ai] j R)) c))) h
theorem oa (hw:CU h t0 t1 t2 R):DC zz 76 [t0,t1,t2] h R:=zL mixed (q:=qs) (n:=200) (Eq.mpr (by kernel_rfl) hw)
noncomputable def mA:Array Field:=match Program.underlying Tryz.prog 69 with | some (.struct f)=>f | _ => #[]
theorem Xm (b off:Nat) (h:za):zd Tryz.prog 136 (.pointer (some ⟨b,off,none⟩)) h=zC h b off:=yd (by kernel_rfl) b off h
theorem IL (b off:Nat) (h:za):zd Tryz.prog 142 (.pointer (some ⟨b,off,none⟩)) h=zC h b off:=yd (by kernel_rfl) b off h
theorem eH (b off:Nat) (h:za):zd Tryz.prog 143 (.pointer (some ⟨b,off,none⟩)) h=zC h b off:=yd (by kernel_rfl) b off h
theorem sX (b off:Nat) (h:za):zd Tryz.prog 148 (.pointer (some ⟨b,off,none⟩)) h=zZ h b off 5:=vh (by kernel_rfl) (by kernel_rfl) b off h
theorem lV (b off:Nat) (h:za):zd Tryz.prog 149 (.pointer (some ⟨b,off,none⟩)) h=zC h b off:=yd (by kernel_rfl) b off h
theorem wj (b off:Nat) (h:za):zd Tryz.prog 2 (.pointer (some ⟨b,off,none⟩)) h=zC h b off:=yd (by kernel_rfl) b off h
theorem zj (b off:Nat) (h:za):zd Tryz.prog 3 (.pointer (some ⟨b,off,none⟩)) h=zC h b off:=yd (by kernel_rfl) b off h
theorem Yv (b off:Nat) (h:za):zd Tryz.prog 4 (.pointer (some ⟨b,off,none⟩)) h=zC h b off:=yd (by kernel_rfl) b off h
theorem Dj (b off:Nat) (h:za):zd Tryz.prog 5 (.pointer (some ⟨b,off,none⟩)) h=zC h b off:=yd (by kernel_rfl) b off h
theorem zn (b off:Nat) (h:za):zd Tryz.prog 69 (.pointer (some ⟨b,off,none⟩)) h=zZ h b off 3:=vh (by kernel_rfl) (by kernel_rfl) b off h
theorem OR (r:TypeId) (v x:Value) (n:Nat) (new:List Value) (h:za) (h1:Zy x=some n) (h2:xA h n 1 x=some new) (h3:new.all cellOk=true) (h4:new.length=n * 1):zg Tryz.prog .append [136,136] r [v,x] h=Ze h 142 1 8 n new v:=kA (e:=142) (e2:=142) (by kernel_rfl) (by kernel_rfl) (by kernel_rfl) (by kernel_rfl) (by decide) h1 h2 h3 h4
theorem I6 (b off:Nat) (v:Option Addr) (vl vc:Nat) (h:za):zh Tryz.prog 136 (.pointer (some ⟨b,off,none⟩)) (.slice v vl vc) h=yU h b off [(.slice v vl vc)]:=xI (by kernel_rfl) b off _ h rfl
theorem OU (b off:Nat) (v:Option Addr) (h:za):zh Tryz.prog 142 (.pointer (some ⟨b,off,none⟩)) (.pointer v) h=yU h b off [(.pointer v)]:=xI (by kernel_rfl) b off _ h rfl
theorem OV (b off:Nat) (v:Option Addr) (vl vc:Nat) (h:za):zh Tryz.prog 143 (.pointer (some ⟨b,off,none⟩)) (.slice v vl vc) h=yU h b off [(.slice v vl vc)]:=xI (by kernel_rfl) b off _ h rfl
theorem Kc (b off:Nat) (l:List Value) (h:za) (hv:l.length=5):zh Tryz.prog 148 (.pointer (some ⟨b,off,none⟩)) (.agg l.toArray) h=yU h b off l:=vw (by kernel_rfl) b off l h hv
theorem Dm (b off:Nat) (v:Option Addr) (h:za):zh Tryz.prog 149 (.pointer (some ⟨b,off,none⟩)) (.pointer v) h=yU h b off [(.pointer v)]:=xI (by kernel_rfl) b off _ h rfl
theorem Wy (b off:Nat) (v:Int) (h:za):zh Tryz.prog 3 (.pointer (some ⟨b,off,none⟩)) (.int .i64 v) h=yU h b off [(.int .i64 v)]:=xI (by kernel_rfl) b off _ h rfl
theorem zI (b off:Nat) (l:List Value) (h:za) (hv:l.length=3):zh Tryz.prog 69 (.pointer (some ⟨b,off,none⟩)) (.agg l.toArray) h=yU h b off l:=vw (by kernel_rfl) b off l h hv
theorem OY:yV Tryz.prog 148=some (.agg #[(.int .u8 0),(.int .u8 0),(.int .i64 0),(.int .i64 0),(.int .i64 0)]):=zB (by kernel_rfl)
theorem xz:yV Tryz.prog 69=some (.agg #[(.int .i64 0),(.int .i64 0),(.int .i64 0)]):=zB (by kernel_rfl)
theorem Nf:yg Tryz.prog 138 []=some (.agg #[(.slice none 0 0),(.int .i64 0)]):=zB (by kernel_rfl)
theorem Kd (v0:Int):yg Tryz.prog 145 [(0,(.int .i64 v0))]=some (.agg #[(.int .i64 v0),(.slice none 0 0),(.bool false)]):=zB (by kernel_rfl)
theorem Ds (v0:Int) (v2:Bool):yg Tryz.prog 145 [(0,(.int .i64 v0)),(2,(.bool v2))]=some (.agg #[(.int .i64 v0),(.slice none 0 0),(.bool v2)]):=zB (by kernel_rfl)
theorem Ng:yg Tryz.prog 148 []=some (.agg #[(.int .u8 0),(.int .u8 0),(.int .i64 0),(.int .i64 0),(.int .i64 0)]):=zB (by kernel_rfl)
theorem Bs (v0:Int):yg Tryz.prog 148 [(0,(.int .u8 v0))]=some (.agg #[(.int .u8 v0),(.int .u8 0),(.int .i64 0),(.int .i64 0),(.int .i64 0)]):=zB (by kernel_rfl)
theorem J6 (v0:Int) (v1:Int):yg Tryz.prog 148 [(0,(.int .u8 v0)),(1,(.int .u8 v1))]=some (.agg #[(.int .u8 v0),(.int .u8 v1),(.int .i64 0),(.int .i64 0),(.int .i64 0)]):=zB (by kernel_rfl)
theorem U3 (v0:Int) (v1:Int) (v20:Int) (v21:Int) (v22:Int):yg Tryz.prog 148 [(0,(.int .u8 v0)),(1,(.int .u8 v1)),(2,(.agg #[(.int .i64 v20),(.int .i64 v21),(.int .i64 v22)]))]=some (.agg #[(.int .u8 v0),(.int .u8 v1),(.int .i64 v20),(.int .i64 v21),(.int .i64 v22)]):=zB (by kernel_rfl)
theorem yo:yg Tryz.prog 69 []=some (.agg #[(.int .i64 0),(.int .i64 0),(.int .i64 0)]):=zB (by kernel_rfl)
theorem GX (v0:Int) (v1:Int):yg Tryz.prog 69 [(0,(.int .i64 v0)),(1,(.int .i64 v1))]=some (.agg #[(.int .i64 v0),(.int .i64 v1),(.int .i64 0)]):=zB (by kernel_rfl)
theorem Wg (v0:Option Addr) (h:za):zO Tryz.prog 136 1 [(0,(.pointer v0))] h=some (.slice (some ⟨h.next,0,none⟩) 1 3,h.push (.cells [(.pointer v0)] 142)):=zB (by kernel_rfl)
theorem Zf (n:Int) (h:za):uf Tryz.prog 177 186 (.int .u64 n) h=some (.int .i8 (IntKind.wrap .i8 n),h):=zB (by kernel_rfl)
theorem Wi (n:Int) (h:za):uf Tryz.prog 177 2 (.int .u64 n) h=some (.int .i64 (IntKind.wrap .i64 n),h):=zB (by kernel_rfl)
theorem Yz (n:Int) (h:za):uf Tryz.prog 177 21 (.int .u64 n) h=some (.int .i32 (IntKind.wrap .i32 n),h):=zB (by kernel_rfl)
theorem ZJ (n:Int) (h:za):uf Tryz.prog 186 2 (.int .i8 n) h=some (.int .i64 (IntKind.wrap .i64 n),h):=zB (by kernel_rfl)
theorem Xv (n:Int) (h:za):uf Tryz.prog 21 2 (.int .i32 n) h=some (.int .i64 (IntKind.wrap .i64 n),h):=zB (by kernel_rfl)
theorem Dy (n:Int) (h:za):uf Tryz.prog 2 5 (.int .i64 n) h=some (.int .u8 (IntKind.wrap .u8 n),h):=zB (by kernel_rfl)
theorem mi (n:Int) (h:za):uf Tryz.prog 3 5 (.int .i64 n) h=some (.int .u8 (IntKind.wrap .u8 n),h):=zB (by kernel_rfl)
theorem cJ (n:Int) (h:za):uf Tryz.prog 5 177 (.int .u8 n) h=some (.int .u64 (IntKind.wrap .u64 n),h):=zB (by kernel_rfl)
theorem Lo (n:Int) (h:za):uf Tryz.prog 5 3 (.int .u8 n) h=some (.int .i64 (IntKind.wrap .i64 n),h):=zB (by kernel_rfl)
theorem cM (x y:Operand):ze Tryz.prog .eql 142 x y (.pointer none) (.pointer none)=some (.bool true):=zB (by kernel_rfl)
theorem BF (x y:Operand):ze Tryz.prog .eql 143 x y (.slice none 0 0) (.slice none 0 0)=some (.bool true):=zB (by kernel_rfl)
theorem cN (x y:Operand):ze Tryz.prog .eql 149 x y (.pointer none) (.pointer none)=some (.bool true):=zB (by kernel_rfl)
theorem BG (x y:Operand):ze Tryz.prog .eql 187 x y (.slice none 0 0) (.slice none 0 0)=some (.bool true):=zB (by kernel_rfl)
theorem YL (x y:Operand) (a:Addr):ze Tryz.prog .eql 142 x y (.pointer (some a)) (.pointer none)=some (.bool false):=Sw (e:=145) (by kernel_rfl) a
theorem cO (x y:Operand) (a:Addr) (n c:Nat):ze Tryz.prog .eql 143 x y (.slice (some a) n c) (.slice none 0 0)=some (.bool false):=PL (e:=149) (by kernel_rfl) a n c
theorem iA (x y:Operand) (a:Addr):ze Tryz.prog .eql 149 x y (.pointer (some a)) (.pointer none)=some (.bool false):=Sw (e:=185) (by kernel_rfl) a
theorem Nq (x y:Operand) (a:Addr) (n c:Nat):ze Tryz.prog .eql 187 x y (.slice (some a) n c) (.slice none 0 0)=some (.bool false):=PL (e:=148) (by kernel_rfl) a n c
theorem Vy (x y:Operand) (a0:Int) (a1:Int) (a2:Int) (b0:Int) (b1:Int) (b2:Int):ze Tryz.prog .eql 69 x y (.agg #[(.int .i64 a0),(.int .i64 a1),(.int .i64 a2)]) (.agg #[(.int .i64 b0),(.int .i64 b1),(.int .i64 b2)])=some (.bool ((a0 == b0) && ((a1 == b1) && ((a2 == b2))))):=(Xt (fs:=mA) (r:=(a0 == b0) && ((a1 == b1) && ((a2 == b2)))) (by kernel_rfl) (by kernel_rfl) (by kernel_rfl) rfl rfl (Eq.trans (b:=(cond (a0 == b0) (cond (a1 == b1) (cond (a2 == b2) (some true) (some false)) (some false)) (some false))) (by kernel_rfl) (by cases (a0 == b0) <;> cases (a1 == b1) <;> cases (a2 == b2) <;> rfl))).1
theorem kq (b off:Nat):zb Tryz.prog 138 (.pointer (some ⟨b,off,none⟩)) 0=some (.pointer (some ⟨b,off,none⟩)):=zB (by kernel_rfl)
theorem Wk (b off:Nat):zb Tryz.prog 138 (.pointer (some ⟨b,off,none⟩)) 1=some (.pointer (some ⟨b,off + 1,none⟩)):=zB (by kernel_rfl)
theorem qq (b off:Nat):zb Tryz.prog 145 (.pointer (some ⟨b,off,none⟩)) 0=some (.pointer (some ⟨b,off,none⟩)):=zB (by kernel_rfl)
theorem Uc (b off:Nat):zb Tryz.prog 145 (.pointer (some ⟨b,off,none⟩)) 1=some (.pointer (some ⟨b,off + 1,none⟩)):=zB (by kernel_rfl)
theorem BM (b off:Nat):zb Tryz.prog 145 (.pointer (some ⟨b,off,none⟩)) 2=some (.pointer (some ⟨b,off + 2,none⟩)):=zB (by kernel_rfl)
theorem LC (b off:Nat):zb Tryz.prog 148 (.pointer (some ⟨b,off,none⟩)) 0=some (.pointer (some ⟨b,off,none⟩)):=zB (by kernel_rfl)
theorem LD (b off:Nat):zb Tryz.prog 148 (.pointer (some ⟨b,off,none⟩)) 1=some (.pointer (some ⟨b,off + 1,none⟩)):=zB (by kernel_rfl)
theorem Ud (b off:Nat):zb Tryz.prog 148 (.pointer (some ⟨b,off,none⟩)) 2=some (.pointer (some ⟨b,off + 2,none⟩)):=zB (by kernel_rfl)
theorem xk (b off:Nat):zb Tryz.prog 69 (.pointer (some ⟨b,off,none⟩)) 0=some (.pointer (some ⟨b,off,none⟩)):=zB (by kernel_rfl)
theorem xo (b off:Nat):zb Tryz.prog 69 (.pointer (some ⟨b,off,none⟩)) 1=some (.pointer (some ⟨b,off + 1,none⟩)):=zB (by kernel_rfl)
theorem w9 (b off:Nat):zb Tryz.prog 69 (.pointer (some ⟨b,off,none⟩)) 2=some (.pointer (some ⟨b,off + 2,none⟩)):=zB (by kernel_rfl)
theorem DN (b off len c:Nat) (k:IntKind) (i:Int):zw Tryz.prog 136 (.slice (some ⟨b,off,none⟩) len c) (.int k i)=if 0<=i/\i < len then some (.pointer (some ⟨b,off + i.toNat * 1,none⟩)) else none:=y4 (e:=142) (by kernel_rfl) (by kernel_rfl)
theorem mO (b off len c:Nat) (k:IntKind) (i:Int):zw Tryz.prog 143 (.slice (some ⟨b,off,none⟩) len c) (.int k i)=if 0<=i/\i < len then some (.pointer (some ⟨b,off + i.toNat * 1,none⟩)) else none:=y4 (e:=149) (by kernel_rfl) (by kernel_rfl)
theorem Pm (b off:Nat) (k:IntKind) (i:Int):zw Tryz.prog 185 (.pointer (some ⟨b,off,none⟩)) (.int k i)=if 0<=i/\i < 64 then some (.pointer (some ⟨b,off + i.toNat * 5,none⟩)) else none:=sV (e:=148) (len:=64) (by kernel_rfl) (by kernel_rfl)
theorem YD (b off len c:Nat) (k:IntKind) (i:Int):zw Tryz.prog 187 (.slice (some ⟨b,off,none⟩) len c) (.int k i)=if 0<=i/\i < len then some (.pointer (some ⟨b,off + i.toNat * 5,none⟩)) else none:=y4 (e:=148) (by kernel_rfl) (by kernel_rfl)
theorem Vl (r:TypeId) (a:Option Addr) (n c:Nat) (h:za):zg Tryz.prog .len [136] r [.slice a n c] h=some (.int .i64 n,h):=zB (by kernel_rfl)
theorem Qc (r:TypeId) (a:Option Addr) (n c:Nat) (h:za):zg Tryz.prog .len [187] r [.slice a n c] h=some (.int .i64 n,h):=zB (by kernel_rfl)
theorem Pw (k k2:IntKind) (l c:Int) (h:za) (h0:0<=l) (h1:l<=c) (h2:c < 2 ^ 31):ZY Tryz.prog 143 (.int k l) (.int k2 c) h=some (.slice (some ⟨h.next,0,none⟩) l.toNat (c.toNat + 2),h.push (.cells (uJ [(.pointer none)] (c.toNat * 1)) 149)):=lX (e:=149) (z:=(.pointer none)) (n:=1) (bytes:=8) (by kernel_rfl) (by kernel_rfl) (by kernel_rfl) rfl (by decide) (by decide) rfl h0 h1 h2
theorem MD (b off:Nat) (lo hi:Option Value) (h:za):MY Tryz.prog 185 (.pointer (some ⟨b,off,none⟩)) lo hi h=(v9 hi 64 64).bind fun hh=>(v9 lo 0 hh).bind fun l=>some (.slice (some ⟨b,off + (if 64=l then 0 else l * 5),none⟩) (hh - l) 0):=GN (e:=148) (k:=64) (by kernel_rfl) (by kernel_rfl)
structure V where
 k:Int
 n:Int
 b:Int
 deriving DecidableEq
def V.yJ (v:V):List Value:=[.int .i64 v.k,.int .i64 v.n,.int .i64 v.b]
def V.val (v:V):Value := .agg #[.int .i64 v.k,.int .i64 v.n,.int .i64 v.b]
def v0:V:=⟨0,0,0⟩
structure Cl where
 k:Int
 n:Int
 p:V
 deriving DecidableEq
def Cl.yJ (c:Cl):List Value:=[.int .u8 c.k,.int .u8 c.n,.int .i64 c.p.k,.int .i64 c.p.n,.int .i64 c.p.b]
def iq:Cl:=⟨0,0,v0⟩
structure MB where
 size:Nat
 kb:Bool
 byte:Nat->Cl
abbrev MM:=List MB
def kh:Option Nat->Value
 | none => .pointer none
 | some g => .pointer (some ⟨g,0,none⟩)
def iN (h:za) (g:Nat) (f:Nat->Cl):Prop := ∃ cs,h.get g=some (.cells cs 185)/\cs.length=320 /\ ∀ k j,k < 64->j < 5->cs[k * 5 + j]? = (f k).yJ[j]?
structure YT (h:za) (q:Nat) (gs:List (Option Nat)) (B:MB) (F:Nat->Prop):Prop where
 hl:gs.length=(B.size + 63) / 64
 fq:F q
 hq:h.get q=some (.cells (gs.map kh) 149)
 hg:∀ (j g:Nat),gs[j]? = some (some g)->F g/\iN h g (fun k=>B.byte (64 * j + k))
 hn:∀ j:Nat,gs[j]? = some none->∀ k,k < 64->B.byte (64 * j + k)=iq
 hd:∀ i j g:Nat,gs[i]? = some (some g)->gs[j]? = some (some g)->i=j
 ht:∀ k,64 * gs.length<=k->B.byte k=iq
inductive Xg (h:za) (pg:Value) (B:MB) (F:Nat->Prop):Prop
 | empty (e:pg = .slice none 0 0) (u:∀ k,B.byte k=iq):Xg h pg B F
 | full (q c:Nat) (gs:List (Option Nat)) (e:pg = .slice (some ⟨q,0,none⟩) gs.length c) (x:YT h q gs B F):Xg h pg B F
def nB (h:za) (p:Nat) (B:MB) (F:Nat->Prop):Prop := ∃ pg,h.get p=some (.cells [.int .i64 B.size,pg,.bool B.kb] 145)/\F p/\Xg h pg B F
def live (M:MM):Nat:=(M.filter fun B => !B.kb).length
structure ZW (h:za) (m:Nat) (bs:Value) (ps:List Nat) (fs:Nat->Nat->Prop) (M:MM) (F:Nat->Prop):Prop where
 hm:h.get m=some (.cells [bs,.int .i64 (live M)] 138)
 fm:F m
 len:ps.length=M.length
 hb:(M = []/\bs = .slice none 0 0) \/ ∃ bb c,bs = .slice (some ⟨bb,0,none⟩) M.length c/\c ≠ 0/\F bb/\h.get bb=some (.cells (ps.map fun p => .pointer (some ⟨p,0,none⟩)) 142) /\ ∀ i,¬ fs i bb
 nm:∀ i,¬ fs i m
 kM:∀ i p B,ps[i]? = some p->M[i]? = some B->nB h p B (fs i)
 Ol:∀ i j b,fs i b->fs j b->i=j
 sub:∀ i b,fs i b->F b
 ok:∀ b,F b->h.ro<=b/\b < h.next
def ss (h:za) (m:Nat) (M:MM) (F:Nat->Prop):Prop := ∃ bs ps fs,ZW h m bs ps fs M F
structure jN (F:Nat->Prop) (h h':za):Prop where
 next:h.next<=h'.next
 ro:h'.ro=h.ro
 get:∀ b,¬ F b->b < h.next->h'.get b=h.get b
theorem jN.refl (F:Nat->Prop) (h:za):jN F h h:=⟨aah _,rfl,fun _ _ _=>rfl⟩
theorem jN.trans {F:Nat->Prop} {a b c:za} (x:jN F a b) (y:jN F b c):jN F a c :=
 ⟨aaH x.next y.next,y.ro.trans x.ro,fun i hi hlt=>(y.get i hi (aai hlt x.next)).trans (x.get i hi hlt)⟩
theorem jN.mono {F G:Nat->Prop} {a b:za} (x:jN F a b) (h:∀ i,F i->G i):jN G a b:=⟨x.next,x.ro,fun i hi hlt=>x.get i (fun e=>hi (h i e)) hlt⟩
def tM:Nat->Prop:=fun _=>False
theorem jN.push {F:Nat->Prop} {h h':za} (x:jN F h h') (o:xE):jN F h (h'.push o) :=
 ⟨abd x.next,x.ro,fun b hb hlt=>(zt (aai hlt x.next)).trans (x.get b hb hlt)⟩
theorem jN.set {F:Nat->Prop} {h h':za} (x:jN F h h') {b:Nat} (hb:F b\/h.next<=b) (o:Option xE):jN F h (h'.set b o) :=
 ⟨x.next,x.ro,fun c hc hlt=>(zE (by rcases hb with e | e; (intro q;subst q;exact hc e);omega)).trans (x.get c hc hlt)⟩
section mono
variable {h h':za}
theorem iN.zB {g:Nat} {f:Nat->Cl} (x:iN h g f) (e:h'.get g=h.get g):iN h' g f:=by obtain ⟨cs,a,b⟩:=x;exact ⟨cs,e.trans a,b⟩
theorem YT.zB {q:Nat} {gs:List (Option Nat)} {B:MB} {F:Nat->Prop} (x:YT h q gs B F) (e:∀ b,F b->h'.get b=h.get b):YT h' q gs B F :=
 ⟨x.hl,x.fq,(e q x.fq).trans x.hq,fun j g hj=>⟨(x.hg j g hj).1,(x.hg j g hj).2.zB (e g (x.hg j g hj).1)⟩,x.hn,x.hd,x.ht⟩
theorem YT.more {q:Nat} {gs:List (Option Nat)} {B:MB} {F G:Nat->Prop} (x:YT h q gs B F) (e:∀ b,F b->G b):YT h q gs B G :=
 ⟨x.hl,e q x.fq,x.hq,fun j g hj=>⟨e _ (x.hg j g hj).1,(x.hg j g hj).2⟩,x.hn,x.hd,x.ht⟩
theorem Xg.zB {pg:Value} {B:MB} {F:Nat->Prop} (x:Xg h pg B F) (e:∀ b,F b->h'.get b=h.get b):Xg h' pg B F:=by
 cases x with
 | empty a b=>exact .empty a b
 | full q c gs a x=>exact .full q c gs a (x.zB e)
theorem Xg.more {pg:Value} {B:MB} {F G:Nat->Prop} (x:Xg h pg B F) (e:∀ b,F b->G b):Xg h pg B G:=by
 cases x with
 | empty a b=>exact .empty a b
 | full q c gs a x=>exact .full q c gs a (x.more e)
theorem nB.zB {p:Nat} {B:MB} {F:Nat->Prop} (x:nB h p B F) (e:∀ b,F b->h'.get b=h.get b):nB h' p B F:=by
 obtain ⟨pg,a,b,c⟩:=x;exact ⟨pg,(e p b).trans a,b,c.zB e⟩
theorem nB.more {p:Nat} {B:MB} {F G:Nat->Prop} (x:nB h p B F) (e:∀ b,F b->G b):nB h p B G:=by
 obtain ⟨pg,a,b,c⟩:=x;exact ⟨pg,a,e p b,c.more e⟩
theorem ZW.zB {m:Nat} {bs:Value} {ps:List Nat} {fs:Nat->Nat->Prop} {M:MM} {F:Nat->Prop} (x:ZW h m bs ps fs M F) (e:∀ b,F b->h'.get b=h.get b) (hn:h.next<=h'.next) (hr:h'.ro=h.ro):ZW h' m bs ps fs M F :=
 ⟨(e m x.fm).trans x.hm,x.fm,x.len,by
   rcases x.hb with a | ⟨bb,c,a,b,d,g,o⟩
   ·exact .inl a
   ·exact .inr ⟨bb,c,a,b,d,(e bb d).trans g,o⟩,x.nm,fun i p B hp hB=>(x.kM i p B hp hB).zB (fun b hb=>e b (x.sub i b hb)),x.Ol,x.sub,fun b hb=>by
    have:=x.ok b hb;rw [hr];omega⟩
theorem ss.zB {m:Nat} {M:MM} {F:Nat->Prop} (x:ss h m M F) (e:∀ b,F b->h'.get b=h.get b) (hn:h.next<=h'.next) (hr:h'.ro=h.ro):ss h' m M F:=by
 obtain ⟨bs,ps,fs,x⟩:=x;exact ⟨bs,ps,fs,x.zB e hn hr⟩
theorem ss.YK {m:Nat} {M:MM} {F G:Nat->Prop} (x:ss h m M F) (e:jN G h h') (hd:∀ b,F b->¬ G b):ss h' m M F:=by
 obtain ⟨bs,ps,fs,x⟩:=x
 exact ⟨bs,ps,fs,x.zB (fun b hb=>e.get b (hd b hb) (x.ok b hb).2) e.next e.ro⟩
end mono
theorem L5 {M:MM} {i:Nat} {B B':MB} (h:M[i]? = some B) (hf:B'.kb=B.kb):live (M.set i B')=live M:=by
 unfold live
 induction M generalizing i with
 | nil=>rfl
 | cons A M ih=>
   cases i with
   | zero=>simp at h;subst h;simp [hf,aby];split <;> rfl
   | succ i=>simp at h;simp only [aaW,aby];split <;> simp [ih h]
theorem Cw {M:MM} {i:Nat} {B:MB} (h:M[i]? = some B):M.set i B=M:=by
 apply abe
 intro j
 by_cases e:i=j
 ·subst e
  have hlt:i < M.length:=by
   rcases aar i M.length with a | a
   ·exact a
   ·rw [aaj a] at h;cases h
  rw [aaT hlt,h]
 ·rw [abk e]
theorem ZW.tY {h h1:za} {m:Nat} {bs:Value} {ps:List Nat} {fs:Nat->Nat->Prop} {M:MM} {F:Nat->Prop} (x:ZW h m bs ps fs M F) {i q:Nat} {B B':MB} {F2:Nat->Prop} (hq:ps[i]? = some q) (hB:M[i]? = some B) (hf:B'.kb=B.kb)
  (YK:jN (fs i) h h1) (hb:nB h1 q B' F2) (h2:∀ b,F2 b->fs i b\/h.next<=b) (h3:∀ b,F2 b->h1.ro<=b/\b < h1.next) :
  ZW h1 m bs ps (fun k=>if k=i then F2 else fs k) (M.set i B') (fun b=>F b\/F2 b):=by
 have old:∀ b,F b->¬ fs i b->h1.get b=h.get b:=fun b hb hn=>YK.get b hn (x.ok b hb).2
 have hnew:∀ b,h.next<=b->F b->False:=fun b hl hb=>by have:=(x.ok b hb).2;omega
 have hlt:i < M.length:=by
  rcases aar i M.length with a | a
  ·exact a
  ·rw [aaj a] at hB;cases hB
 refine ⟨by rw [old m x.fm (x.nm i),x.hm,L5 hB hf],.inl x.fm,by rw [x.len,aa3],?_,?_,?_,?_,?_,?_⟩
 ·rcases x.hb with ⟨rfl,_⟩ | ⟨bb,c,e1,e2,e3,e4,e5⟩
  ·cases hB
  ·refine .inr ⟨bb,c,by rw [e1,aa3],e2,.inl e3,(old bb e3 (e5 i)).trans e4,fun k hk => ?_⟩
   split at hk
   ·rcases h2 bb hk with a | a
    ·exact e5 i a
    ·exact hnew bb a e3
   ·exact e5 k hk
 ·intro k hk
  split at hk
  ·rcases h2 m hk with a | a
   ·exact x.nm i a
   ·exact hnew m a x.fm
  ·exact x.nm k hk
 ·intro k p C hp hC
  by_cases e:k=i
  ·subst e
   rw [aaT hlt] at hC
   cases hC
   rw [hq] at hp;cases hp
   simp only [if_pos]
   exact hb
  ·rw [abk (fun q=>e q.symm)] at hC
   simp only [if_neg e]
   exact (x.kM k p C hp hC).zB (fun b hb=>old b (x.sub k b hb) (fun hc=>e (x.Ol k i b hb hc)))
 ·intro a b z ha hz
  split at ha <;> split at hz
  ·rename_i e1 e2;rw [e1,e2]
  ·rename_i e1 e2
   rcases h2 z ha with c | c
   ·exact absurd (x.Ol b i z hz c) e2
   ·exact (hnew z c (x.sub b z hz)).elim
  ·rename_i e1 e2
   rcases h2 z hz with c | c
   ·exact absurd (x.Ol a i z ha c) e1
   ·exact (hnew z c (x.sub a z ha)).elim
  ·exact x.Ol a b z ha hz
 ·intro k b hk
  split at hk
  ·exact .inr hk
  ·exact .inl (x.sub k b hk)
 ·intro b hb
  have n1:=YK.next
  have n2:=YK.ro
  rcases hb with hb | hb
  ·have:=x.ok b hb;omega
  ·exact h3 b hb
def Kp (v:V):Bool:=if v.k=0 then (v.n == 0 && v.b == 0) else if v.k=1 then v.b == 0 else v.k == 2 && decide (1<=v.b)
theorem mI (v:V) (h:za):xx Tryz.prog 119 [v.val] h (.bool (Kp v)):=by
 refine xx.of rfl ?_
 obtain ⟨k,n,b⟩:=v
 apply Gd
 unfold H7 V.val Kp
 by_cases h0:k=0
 ·subst h0
  simp -implicitDefEqProofs only [zu,zG,zR,yD,zU,vO,ZZ,zF,zQ,yc,nth,nw,Value.cells,BK,aaf,aal,aax,aav,aaz,aaw,abh,aaK,abg,if_true,if_false,aa5,Nat.reduceAdd,Int.reduceEq,aah,wV,wg,XJ,zD,zZ,zC,not_false_eq_true,beq_self_eq_true,zj,zn,yo,Vy,xk,w9]
  try rfl
 ·by_cases h1:k=1
  ·subst h1
   simp -implicitDefEqProofs only [zu,zG,zR,yD,zU,vO,ZZ,zF,zQ,yc,nw,Value.cells,BK,aaf,aal,aax,aav,aaz,aaw,abh,aaK,abg,if_true,if_false,Nat.reduceAdd,aah,wV,wg,XJ,zD,zZ,zC,not_false_eq_true,zj,zn,yo,Vy,xk,w9,h0]
   try rfl
  ·by_cases h2:k=2
   ·subst h2
    simp -implicitDefEqProofs only [zu,zG,zR,zU,qS,yT,vO,ri,ZZ,zF,zQ,yc,nth,nw,Value.cells,BK,aaf,aal,aax,aav,aaz,aaw,abh,aaK,abg,if_true,if_false,aa5,Nat.reduceAdd,aah,wV,wg,XJ,zD,zZ,zC,not_false_eq_true,beq_self_eq_true,zj,zn,yo,Vy,xk,w9,h0,h1]
    try rfl
   ·simp -implicitDefEqProofs only [zu,zG,zR,zU,kF,yf,vO,ZZ,zF,zQ,yc,nth,nw,Value.cells,BK,aaf,aal,aax,aav,aaz,aaw,abh,aaK,abg,if_true,if_false,Nat.reduceAdd,aah,wg,XJ,zD,zZ,zC,not_false_eq_true,zj,zn,yo,Vy,xk,w9,h0,h1,h2]
    simp [h2]
theorem ZQ (n:Int) (h:za):DC Tryz.prog 49 [.int .i64 n] h (fun v h1=>v=V.val ⟨1,n,0⟩/\jN tM h h1):=by
 apply jO;intro hwf;have hro:=hwf.2
 apply M6
 unfold Rw V.val
 simp -implicitDefEqProofs only [zu,zG,zR,vO,zQ,yc,vS,nw,Value.cells,aax,aav,aaz,aaw,aaX,abj,zf,aaY,aaW,abh,aaK,abg,if_true,aaZ,Nat.reduceAdd,and_true,true_and,aah,vN,zD,zM,yU,zZ,zn,zI,xz,GX,hro]
 exact ((jN.refl _ _).push _).set (.inr (aah _)) _
theorem ZV {n:Int} (h1 : -9223372036854775808<=n) (h2:n < 9223372036854775808):IntKind.wrap .i64 n=n:=by
 simp only [IntKind.wrap,IntKind.bits,IntKind.signed];simp;omega
def idx (M:MM) (n:Int):Option Nat:=if 1<=n/\n<=M.length then (match M[n.toNat - 1]? with
 | some B=>if B.kb=true then none else some (n.toNat - 1)
 | none=>none) else none
theorem mL {M:MM} {n:Int} {i:Nat} (h:idx M n=some i):n=i + 1 /\ ∃ B,M[i]? = some B/\B.kb=false:=by
 unfold idx at h
 split at h
 case isFalse=>cases h
 rename_i hn
 split at h
 case h_2=>cases h
 rename_i B hB
 split at h
 case isTrue=>cases h
 rename_i hf
 simp only [aaa] at h
 subst h
 exact ⟨by omega,B,hB,by simpa using hf⟩
theorem Nz {ps:List Nat} {i p:Nat} (h:ps[i]? = some p):(ps.map fun p=>Value.pointer (some ⟨p,0,none⟩))[i]? = some (.pointer (some ⟨p,0,none⟩)):=by simp [h]
theorem E9 {h:za} {m:Nat} {bs:Value} {ps:List Nat} {fs:Nat->Nat->Prop} {M:MM} {F:Nat->Prop} (x:ZW h m bs ps fs M F) {n:Int} (hn:n < 9223372036854775808) :
  DC Tryz.prog 75 [.pointer (some ⟨m,0,none⟩),.int .i64 n] h (fun v h1=>h1=h/\v=kh ((idx M n).bind fun i=>ps[i]?)):=by
 apply M7
 unfold Rx
 have hm:=x.hm
 by_cases h1:n < 1
 ·have e:idx M n=none:=by unfold idx;rw [if_neg (by omega)]
  simp -implicitDefEqProofs only [zu,zG,zR,yD,WA,yT,xG,vO,vR,Y7,zF,zQ,yP,aa2,and_true,wV,zC,Xm,kq,h1,e,aa2,kh]
 ·rcases x.hb with ⟨rfl,rfl⟩ | ⟨bb,c,rfl,hc,fb,hbb,_⟩
  ·have e:idx ([]:MM) n=none:=by unfold idx;rw [if_neg (by simp;omega)]
   have h2:((0:Nat):Int) < n:=by omega
   simp -implicitDefEqProofs only [zu,yI,zG,zR,yD,uM,WA,yT,yf,xG,vO,vR,Xr,Y7,zF,zQ,yP,ya,aa2,aaf,and_true,wV,wg,zC,not_false_eq_true,Xm,kq,Vl,h1,hm,h2,e,aa2,kh]
  ·by_cases h2:(M.length:Int) < n
   ·have e:idx M n=none:=by unfold idx;rw [if_neg (by omega)]
    simp -implicitDefEqProofs only [zu,yI,zG,zR,yD,uM,WA,yT,yf,xG,vO,vR,Xr,Y7,zF,zQ,yP,ya,aa2,aaf,and_true,wV,wg,zC,not_false_eq_true,Xm,kq,Vl,h1,hm,h2,e,aa2,kh]
   ·have hi:n.toNat - 1 < M.length:=by omega
    obtain ⟨p,hp⟩:∃ p,ps[n.toNat - 1]? = some p:=⟨_,aab (by rw [x.len];exact hi)⟩
    have hB:M[n.toNat - 1]? = some M[n.toNat - 1]:=aab hi
    generalize M[n.toNat - 1]=B at hB
    obtain ⟨pg,hbk,_,_⟩:=x.kM _ p B hp hB
    have hw:IntKind.wrap .i64 (n - 1)=n - 1:=ZV (by omega) (by omega)
    have ht:(n - 1).toNat * 1=n.toNat - 1:=by omega
    have hc1:0<=n - 1/\n - 1 < (M.length:Int):=by omega
    have hpp:=Nz hp
    cases hf:B.kb with
    | true=>
      have e:idx M n=none:=by unfold idx;rw [if_pos (by omega),hB];simp [hf]
      simp -implicitDefEqProofs only [zu,yI,zG,zR,yD,uM,yf,xG,vO,vR,Xr,Y7,zF,zQ,yP,ya,aa2,aaf,aal,aav,if_true,and_true,wg,zC,not_false_eq_true,Xm,IL,Yv,kq,BM,DN,Vl,h1,hm,h2,hw,ht,hc1,hbb,hpp,hbk,hf,e,aa2,kh]
    | false=>
      have e:idx M n=some (n.toNat - 1):=by unfold idx;rw [if_pos (by omega),hB];simp [hf]
      simp -implicitDefEqProofs only [zu,yI,zG,zR,zU,uM,yf,xG,vO,vR,Xr,Y7,zF,zQ,yP,ya,aaC,aaf,aal,aav,if_true,and_true,true_and,wg,zC,not_false_eq_true,Xm,IL,Yv,kq,BM,DN,Vl,h1,hm,h2,hw,ht,hc1,hbb,hpp,hbk,hf,e,aaC,hp,kh]
def zp:List Value:=(List.replicate 64 [Value.int .u8 0,.int .u8 0,.int .i64 0,.int .i64 0,.int .i64 0]).flatten
theorem Lc:yg Tryz.prog 185 []=some (.agg zp.toArray):=zB (by kernel_rfl)
theorem MW:zp.length=320:=by kernel_rfl
theorem Ra:∀ k j,k < 64->j < 5->zp[k * 5 + j]? = iq.yJ[j]?:=by
 have h:(List.range 64).all (fun k=>(List.range 5).all fun j=>decide (k * 5 + j < zp.length))=true:=by decide +kernel
 have key:∀ k:Fin 64,∀ j:Fin 5,zp[k.1 * 5 + j.1]? = iq.yJ[j.1]?:=by
  intro k j
  have hl:k.1 * 5 + j.1 < zp.length:=by rw [MW];omega
  have e1:zp[k.1 * 5 + j.1]? = ([Value.int .u8 0,.int .u8 0,.int .i64 0,.int .i64 0,.int .i64 0]:List Value)[j.1]?:=by
   have aux:∀ (n:Nat) (l:List Value),l.length=5->∀ k j,k < n->j < 5->((List.replicate n l).flatten)[k * 5 + j]? = l[j]?:=by
    intro n l hl
    induction n with
    | zero=>intro k j hk;omega
    | succ n ih=>
      intro k j hk hj
      rw [List.replicate_succ,acw]
      cases k with
      | zero=>rw [abl (by omega)];simp
      | succ k=>rw [abb (by omega),hl,show (k + 1) * 5 + j - 5=k * 5 + j by omega];exact ih k j (by omega) hj
   exact aux 64 _ rfl k.1 j.1 k.2 j.2
  rw [e1];rfl
 exact fun k j hk hj=>key ⟨k,hk⟩ ⟨j,hj⟩
theorem P8 (v:Value) (n:Nat):uJ [v] (n * 1)=List.replicate n v:=by
 simp only [uJ,aa6]
 apply abe
 intro i
 by_cases h:i < n
 ·simp [h,Nat.mod_one]
 ·simp [h]
theorem nc {n j g:Nat} (h:(List.replicate n (none:Option Nat))[j]? = some (some g)):False:=by
 rw [List.getElem?_replicate] at h;split at h <;> cases h
theorem BW {gs:List (Option Nat)} {j:Nat} {o:Option Nat} (h:gs[j]? = some o):(gs.map kh)[j]? = some (kh o):=by simp [h]
theorem BX (gs:List (Option Nat)) (j g:Nat):(gs.map kh).set j (.pointer (some ⟨g,0,none⟩))=(gs.set j (some g)).map kh:=by rw [acs];rfl
theorem Hx {h h1:za} {q j g:Nat} {gs:List (Option Nat)} {B:MB} {F:Nat->Prop} (hl:gs.length=(B.size + 63) / 64) (hg:∀ (j g:Nat),gs[j]? = some (some g)->F g/\iN h g (fun k=>B.byte (64 * j + k))) (hn:∀ j:Nat,gs[j]? = some none->∀ k,k < 64->B.byte (64 * j + k)=iq)
  (hd:∀ i j g:Nat,gs[i]? = some (some g)->gs[j]? = some (some g)->i=j) (ht:∀ k,64 * gs.length<=k->B.byte k=iq) (hj:gs[j]? = some none) (hq:h1.get q=some (.cells ((gs.set j (some g)).map kh) 149)) (fq:F q)
  (hold:∀ (i g:Nat),gs[i]? = some (some g)->h1.get g=h.get g) (hnew:h1.get g=some (.cells zp 185)) (fg:¬ F g):YT h1 q (gs.set j (some g)) B (fun b=>F b\/b=g):=by
 have hlt:j < gs.length:=by
  rcases aar j gs.length with a | a
  ·exact a
  ·rw [aaj a] at hj;cases hj
 have hs:∀ i o,(gs.set j (some g))[i]? = some o->(i=j/\o=some g)\/(i ≠ j/\gs[i]? = some o):=by
  intro i o hi
  by_cases e:i=j
  ·subst e;rw [aaT hlt] at hi;exact .inl ⟨rfl,(abE hi).symm⟩
  ·rw [abk (fun q=>e q.symm)] at hi;exact .inr ⟨e,hi⟩
 refine ⟨by simp [hl],.inl fq,hq,fun i g' hi => ?_,fun i hi => ?_,fun a b g' ha hb => ?_,by simpa using ht⟩
 ·rcases hs i _ hi with ⟨rfl,e⟩ | ⟨_,e⟩
  ·cases e
   refine ⟨.inr rfl,zp,hnew,MW,fun k j' hk hj' => ?_⟩
   rw [Ra k j' hk hj'];show _=(B.byte (64 * i + k)).yJ[j']?;rw [hn i hj k hk]
  ·exact ⟨.inl (hg i g' e).1,(hg i g' e).2.zB (hold i g' e)⟩
 ·rcases hs i _ hi with ⟨_,e⟩ | ⟨_,e⟩
  ·cases e
  ·exact hn i e
 ·rcases hs a _ ha with ⟨e1,e2⟩ | ⟨_,e2⟩ <;> rcases hs b _ hb with ⟨e3,e4⟩ | ⟨_,e4⟩
  ·rw [e1,e3]
  ·cases e2;exact absurd (hg _ _ e4).1 fg
  ·cases e4;exact absurd (hg _ _ e2).1 fg
  ·exact hd a b g' e2 e4
section
variable {h:za} {p:Nat} {B:MB} {F:Nat->Prop} {pg:Value} {a:Int}
theorem Om (h0:0<=a) (h1:a < 4611686018427387904):IntKind.wrap .i64 (a.tdiv 64)=((a.toNat / 64:Nat):Int):=by
 rw [Int.tdiv_eq_ediv_of_nonneg h0,ZV (by omega) (by omega)];omega
def Rs (h:za) (B:MB) (F:Nat->Prop) (a:Int) (v:Value) (h1:za):Prop :=
 h1=h/\((v=kh none /\ ∀ k,k < 64->B.byte (64 * (a.toNat / 64) + k)=iq) \/ ∃ g,v=kh (some g)/\F g/\iN h g (fun k=>B.byte (64 * (a.toNat / 64) + k)))
theorem Ps (hb:h.get p=some (.cells [.int .i64 B.size,pg,.bool B.kb] 145)) (x:Xg h pg B F) (h0:0<=a) (h1:a < B.size) (hz:B.size < 4611686018427387904) :
  DC Tryz.prog 76 [.pointer (some ⟨p,0,none⟩),.int .i64 a,.bool false] h (Rs h B F a):=by
 apply oa
 unfold CU
 cases x with
 | empty e u=>
   subst e
   simp -implicitDefEqProofs only [zu,zG,zR,yD,zU,qS,yT,xG,vO,jJ,Y7,gK,zF,zQ,yP,ya,nw,Value.cells,aaf,aal,aav,Int.reduceEq,zC,not_false_eq_true,eH,zj,BF,qq,Uc,hb]
   exact ⟨rfl,.inl ⟨rfl,fun k _=>u _⟩⟩
 | full q c gs e x=>
   obtain ⟨hl,fq,hq,hg,hn,hd,ht⟩:=x
   subst e
   have hj:a.toNat / 64 < gs.length:=by rw [hl];omega
   have hw:=Om h0 (by omega)
   obtain ⟨o,ho⟩:∃ o,gs[a.toNat / 64]? = some o:=⟨_,aab hj⟩
   have hgg:=BW ho
   have hc1:0<=((a.toNat / 64:Nat):Int)/\((a.toNat / 64:Nat):Int) < (gs.length:Int):=by omega
   cases o with
   | none=>
     simp -implicitDefEqProofs only [zu,zG,zR,zU,qS,kF,yT,yf,xG,vO,gK,zF,zQ,yP,ya,K9,nw,Value.cells,aaf,aal,aav,aaz,aaw,aaX,abj,zf,if_true,aaZ,Int.reduceEq,and_true,vN,yU,zC,not_false_eq_true,eH,lV,zj,Dm,cN,cO,qq,Uc,mO,hb,hq,hw,hc1,aau,aa6,hgg,kh]
     exact ⟨rfl,.inl ⟨rfl,fun k hk=>hn _ ho k hk⟩⟩
   | some g=>
     simp -implicitDefEqProofs only [zu,zG,zR,zU,kF,yf,xG,vO,gK,zF,zQ,yP,ya,nw,Value.cells,aaf,aal,aav,if_true,Int.reduceEq,and_true,zC,not_false_eq_true,eH,lV,zj,cO,iA,qq,Uc,mO,hb,hq,hw,hc1,aau,aa6,hgg,kh]
     exact ⟨rfl,.inr ⟨g,rfl,hg _ g ho⟩⟩
def Ac (h:za) (p:Nat) (B:MB) (F:Nat->Prop) (a:Int) (v:Value) (h1:za):Prop :=
 ∃ g q c gs F',v=kh (some g)/\h1.get p=some (.cells [.int .i64 B.size,.slice (some ⟨q,0,none⟩) gs.length c,.bool B.kb] 145)/\YT h1 q gs B F'/\gs[a.toNat / 64]? = some (some g)/\F' p/\jN F h h1/\(∀ b,F' b->F b\/h.next<=b) /\ ∀ b,F' b->h1.ro<=b/\b < h1.next
theorem Ac.mk {h h1:za} {p q c g:Nat} {gs:List (Option Nat)} {B:MB} {F:Nat->Prop} {a:Int} (fp:F p) (ok:∀ b,F b->h.ro<=b/\b < h.next) (hl:gs.length=(B.size + 63) / 64) (hj:gs[a.toNat / 64]? = some none) (fq:F q\/h.next<=q)
  (hg:∀ (j g:Nat),gs[j]? = some (some g)->F g/\iN h g (fun k=>B.byte (64 * j + k))) (hn:∀ j:Nat,gs[j]? = some none->∀ k,k < 64->B.byte (64 * j + k)=iq)
  (hd:∀ i j g:Nat,gs[i]? = some (some g)->gs[j]? = some (some g)->i=j) (ht:∀ k,64 * gs.length<=k->B.byte k=iq)
  (YK:jN F h h1) (hqn:q < h1.next) (hgn:h.next<=g/\g < h1.next) (hro:h.ro<=h.next)
  (hp1:h1.get p=some (.cells [.int .i64 B.size,.slice (some ⟨q,0,none⟩) gs.length c,.bool B.kb] 145)) (hq1:h1.get q=some (.cells ((gs.set (a.toNat / 64) (some g)).map kh) 149)) (hg1:h1.get g=some (.cells zp 185))
  (hold:∀ (i g:Nat),gs[i]? = some (some g)->h1.get g=h.get g):Ac h p B F a (.pointer (some ⟨g,0,none⟩)) h1:=by
 have P:=Hx (F:=fun b=>F b\/b=q) (h1:=h1) hl (fun j g hj=>⟨.inl (hg j g hj).1,(hg j g hj).2⟩) hn hd ht hj hq1 (.inr rfl) hold hg1 (by
  rintro (e | e)
  ·have:=ok _ e;omega
  ·subst e;rw [hq1] at hg1;simp at hg1)
 have hlt:a.toNat / 64 < gs.length:=by
  rcases aar (a.toNat / 64) gs.length with e | e
  ·exact e
  ·rw [aaj e] at hj;cases hj
 refine ⟨g,q,c,_,_,rfl,by rw [aa3];exact hp1,P,aaT hlt,.inl (.inl fp),YK,fun b hb => ?_,fun b hb => ?_⟩
 ·rcases hb with (hb | hb) | hb
  ·exact .inl hb
  ·subst hb;exact fq
  ·subst hb;exact .inr hgn.1
 ·have n1:=YK.next
  have n2:=YK.ro
  rcases hb with (hb | hb) | hb
  ·have:=ok b hb;omega
  ·subst hb
   rcases fq with fq | fq
   ·have:=ok b fq;omega
   ·omega
  ·subst hb;omega
theorem L6 (hb:h.get p=some (.cells [.int .i64 B.size,pg,.bool B.kb] 145)) (x:Xg h pg B F) (fp:F p) (ok:∀ b,F b->h.ro<=b/\b < h.next) (hro:h.ro<=h.next) (h0:0<=a) (h1:a < B.size) (hz:B.size < 2147483648) :
  DC Tryz.prog 76 [.pointer (some ⟨p,0,none⟩),.int .i64 a,.bool true] h (Ac h p B F a):=by
 apply oa
 unfold CU
 have hw:=Om h0 (by omega)
 have okp:=ok p fp
 have hpn:¬ p=h.next:=by omega
 have hnp:¬ h.next=p:=by omega
 have hpn1:¬ p=h.next + 1:=by omega
 cases x with
 | empty e u=>
   subst e
   have hn1:IntKind.wrap .i64 ((B.size:Int) + 64)=(B.size:Int) + 64:=ZV (by omega) (by omega)
   have hn2:IntKind.wrap .i64 ((B.size:Int) + 64 - 1)=((B.size + 63:Nat):Int):=by rw [ZV (by omega) (by omega)];omega
   have hn3:IntKind.wrap .i64 (((B.size + 63:Nat):Int).tdiv 64)=(((B.size + 63) / 64:Nat):Int):=by
    rw [Int.tdiv_eq_ediv_of_nonneg (by omega),ZV (by omega) (by omega)];omega
   have hm:=Pw .i64 .i64 (((B.size + 63) / 64:Nat):Int) (((B.size + 63) / 64:Nat):Int) h (by omega) (by omega) (by omega)
   have hj:a.toNat / 64 < (B.size + 63) / 64:=by omega
   have hj1:a.toNat / 64 + 1<=(B.size + 63) / 64:=hj
   have hc1:0<=((a.toNat / 64:Nat):Int)/\((a.toNat / 64:Nat):Int) < (((B.size + 63) / 64:Nat):Int):=by omega
   have hrep:(List.replicate ((B.size + 63) / 64) (Value.pointer none))[a.toNat / 64]? = some (.pointer none):=by simp [hj]
   have hset:∀ v:Value,((List.replicate ((B.size + 63) / 64) (Value.pointer none)).set (a.toNat / 64) v)[a.toNat / 64]? = some v:=fun v=>aaT (by simpa using hj)
   simp only [aau,P8] at hm
   simp -implicitDefEqProofs only [zu,yI,zG,zR,yD,zU,qS,yT,xG,vO,jJ,Y7,gK,zF,zQ,yP,ya,yc,K9,V9,nw,Value.cells,aaf,aal,aax,aav,aaz,aaw,ab8,aaX,abj,zf,aaY,aaW,if_true,aaZ,Nat.reduceAdd,Nat.reduceLeDiff,Int.reduceEq,and_true,z9,ua,vN,Jf,zD,zt,zM,zE,iI,eZ,yU,zC,not_false_eq_true,eH,lV,zj,OV,Dm,BF,cN,cO,qq,Uc,mO,hb,hn1,hn2,hn3,hm,okp,hpn,hnp,hw,hc1,aau,aa6,hrep,Lc,hj1,hro,hset]
   have hnn:¬ h.next + 1=h.next:=by omega
   have hrl:(List.replicate ((B.size + 63) / 64) (none:Option Nat)).length=(B.size + 63) / 64:=ab8
   refine Ac.mk (q:=h.next) (c:=(B.size + 63) / 64 + 2) (gs:=List.replicate ((B.size + 63) / 64) none) fp ok hrl (by simp [hj]) (.inr (aah _)) (fun j g hj=>(nc hj).elim) (fun _ _ k _=>u _) (fun i j g hi=>(nc hi).elim) (fun k _=>u k)
    ?_ ?_ ?_ hro ?_ ?_ ?_ (fun i g hi=>(nc hi).elim)
   ·exact ((((jN.refl F h).push _).set (.inl fp) _).push _).set (.inr (aah _)) _
   ·simp only [ua,z9];omega
   ·simp only [ua,z9];omega
   ·rw [hrl];simp -implicitDefEqProofs only [z9,ua,zt,zM,zE,eZ,not_false_eq_true,hpn,okp]
   ·simp -implicitDefEqProofs only [zM];rw [<- BX,List.map_replicate];rfl
   ·simp -implicitDefEqProofs only [z9,ua,zD,zE,not_false_eq_true,hnn]
 | full q c gs e x=>
   obtain ⟨hl,fq,hq,hg,hn,hd,ht⟩:=x
   subst e
   have hj:a.toNat / 64 < gs.length:=by rw [hl];omega
   have hj1:a.toNat / 64 + 1<=gs.length:=hj
   obtain ⟨o,ho⟩:∃ o,gs[a.toNat / 64]? = some o:=⟨_,aab hj⟩
   have hgg:=BW ho
   have hc1:0<=((a.toNat / 64:Nat):Int)/\((a.toNat / 64:Nat):Int) < (gs.length:Int):=by omega
   have okq:=ok q fq
   cases o with
   | some g=>
     simp -implicitDefEqProofs only [zu,zG,zR,zU,kF,yf,xG,vO,gK,zF,zQ,yP,ya,nw,Value.cells,aaf,aal,aav,if_true,Int.reduceEq,and_true,zC,not_false_eq_true,eH,lV,zj,cO,iA,qq,Uc,mO,hb,hq,hw,hc1,aau,aa6,hgg,kh]
     exact ⟨g,q,c,gs,F,rfl,hb,⟨hl,fq,hq,hg,hn,hd,ht⟩,ho,fp,.refl _ _,fun b hb => .inl hb,ok⟩
   | none=>
     have hqn:¬ q=h.next:=by omega
     have hnq:¬ h.next=q:=by omega
     have hpq:¬ p=q:=by intro e;subst e;rw [hb] at hq;simp at hq
     have hset:∀ v:Value,((gs.map kh).set (a.toNat / 64) v)[a.toNat / 64]? = some v:=fun v=>aaT (by simpa using hj)
     simp -implicitDefEqProofs only [zu,zG,zR,yD,zU,qS,kF,yT,yf,xG,vO,gK,zF,zQ,yP,ya,yc,K9,nw,Value.cells,aaf,aal,aax,aav,aaz,aaw,aak,aaX,abj,zf,if_true,aaZ,Int.reduceEq,and_true,vN,zt,zM,zE,yU,zC,not_false_eq_true,eH,lV,zj,Dm,cN,cO,qq,Uc,mO,hb,hq,hw,hc1,aau,aa6,hgg,kh,Lc,okq,okp,hj1,hset,hpq]
     refine Ac.mk (q:=q) (c:=c) (gs:=gs) fp ok hl ho (.inl fq) hg hn hd ht ?_ ?_ ?_ hro ?_ ?_ ?_ (fun i g hi => ?_)
     ·exact ((jN.refl F h).push _).set (.inl fq) _
     ·simp only [ua,z9];omega
     ·simp only [ua,z9];omega
     ·simp -implicitDefEqProofs only [zt,zE,not_false_eq_true,hpq,okp,hb]
     ·simp -implicitDefEqProofs only [zM];rw [<- BX]
     ·simp -implicitDefEqProofs only [zD,zE,not_false_eq_true,hnq]
     ·have hgq:¬ g=q:=by
       intro e;subst e
       obtain ⟨cs,e1,_⟩:=(hg i g hi).2
       rw [hq] at e1;simp at e1
      have:=(ok g (hg i g hi).1).2
      simp -implicitDefEqProofs only [zt,zE,not_false_eq_true,hgq,this]
end
def right (M:MM) (c:Int) (p:V):Option Nat :=
 if p.k=2/\(c=1\/c=4\/c=8) then (match idx M p.b with
  | some i=>(match M[i]? with
    | some B=>if 0<=p.n/\p.n<=B.size - c/\p.n.tmod c=0 then some i else none
    | none=>none)
  | none=>none) else none
theorem nd {M:MM} {c:Int} {p:V} {i:Nat} (h:right M c p=some i):p.k=2/\(c=1\/c=4\/c=8)/\idx M p.b=some i /\ ∃ B,M[i]? = some B/\0<=p.n/\p.n<=B.size - c/\p.n.tmod c=0:=by
 unfold right at h
 split at h
 case isFalse=>cases h
 rename_i h1
 split at h
 case h_2=>cases h
 rename_i j hj
 split at h
 case h_2=>cases h
 rename_i B hB
 split at h
 case isFalse=>cases h
 rename_i h2
 simp only [aaa] at h
 subst h
 exact ⟨h1.1,h1.2,hj,B,hB,h2⟩
theorem Uk {M:MM} {c:Int} {p:V} {i:Nat} {B:MB} (hi:idx M p.b=some i) (hB:M[i]? = some B) (h:¬ (0<=p.n/\p.n<=B.size - c/\p.n.tmod c=0)):right M c p=none:=by
 unfold right
 split
 ·simp only [hi,hB];exact if_neg h
 ·rfl
theorem sd {M:MM} {c:Int} {p:V} {i:Nat} {B:MB} (hk:p.k=2) (hc:c=1\/c=4\/c=8) (hi:idx M p.b=some i) (hB:M[i]? = some B) (h:0<=p.n/\p.n<=B.size - c/\p.n.tmod c=0):right M c p=some i:=by
 unfold right
 rw [if_pos ⟨hk,hc⟩]
 simp only [hi,hB];exact if_pos h
def M3 (h:za) (f:Nat->Cl) (n c:Nat) (F:Nat->Prop) (v:Value):Prop :=
 (v = .slice none 0 0 /\ ∀ k,k < c->f (n + k)=iq) \/ ∃ g off cs cp,v = .slice (some ⟨g,off,none⟩) c cp/\F g/\h.get g=some (.cells cs 185)/\off + c * 5<=cs.length/\off=n % 64 * 5 /\ ∀ k j,k < c->j < 5->cs[off + k * 5 + j]? = (f (n + k)).yJ[j]?
def SV (h:za) (M:MM) (F:Nat->Prop) (c:Int) (p:V) (v:Value) (h1:za):Prop :=
 jN tM h h1/\match right M c p with
  | none=>v = .tuple #[.slice none 0 0,.bool false]
  | some i => ∃ s,v = .tuple #[s,.bool true] /\ ∀ B,M[i]? = some B->M3 h1 B.byte p.n.toNat c.toNat F s
def jZ (n:Int):Prop := -9223372036854775808<=n/\n < 9223372036854775808
def V.ok (v:V):Prop:=jZ v.k/\jZ v.n/\jZ v.b
def small (M:MM):Prop := ∀ (i:Nat) (B:MB),M[i]? = some B->B.size < 2147483648
section
variable {h:za} {m:Nat} {bs:Value} {ps:List Nat} {fs:Nat->Nat->Prop} {M:MM} {F:Nat->Prop} {c:Int} {p:V}
theorem IF (x:ZW h m bs ps fs M F) (hs:small M) (hc:jZ c) (hp:p.ok) :
  DC Tryz.prog 118 [.pointer (some ⟨m,0,none⟩),.int .i64 c,p.val,.bool false] h (SV h M F c p):=by
 obtain ⟨pk,pn,pb⟩:=p
 obtain ⟨hp1,hp2,hp3⟩:=hp
 unfold jZ at hc hp1 hp2 hp3
 simp only at hp1 hp2 hp3
 apply fH
 unfold iO V.val
 have x1:ZW (h.push (.cells [.int .i64 pk,.int .i64 pn,.int .i64 pb] 69)) m bs ps fs M F:=x.zB (fun b hb=>zt (x.ok b hb).2) (abn _) rfl
 have YK:jN tM h (h.push (.cells [.int .i64 pk,.int .i64 pn,.int .i64 pb] 69)):=(jN.refl _ _).push _
 by_cases hk:pk=2
 case neg=>
  have e:right M c ⟨pk,pn,pb⟩=none:=by unfold right;rw [if_neg (fun q=>hk q.1)]
  simp -implicitDefEqProofs only [zu,zG,zR,yD,WA,En,yT,ve,jK,zF,zQ,ya,yc,nw,Value.cells,aaf,aax,aav,wg,zD,zC,not_false_eq_true,aaO,wj,zj,xk,xo,w9,hk]
  exact ⟨YK,by rw [e]⟩
 subst hk
 by_cases hcc:c=1\/c=4\/c=8
 case neg=>
  have e:right M c ⟨2,pn,pb⟩=none:=by unfold right;rw [if_neg (fun q=>hcc q.2)]
  have n1:¬ c=1:=fun q=>hcc (.inl q)
  have n4:¬ c=4:=fun q=>hcc (.inr (.inl q))
  have n8:¬ c=8:=fun q=>hcc (.inr (.inr q))
  simp -implicitDefEqProofs only [zu,zG,zR,yD,qS,uM,yT,yf,ve,jK,zF,zQ,ya,yc,nw,Value.cells,aaf,aax,aav,wV,wg,zD,zC,not_false_eq_true,aa4,aaO,wj,zj,xk,xo,w9,n1,n4,n8]
  exact ⟨YK,by rw [e]⟩
 have hat:=E9 x1 hp3.2
 cases hi:idx M pb with
 | none=>
   have e:right M c ⟨2,pn,pb⟩=none:=by unfold right;rw [if_pos ⟨rfl,hcc⟩];simp only [hi]
   rw [hi] at hat
   rcases hcc with rfl | rfl | rfl <;> simp -implicitDefEqProofs only [zu,zG,zR,zU,qS,uM,kF,yT,yf,ve,jK,zF,zQ,ya,yc,nth,nw,Value.cells,aaf,aal,aax,aav,Int.reduceEq,wV,wg,zD,zC,not_false_eq_true,aa4,aaO,wj,zj,xk,xo,w9] <;> refine zT (by kernel_rfl) rfl hat ?_ <;> rintro v h1 ⟨rfl,rfl⟩ <;> simp -implicitDefEqProofs only [zu,zG,zR,yD,WA,yT,zF,yP,aa2,cM,aa2,kh] <;> exact ⟨YK,by rw [e]⟩
 | some i=>
   obtain ⟨hpb,B,hB,hf⟩:=mL hi
   obtain ⟨q,hq⟩:∃ q,ps[i]? = some q:=by
    have hlt:i < M.length:=by
     rcases aar i M.length with a | a
     ·exact a
     ·rw [aaj a] at hB;cases hB
    exact ⟨_,aab (by rw [x.len];exact hlt)⟩
   obtain ⟨pg,hbk,fq,hpg⟩:=x1.kM i q B hq hB
   have hz:=hs i B hB
   rw [hi] at hat
   have hcb:1<=c/\c<=8:=by omega
   have hcn:¬ c=0:=by omega
   have hw:IntKind.wrap .i64 ((B.size:Int) - c)=(B.size:Int) - c:=ZV (by omega) (by omega)
   by_cases h0:pn < 0
   ·have e:=Uk (p:=⟨2,pn,pb⟩) (c:=c) hi hB (fun q=>by have:0<=pn:=q.1;omega)
    rcases hcc with rfl | rfl | rfl
    all_goals
     simp -implicitDefEqProofs only [zu,zG,zR,zU,qS,uM,kF,yT,yf,ve,jK,zF,zQ,ya,yc,nth,nw,Value.cells,aaf,aal,aax,aav,Int.reduceEq,wV,wg,zD,zC,not_false_eq_true,aa4,aaO,wj,zj,xk,xo,w9]
     refine zT (by kernel_rfl) rfl hat ?_
     rintro v h1 ⟨rfl,rfl⟩
     simp -implicitDefEqProofs only [zu,zG,zR,yD,uM,WA,yT,yf,vR,zF,zQ,yP,aaC,aaf,aal,wV,zD,zC,wj,YL,hq,kh,h0]
     exact ⟨YK,by rw [e]⟩
   by_cases h1:(B.size:Int) - c < pn
   ·have e:=Uk (p:=⟨2,pn,pb⟩) (c:=c) hi hB (fun q=>by have:pn<=B.size - c:=q.2.1;omega)
    rcases hcc with rfl | rfl | rfl
    all_goals
     simp -implicitDefEqProofs only [zu,zG,zR,zU,qS,uM,kF,yT,yf,ve,jK,zF,zQ,ya,yc,nth,nw,Value.cells,aaf,aal,aax,aav,Int.reduceEq,wV,wg,zD,zC,not_false_eq_true,aa4,aaO,wj,zj,xk,xo,w9]
     refine zT (by kernel_rfl) rfl hat ?_
     rintro v h1 ⟨rfl,rfl⟩
     simp -implicitDefEqProofs only [zu,zG,zR,yD,uM,WA,yT,yf,xG,vR,Xr,Y7,zF,zQ,yP,aaC,aaf,aal,wV,wg,zD,zC,not_false_eq_true,wj,zj,YL,qq,hq,kh,h0,hbk,hw,h1]
     exact ⟨YK,by rw [e]⟩
   by_cases h2:pn.tmod c=0
   case neg=>
    have e:=Uk (p:=⟨2,pn,pb⟩) (c:=c) hi hB (fun q=>h2 q.2.2)
    rcases hcc with rfl | rfl | rfl
    all_goals
     simp -implicitDefEqProofs only [zu,zG,zR,zU,qS,uM,kF,yT,yf,ve,jK,zF,zQ,ya,yc,nth,nw,Value.cells,aaf,aal,aax,aav,Int.reduceEq,wV,wg,zD,zC,not_false_eq_true,aa4,aaO,wj,zj,xk,xo,w9]
     refine zT (by kernel_rfl) rfl hat ?_
     rintro v h1 ⟨rfl,rfl⟩
     simp -implicitDefEqProofs only [zu,zG,zR,yD,uM,yf,xG,vR,Xr,jK,Y7,Jv,zF,zQ,yP,aaC,aaf,aal,Int.reduceEq,wg,zD,zC,not_false_eq_true,aaO,wj,zj,YL,qq,hq,kh,h0,hbk,hw,h1,h2]
     exact ⟨YK,by rw [e]⟩
   have e:=sd (p:=⟨2,pn,pb⟩) (c:=c) rfl hcc hi hB ⟨by show 0<=pn;omega,by show pn<=_;omega,h2⟩
   have hmd:=Ps hbk hpg (a:=pn) (by omega) (by omega) (by omega)
   have hr1:pn.tmod 64=((pn.toNat % 64:Nat):Int):=by rw [abG (by omega)];omega
   have hr2:IntKind.wrap .i64 (((pn.toNat % 64:Nat):Int) + c)=((pn.toNat % 64:Nat):Int) + c:=ZV (by omega) (by omega)
   have hin:((pn.toNat % 64:Nat):Int) + c<=64:=by
    rw [abG (by omega)] at h2
    rcases hcc with rfl | rfl | rfl <;> omega
   have hb1:0<=((pn.toNat % 64:Nat):Int) + c/\((pn.toNat % 64:Nat):Int) + c<=((64:Nat):Int):=by omega
   have hb2:0<=((pn.toNat % 64:Nat):Int)/\((pn.toNat % 64:Nat):Int)<=((((pn.toNat % 64:Nat):Int) + c).toNat:Int):=by omega
   have hb3:¬ 64=pn.toNat % 64:=by omega
   have hb4:(((pn.toNat % 64:Nat):Int) + c).toNat - pn.toNat % 64=c.toNat:=by omega
   rcases hcc with rfl | rfl | rfl
   all_goals
    simp -implicitDefEqProofs only [zu,zG,zR,zU,qS,uM,kF,yT,yf,ve,jK,zF,zQ,ya,yc,nth,nw,Value.cells,aaf,aal,aax,aav,Int.reduceEq,wV,wg,zD,zC,not_false_eq_true,aa4,aaO,wj,zj,xk,xo,w9]
    refine zT (by kernel_rfl) rfl hat ?_
    rintro v h1 ⟨rfl,rfl⟩
    simp -implicitDefEqProofs only [zu,zG,zR,zU,uM,yf,xG,vR,Xr,jK,Y7,Jv,zF,zQ,yP,aaC,nth,aaf,aal,Int.reduceEq,wV,wg,zD,zC,not_false_eq_true,aa4,wj,zj,YL,qq,hq,kh,h0,hbk,hw,h1,h2]
    refine zT (by kernel_rfl) rfl hmd ?_
    rintro v h1 ⟨rfl,⟨rfl,hu⟩ | ⟨g,rfl,fg,hpage⟩⟩
    ·simp -implicitDefEqProofs only [zu,zG,zR,yD,yP,cN,kh]
     refine ⟨YK,?_⟩
     rw [e]
     refine ⟨_,rfl,fun B' hB' => .inl ⟨rfl,fun k hk => ?_⟩⟩
     rw [hB] at hB';cases hB'
     have:=hu (pn.toNat % 64 + k) (by omega)
     rw [show 64 * (pn.toNat / 64) + (pn.toNat % 64 + k)=pn.toNat + k by omega] at this
     exact this
    ·simp -implicitDefEqProofs only [zu,zG,zR,zU,xG,ve,jJ,Jv,zF,zQ,yP,ya,dp,cond_true,UW,aaC,aaf,aal,aav,if_true,if_false,aaZ,Int.reduceEq,Int.reduceToNat,and_true,true_and,zD,not_false_eq_true,iA,MD,kh,hr1,hr2,hb1,hb2,hb3,hb4,aau]
     refine ⟨YK,?_⟩
     rw [e]
     refine ⟨_,rfl,fun B' hB' => .inr ?_⟩
     rw [hB] at hB';cases hB'
     obtain ⟨cs,hgc,hlen,hcs⟩:=hpage
     refine ⟨g,_,cs,0,rfl,x.sub i g fg,hgc,by rw [hlen];omega,rfl,fun k j hk hj => ?_⟩
     have:=hcs (pn.toNat % 64 + k) j (by omega) hj
     rw [show (pn.toNat % 64 + k) * 5 + j=pn.toNat % 64 * 5 + k * 5 + j by omega] at this
     rw [this]
     show (B.byte (64 * (pn.toNat / 64) + (pn.toNat % 64 + k))).yJ[j]? = _
     rw [show 64 * (pn.toNat / 64) + (pn.toNat % 64 + k)=pn.toNat + k by omega]
def FX (h:za) (m:Nat) (M:MM) (F:Nat->Prop) (c:Int) (p:V) (v:Value) (h1:za):Prop :=
 match right M c p with
 | none=>v = .tuple #[.slice none 0 0,.bool false]/\jN tM h h1
 | some i => ∃ g bs ps fs F' q qp cq gs B,M[i]? = some B/\v = .tuple #[.slice (some ⟨g,p.n.toNat % 64 * 5,none⟩) c.toNat 0,.bool true]/\ZW h1 m bs ps fs M F'/\ps[i]? = some qp /\
   h1.get qp=some (.cells [.int .i64 B.size,.slice (some ⟨q,0,none⟩) gs.length cq,.bool B.kb] 145)/\fs i qp/\YT h1 q gs B (fs i)/\gs[p.n.toNat / 64]? = some (some g)/\jN F h h1 /\ ∀ b,F' b->F b\/h.next<=b
theorem IG (hro:h.ro<=h.next) (x:ZW h m bs ps fs M F) (hs:small M) (hc:jZ c) (hp:p.ok) :
  DC Tryz.prog 118 [.pointer (some ⟨m,0,none⟩),.int .i64 c,p.val,.bool true] h (FX h m M F c p):=by
 obtain ⟨pk,pn,pb⟩:=p
 obtain ⟨hp1,hp2,hp3⟩:=hp
 unfold jZ at hc hp1 hp2 hp3
 simp only at hp1 hp2 hp3
 apply fH
 unfold iO V.val
 have x1:ZW (h.push (.cells [.int .i64 pk,.int .i64 pn,.int .i64 pb] 69)) m bs ps fs M F:=x.zB (fun b hb=>zt (x.ok b hb).2) (abn _) rfl
 have YK:jN tM h (h.push (.cells [.int .i64 pk,.int .i64 pn,.int .i64 pb] 69)):=(jN.refl _ _).push _
 have no:∀ {c},right M c ⟨pk,pn,pb⟩=none->FX h m M F c ⟨pk,pn,pb⟩ (.tuple #[.slice none 0 0,.bool false]) (h.push (.cells [.int .i64 pk,.int .i64 pn,.int .i64 pb] 69)):=fun e=>by
  unfold FX;rw [e];exact ⟨rfl,YK⟩
 by_cases hk:pk=2
 case neg=>
  have e:right M c ⟨pk,pn,pb⟩=none:=by unfold right;rw [if_neg (fun q=>hk q.1)]
  simp -implicitDefEqProofs only [zu,zG,zR,yD,WA,En,yT,ve,jK,zF,zQ,ya,yc,nw,Value.cells,aaf,aax,aav,wg,zD,zC,not_false_eq_true,aaO,wj,zj,xk,xo,w9,hk]
  exact no e
 subst hk
 by_cases hcc:c=1\/c=4\/c=8
 case neg=>
  have e:right M c ⟨2,pn,pb⟩=none:=by unfold right;rw [if_neg (fun q=>hcc q.2)]
  have n1:¬ c=1:=fun q=>hcc (.inl q)
  have n4:¬ c=4:=fun q=>hcc (.inr (.inl q))
  have n8:¬ c=8:=fun q=>hcc (.inr (.inr q))
  simp -implicitDefEqProofs only [zu,zG,zR,yD,qS,uM,yT,yf,ve,jK,zF,zQ,ya,yc,nw,Value.cells,aaf,aax,aav,wV,wg,zD,zC,not_false_eq_true,aa4,aaO,wj,zj,xk,xo,w9,n1,n4,n8]
  exact no e
 have hat:=E9 x1 hp3.2
 cases hi:idx M pb with
 | none=>
   have e:right M c ⟨2,pn,pb⟩=none:=by unfold right;rw [if_pos ⟨rfl,hcc⟩];simp only [hi]
   rw [hi] at hat
   rcases hcc with rfl | rfl | rfl <;> simp -implicitDefEqProofs only [zu,zG,zR,zU,qS,uM,kF,yT,yf,ve,jK,zF,zQ,ya,yc,nth,nw,Value.cells,aaf,aal,aax,aav,Int.reduceEq,wV,wg,zD,zC,not_false_eq_true,aa4,aaO,wj,zj,xk,xo,w9] <;> refine zT (by kernel_rfl) rfl hat ?_ <;> rintro v h1 ⟨rfl,rfl⟩ <;> simp -implicitDefEqProofs only [zu,zG,zR,yD,WA,yT,zF,yP,aa2,cM,aa2,kh] <;> exact no e
 | some i=>
   obtain ⟨hpb,B,hB,hf⟩:=mL hi
   obtain ⟨q,hq⟩:∃ q,ps[i]? = some q:=by
    have hlt:i < M.length:=by
     rcases aar i M.length with a | a
     ·exact a
     ·rw [aaj a] at hB;cases hB
    exact ⟨_,aab (by rw [x.len];exact hlt)⟩
   obtain ⟨pg,hbk,fq,hpg⟩:=x1.kM i q B hq hB
   have hz:=hs i B hB
   rw [hi] at hat
   have hcb:1<=c/\c<=8:=by omega
   have hcn:¬ c=0:=by omega
   have hw:IntKind.wrap .i64 ((B.size:Int) - c)=(B.size:Int) - c:=ZV (by omega) (by omega)
   by_cases h0:pn < 0
   ·have e:=Uk (p:=⟨2,pn,pb⟩) (c:=c) hi hB (fun q=>by have:0<=pn:=q.1;omega)
    rcases hcc with rfl | rfl | rfl
    all_goals
     simp -implicitDefEqProofs only [zu,zG,zR,zU,qS,uM,kF,yT,yf,ve,jK,zF,zQ,ya,yc,nth,nw,Value.cells,aaf,aal,aax,aav,Int.reduceEq,wV,wg,zD,zC,not_false_eq_true,aa4,aaO,wj,zj,xk,xo,w9]
     refine zT (by kernel_rfl) rfl hat ?_
     rintro v h1 ⟨rfl,rfl⟩
     simp -implicitDefEqProofs only [zu,zG,zR,yD,uM,WA,yT,yf,vR,zF,zQ,yP,aaC,aaf,aal,wV,zD,zC,wj,YL,hq,kh,h0]
     exact no e
   by_cases h1:(B.size:Int) - c < pn
   ·have e:=Uk (p:=⟨2,pn,pb⟩) (c:=c) hi hB (fun q=>by have:pn<=B.size - c:=q.2.1;omega)
    rcases hcc with rfl | rfl | rfl
    all_goals
     simp -implicitDefEqProofs only [zu,zG,zR,zU,qS,uM,kF,yT,yf,ve,jK,zF,zQ,ya,yc,nth,nw,Value.cells,aaf,aal,aax,aav,Int.reduceEq,wV,wg,zD,zC,not_false_eq_true,aa4,aaO,wj,zj,xk,xo,w9]
     refine zT (by kernel_rfl) rfl hat ?_
     rintro v h1 ⟨rfl,rfl⟩
     simp -implicitDefEqProofs only [zu,zG,zR,yD,uM,WA,yT,yf,xG,vR,Xr,Y7,zF,zQ,yP,aaC,aaf,aal,wV,wg,zD,zC,not_false_eq_true,wj,zj,YL,qq,hq,kh,h0,hbk,hw,h1]
     exact no e
   by_cases h2:pn.tmod c=0
   case neg=>
    have e:=Uk (p:=⟨2,pn,pb⟩) (c:=c) hi hB (fun q=>h2 q.2.2)
    rcases hcc with rfl | rfl | rfl
    all_goals
     simp -implicitDefEqProofs only [zu,zG,zR,zU,qS,uM,kF,yT,yf,ve,jK,zF,zQ,ya,yc,nth,nw,Value.cells,aaf,aal,aax,aav,Int.reduceEq,wV,wg,zD,zC,not_false_eq_true,aa4,aaO,wj,zj,xk,xo,w9]
     refine zT (by kernel_rfl) rfl hat ?_
     rintro v h1 ⟨rfl,rfl⟩
     simp -implicitDefEqProofs only [zu,zG,zR,yD,uM,yf,xG,vR,Xr,jK,Y7,Jv,zF,zQ,yP,aaC,aaf,aal,Int.reduceEq,wg,zD,zC,not_false_eq_true,aaO,wj,zj,YL,qq,hq,kh,h0,hbk,hw,h1,h2]
     exact no e
   have e:=sd (p:=⟨2,pn,pb⟩) (c:=c) rfl hcc hi hB ⟨by show 0<=pn;omega,by show pn<=_;omega,h2⟩
   have hmd:=L6 hbk hpg fq (fun b hb=>x1.ok b (x1.sub i b hb)) (by simp only [z9,vN];omega) (a:=pn) (by omega) (by omega) (by omega)
   have hr1:pn.tmod 64=((pn.toNat % 64:Nat):Int):=by rw [abG (by omega)];omega
   have hr2:IntKind.wrap .i64 (((pn.toNat % 64:Nat):Int) + c)=((pn.toNat % 64:Nat):Int) + c:=ZV (by omega) (by omega)
   have hin:((pn.toNat % 64:Nat):Int) + c<=64:=by
    rw [abG (by omega)] at h2
    rcases hcc with rfl | rfl | rfl <;> omega
   have hb1:0<=((pn.toNat % 64:Nat):Int) + c/\((pn.toNat % 64:Nat):Int) + c<=((64:Nat):Int):=by omega
   have hb2:0<=((pn.toNat % 64:Nat):Int)/\((pn.toNat % 64:Nat):Int)<=((((pn.toNat % 64:Nat):Int) + c).toNat:Int):=by omega
   have hb3:¬ 64=pn.toNat % 64:=by omega
   have hb4:(((pn.toNat % 64:Nat):Int) + c).toNat - pn.toNat % 64=c.toNat:=by omega
   have hbox:∀ h1,jN (fs i) (h.push (.cells [.int .i64 2,.int .i64 pn,.int .i64 pb] 69)) h1->h1.get h.next=some (.cells [.int .i64 2,.int .i64 pn,.int .i64 pb] 69):=fun h1 ef=>by
    rw [ef.get h.next (fun hc=>by have:=(x.ok _ (x.sub i _ hc)).2;omega) (by simp only [z9];omega),zo]
   rcases hcc with rfl | rfl | rfl
   all_goals
    simp -implicitDefEqProofs only [zu,zG,zR,zU,qS,uM,kF,yT,yf,ve,jK,zF,zQ,ya,yc,nth,nw,Value.cells,aaf,aal,aax,aav,Int.reduceEq,wV,wg,zD,zC,not_false_eq_true,aa4,aaO,wj,zj,xk,xo,w9]
    refine zT (by kernel_rfl) rfl hat ?_
    rintro v h1 ⟨rfl,rfl⟩
    simp -implicitDefEqProofs only [zu,zG,zR,zU,uM,yf,xG,vR,Xr,jK,Y7,Jv,zF,zQ,yP,aaC,nth,aaf,aal,Int.reduceEq,wV,wg,zD,zC,not_false_eq_true,aa4,wj,zj,YL,qq,hq,kh,h0,hbk,hw,h1,h2]
    refine zT (by kernel_rfl) rfl hmd ?_
    rintro v h1 ⟨g,pq,cq,gs,F',rfl,hbk1,hfull,hgs,fp1,ef,hsub,hok⟩
    have hbx:=hbox h1 ef
    simp -implicitDefEqProofs only [zu,zG,zR,zU,xG,ve,jJ,Jv,zF,zQ,yP,ya,dp,cond_true,UW,aaC,aaf,aal,aav,if_true,if_false,aaZ,Int.reduceEq,Int.reduceToNat,and_true,true_and,not_false_eq_true,iA,MD,kh,hr1,hr2,hb1,hb2,hb3,hb4,aau,hbx]
    unfold FX
    rw [e]
    have y:=x1.tY hq hB rfl ef ⟨_,hbk1,fp1,.full pq cq gs rfl hfull⟩ hsub hok
    rw [Cw hB] at y
    refine ⟨g,_,_,_,_,pq,q,cq,gs,B,hB,rfl,y,hq,hbk1,by simp only [if_true];exact fp1,by simp only [if_true];exact hfull,hgs,(YK.mono (fun _ h=>h.elim)).trans (ef.mono (fun b hb=>x.sub i b hb)),fun b hb => ?_⟩
    rcases hb with hb | hb
    ·exact .inl hb
    ·rcases hsub b hb with hb | hb
     ·exact .inl (x.sub i b hb)
     ·exact .inr (by have:h.next + 1<=b:=hb;omega)
end
def Ht (f:Nat->Cl) (n:Nat):Nat->Int
 | 0=>0
 | k + 1=>IntKind.wrap .u64 ((BitVec.ofInt 64 (Ht f n k) ||| BitVec.ofInt 64 (IntKind.wrap .u64 (IntKind.wrap .u64 (f (n + k)).n * 2 ^ (8 * k)))).toNat)
def Wq (f:Nat->Cl) (n:Nat):Nat->Bool
 | 0=>true
 | k + 1=>Wq f n k && decide ((f (n + k)).k=1)
def Xn (f:Nat->Cl) (n:Nat) (c:Int):Nat->Bool
 | 0=>decide (c=8)
 | k + 1=>Xn f n c k && decide ((f (n + k)).k=2) && decide (IntKind.wrap .i64 (f (n + k)).n=k) && decide ((f (n + k)).p=(f n).p)
def cX (f:Nat->Cl) (n:Nat) (c:Int):V :=
 if Wq f n c.toNat=true then ⟨1,if c=8 then IntKind.wrap .i64 (Ht f n c.toNat) else if c=4 then IntKind.wrap .i64 (IntKind.wrap .i32 (Ht f n c.toNat)) else IntKind.wrap .i64 (IntKind.wrap .i8 (Ht f n c.toNat)),0⟩
 else if Xn f n c c.toNat=true then (f n).p else v0
def ZP (M:MM) (c:Int) (p:V):Option V:=match right M c p with
 | none=>none
 | some i=>(M[i]?).map fun B=>cX B.byte p.n.toNat c
def nZ (M:MM) (c:Int) (p:V) (v:Value):Prop:=match ZP M c p with
 | none=>v = .tuple #[v0.val,.bool false]
 | some a=>v = .tuple #[a.val,.bool true]
theorem fA {cs:List Value} {o:Nat} {c:Cl} (h:∀ j,j < 5->cs[o + j]? = c.yJ[j]?):(cs.drop o).take 5=c.yJ:=by
 apply abe
 intro j
 by_cases hj:j < 5
 ·rw [aaL hj,aaN];exact h j hj
 ·rw [aaj (by simp;omega),aaj (by show 5<=j;omega)]
theorem MP {cs:List Value} {o:Nat} {c:Cl} (h:∀ j,j < 5->cs[o + j]? = c.yJ[j]?):(cs.drop (o + 2)).take 3 = [.int .i64 c.p.k,.int .i64 c.p.n,.int .i64 c.p.b]:=by
 have:=congrArg (List.drop 2) (fA h)
 rw [List.drop_take,List.drop_drop] at this
 exact this
theorem TE (a b:V):((a.k == b.k) && ((a.n == b.n) && (a.b == b.b)))=decide (a=b):=by
 obtain ⟨a1,a2,a3⟩:=a
 obtain ⟨b1,b2,b3⟩:=b
 rw [Bool.eq_iff_iff]
 simp
theorem Mf {f:Nat->Cl} {n c:Nat} (h:∀ k,k < c->f (n + k)=iq) (h1:1<=c):Wq f n c=false:=by
 cases c with
 | zero=>omega
 | succ c=>unfold Wq;rw [h c (by omega)];simp [iq]
theorem Hy {f:Nat->Cl} {n c:Nat} {d:Int} (h:∀ k,k < c->f (n + k)=iq) (h1:1<=c):Xn f n d c=false:=by
 cases c with
 | zero=>omega
 | succ c=>unfold Xn;rw [h c (by omega)];simp [iq]
section
variable {h:za} {m:Nat} {bs:Value} {ps:List Nat} {fs:Nat->Nat->Prop} {M:MM} {F:Nat->Prop} {c:Int} {p:V}
def N2 (h:za) (f:Nat->Cl) (n:Nat) (c:Int) (m:Nat) (vs:List Value) (h':za):Prop :=
 ∃ k,k<=c.toNat/\m=c.toNat - k/\vs = [.int .u64 (Ht f n k),.bool (Wq f n k),.bool (Xn f n c k),.int .i64 k]/\jN tM h h'
theorem ND (x:ZW h m bs ps fs M F) (hs:small M) (hc:jZ c) (hp:p.ok) :
  DC Tryz.prog 84 [.pointer (some ⟨m,0,none⟩),.int .i64 c,p.val] h (fun v h1=>jN tM h h1/\nZ M c p v):=by
 apply jO;intro hwf;have hro:=hwf.2
 apply Gb
 unfold H4
 have e1:p.val = .agg #[.int .i64 p.k,.int .i64 p.n,.int .i64 p.b]:=rfl
 have YK:jN tM h ((h.push (.cells [.int .i64 p.k,.int .i64 p.n,.int .i64 p.b] 69)).push (.cells [.int .i64 0,.int .i64 0,.int .i64 0] 69)):=((jN.refl _ _).push _).push _
 have x1:ZW ((h.push (.cells [.int .i64 p.k,.int .i64 p.n,.int .i64 p.b] 69)).push (.cells [.int .i64 0,.int .i64 0,.int .i64 0] 69)) m bs ps fs M F :=
  x.zB (fun b hb=>YK.get b (fun e=>e) (x.ok b hb).2) YK.next YK.ro
 have hac:=IF (c:=c) (p:=p) x1 hs hc hp
 rw [e1]
 simp -implicitDefEqProofs only [zu,zG,zR,ZZ,zQ,yc,vS,nth,nw,Value.cells,BK,aax,aav,aaz,aaw,aaX,abj,zf,abh,aaK,abg,if_true,aaZ,Nat.reduceAdd,and_true,aah,z9,zD,zt,iI,yU,zZ,zC,Dj,zn,zI,OY,xz,yo,LC,LD,Ud]
 rw [e1] at hac
 refine zT (by kernel_rfl) rfl hac ?_
 rintro v h1 ⟨ef,hr⟩
 have hl:h1.get (h.next + 1)=some (.cells [.int .i64 0,.int .i64 0,.int .i64 0] 69):=by
  rw [ef.get _ (fun e=>e) (by simp only [z9];omega)]
  exact zD (by simp only [z9])
 have hr1:h1.ro<=h.next + 1:=by rw [ef.ro];simp only [vN];omega
 have hpost:∀ a,ZP M c p=some a->nZ M c p (.tuple #[.agg #[.int .i64 a.k,.int .i64 a.n,.int .i64 a.b],.bool true]):=fun a ha=>by unfold nZ;rw [ha];rfl
 cases e:right M c p with
 | none=>
   rw [e] at hr
   subst hr
   simp -implicitDefEqProofs only [U1,U2,zu,yI,zG,zR,yD,ve,zF,ya,yc,aav,aaz,aaw,aaY,aaW,aaK,abg,if_true,Nat.reduceAdd,and_true,aah,zM,BG,Qc,hl,hr1]
   exact ⟨(YK.trans ef).set (.inr (by omega)) _,by unfold nZ ZP;rw [e];rfl⟩
 | some i=>
   rw [e] at hr
   obtain ⟨s,rfl,hcell⟩:=hr
   obtain ⟨hk,hcc,hi,B,hB,hn0,hn1,hn2⟩:=nd e
   have hlm:ZP M c p=some (cX B.byte p.n.toNat c):=by unfold ZP;rw [e];simp only [hB];rfl
   have hc1:1<=c.toNat/\c.toNat<=8:=by omega
   rcases hcell B hB with ⟨rfl,hu⟩ | ⟨g,off,cs,cp,rfl,fg,hg,hlen,hoff,hcs⟩
   ·simp -implicitDefEqProofs only [U1,U2,zu,yI,zG,zR,yD,ve,zF,ya,yc,aav,aaz,aaw,aaY,aaW,aaK,abg,if_true,Nat.reduceAdd,and_true,aah,zM,BG,Qc,hl,hr1]
    refine ⟨(YK.trans ef).set (.inr (by omega)) _,?_⟩
    have:cX B.byte p.n.toNat c=v0:=by
     unfold cX;rw [Mf hu hc1.1,Hy hu hc1.1];rfl
    rw [this] at hlm
    exact hpost _ hlm
   ·simp -implicitDefEqProofs only [U1,U2,zu,yI,zG,zR,zU,ve,zF,ya,yc,nth,aav,abX,aaz,aaw,aaY,aaW,aaK,abg,if_true,Nat.reduceAdd,Nat.reduceMul,Int.reduceLE,Int.reduceToNat,and_true,true_and,aah,zM,Nq,YD,Qc,hl,hr1]
    refine kj (N2 h1 B.byte p.n.toNat c) c.toNat ⟨0,by omega,by omega,rfl,.refl _ _⟩ ?_
    rintro n vs h2 ⟨k,hk1,rfl,rfl,ef2⟩
    have hg2:h2.get g=some (.cells cs 185):=by rw [ef2.get g (fun e=>e) (by have:=(x.ok g fg).2;have:=ef.next;have:=YK.next;omega),hg]
    by_cases hlt:k < c.toNat
    ·have hki:(k:Int) < (c.toNat:Int):=by omega
     have hcel:=fA (hcs k · hlt)
     have hc0:=fA (hcs 0 · (by omega))
     have hb1:0<=(k:Int)/\(k:Int) < (c.toNat:Int):=by omega
     have hb2:off + k * 5 + 5<=cs.length:=by omega
     have hb3:off + 5<=cs.length:=by omega
     have hb4:0<=(0:Int)/\(0:Int) < (c.toNat:Int):=by omega
     have hw1:IntKind.wrap .i64 (8 * (k:Int))=((8 * k:Nat):Int):=by rw [ZV (by omega) (by omega)];omega
     have hw2:IntKind.wrap .i64 ((k:Int) + 1)=((k + 1:Nat):Int):=by rw [ZV (by omega) (by omega)];omega
     have hr2:h2.ro<=h2.next:=by have:=ef2.ro;have:=ef2.next;have:=ef.next;simp only [z9] at this;omega
     have hk0:0<=((8 * k:Nat):Int):=by omega
     have hmin:min (8 * k) IntKind.u64.bits=8 * k:=by show min (8 * k) 64=_;omega
     have hnext:∀ {a b d h3},jN tM h2 h3->a=Ht B.byte p.n.toNat (k + 1)->b=Wq B.byte p.n.toNat (k + 1)->d=Xn B.byte p.n.toNat c (k + 1)->∃ m,m < c.toNat - k/\N2 h1 B.byte p.n.toNat c m [.int .u64 a,.bool b,.bool d,.int .i64 ((k + 1:Nat):Int)] h3:=fun ef3 ea eb ed=>
      ⟨c.toNat - (k + 1),by omega,k + 1,by omega,rfl,by rw [ea,eb,ed],ef2.trans ef3⟩
     have hefn:∀ l l',jN tM h2 ((h2.push (.cells l 148)).set h2.next (some (.cells l' 148))):=fun l l'=>((jN.refl _ _).push _).set (.inr (aah _)) _
     have hgn:∀ l l',((h2.push (.cells l 148)).set h2.next (some (.cells l' 148))).get g=some (.cells cs 185):=fun l l'=>by rw [(hefn l l').get g (fun e=>e) (by have:=(x.ok g fg).2;have:=ef.next;have:=YK.next;have:=ef2.next;omega),hg2]
     simp only [Cl.yJ] at hcel hc0
     have hp3:(cs.drop (off + 2)).take 3 = [.int .i64 (B.byte p.n.toNat).p.k,.int .i64 (B.byte p.n.toNat).p.n,.int .i64 (B.byte p.n.toNat).p.b]:=MP (fun j hj=>by simpa using hcs 0 j (by omega) hj)
     have hb5:off + 2 + 3<=cs.length:=by omega
     cases hP:Xn B.byte p.n.toNat c k with
     | false=>
       cases hN:Wq B.byte p.n.toNat k
       all_goals
        simp -implicitDefEqProofs only [zu,yI,zG,zR,yD,zU,qS,kF,yT,yf,vR,ZZ,jJ,Vd,rj,GU,zF,zQ,yc,vS,nth,aaf,aal,aav,aaz,aaw,aaX,abj,zf,aaY,aaW,if_true,aaZ,Nat.reduceAdd,and_true,aah,wV,vN,zD,zM,yU,zZ,zC,sX,Dj,zn,Kc,Zf,Wi,Yz,ZJ,Xv,cJ,Ud,YD,hki,hg2,hb1,hb2,hb4,hcel,hw1,hw2,aau,hr2,hk0,hmin]
        refine hnext (hefn _ _) rfl ?_ ?_
        ·simp [Wq,hN]
        ·simp [Xn,hP]
     | true=>
       by_cases hk2:(B.byte (p.n.toNat + k)).k=2
       ·by_cases hkk:IntKind.wrap .i64 (B.byte (p.n.toNat + k)).n=(k:Int)
        ·cases hN:Wq B.byte p.n.toNat k
         all_goals
          simp -implicitDefEqProofs only [zu,yI,zG,zR,yD,zU,qS,kF,yT,yf,vR,ZZ,jJ,Vd,rj,GU,zF,zQ,yc,vS,nth,aaf,aal,aav,abX,aaz,aaw,aaX,abj,zf,aaY,aaW,abh,aaK,ab0,abg,if_true,aaZ,Nat.reduceAdd,Nat.reduceMul,Int.reduceEq,Int.reduceToNat,and_true,aah,wV,wg,vN,zD,zM,yU,zZ,zC,not_false_eq_true,sX,Dj,zn,Kc,zI,Zf,Wi,Yz,ZJ,Xv,cJ,Lo,Vy,Ud,YD,hki,hg2,hb1,hb2,hb3,hb4,hp3,hcel,hw1,hw2,aau,hr2,hk0,hgn,hmin,hk2,hkk]
          refine hnext (hefn _ _) rfl ?_ ?_
          ·simp [Wq,hN,hk2]
          ·simp only [Xn,hP,hk2,hkk,TE,aa5,decide_true]
        ·cases hN:Wq B.byte p.n.toNat k
         all_goals
          simp -implicitDefEqProofs only [zu,yI,zG,zR,yD,zU,qS,kF,yT,yf,vR,ZZ,jJ,Vd,rj,GU,zF,zQ,yc,vS,nth,aaf,aal,aav,aaz,aaw,aaX,abj,zf,aaY,aaW,if_true,aaZ,Nat.reduceAdd,Int.reduceEq,and_true,aah,wV,wg,vN,zD,zM,yU,zZ,zC,not_false_eq_true,sX,Dj,zn,Kc,Zf,Wi,Yz,ZJ,Xv,cJ,Lo,Ud,YD,hki,hg2,hb1,hb2,hb3,hb4,hcel,hw1,hw2,aau,hr2,hk0,hmin,hk2,hkk]
          refine hnext (hefn _ _) rfl ?_ ?_
          ·simp [Wq,hN,hk2]
          ·simp [Xn,hP,hk2,hkk]
       ·cases hN:Wq B.byte p.n.toNat k
        all_goals
         simp -implicitDefEqProofs only [zu,yI,zG,zR,yD,zU,qS,kF,yT,yf,vR,ZZ,jJ,Vd,rj,GU,zF,zQ,yc,vS,nth,aaf,aal,aav,aaz,aaw,aaX,abj,zf,aaY,aaW,if_true,aaZ,Nat.reduceAdd,and_true,aah,wV,wg,vN,zD,zM,yU,zZ,zC,not_false_eq_true,sX,Dj,zn,Kc,Zf,Wi,Yz,ZJ,Xv,cJ,Ud,YD,hki,hg2,hb1,hb2,hb3,hb4,hcel,hw1,hw2,aau,hr2,hk0,hmin,hk2]
         refine hnext (hefn _ _) rfl ?_ ?_
         ·simp [Wq,hN]
         ·simp [Xn,hP,hk2]
    ·have hki:¬ (k:Int) < (c.toNat:Int):=by omega
     have hkc:k=c.toNat:=by omega
     subst hkc
     have hl2:h2.get (h.next + 1)=some (.cells [.int .i64 0,.int .i64 0,.int .i64 0] 69):=by
      rw [ef2.get _ (fun e=>e) (by have:=ef.next;simp only [z9] at this;omega),hl]
     have hr2:h2.ro<=h.next + 1:=by rw [ef2.ro];exact hr1
     have hof:∀ n,DC Tryz.prog 49 [.int .i64 n] h2 (fun v h1=>v=V.val ⟨1,n,0⟩/\jN tM h2 h1):=fun n=>ZQ n h2
     have Ta:∀ h3,jN tM h2 h3->h3.get (h.next + 1)=some (.cells [.int .i64 0,.int .i64 0,.int .i64 0] 69)/\h3.ro<=h.next + 1:=fun h3 e3=>
      ⟨by rw [e3.get _ (fun e=>e) (by have:=ef.next;have:=ef2.next;simp only [z9] at *;omega),hl2],by rw [e3.ro];exact hr2⟩
     have hfin:∀ {h3 a v},jN tM h2 h3->cX B.byte p.n.toNat c=a->jN tM h (h3.set (h.next + 1) v)/\nZ M c p (.tuple #[.agg #[.int .i64 a.k,.int .i64 a.n,.int .i64 a.b],.bool true]):=fun e3 ea=>
      ⟨(((YK.trans ef).trans ef2).trans e3).set (.inr (by omega)) _,hpost _ (by rw [hlm,ea])⟩
     cases hN:Wq B.byte p.n.toNat c.toNat with
     | true=>
       rcases hcc with rfl | rfl | rfl
       all_goals
        simp -implicitDefEqProofs only [zu,yI,zG,zR,yD,zU,qS,yT,vR,ZZ,jJ,Vd,zF,zQ,nth,Nat.reduceSub,Int.reduceEq,Int.reduceToNat,wV,wg,zC,not_false_eq_true,Dj,Zf,Wi,Yz,ZJ,Xv,YD]
        refine zT (by kernel_rfl) rfl (hof _) ?_
        rintro v h3 ⟨rfl,e3⟩
        obtain ⟨g1,g2⟩:=Ta h3 e3
        simp -implicitDefEqProofs only [zu,zG,zR,ve,zF,yc,vS,aav,aaz,aaw,aaX,abj,zf,aaY,aaW,aaK,abg,if_true,aaZ,Nat.reduceAdd,and_true,aah,zM,yU,zI,V.val,g1,g2]
        refine hfin (a:=⟨1,_,0⟩) e3 ?_
        unfold cX
        rw [if_pos hN]
        rfl
     | false=>
       cases hP:Xn B.byte p.n.toNat c c.toNat with
       | true=>
         have hp3:(cs.drop (off + 2)).take 3 = [.int .i64 (B.byte p.n.toNat).p.k,.int .i64 (B.byte p.n.toNat).p.n,.int .i64 (B.byte p.n.toNat).p.b]:=MP (fun j hj=>by simpa using hcs 0 j (by omega) hj)
         have hb5:off + 2 + 3<=cs.length:=by omega
         have hb4:0<=(0:Int)/\(0:Int) < (c.toNat:Int):=by omega
         have hgn:∀ v,(h2.set (h.next + 1) v).get g=some (.cells cs 185):=fun v=>by rw [zE (by have:=(x.ok g fg).2;omega),hg2]
         ·simp -implicitDefEqProofs only [zu,yI,zG,zR,yD,zU,qS,kF,yf,ve,vR,jJ,Vd,zF,zQ,yc,vS,nth,aav,aaz,aaw,aaX,abj,zf,aaY,aaW,aaK,abg,if_true,aaZ,Nat.reduceAdd,and_true,aah,wg,zM,yU,zZ,zC,not_false_eq_true,Dj,zn,zI,Zf,Wi,Yz,ZJ,Xv,Ud,YD,hki,hl2,hr2,hp3,hb5,hb4,hg2]
          refine hfin (a:=(B.byte p.n.toNat).p) (.refl _ _) ?_
          unfold cX
          rw [hN,hP]
          rfl
       | false=>
         rcases hcc with rfl | rfl | rfl
         all_goals
          simp -implicitDefEqProofs only [zu,yI,zG,zR,zU,kF,yf,ve,vR,jJ,Vd,zF,zQ,yc,nth,aav,aaz,aaw,aaY,aaW,aaK,abg,if_true,Nat.reduceAdd,Nat.reduceSub,Int.reduceToNat,and_true,aah,zM,Zf,Wi,Yz,ZJ,Xv,YD,hl2,hr2]
          refine hfin (a:=v0) (.refl _ _) ?_
          unfold cX
          rw [hN,hP]
          rfl
end
theorem jN.more {F G:Nat->Prop} {a b c:za} (x:jN F a b) (y:jN G b c) (hg:∀ i,G i->F i\/a.next<=i):jN F a c :=
 ⟨aaH x.next y.next,y.ro.trans x.ro,fun i hi hlt=>by
  have hn:¬ G i:=fun e=>by
   rcases hg i e with q | q
   ·exact hi q
   ·omega
  rw [y.get i hn (aai hlt x.next),x.get i hi hlt]⟩
theorem SW {b:Bool} {A B:(List Value->za->Prop)->Prop} {J:List Value->za->Prop} {vs:List Value} {x y:za} (hA:∀ j,A j=j vs x) (hB:∀ j,B j=j vs y) (hJ:J vs (if b=true then x else y)):CD (.bool b) A B J:=by
 cases b
 ·rw [zU,hB];simpa using hJ
 ·rw [yD,hA];simpa using hJ
theorem Ko (vs:List Value):∀ (cs:List Value) (o i:Nat),o + vs.length<=cs.length->(zf cs o vs)[i]? = if o<=i/\i < o + vs.length then vs[i - o]? else cs[i]?:=by
 induction vs with
 | nil=>intro cs o i _;rw [if_neg (by simp)];rfl
 | cons v vs ih=>
   intro cs o i h
   simp only [aaz] at h ⊢
   unfold zf
   rw [ih (cs.set o v) (o + 1) i (by rw [aa3];omega)]
   by_cases h1:o + 1<=i/\i < o + 1 + vs.length
   ·rw [if_pos h1,if_pos (by omega),show i - o=i - (o + 1) + 1 by omega,aal]
   ·rw [if_neg h1]
    by_cases h2:i=o
    ·subst h2;rw [if_pos (by omega),aaT (by omega)];simp
    ·rw [if_neg (by omega),abk (by omega)]
def tY (f:Nat->Cl) (a:Nat) (c:Cl):Nat->Cl:=fun k=>if k=a then c else f k
theorem YT.put {h:za} {q:Nat} {gs:List (Option Nat)} {B:MB} {F:Nat->Prop} (x:YT h q gs B F) {a g:Nat} (hg:gs[a / 64]? = some (some g)) :
  ∃ cs,h.get g=some (.cells cs 185)/\a % 64 * 5 + 5<=cs.length /\ ∀ c:Cl,YT (h.set g (some (.cells (zf cs (a % 64 * 5) c.yJ) 185))) q gs { B with byte:=tY B.byte a c } F:=by
 obtain ⟨hl,fq,hq,hgs,hn,hd,ht⟩:=x
 obtain ⟨fg,cs,hc,hlen,hcs⟩:=hgs _ g hg
 refine ⟨cs,hc,by omega,fun c=>⟨hl,fq,?_,fun j g' hj=>⟨(hgs j g' hj).1,?_⟩,fun j hj k hk => ?_,hd,fun k hk => ?_⟩⟩
 ·rw [zE (by intro e;subst e;rw [hq] at hc;simp at hc),hq]
 ·by_cases e:g'=g
  ·subst e
   have ej:j=a / 64:=hd j _ g' hj hg
   subst ej
   refine ⟨_,zM,by rw [jr,hlen],fun k j hk hj => ?_⟩
   have vlen:c.yJ.length=5:=rfl
   rw [Ko _ _ _ _ (by rw [vlen];omega),vlen]
   show _=(tY B.byte a c (64 * (a / 64) + k)).yJ[j]?
   unfold tY
   by_cases ek:k=a % 64
   ·rw [if_pos (by omega),if_pos (by omega),show k * 5 + j - a % 64 * 5=j by omega]
   ·rw [if_neg (by omega),if_neg (by omega)];exact hcs k j hk hj
  ·have ej:j ≠ a / 64:=by intro ej;subst ej;rw [hg] at hj;cases hj;exact e rfl
   obtain ⟨cs',hc',hlen',hcs'⟩:=(hgs j g' hj).2
   refine ⟨cs',by rw [zE e,hc'],hlen',fun k j' hk hj' => ?_⟩
   rw [hcs' k j' hk hj']
   show _=(tY B.byte a c (64 * j + k)).yJ[j']?
   unfold tY
   rw [if_neg (by omega)]
 ·show tY B.byte a c (64 * j + k)=iq
  unfold tY
  rw [if_neg (by intro e;have:j=a / 64:=by omega
                 subst this;rw [hg] at hj;cases hj)]
  exact hn j hj k hk
 ·show tY B.byte a c k=iq
  have hlt:a / 64 < gs.length:=by
   rcases aar (a / 64) gs.length with e | e
   ·exact e
   ·rw [aaj e] at hg;cases hg
  unfold tY
  rw [if_neg (by omega)]
  exact ht k hk
def norm (v:V):V:=if Kp v=true then v else v0
def cellOf (v:V) (k:Nat):Cl:=if v.k=1 then ⟨1,IntKind.wrap .u8 (v.n.fdiv (2 ^ (8 * k))),v0⟩ else if v.k=2 then ⟨2,IntKind.wrap .u8 k,v⟩ else iq
def VG (B:MB) (n:Nat) (v:V) (c:Nat):MB:={ B with byte:=fun a=>if n<=a/\a < n + c then cellOf v (a - n) else B.byte a }
theorem CA (B:MB) (n:Nat) (v:V):VG B n v 0=B:=by
 unfold VG
 congr 1
 funext a
 rw [if_neg (by omega)]
theorem gX (B:MB) (n:Nat) (v:V) (c:Nat):{ VG B n v c with byte:=tY (VG B n v c).byte (n + c) (cellOf v c) } = VG B n v (c + 1):=by
 unfold VG tY
 simp only [MB.mk.injEq,true_and]
 funext a
 by_cases e:a=n + c
 ·subst e;rw [if_pos rfl,if_pos (by omega),show n + c - n=c by omega]
 ·rw [if_neg e]
  by_cases e2:n<=a/\a < n + c
  ·rw [if_pos e2,if_pos (by omega)]
  ·rw [if_neg e2,if_neg (by omega)]
def jw (M:MM) (c:Int) (p v:V):Option MM:=if (norm v).k=2/\c ≠ 8 then none else match right M c p with
 | none=>none
 | some i=>(M[i]?).map fun B=>M.set i (VG B p.n.toNat (norm v) c.toNat)
def Ad (h:za) (m:Nat) (M':MM) (F:Nat->Prop) (h1:za):Prop := ∃ F',ss h1 m M' F'/\jN F h h1 /\ ∀ b,F' b->F b\/h.next<=b
def JD (h:za) (m:Nat) (M:MM) (F:Nat->Prop) (c:Int) (p v:V) (r:Value) (h1:za):Prop:=match jw M c p v with
 | none=>r = .bool false/\Ad h m M F h1
 | some M'=>r = .bool true/\Ad h m M' F h1
section
variable {h:za} {m:Nat} {bs:Value} {ps:List Nat} {fs:Nat->Nat->Prop} {M:MM} {F:Nat->Prop} {c:Int} {p v:V}
def dF (h:za) (q g:Nat) (gs:List (Option Nat)) (B:MB) (n:Nat) (v:V) (c:Int) (F:Nat->Prop) (m:Nat) (vs:List Value) (h':za):Prop :=
 ∃ k,k<=c.toNat/\m=c.toNat - k/\vs = [.int .i64 k]/\jN (fun b=>b=g) h h'/\YT h' q gs (VG B n v k) F
theorem ML (x:ZW h m bs ps fs M F) (hs:small M) (hc:jZ c) (hp:p.ok) :
  DC Tryz.prog 85 [.pointer (some ⟨m,0,none⟩),.int .i64 c,p.val,v.val] h (JD h m M F c p v):=by
 apply jO;intro hwf;have hro:=hwf.2
 apply CT
 unfold Ey
 have e1:p.val = .agg #[.int .i64 p.k,.int .i64 p.n,.int .i64 p.b]:=rfl
 have e2:v.val = .agg #[.int .i64 v.k,.int .i64 v.n,.int .i64 v.b]:=rfl
 rw [e1,e2]
 simp -implicitDefEqProofs only [zu,zG,zR,vO,zF,zQ,yc,vS,nw,Value.cells,BK,aax,aav,aaz,aaw,aaX,abj,zf,abh,aaK,abg,if_true,aaZ,Nat.reduceAdd,and_true,aah,z9,zD,yU,zZ,zC,wj,zj,zn,zI,Ng,yo,xk,xo]
 rw [<- e2]
 refine zi (by kernel_rfl) rfl (mI v _) ?_
 simp -implicitDefEqProofs only [zu,nk,aav,aaz,aaw,aaY,aaW,Nat.reduceAdd,true_and,aah,z9,vN,zD]
 refine SW (vs:=[]) (x:=((h.push (.cells [.int .i64 p.k,.int .i64 p.n,.int .i64 p.b] 69)).push (.cells [.int .i64 v.k,.int .i64 v.n,.int .i64 v.b] 69)).set (h.next + 1) (some (.cells [.int .i64 0,.int .i64 0,.int .i64 0] 69)))
  (y:=(h.push (.cells [.int .i64 p.k,.int .i64 p.n,.int .i64 p.b] 69)).push (.cells [.int .i64 v.k,.int .i64 v.n,.int .i64 v.b] 69)) ?_ ?_ ?_
 ·intro j
  have:h.ro<=h.next + 1:=by omega
  simp -implicitDefEqProofs only [zu,if_true,this]
 ·intro j;rfl
 generalize hH:(if (!Kp v)=true then ((h.push (.cells [.int .i64 p.k,.int .i64 p.n,.int .i64 p.b] 69)).push (.cells [.int .i64 v.k,.int .i64 v.n,.int .i64 v.b] 69)).set (h.next + 1) (some (.cells [.int .i64 0,.int .i64 0,.int .i64 0] 69)) else
  (h.push (.cells [.int .i64 p.k,.int .i64 p.n,.int .i64 p.b] 69)).push (.cells [.int .i64 v.k,.int .i64 v.n,.int .i64 v.b] 69))=H
 have YK:jN tM h H:=by
  subst hH
  split
  ·exact (((jN.refl _ _).push _).push _).set (.inr (by omega)) _
  ·exact ((jN.refl _ _).push _).push _
 have hx:H.get (h.next + 1)=some (.cells [.int .i64 (norm v).k,.int .i64 (norm v).n,.int .i64 (norm v).b] 69):=by
  subst hH
  unfold norm
  cases Kp v
  ·simp only [aaO,if_true];rw [if_neg (by simp)];exact zM
  ·simp only [aa4,if_true];rw [if_neg (by simp)];exact zD rfl
 have hp1:H.get h.next=some (.cells [.int .i64 p.k,.int .i64 p.n,.int .i64 p.b] 69):=by
  have:¬ h.next=h.next + 1:=by omega
  have h3:((h.push (.cells [.int .i64 p.k,.int .i64 p.n,.int .i64 p.b] 69)).push (.cells [.int .i64 v.k,.int .i64 v.n,.int .i64 v.b] 69)).get h.next=some (.cells [.int .i64 p.k,.int .i64 p.n,.int .i64 p.b] 69):=by
   rw [zt (by simp only [z9];omega),zo]
  subst hH
  split
  ·rw [zE this,h3]
  ·exact h3
 have hnx:H.next=h.next + 2:=by
  subst hH
  cases Kp v <;> simp [z9,ua]
 clear hH
 have hsm:jw M c p v=if (norm v).k=2/\c ≠ 8 then none else match right M c p with
  | none=>none
  | some i=>(M[i]?).map fun B=>M.set i (VG B p.n.toNat (norm v) c.toNat):=rfl
 generalize norm v=w at hx hsm
 have x1:ZW H m bs ps fs M F:=x.zB (fun b hb=>YK.get b (fun e=>e) (x.ok b hb).2) YK.next YK.ro
 have hro1:H.ro<=H.next:=by rw [hnx,YK.ro];omega
 have hm0:∀ {h1},jN tM H h1->Ad h m M F h1:=fun e3=>⟨F,⟨bs,ps,fs,x1.zB (fun b hb=>e3.get b (fun e=>e) (x1.ok b hb).2) e3.next e3.ro⟩,(YK.trans e3).mono (fun _ q=>q.elim),fun b hb => .inl hb⟩
 by_cases hbad:w.k=2/\c ≠ 8
 ·rw [if_pos hbad] at hsm
  have h1:=hbad.1
  have h2:¬ c=8:=hbad.2
  simp -implicitDefEqProofs only [zu,zG,zR,yD,qS,yT,ZZ,jK,zF,zQ,aaf,wV,wg,not_false_eq_true,aaO,hx,h1,h2]
  unfold JD
  rw [hsm]
  exact ⟨rfl,hm0 (.refl _ _)⟩
 rw [if_neg hbad] at hsm
 have hac:=IG (c:=c) (p:=p) hro1 x1 hs hc hp
 rw [e1] at hac
 have hways:(w.k=2/\c=8) \/ ¬ w.k=2:=by
  by_cases e:w.k=2
  ·by_cases e3:c=8
   ·exact .inl ⟨e,e3⟩
   ·exact (hbad ⟨e,e3⟩).elim
  ·exact .inr e
 have hall:∀ r h1,FX H m M F c p r h1->(∃ ok,r = .tuple #[.slice none 0 0,.bool ok]/\ok=false/\JD h m M F c p v (.bool false) h1) \/ ∃ g,r = .tuple #[.slice (some ⟨g,p.n.toNat % 64 * 5,none⟩) c.toNat 0,.bool true] /\ ∃ q gs B G,dF h1 q g gs B p.n.toNat w c G c.toNat [.int .i64 0] h1/\0<=c /\
   (∀ k,k < c.toNat->gs[(p.n.toNat + k) / 64]? = some (some g)/\(p.n.toNat + k) % 64 * 5=p.n.toNat % 64 * 5 + k * 5)/\c<=8/\H.ro<=g/\h1.ro=H.ro/\(∀ h2,jN (fun b=>b=g) h1 h2->h2.get (h.next + 1)=some (.cells [.int .i64 w.k,.int .i64 w.n,.int .i64 w.b] 69)) /\
   ∀ h2,dF h1 q g gs B p.n.toNat w c G 0 [.int .i64 c.toNat] h2->JD h m M F c p v (.bool true) h2:=by
  intro r h1 hr
  unfold FX at hr
  cases e:right M c p with
  | none=>
    rw [e] at hr
    obtain ⟨rfl,e3⟩:=hr
    refine .inl ⟨_,rfl,rfl,?_⟩
    rw [e] at hsm
    unfold JD
    rw [hsm]
    exact ⟨rfl,hm0 e3⟩
  | some i=>
    rw [e] at hr hsm
    obtain ⟨g,bs1,ps1,fs1,F1,q,qp,cq,gs,B,hB,rfl,x2,hq,hb,fq,full,hgs,ef,hsub⟩:=hr
    obtain ⟨hk,hcc,hi,B',hB',hn0,hn1,hn2⟩:=nd e
    rw [hB] at hB';cases hB'
    have fg:=(full.hg _ g hgs).1
    refine .inr ⟨g,rfl,q,gs,B,fs1 i,⟨0,by omega,by omega,rfl,.refl _ _,by rw [CA];exact full⟩,by omega,fun k hk => ?_,by omega,by have:=(x2.ok g (x2.sub i g fg)).1;have:=ef.ro;omega,ef.ro,fun h2 e2 => ?_,fun h2 hst => ?_⟩
    ·have hal:p.n.toNat % 64 + c.toNat<=64:=by
      rw [abG hn0] at hn2
      rcases hcc with rfl | rfl | rfl <;> omega
     exact ⟨by rw [show (p.n.toNat + k) / 64=p.n.toNat / 64 by omega];exact hgs,by omega⟩
    ·have n1:h.next + 1 ≠ g:=by
      intro en
      rcases hsub g (x2.sub i g fg) with h3 | h3
      ·have:=(x.ok g h3).2;omega
      ·omega
     rw [e2.get _ n1 (by have:=ef.next;omega),ef.get _ (fun h3=>by have:=(x.ok _ h3).2;omega) (by omega),hx]
    ·obtain ⟨k,hk1,hk2,hk3,e2,full2⟩:=hst
     have hkc:k=c.toNat:=by simp at hk3;omega
     subst hkc
     have hne:qp ≠ g:=by
      intro en;subst en
      obtain ⟨cs,hc1,_⟩:=(full.hg _ qp hgs).2
      rw [hb] at hc1;simp at hc1
     have hb2:h2.get qp=some (.cells [.int .i64 B.size,.slice (some ⟨q,0,none⟩) gs.length cq,.bool B.kb] 145):=by rw [e2.get _ hne (x2.ok qp (x2.sub i qp fq)).2,hb]
     have y:=x2.tY hq hB (B':=VG B p.n.toNat w c.toNat) rfl (e2.mono (fun b (hb:b=g)=>by rw [hb];exact fg)) ⟨_,hb2,fq,.full q cq gs rfl full2⟩ (fun b hb => .inl hb) (fun b hb=>by have:=x2.ok b (x2.sub i b hb);have:=e2.next;have:=e2.ro;omega)
     unfold JD
     rw [hsm]
     simp only [hB,abz]
     have hsub2:∀ b,F1 b->F b\/h.next<=b:=fun b hb=>by
      rcases hsub b hb with q | q
      ·exact .inl q
      ·exact .inr (by omega)
     refine ⟨trivial,_,⟨_,_,_,y⟩,((YK.mono (fun _ q=>q.elim)).trans ef).more e2 (fun b (hb:b=g)=>by rw [hb];exact hsub2 g (x2.sub i g fg)),fun b hb => ?_⟩
     rcases hb with hb | hb
     ·exact hsub2 b hb
     ·exact hsub2 b (x2.sub i b hb)
 rcases hways with ⟨w2,c8⟩ | w2
 ·have d8:decide (c=8)=true:=wV c8
  simp -implicitDefEqProofs only [zu,zG,zR,zU,qS,yT,ZZ,jK,zF,zQ,nth,aaf,aav,aaz,aaw,aaK,abg,if_true,Nat.reduceAdd,aah,wV,aa4,hx,hp1,w2,d8]
  refine zT (by kernel_rfl) rfl hac ?_
  intro r h1 hr
  rcases hall r h1 hr with ⟨_,rfl,rfl,hf⟩ | ⟨g,rfl,q,gs,B,G,hI,hc0,hk,hc8,hgr,hr1,hbx,hend⟩
  ·simp -implicitDefEqProofs only [U1,U2,zu,yI,zG,zR,yD,nk,zF,ya,aaO,Qc]
   exact hf
  ·simp -implicitDefEqProofs only [U1,U2,zu,yI,zG,zR,zU,nk,zF,ya,aa4,Qc]
   refine kj (dF h1 q g gs B p.n.toNat w c G) c.toNat hI ?_
   rintro n vs h2 ⟨k,hk1,rfl,rfl,ef2,full2⟩
   by_cases hlt:k < c.toNat
   ·have hki:(k:Int) < (c.toNat:Int):=by omega
    obtain ⟨hgk,hok⟩:=hk k hlt
    obtain ⟨cs,hcs,hle,hput⟩:=full2.put hgk
    have hput':=hput (cellOf w k)
    rw [hok] at hle hput'
    have hbx2:=hbx h2 ef2
    have hr2:h2.ro<=g:=by rw [ef2.ro,hr1];exact hgr
    have hb1:0<=(k:Int)/\(k:Int) < (c.toNat:Int):=by omega
    have hw1:IntKind.wrap .i64 (8 * (k:Int))=((8 * k:Nat):Int):=by rw [ZV (by omega) (by omega)];omega
    have hw2:IntKind.wrap .i64 ((k:Int) + 1)=((k + 1:Nat):Int):=by rw [ZV (by omega) (by omega)];omega
    have hk0:0<=((8 * k:Nat):Int):=by omega
    have hmin:min (8 * k) IntKind.i64.bits=8 * k:=by show min (8 * k) 64=_;omega
    have hnext:∀ h3,h3=h2.set g (some (.cells (zf cs (p.n.toNat % 64 * 5 + k * 5) (cellOf w k).yJ) 185))->∃ m,m < c.toNat - k/\dF h1 q g gs B p.n.toNat w c G m [.int .i64 ((k + 1:Nat):Int)] h3:=fun h3 e3=>
     ⟨c.toNat - (k + 1),by omega,k + 1,by omega,rfl,rfl,by rw [e3];exact ef2.set (.inl rfl) _,by rw [e3];have:=hput';unfold tY at this;rw [<- gX];exact this⟩
    simp -implicitDefEqProofs only [zu,yI,zG,zR,yD,zU,vR,ZZ,jJ,Vd,Br,zQ,yc,vS,nth,aaf,aal,aav,aaz,aaw,aaX,abj,zf,aaK,abg,if_true,aaZ,Nat.reduceAdd,Int.reduceEq,and_true,aah,wV,wg,yU,not_false_eq_true,Kc,J6,U3,Dy,mi,YD,hki,hbx2,hcs,hr2,hb1,hle,hw1,hw2,hk0,hmin,aau,w2]
    refine hnext _ ?_
    unfold cellOf Cl.yJ
    simp only [w2,zf,v0,iq,if_true,if_false,Int.reduceEq]
   ·have hkc:k=c.toNat:=by omega
    subst hkc
    have hki:¬ (c.toNat:Int) < (c.toNat:Int):=by omega
    simp -implicitDefEqProofs only [zu,yI,zG,zR,zU,vR,jJ,Vd,zQ,nth,wg,not_false_eq_true,mi,YD,hki]
    exact hend h2 ⟨c.toNat,by omega,by omega,rfl,ef2,full2⟩
 ·simp -implicitDefEqProofs only [zu,zG,zR,zU,kF,yf,ZZ,zF,zQ,nth,aaf,aav,aaz,aaw,aaK,abg,if_true,Nat.reduceAdd,aah,wg,not_false_eq_true,hx,hp1,w2]
  refine zT (by kernel_rfl) rfl hac ?_
  intro r h1 hr
  rcases hall r h1 hr with ⟨_,rfl,rfl,hf⟩ | ⟨g,rfl,q,gs,B,G,hI,hc0,hk,hc8,hgr,hr1,hbx,hend⟩
  ·simp -implicitDefEqProofs only [U1,U2,zu,yI,zG,zR,yD,nk,zF,ya,aaO,Qc]
   exact hf
  ·simp -implicitDefEqProofs only [U1,U2,zu,yI,zG,zR,zU,nk,zF,ya,aa4,Qc]
   refine kj (dF h1 q g gs B p.n.toNat w c G) c.toNat hI ?_
   rintro n vs h2 ⟨k,hk1,rfl,rfl,ef2,full2⟩
   by_cases hlt:k < c.toNat
   ·have hki:(k:Int) < (c.toNat:Int):=by omega
    obtain ⟨hgk,hok⟩:=hk k hlt
    obtain ⟨cs,hcs,hle,hput⟩:=full2.put hgk
    have hput':=hput (cellOf w k)
    rw [hok] at hle hput'
    have hbx2:=hbx h2 ef2
    have hr2:h2.ro<=g:=by rw [ef2.ro,hr1];exact hgr
    have hb1:0<=(k:Int)/\(k:Int) < (c.toNat:Int):=by omega
    have hw1:IntKind.wrap .i64 (8 * (k:Int))=((8 * k:Nat):Int):=by rw [ZV (by omega) (by omega)];omega
    have hw2:IntKind.wrap .i64 ((k:Int) + 1)=((k + 1:Nat):Int):=by rw [ZV (by omega) (by omega)];omega
    have hk0:0<=((8 * k:Nat):Int):=by omega
    have hmin:min (8 * k) IntKind.i64.bits=8 * k:=by show min (8 * k) 64=_;omega
    have hnext:∀ h3,h3=h2.set g (some (.cells (zf cs (p.n.toNat % 64 * 5 + k * 5) (cellOf w k).yJ) 185))->∃ m,m < c.toNat - k/\dF h1 q g gs B p.n.toNat w c G m [.int .i64 ((k + 1:Nat):Int)] h3:=fun h3 e3=>
     ⟨c.toNat - (k + 1),by omega,k + 1,by omega,rfl,rfl,by rw [e3];exact ef2.set (.inl rfl) _,by rw [e3];have:=hput';unfold tY at this;rw [<- gX];exact this⟩
    by_cases w1:w.k=1
    ·simp -implicitDefEqProofs only [zu,yI,zG,zR,yD,zU,vR,ZZ,jJ,Vd,Br,zQ,yc,vS,nth,aaf,aal,aav,aaz,aaw,aaX,abj,zf,aaK,abg,if_true,aaZ,Nat.reduceAdd,Int.reduceEq,and_true,aah,wV,wg,yU,not_false_eq_true,Kc,J6,U3,Dy,mi,YD,hki,hbx2,hcs,hr2,hb1,hle,hw1,hw2,hk0,hmin,aau,w1]
     refine hnext _ ?_
     unfold cellOf Cl.yJ
     simp only [w1,zf,v0,iq,if_true,if_false,Int.reduceEq]
    ·simp -implicitDefEqProofs only [zu,yI,zG,zR,yD,zU,vR,ZZ,jJ,Vd,Br,zQ,yc,vS,nth,aaf,aal,aav,aaz,aaw,aaX,abj,zf,aaK,abg,if_true,aaZ,Nat.reduceAdd,and_true,aah,wV,wg,yU,not_false_eq_true,Kc,J6,U3,Dy,mi,YD,hki,hbx2,hcs,hr2,hb1,hle,hw1,hw2,hk0,hmin,aau,w1,w2]
     refine hnext _ ?_
     unfold cellOf Cl.yJ
     simp only [w1,w2,zf,v0,iq,if_false]
   ·have hkc:k=c.toNat:=by omega
    subst hkc
    have hki:¬ (c.toNat:Int) < (c.toNat:Int):=by omega
    simp -implicitDefEqProofs only [zu,yI,zG,zR,zU,vR,jJ,Vd,zQ,nth,wg,not_false_eq_true,mi,YD,hki]
    exact hend h2 ⟨c.toNat,by omega,by omega,rfl,ef2,full2⟩
end
end Go.Mem
