/- A part of the proof. -/
import Derived.Test.YtcecapkbglnejaaGreatDoorChecked
import Derived.KernelRfl
import Derived.Test.YtcecapkbglnejaaGreatDoorTE
set_option linter.unusedVariables false
set_option linter.unusedSimpArgs false
set_option maxRecDepth 100000
namespace Go.Mem
open Go.Ai Go.Proofs Go.Proofs.Tryz
noncomputable abbrev zz:=prog
abbrev VK:=Value->za->Prop
abbrev LK:=List Value->za->Prop
abbrev ci (n:Int):Operand := .const (.int .i64 n)
abbrev fn (n:Nat):Value := .func (.func n) #[] #[]
variable {h:za} {t0 t1 t2 t3 t4 t5 t6:Value} {R:VK}
def qs:FuncId->Nat:=fun g=>0
theorem mixed:prog.follows .mixedOrders=true:=aau Tryz.checked
theorem qQ {f:FuncId} {args:List Value} {X:Prop} (e:WT zz (v7 zz qs) 200 f args h R=X) (hw:X):DC zz f args h R:=yP mixed (q:=qs) (n:=200) (Eq.mpr e hw)
def N5:=fun (h:za) f c (R:VK)=>
 opt (nb [c,.int .i64 1] (ze zz .lss 3 (.tmp 5) (ci 1) c (.int .i64 1))) fun b=>GD b false (fun P=>P c h) (fun y z=>GD b false (fun Q=>Q f z) (fun S A=>GD b false (fun T=>opt (ve S) fun g=>T g A) (fun g B=>GD b false (fun U=>opt (zb zz 148 g 0) fun i=>U i B) (fun i j=>GD b false (fun V=>opt (zd zz 146 i j) fun d=>V d j) (fun d C=>GD b false (fun W=>xZ (nb [d] (zn zz .len [146] 3 [d] C)) fun e X=>W e X) (fun e D=>GD b false (fun Y=>opt (nb [y,e] (ze zz .gtr 3 (.tmp 8) (.tmp 13) y e)) fun k=>Y k D) (fun k E=>opt (pk b (.bool true) k) fun a=>GD a false (fun Z=>Z f E) (fun aa F=>GD a false (fun ab=>opt (ve aa) fun l=>ab l F) (fun l G=>GD a false (fun ac=>opt (zb zz 148 l 0) fun m=>ac m G) (fun m n=>GD a false (fun ad=>opt (zd zz 146 m n) fun o=>ad o n) (fun o H=>GD a false (fun ae=>ae c H) (fun I J=>GD a false (fun af=>opt (nb [I,.int .i64 1] (ze zz .sub 3 (.tmp 21) (ci 1) I (.int .i64 1))) fun p=>af p J) (fun p K=>GD a false (fun ag=>opt (zA zz 146 o p) fun q=>ag q K) (fun q r=>GD a false (fun ah=>opt (zd zz 152 q r) fun s=>ah s r) (fun s L=>GD a false (fun ai=>opt (ve s) fun t=>ai t L) (fun t M=>GD a false (fun aj=>opt (zb zz 155 t 2) fun u=>aj u M) (fun u v=>GD a false (fun ak=>opt (zd zz 4 u v) fun w=>ak w v) (fun w N=>opt (pk a (.bool true) w) fun al=>CD al (fun O=>rv [.pointer none] N R)
 (fun O=>O [.pointer none] N)
 (fun au x=>opt (ve f) fun am=>opt (zb zz 148 am 0) fun an=>opt (zd zz 146 an x) fun ao=>opt (nb [c,.int .i64 1] (ze zz .sub 3 (.tmp 33) (ci 1) c (.int .i64 1))) fun ap=>opt (zA zz 146 ao ap) fun aq=>opt (zd zz 152 aq x) fun ar=>rv [ar] x R)) v) M) L) r) K) J) H) n) G) F) E) D) C) j) B) A) z) h
theorem Ik (hw:N5 h t0 t1 R):DC zz 82 [t0,t1] h R:=qQ (by kernel_rfl) hw
def FF:=fun (h:za) k (R:VK)=>
 opt (nb [k] (some (Value.cells k).toList)) fun s=>nw h s 64 fun b a=>opt (zb zz 64 b 0) fun t=>opt (zd zz 3 t a) fun c=>BK (fun u=>opt (nb [c,.int .i64 0] (ze zz .eql 3 (.tmp 4) (ci 0) c (.int .i64 0))) fun v=>CD v (fun l=>opt (zd zz 64 b a) fun m=>opt (nb [] (xo zz 64 [])) fun n=>opt (nb [m,n] (ze zz .eql 64 (.tmp 7) (.tmp 8) m n)) fun w=>rv [w] a R)
 (fun l=>opt (nb [c,.int .i64 1] (ze zz .eql 3 (.tmp 4) (ci 1) c (.int .i64 1))) fun x=>CD x (fun o=>opt (zb zz 64 b 2) fun y=>opt (zd zz 3 y a) fun p=>opt (nb [p,.int .i64 0] (ze zz .eql 3 (.tmp 13) (ci 0) p (.int .i64 0))) fun z=>rv [z] a R)
 (fun o=>o [.bool false] a)
 (fun A B=>l [nth A 0] B))
 (fun C D=>u [nth C 0] D))
 (fun K f=>opt (zb zz 64 b 0) fun E=>opt (zd zz 3 E f) fun q=>opt (nb [q,.int .i64 2] (ze zz .eql 3 (.tmp 16) (.const (.int .i64 2)) q (.int .i64 2))) fun d=>GD d true (fun F=>opt (zb zz 64 b 2) fun g=>F g f) (fun g i=>GD d true (fun G=>opt (zd zz 3 g i) fun e=>G e i) (fun e r=>GD d true (fun H=>opt (nb [e,.int .i64 1] (ze zz .geq 3 (.tmp 20) (ci 1) e (.int .i64 1))) fun j=>H j r) (fun j I=>opt (pk d j (.bool false)) fun J=>rv [J] I R) r) i) f)
theorem DJ (hw:FF h t0 R):DC zz 125 [t0] h R:=qQ (by kernel_rfl) hw
def LN:=fun (h:za) (R:VK)=>
 opt (nb [] (xo zz 148 [])) fun a=>opt (nb [a] (some (Value.cells a).toList)) fun b=>nw h b 148 fun c d=>rv [c] d R
theorem FD (hw:LN h  R):DC zz 60 [] h R:=qQ (by kernel_rfl) hw
def CI:=fun (h:za) a b (R:VK)=>
 BK (fun A=>opt (nb [b,.int .i64 0] (ze zz .lss 3 (.tmp 7) (ci 0) b (.int .i64 0))) fun c=>GD c false (fun B=>B b h) (fun f g=>GD c false (fun C=>opt (nb [f,.int .i64 65536] (ze zz .gtr 3 (.tmp 10) (.const (.int .i64 65536)) f (.int .i64 65536))) fun d=>C d g) (fun d e=>opt (pk c (.bool true) d) fun D=>CD D (fun i=>rv [.int .i64 0,.int .i64 1] e R)
 (fun i=>opt (ve a) fun E=>opt (zb zz 148 E 0) fun F=>opt (zd zz 146 F e) fun j=>xZ (nb [j] (zn zz .len [146] 3 [j] e)) fun k l=>opt (nb [k,.int .i64 100000] (ze zz .geq 3 (.tmp 18) (.const (.int .i64 100000)) k (.int .i64 100000))) fun G=>CD G (fun m=>rv [.int .i64 0,.int .i64 2] l R)
 (fun m=>m [.int .i64 0,.int .i64 0] l)
 (fun n H=>i [nth n 0,nth n 1] H))
 (fun o I=>A [nth o 0,nth o 1] I)) g) h)
 (fun aa p=>opt (ve a) fun J=>opt (zb zz 148 J 0) fun K=>opt (zd zz 146 K p) fun q=>opt (nb [b] (xo zz 155 [(0,b)])) fun r=>opt (nb [r] (some (Value.cells r).toList)) fun L=>nw p L 155 fun s M=>xZ (nb [s] (xU zz 146 1 [(0,s)] M)) fun t N=>xZ (nb [q,t] (zn zz .append [146,146] 146 [q,t] N)) fun u O=>opt (ve a) fun P=>opt (zb zz 148 P 0) fun Q=>opt (nb [u] (zl zz 146 Q u O)) fun v=>opt (ve a) fun S=>opt (zb zz 148 S 1) fun T=>opt (zd zz 3 T v) fun w=>opt (nb [w,.int .i64 1] (ze zz .add 3 (.tmp 35) (ci 1) w (.int .i64 1))) fun x=>opt (ve a) fun U=>opt (zb zz 148 U 1) fun V=>opt (nb [x] (zl zz 3 V x v)) fun y=>opt (ve a) fun W=>opt (zb zz 148 W 0) fun X=>opt (zd zz 146 X y) fun z=>xZ (nb [z] (zn zz .len [146] 3 [z] y)) fun Y Z=>rv [Y,.int .i64 0] Z R)
theorem AA (hw:CI h t0 t1 R):DC zz 62 [t0,t1] h R:=qQ (by kernel_rfl) hw
def CJ:=fun (h:za) O m n o (R:VK)=>
 opt (nb [n] (some (Value.cells n).toList)) fun P=>nw h P 64 fun Q S=>opt (nb [o] (some (Value.cells o).toList)) fun T=>nw S T 64 fun b p=>opt (zd zz 64 b p) fun U=>zO zz (fn 125) [U] p fun V q=>opt (JR zz .not V) fun W=>CD W (fun f=>opt (nb [] (xo zz 64 [])) fun r=>opt (nb [r] (zl zz 64 b r q)) fun X=>f [] X)
 (fun f=>f [] q)
 (fun a6 g=>opt (zb zz 64 b 0) fun Y=>opt (zd zz 3 Y g) fun s=>opt (nb [s,.int .i64 2] (ze zz .eql 3 (.tmp 17) (.const (.int .i64 2)) s (.int .i64 2))) fun i=>GD i true (fun Z=>Z m g) (fun t u=>GD i true (fun aa=>opt (nb [t,.int .i64 8] (ze zz .neq 3 (.tmp 20) (.const (.int .i64 8)) t (.int .i64 8))) fun j=>aa j u) (fun j v=>opt (pk i j (.bool false)) fun ab=>CD ab (fun w=>rv [.bool false] v R)
 (fun w=>w [.bool false] v)
 (fun ac x=>opt (zd zz 64 Q x) fun ad=>zO zz (fn 126) [O,m,ad,.bool true] x fun y z=>opt (YW y 0) fun c=>opt (YW y 1) fun ae=>opt (JR zz .not ae) fun af=>CD af (fun A=>rv [.bool false] z R)
 (fun A=>A [nth ac 0] z)
 (fun a7 ag=>xZ (nb [c] (zn zz .len [193] 3 [c] ag)) fun B ah=>BK (fun ai=>LP (fun a C aj=>opt (nb [nth a 0,B] (ze zz .lss 3 (.tmp 34) (.tmp 33) (nth a 0) B)) fun ak=>CD ak (fun D=>D [] C)
 (fun D=>ai [] C)
 (fun a8 d=>BK (fun al=>opt (zb zz 64 b 0) fun am=>opt (zd zz 3 am d) fun e=>BK (fun an=>opt (nb [e,.int .i64 1] (ze zz .eql 3 (.tmp 38) (ci 1) e (.int .i64 1))) fun ao=>CD ao (fun k=>opt (zb zz 64 b 1) fun ap=>opt (zd zz 2 ap d) fun E=>opt (nb [.int .i64 8,nth a 0] (ze zz .mul 3 (.const (.int .i64 8)) (.tmp 49) (.int .i64 8) (nth a 0))) fun F=>opt (nb [E,F] (ze zz .shr 2 (.tmp 48) (.tmp 50) E F)) fun G=>xZ (nb [G] (u5 zz 2 5 G d)) fun H aq=>opt (nb [.int .u8 1,H] (xo zz 158 [(0,(.int .u8 1)),(1,H)])) fun I=>opt (zA zz 193 c (nth a 0)) fun ar=>opt (nb [I] (zl zz 158 ar I aq)) fun au=>k [] au)
 (fun k=>opt (nb [e,.int .i64 2] (ze zz .eql 3 (.tmp 38) (.const (.int .i64 2)) e (.int .i64 2))) fun av=>CD av (fun l=>xZ (nb [nth a 0] (u5 zz 3 5 (nth a 0) d)) fun J K=>opt (zd zz 64 b K) fun L=>opt (nb [.int .u8 2,J,L] (xo zz 158 [(0,(.int .u8 2)),(1,J),(2,L)])) fun M=>opt (zA zz 193 c (nth a 0)) fun aw=>opt (nb [M] (zl zz 158 aw M K)) fun ax=>l [] ax)
 (fun l=>opt (nb [] (xo zz 158 [])) fun N=>opt (zA zz 193 c (nth a 0)) fun ay=>opt (nb [N] (zl zz 158 ay N d)) fun az=>l [] az)
 (fun a9 a0=>k [] a0))
 (fun ba a1=>an [] a1))
 (fun bb a2=>al [] a2))
 (fun bc a3=>opt (nb [nth a 0,.int .i64 1] (ze zz .add 3 (.tmp 34) (ci 1) (nth a 0) (.int .i64 1))) fun a4=>aj [a4] a3)))
 [.int .i64 0] ah)
 (fun bd a5=>rv [.bool true] a5 R)))) u) g)
theorem AB (hw:CJ h t0 t1 t2 t3 R):DC zz 107 [t0,t1,t2,t3] h R:=qQ (by kernel_rfl) hw
def FC:=fun (h:za) bd j K (R:VK)=>
 opt (nb [K] (some (Value.cells K).toList)) fun be=>nw h be 64 fun bf bg=>opt (wY zz 64) fun bh=>nw bg (Value.cells bh).toList 64 fun c L=>opt (zd zz 64 bf L) fun bi=>zO zz (fn 126) [bd,j,bi,.bool false] L fun M N=>opt (YW M 0) fun f=>opt (YW M 1) fun bj=>opt (nb [f,.slice none 0 0] (ze zz .eql 193 (.tmp 22) (.const (.slice none 0 0)) f (.slice none 0 0))) fun bk=>CD bk (fun O=>opt (nb [] (xo zz 64 [])) fun P=>opt (nb [P] (zl zz 64 c P N)) fun Q=>opt (zd zz 64 c Q) fun d=>rv [d,bj] Q R)
 (fun O=>O [.bool false] N)
 (fun bl bm=>opt (nb [j,.int .i64 8] (ze zz .eql 3 (.tmp 26) (.const (.int .i64 8)) j (.int .i64 8))) fun bn=>xZ (nb [f] (zn zz .len [193] 3 [f] bm)) fun S bo=>BK (fun bp=>LP (fun a T bq=>opt (nb [nth a 3,S] (ze zz .lss 3 (.tmp 30) (.tmp 29) (nth a 3) S)) fun br=>CD br (fun U=>U [] T)
 (fun U=>bp [nth a 0,nth a 1,nth a 2] T)
 (fun di V=>BK (fun bs=>opt (zA zz 193 f (nth a 3)) fun bt=>opt (zd zz 158 bt V) fun W=>opt (wY zz 158) fun bu=>nw V (Value.cells bu).toList 158 fun g bv=>opt (nb [W] (zl zz 158 g W bv)) fun X=>opt (zb zz 158 g 1) fun bw=>opt (zd zz 5 bw X) fun Y=>xZ (nb [Y] (u5 zz 5 168 Y X)) fun Z aa=>opt (nb [.int .i64 8,nth a 3] (ze zz .mul 3 (.const (.int .i64 8)) (.tmp 39) (.int .i64 8) (nth a 3))) fun ab=>opt (nb [Z,ab] (ze zz .shl 168 (.tmp 38) (.tmp 40) Z ab)) fun ac=>opt (nb [nth a 0,ac] (ze zz .or 168 (.tmp 35) (.tmp 41) (nth a 0) ac)) fun bx=>GD (nth a 1) true (fun bz=>opt (zb zz 158 g 0) fun r=>bz r aa) (fun r s=>GD (nth a 1) true (fun b0=>opt (zd zz 5 r s) fun l=>b0 l s) (fun l ad=>GD (nth a 1) true (fun b1=>opt (nb [l,.int .u8 1] (ze zz .eql 5 (.tmp 46) (.const (.int .u8 1)) l (.int .u8 1))) fun t=>b1 t ad) (fun t ae=>opt (pk (nth a 1) t (.bool false)) fun b2=>GD (nth a 2) true (fun b3=>opt (zb zz 158 g 0) fun u=>b3 u ae) (fun u v=>GD (nth a 2) true (fun b4=>opt (zd zz 5 u v) fun m=>b4 m v) (fun m af=>GD (nth a 2) true (fun b5=>opt (nb [m,.int .u8 2] (ze zz .eql 5 (.tmp 52) (.const (.int .u8 2)) m (.int .u8 2))) fun w=>b5 w af) (fun w ag=>opt (pk (nth a 2) w (.bool false)) fun i=>GD i true (fun b6=>opt (zb zz 158 g 1) fun x=>b6 x ag) (fun x y=>GD i true (fun b7=>opt (zd zz 5 x y) fun n=>b7 n y) (fun n ah=>GD i true (fun b8=>xZ (nb [n] (u5 zz 5 3 n ah)) fun o b9=>b8 o b9) (fun o ai=>GD i true (fun ca=>ca (nth a 3) ai) (fun aj ak=>GD i true (fun cb=>opt (nb [o,aj] (ze zz .eql 3 (.tmp 58) (.tmp 59) o aj)) fun z=>cb z ak) (fun z al=>opt (pk i z (.bool false)) fun e=>GD e true (fun cc=>opt (zb zz 158 g 2) fun A=>cc A al) (fun A B=>GD e true (fun cd=>opt (zd zz 64 A B) fun p=>cd p B) (fun p am=>GD e true (fun ce=>ce f am) (fun cf an=>GD e true (fun cg=>opt (zA zz 193 cf (.int .i64 0)) fun C=>cg C an) (fun C ao=>GD e true (fun ch=>opt (zb zz 158 C 2) fun D=>ch D ao) (fun D E=>GD e true (fun cj=>opt (zd zz 64 D E) fun q=>cj q E) (fun q ap=>GD e true (fun ck=>opt (nb [p,q] (ze zz .eql 64 (.tmp 64) (.tmp 68) p q)) fun F=>ck F ap) (fun F cl=>opt (pk e F (.bool false)) fun cm=>bs [bx,b2,cm] cl) ap) E) ao) an) am) B) al) ak) ai) ah) y) ag) af) v) ae) ad) s) aa)
 (fun G cn=>opt (nb [nth a 3,.int .i64 1] (ze zz .add 3 (.tmp 30) (ci 1) (nth a 3) (.int .i64 1))) fun co=>bq [nth G 0,nth G 1,nth G 2,co] cn)))
 [.int .u64 0,.bool true,bn,.int .i64 0] bo)
 (fun b aq=>BK (fun cp=>GD (nth b 1) true (fun cq=>cq j aq) (fun ar au=>GD (nth b 1) true (fun cr=>opt (nb [ar,.int .i64 8] (ze zz .eql 3 (.tmp 75) (.const (.int .i64 8)) ar (.int .i64 8))) fun H=>cr H au) (fun H I=>opt (pk (nth b 1) H (.bool false)) fun cs=>CD cs (fun av=>xZ (nb [nth b 0] (u5 zz 168 2 (nth b 0) I)) fun ct cu=>zO zz (fn 64) [ct] cu fun aw cv=>opt (nb [aw] (zl zz 64 c aw cv)) fun ax=>opt (zd zz 64 c ax) fun d=>rv [d,.bool true] ax R)
 (fun av=>GD (nth b 1) true (fun cw=>cw j I) (fun ay az=>GD (nth b 1) true (fun cx=>opt (nb [ay,.int .i64 4] (ze zz .eql 3 (.tmp 84) (.const (.int .i64 4)) ay (.int .i64 4))) fun J=>cx J az) (fun J k=>opt (pk (nth b 1) J (.bool false)) fun cy=>CD cy (fun a0=>xZ (nb [nth b 0] (u5 zz 168 21 (nth b 0) k)) fun a1 cz=>xZ (nb [a1] (u5 zz 21 2 a1 cz)) fun c0 c1=>zO zz (fn 64) [c0] c1 fun a2 c2=>opt (nb [a2] (zl zz 64 c a2 c2)) fun a3=>opt (zd zz 64 c a3) fun d=>rv [d,.bool true] a3 R)
 (fun a0=>CD (nth b 1) (fun a4=>xZ (nb [nth b 0] (u5 zz 168 196 (nth b 0) k)) fun a5 c3=>xZ (nb [a5] (u5 zz 196 2 a5 c3)) fun c4 c5=>zO zz (fn 64) [c4] c5 fun a6 c6=>opt (nb [a6] (zl zz 64 c a6 c6)) fun a7=>opt (zd zz 64 c a7) fun d=>rv [d,.bool true] a7 R)
 (fun a4=>CD (nth b 2) (fun a8=>opt (zA zz 193 f (.int .i64 0)) fun c7=>opt (zb zz 158 c7 2) fun c8=>opt (zd zz 64 c8 k) fun a9=>opt (nb [a9] (zl zz 64 c a9 k)) fun ba=>opt (zd zz 64 c ba) fun d=>rv [d,.bool true] ba R)
 (fun a8=>a8 [nth bl 0] k)
 (fun c9 da=>a4 [nth c9 0] da))
 (fun db dc=>a0 [nth db 0] dc))
 (fun dd de=>av [nth dd 0] de)) az) I)
 (fun df dg=>cp [nth df 0] dg)) au) aq)
 (fun dj dh=>opt (nb [] (xo zz 64 [])) fun bb=>opt (nb [bb] (zl zz 64 c bb dh)) fun bc=>opt (zd zz 64 c bc) fun d=>rv [d,.bool true] bc R)))
theorem DH (hw:FC h t0 t1 t2 R):DC zz 108 [t0,t1,t2] h R:=qQ (by kernel_rfl) hw
def FE:=fun (h:za) k l (R:VK)=>
 zO zz (fn 82) [k,l] h fun b c=>opt (nb [b,.pointer none] (ze zz .eql 152 (.tmp 10) (.const (.pointer none)) b (.pointer none))) fun m=>CD m (fun d=>rv [.bool false] c R)
 (fun d=>d [.bool false] c)
 (fun D e=>opt (ve b) fun n=>opt (zb zz 155 n 0) fun o=>opt (zd zz 3 o e) fun f=>BK (fun p=>LP (fun a g q=>opt (nb [nth a 0,f] (ze zz .lss 3 (.tmp 16) (.tmp 15) (nth a 0) f)) fun r=>CD r (fun i=>i [] g)
 (fun i=>p [] g)
 (fun E s=>BK (fun t=>zO zz (fn 83) [b,nth a 0,.bool true] s fun u v=>opt (nb [nth a 0,.int .i64 64] (ze zz .rem 3 (.tmp 22) (.const (.int .i64 64)) (nth a 0) (.int .i64 64))) fun w=>opt (nb [.int .u8 1] (xo zz 158 [(0,(.int .u8 1))])) fun j=>opt (ve u) fun x=>opt (zA zz 184 x w) fun y=>opt (nb [j] (zl zz 158 y j v)) fun z=>t [] z)
 (fun F A=>opt (nb [nth a 0,.int .i64 1] (ze zz .add 3 (.tmp 16) (ci 1) (nth a 0) (.int .i64 1))) fun B=>q [B] A)))
 [.int .i64 0] e)
 (fun G C=>rv [.bool true] C R))
theorem DI (hw:FE h t0 t1 R):DC zz 63 [t0,t1] h R:=qQ (by kernel_rfl) hw
def FB:=fun (h:za) a b (R:VK)=>
 zO zz (fn 82) [a,b] h fun c e=>opt (nb [c,.pointer none] (ze zz .eql 152 (.tmp 9) (.const (.pointer none)) c (.pointer none))) fun n=>CD n (fun f=>rv [.bool false] e R)
 (fun f=>f [.bool false] e)
 (fun C d=>opt (ve a) fun o=>opt (zb zz 148 o 0) fun p=>opt (zd zz 146 p d) fun q=>opt (nb [b,.int .i64 1] (ze zz .sub 3 (.tmp 15) (ci 1) b (.int .i64 1))) fun r=>opt (ve c) fun s=>opt (zb zz 155 s 0) fun t=>opt (zd zz 3 t d) fun g=>opt (nb [g,.bool true] (xo zz 155 [(0,g),(2,(.bool true))])) fun i=>opt (nb [i] (some (Value.cells i).toList)) fun u=>nw d u 155 fun j v=>opt (zA zz 146 q r) fun w=>opt (nb [j] (zl zz 152 w j v)) fun k=>opt (ve a) fun x=>opt (zb zz 148 x 1) fun y=>opt (zd zz 3 y k) fun l=>opt (nb [l,.int .i64 1] (ze zz .sub 3 (.tmp 27) (ci 1) l (.int .i64 1))) fun m=>opt (ve a) fun z=>opt (zb zz 148 z 1) fun A=>opt (nb [m] (zl zz 3 A m k)) fun B=>rv [.bool true] B R)
theorem DG (hw:FB h t0 t1 R):DC zz 114 [t0,t1] h R:=qQ (by kernel_rfl) hw
def eW:=fun (h:za) a4 b L a5 (R:VK)=>
 opt (nb [L] (some (Value.cells L).toList)) fun a6=>nw h a6 64 fun c p=>opt (zb zz 64 c 0) fun a7=>opt (zd zz 3 a7 p) fun M=>opt (nb [M,.int .i64 2] (ze zz .neq 3 (.tmp 14) (.const (.int .i64 2)) M (.int .i64 2))) fun d=>GD d false (fun a8=>a8 b p) (fun N O=>GD d false (fun a9=>opt (nb [N,.int .i64 1] (ze zz .neq 3 (.tmp 17) (ci 1) N (.int .i64 1))) fun q=>a9 q O) (fun q P=>GD d false (fun ba=>ba q P) (fun r Q=>GD r true (fun bb=>bb b Q) (fun S T=>GD r true (fun bc=>opt (nb [S,.int .i64 4] (ze zz .neq 3 (.tmp 20) (.const (.int .i64 4)) S (.int .i64 4))) fun s=>bc s T) (fun s U=>GD d false (fun bd=>opt (pk r s (.bool false)) fun t=>bd t U) (fun t V=>GD d false (fun be=>be t V) (fun u W=>GD u true (fun bf=>bf b W) (fun X Y=>GD u true (fun bg=>opt (nb [X,.int .i64 8] (ze zz .neq 3 (.tmp 24) (.const (.int .i64 8)) X (.int .i64 8))) fun v=>bg v Y) (fun v Z=>GD d false (fun bh=>opt (pk u v (.bool false)) fun w=>bh w Z) (fun w aa=>opt (pk d (.bool true) w) fun bi=>CD bi (fun ab=>rv [.slice none 0 0,.bool false] aa R)
 (fun ab=>ab [.slice none 0 0,.bool false] aa)
 (fun ac ad=>opt (zb zz 64 c 2) fun bj=>opt (zd zz 3 bj ad) fun bk=>zO zz (fn 82) [a4,bk] ad fun f ae=>opt (nb [f,.pointer none] (ze zz .eql 152 (.tmp 32) (.const (.pointer none)) f (.pointer none))) fun g=>GD g false (fun bl=>opt (zb zz 64 c 1) fun x=>bl x ae) (fun x y=>GD g false (fun bm=>opt (zd zz 2 x y) fun i=>bm i y) (fun i af=>GD g false (fun bn=>opt (nb [i,.int .i64 0] (ze zz .lss 2 (.tmp 36) (ci 0) i (.int .i64 0))) fun z=>bn z af) (fun z ag=>opt (pk g (.bool true) z) fun a=>GD a false (fun bo=>opt (zb zz 64 c 1) fun A=>bo A ag) (fun A B=>GD a false (fun bp=>opt (zd zz 2 A B) fun j=>bp j B) (fun j ah=>GD a false (fun bq=>bq f ah) (fun br ai=>GD a false (fun bs=>opt (ve br) fun C=>bs C ai) (fun C aj=>GD a false (fun bt=>opt (zb zz 155 C 0) fun D=>bt D aj) (fun D E=>GD a false (fun bu=>opt (zd zz 3 D E) fun k=>bu k E) (fun k ak=>GD a false (fun bv=>bv b ak) (fun al am=>GD a false (fun bw=>opt (nb [k,al] (ze zz .sub 3 (.tmp 45) (.tmp 46) k al)) fun l=>bw l am) (fun l an=>GD a false (fun bx=>opt (nb [j,l] (ze zz .gtr 2 (.tmp 41) (.tmp 47) j l)) fun F=>bx F an) (fun F ao=>opt (pk a (.bool true) F) fun e=>GD e false (fun bz=>opt (zb zz 64 c 1) fun G=>bz G ao) (fun G H=>GD e false (fun b0=>opt (zd zz 2 G H) fun m=>b0 m H) (fun m ap=>GD e false (fun b1=>b1 b ap) (fun aq ar=>GD e false (fun b2=>opt (nb [m,aq] (ze zz .rem 2 (.tmp 52) (.tmp 53) m aq)) fun n=>b2 n ar) (fun n au=>GD e false (fun b3=>opt (nb [n,.int .i64 0] (ze zz .neq 2 (.tmp 54) (ci 0) n (.int .i64 0))) fun I=>b3 I au) (fun I av=>opt (pk e (.bool true) I) fun b4=>CD b4 (fun aw=>rv [.slice none 0 0,.bool false] av R)
 (fun aw=>aw [nth ac 0,nth ac 1] av)
 (fun ax ay=>opt (zb zz 64 c 1) fun b5=>opt (zd zz 2 b5 ay) fun b6=>zO zz (fn 83) [f,b6,a5] ay fun J az=>opt (nb [J,.pointer none] (ze zz .eql 159 (.tmp 62) (.const (.pointer none)) J (.pointer none))) fun b7=>CD b7 (fun a0=>rv [.slice none 0 0,.bool true] az R)
 (fun a0=>a0 [nth ax 0,nth ax 1] az)
 (fun ca K=>opt (zb zz 64 c 1) fun b8=>opt (zd zz 2 b8 K) fun a1=>opt (nb [a1,.int .i64 64] (ze zz .rem 3 (.tmp 65) (.const (.int .i64 64)) a1 (.int .i64 64))) fun o=>opt (ve J) fun a2=>opt (nb [o,b] (ze zz .add 3 (.tmp 70) (.tmp 71) o b)) fun a3=>opt (nb [a2] (cond (HB (some o) && HB (some a3)) (GC zz 184 a2 (some o) (some a3) K) none)) fun b9=>rv [b9,.bool true] K R))) au) ar) ap) H) ao) an) am) ak) E) aj) ai) ah) B) ag) af) y) ae)) Z) Y) W) V) U) T) Q) P) O) p
theorem dv (hw:eW h t0 t1 t2 t3 R):DC zz 126 [t0,t1,t2,t3] h R:=qQ (by kernel_rfl) hw
def N4:=fun (h:za) a (R:VK)=>
 opt (wY zz 64) fun e=>nw h (Value.cells e).toList 64 fun b f=>opt (nb [.int .i64 1,a] (xo zz 64 [(0,(.int .i64 1)),(1,a)])) fun c=>opt (nb [c] (zl zz 64 b c f)) fun d=>opt (zd zz 64 b d) fun g=>rv [g] d R
theorem Ij (hw:N4 h t0 R):DC zz 64 [t0] h R:=qQ (by kernel_rfl) hw
def AD:=fun (h:za) a b k (R:VK)=>
 opt (ve a) fun y=>opt (zb zz 155 y 1) fun z=>opt (zd zz 153 z h) fun l=>opt (nb [l,.slice none 0 0] (ze zz .eql 153 (.tmp 10) (.const (.slice none 0 0)) l (.slice none 0 0))) fun m=>GD m true (fun A=>A k h) (fun B d=>opt (pk m B (.bool false)) fun C=>CD C (fun e=>opt (ve a) fun D=>opt (zb zz 155 D 0) fun E=>opt (zd zz 3 E d) fun n=>opt (nb [n,.int .i64 64] (ze zz .add 3 (.tmp 19) (.const (.int .i64 64)) n (.int .i64 64))) fun o=>opt (nb [o,.int .i64 1] (ze zz .sub 3 (.tmp 20) (ci 1) o (.int .i64 1))) fun p=>opt (nb [p,.int .i64 64] (ze zz .quo 3 (.tmp 21) (.const (.int .i64 64)) p (.int .i64 64))) fun q=>xZ (W4 zz 153 q q d) fun r F=>opt (ve a) fun G=>opt (zb zz 155 G 1) fun H=>opt (nb [r] (zl zz 153 H r F)) fun I=>e [] I)
 (fun e=>e [] d)
 (fun aj f=>opt (ve a) fun J=>opt (zb zz 155 J 1) fun K=>opt (zd zz 153 K f) fun s=>opt (nb [s,.slice none 0 0] (ze zz .eql 153 (.tmp 29) (.const (.slice none 0 0)) s (.slice none 0 0))) fun L=>CD L (fun t=>rv [.pointer none] f R)
 (fun t=>t [.pointer none] f)
 (fun ak c=>opt (ve a) fun M=>opt (zb zz 155 M 1) fun N=>opt (zd zz 153 N c) fun O=>opt (nb [b,.int .i64 64] (ze zz .quo 3 (.tmp 35) (.const (.int .i64 64)) b (.int .i64 64))) fun P=>opt (zA zz 153 O P) fun Q=>opt (zd zz 159 Q c) fun u=>opt (nb [u,.pointer none] (ze zz .eql 159 (.tmp 38) (.const (.pointer none)) u (.pointer none))) fun v=>GD v true (fun S=>S k c) (fun T g=>opt (pk v T (.bool false)) fun U=>CD U (fun i=>opt (ve a) fun V=>opt (zb zz 155 V 1) fun W=>opt (zd zz 153 W g) fun X=>opt (nb [b,.int .i64 64] (ze zz .quo 3 (.tmp 47) (.const (.int .i64 64)) b (.int .i64 64))) fun Y=>opt (nb [] (xo zz 184 [])) fun w=>opt (nb [w] (some (Value.cells w).toList)) fun Z=>nw g Z 184 fun x aa=>opt (zA zz 153 X Y) fun ab=>opt (nb [x] (zl zz 159 ab x aa)) fun ac=>i [] ac)
 (fun i=>i [] g)
 (fun al j=>opt (ve a) fun ad=>opt (zb zz 155 ad 1) fun ae=>opt (zd zz 153 ae j) fun af=>opt (nb [b,.int .i64 64] (ze zz .quo 3 (.tmp 56) (.const (.int .i64 64)) b (.int .i64 64))) fun ag=>opt (zA zz 153 af ag) fun ah=>opt (zd zz 159 ah j) fun ai=>rv [ai] j R)) c))) h
theorem lL (hw:AD h t0 t1 t2 R):DC zz 83 [t0,t1,t2] h R:=qQ (by kernel_rfl) hw
noncomputable def Qf:Array Field:=match Program.underlying Tryz.prog 64 with | some (.struct f)=>f | _ => #[]
theorem XU (b off:Nat) (h:za):zd Tryz.prog 146 (.pointer (some ⟨b,off,none⟩)) h=zw h b off:=yn (by kernel_rfl) b off h
theorem Gr (b off:Nat) (h:za):zd Tryz.prog 152 (.pointer (some ⟨b,off,none⟩)) h=zw h b off:=yn (by kernel_rfl) b off h
theorem cD (b off:Nat) (h:za):zd Tryz.prog 153 (.pointer (some ⟨b,off,none⟩)) h=zw h b off:=yn (by kernel_rfl) b off h
theorem oR (b off:Nat) (h:za):zd Tryz.prog 158 (.pointer (some ⟨b,off,none⟩)) h=ye h b off 5:=qi (by kernel_rfl) (by kernel_rfl) b off h
theorem gy (b off:Nat) (h:za):zd Tryz.prog 159 (.pointer (some ⟨b,off,none⟩)) h=zw h b off:=yn (by kernel_rfl) b off h
theorem yQ (b off:Nat) (h:za):zd Tryz.prog 2 (.pointer (some ⟨b,off,none⟩)) h=zw h b off:=yn (by kernel_rfl) b off h
theorem zi (b off:Nat) (h:za):zd Tryz.prog 3 (.pointer (some ⟨b,off,none⟩)) h=zw h b off:=yn (by kernel_rfl) b off h
theorem Bu (b off:Nat) (h:za):zd Tryz.prog 4 (.pointer (some ⟨b,off,none⟩)) h=zw h b off:=yn (by kernel_rfl) b off h
theorem Bv (b off:Nat) (h:za):zd Tryz.prog 5 (.pointer (some ⟨b,off,none⟩)) h=zw h b off:=yn (by kernel_rfl) b off h
theorem zq (b off:Nat) (h:za):zd Tryz.prog 64 (.pointer (some ⟨b,off,none⟩)) h=ye h b off 3:=qi (by kernel_rfl) (by kernel_rfl) b off h
theorem My (r:TypeId) (v x:Value) (n:Nat) (new:List Value) (h:za) (h1:Ws x=some n) (h2:uJ h n 1 x=some new) (h3:new.all wZ=true) (h4:new.length=n * 1):zn Tryz.prog .append [146,146] r [v,x] h=Uh h 152 1 8 n new v:=Xd (e:=152) (e2:=152) (by kernel_rfl) (by kernel_rfl) (by kernel_rfl) (by kernel_rfl) (by decide) h1 h2 h3 h4
theorem GB (b off:Nat) (v:Option Addr) (vl vc:Nat) (h:za):zl Tryz.prog 146 (.pointer (some ⟨b,off,none⟩)) (.slice v vl vc) h=vf h b off [(.slice v vl vc)]:=uI (by kernel_rfl) b off _ h rfl
theorem MF (b off:Nat) (v:Option Addr) (h:za):zl Tryz.prog 152 (.pointer (some ⟨b,off,none⟩)) (.pointer v) h=vf h b off [(.pointer v)]:=uI (by kernel_rfl) b off _ h rfl
theorem MG (b off:Nat) (v:Option Addr) (vl vc:Nat) (h:za):zl Tryz.prog 153 (.pointer (some ⟨b,off,none⟩)) (.slice v vl vc) h=vf h b off [(.slice v vl vc)]:=uI (by kernel_rfl) b off _ h rfl
theorem Qa (b off:Nat) (l:List Value) (h:za) (hv:l.length=5):zl Tryz.prog 158 (.pointer (some ⟨b,off,none⟩)) (.agg l.toArray) h=vf h b off l:=qP (by kernel_rfl) b off l h hv
theorem Bx (b off:Nat) (v:Option Addr) (h:za):zl Tryz.prog 159 (.pointer (some ⟨b,off,none⟩)) (.pointer v) h=vf h b off [(.pointer v)]:=uI (by kernel_rfl) b off _ h rfl
theorem Wx (b off:Nat) (v:Int) (h:za):zl Tryz.prog 3 (.pointer (some ⟨b,off,none⟩)) (.int .i64 v) h=vf h b off [(.int .i64 v)]:=uI (by kernel_rfl) b off _ h rfl
theorem zL (b off:Nat) (l:List Value) (h:za) (hv:l.length=3):zl Tryz.prog 64 (.pointer (some ⟨b,off,none⟩)) (.agg l.toArray) h=vf h b off l:=qP (by kernel_rfl) b off l h hv
theorem MK:wY Tryz.prog 158=some (.agg #[(.int .u8 0),(.int .u8 0),(.int .i64 0),(.int .i64 0),(.int .i64 0)]):=zH (by kernel_rfl)
theorem vG:wY Tryz.prog 64=some (.agg #[(.int .i64 0),(.int .i64 0),(.int .i64 0)]):=zH (by kernel_rfl)
theorem Iw:xo Tryz.prog 148 []=some (.agg #[(.slice none 0 0),(.int .i64 0)]):=zH (by kernel_rfl)
theorem Qb (v0:Int):xo Tryz.prog 155 [(0,(.int .i64 v0))]=some (.agg #[(.int .i64 v0),(.slice none 0 0),(.bool false)]):=zH (by kernel_rfl)
theorem BB (v0:Int) (v2:Bool):xo Tryz.prog 155 [(0,(.int .i64 v0)),(2,(.bool v2))]=some (.agg #[(.int .i64 v0),(.slice none 0 0),(.bool v2)]):=zH (by kernel_rfl)
theorem Ix:xo Tryz.prog 158 []=some (.agg #[(.int .u8 0),(.int .u8 0),(.int .i64 0),(.int .i64 0),(.int .i64 0)]):=zH (by kernel_rfl)
theorem sO (v0:Int):xo Tryz.prog 158 [(0,(.int .u8 v0))]=some (.agg #[(.int .u8 v0),(.int .u8 0),(.int .i64 0),(.int .i64 0),(.int .i64 0)]):=zH (by kernel_rfl)
theorem K7 (v0:Int) (v1:Int):xo Tryz.prog 158 [(0,(.int .u8 v0)),(1,(.int .u8 v1))]=some (.agg #[(.int .u8 v0),(.int .u8 v1),(.int .i64 0),(.int .i64 0),(.int .i64 0)]):=zH (by kernel_rfl)
theorem Ul (v0:Int) (v1:Int) (v20:Int) (v21:Int) (v22:Int):xo Tryz.prog 158 [(0,(.int .u8 v0)),(1,(.int .u8 v1)),(2,(.agg #[(.int .i64 v20),(.int .i64 v21),(.int .i64 v22)]))]=some (.agg #[(.int .u8 v0),(.int .u8 v1),(.int .i64 v20),(.int .i64 v21),(.int .i64 v22)]):=zH (by kernel_rfl)
theorem yT:xo Tryz.prog 64 []=some (.agg #[(.int .i64 0),(.int .i64 0),(.int .i64 0)]):=zH (by kernel_rfl)
theorem Ep (v0:Int) (v1:Int):xo Tryz.prog 64 [(0,(.int .i64 v0)),(1,(.int .i64 v1))]=some (.agg #[(.int .i64 v0),(.int .i64 v1),(.int .i64 0)]):=zH (by kernel_rfl)
theorem Wz (v0:Option Addr) (h:za):xU Tryz.prog 146 1 [(0,(.pointer v0))] h=some (.slice (some ⟨h.next,0,none⟩) 1 3,h.push (.cells [(.pointer v0)] 152)):=zH (by kernel_rfl)
theorem Z6 (n:Int) (h:za):u5 Tryz.prog 168 196 (.int .u64 n) h=some (.int .i8 (IntKind.wrap .i8 n),h):=zH (by kernel_rfl)
theorem WB (n:Int) (h:za):u5 Tryz.prog 168 2 (.int .u64 n) h=some (.int .i64 (IntKind.wrap .i64 n),h):=zH (by kernel_rfl)
theorem Xg (n:Int) (h:za):u5 Tryz.prog 168 21 (.int .u64 n) h=some (.int .i32 (IntKind.wrap .i32 n),h):=zH (by kernel_rfl)
theorem YK (n:Int) (h:za):u5 Tryz.prog 196 2 (.int .i8 n) h=some (.int .i64 (IntKind.wrap .i64 n),h):=zH (by kernel_rfl)
theorem Z4 (n:Int) (h:za):u5 Tryz.prog 21 2 (.int .i32 n) h=some (.int .i64 (IntKind.wrap .i64 n),h):=zH (by kernel_rfl)
theorem BH (n:Int) (h:za):u5 Tryz.prog 2 5 (.int .i64 n) h=some (.int .u8 (IntKind.wrap .u8 n),h):=zH (by kernel_rfl)
theorem gO (n:Int) (h:za):u5 Tryz.prog 3 5 (.int .i64 n) h=some (.int .u8 (IntKind.wrap .u8 n),h):=zH (by kernel_rfl)
theorem JU (n:Int) (h:za):u5 Tryz.prog 5 168 (.int .u8 n) h=some (.int .u64 (IntKind.wrap .u64 n),h):=zH (by kernel_rfl)
theorem GU (n:Int) (h:za):u5 Tryz.prog 5 3 (.int .u8 n) h=some (.int .i64 (IntKind.wrap .i64 n),h):=zH (by kernel_rfl)
theorem JW (x y:Operand):ze Tryz.prog .eql 152 x y (.pointer none) (.pointer none)=some (.bool true):=zH (by kernel_rfl)
theorem th (x y:Operand):ze Tryz.prog .eql 153 x y (.slice none 0 0) (.slice none 0 0)=some (.bool true):=zH (by kernel_rfl)
theorem JX (x y:Operand):ze Tryz.prog .eql 159 x y (.pointer none) (.pointer none)=some (.bool true):=zH (by kernel_rfl)
theorem tj (x y:Operand):ze Tryz.prog .eql 193 x y (.slice none 0 0) (.slice none 0 0)=some (.bool true):=zH (by kernel_rfl)
theorem Xo (x y:Operand) (a:Addr):ze Tryz.prog .eql 152 x y (.pointer (some a)) (.pointer none)=some (.bool false):=Pn (e:=155) (by kernel_rfl) a
theorem JY (x y:Operand) (a:Addr) (n c:Nat):ze Tryz.prog .eql 153 x y (.slice (some a) n c) (.slice none 0 0)=some (.bool false):=Nx (e:=159) (by kernel_rfl) a n c
theorem eK (x y:Operand) (a:Addr):ze Tryz.prog .eql 159 x y (.pointer (some a)) (.pointer none)=some (.bool false):=Pn (e:=184) (by kernel_rfl) a
theorem II (x y:Operand) (a:Addr) (n c:Nat):ze Tryz.prog .eql 193 x y (.slice (some a) n c) (.slice none 0 0)=some (.bool false):=Nx (e:=158) (by kernel_rfl) a n c
theorem Vn (x y:Operand) (a0:Int) (a1:Int) (a2:Int) (b0:Int) (b1:Int) (b2:Int):ze Tryz.prog .eql 64 x y (.agg #[(.int .i64 a0),(.int .i64 a1),(.int .i64 a2)]) (.agg #[(.int .i64 b0),(.int .i64 b1),(.int .i64 b2)])=some (.bool ((a0 == b0) && ((a1 == b1) && ((a2 == b2))))):=(YH (fs:=Qf) (r:=(a0 == b0) && ((a1 == b1) && ((a2 == b2)))) (by kernel_rfl) (by kernel_rfl) (by kernel_rfl) rfl rfl (Eq.trans (b:=(cond (a0 == b0) (cond (a1 == b1) (cond (a2 == b2) (some true) (some false)) (some false)) (some false))) (by kernel_rfl) (by cases (a0 == b0) <;> cases (a1 == b1) <;> cases (a2 == b2) <;> rfl))).1
theorem j0 (b off:Nat):zb Tryz.prog 148 (.pointer (some ⟨b,off,none⟩)) 0=some (.pointer (some ⟨b,off,none⟩)):=zH (by kernel_rfl)
theorem WD (b off:Nat):zb Tryz.prog 148 (.pointer (some ⟨b,off,none⟩)) 1=some (.pointer (some ⟨b,off + 1,none⟩)):=zH (by kernel_rfl)
theorem kE (b off:Nat):zb Tryz.prog 155 (.pointer (some ⟨b,off,none⟩)) 0=some (.pointer (some ⟨b,off,none⟩)):=zH (by kernel_rfl)
theorem VM (b off:Nat):zb Tryz.prog 155 (.pointer (some ⟨b,off,none⟩)) 1=some (.pointer (some ⟨b,off + 1,none⟩)):=zH (by kernel_rfl)
theorem tw (b off:Nat):zb Tryz.prog 155 (.pointer (some ⟨b,off,none⟩)) 2=some (.pointer (some ⟨b,off + 2,none⟩)):=zH (by kernel_rfl)
theorem G5 (b off:Nat):zb Tryz.prog 158 (.pointer (some ⟨b,off,none⟩)) 0=some (.pointer (some ⟨b,off,none⟩)):=zH (by kernel_rfl)
theorem G6 (b off:Nat):zb Tryz.prog 158 (.pointer (some ⟨b,off,none⟩)) 1=some (.pointer (some ⟨b,off + 1,none⟩)):=zH (by kernel_rfl)
theorem VN (b off:Nat):zb Tryz.prog 158 (.pointer (some ⟨b,off,none⟩)) 2=some (.pointer (some ⟨b,off + 2,none⟩)):=zH (by kernel_rfl)
theorem wm (b off:Nat):zb Tryz.prog 64 (.pointer (some ⟨b,off,none⟩)) 0=some (.pointer (some ⟨b,off,none⟩)):=zH (by kernel_rfl)
theorem wi (b off:Nat):zb Tryz.prog 64 (.pointer (some ⟨b,off,none⟩)) 1=some (.pointer (some ⟨b,off + 1,none⟩)):=zH (by kernel_rfl)
theorem uB (b off:Nat):zb Tryz.prog 64 (.pointer (some ⟨b,off,none⟩)) 2=some (.pointer (some ⟨b,off + 2,none⟩)):=zH (by kernel_rfl)
theorem B0 (b off len c:Nat) (k:IntKind) (i:Int):zA Tryz.prog 146 (.slice (some ⟨b,off,none⟩) len c) (.int k i)=if 0<=i/\i < len then some (.pointer (some ⟨b,off + i.toNat * 1,none⟩)) else none:=wk (e:=152) (by kernel_rfl) (by kernel_rfl)
theorem iu (b off len c:Nat) (k:IntKind) (i:Int):zA Tryz.prog 153 (.slice (some ⟨b,off,none⟩) len c) (.int k i)=if 0<=i/\i < len then some (.pointer (some ⟨b,off + i.toNat * 1,none⟩)) else none:=wk (e:=159) (by kernel_rfl) (by kernel_rfl)
theorem Na (b off:Nat) (k:IntKind) (i:Int):zA Tryz.prog 184 (.pointer (some ⟨b,off,none⟩)) (.int k i)=if 0<=i/\i < 64 then some (.pointer (some ⟨b,off + i.toNat * 5,none⟩)) else none:=Ud (e:=158) (len:=64) (by kernel_rfl) (by kernel_rfl)
theorem Xj (b off len c:Nat) (k:IntKind) (i:Int):zA Tryz.prog 193 (.slice (some ⟨b,off,none⟩) len c) (.int k i)=if 0<=i/\i < len then some (.pointer (some ⟨b,off + i.toNat * 5,none⟩)) else none:=wk (e:=158) (by kernel_rfl) (by kernel_rfl)
theorem Vf (r:TypeId) (a:Option Addr) (n c:Nat) (h:za):zn Tryz.prog .len [146] r [.slice a n c] h=some (.int .i64 n,h):=zH (by kernel_rfl)
theorem Uw (r:TypeId) (a:Option Addr) (n c:Nat) (h:za):zn Tryz.prog .len [193] r [.slice a n c] h=some (.int .i64 n,h):=zH (by kernel_rfl)
theorem Nj (k k2:IntKind) (l c:Int) (h:za) (h0:0<=l) (h1:l<=c) (h2:c < 2 ^ 31):W4 Tryz.prog 153 (.int k l) (.int k2 c) h=some (.slice (some ⟨h.next,0,none⟩) l.toNat (c.toNat + 2),h.push (.cells (ZV [(.pointer none)] (c.toNat * 1)) 159)):=Gu (e:=159) (z:=(.pointer none)) (n:=1) (bytes:=8) (by kernel_rfl) (by kernel_rfl) (by kernel_rfl) rfl (by decide) (by decide) rfl h0 h1 h2
theorem HT (b off:Nat) (lo hi:Option Value) (h:za):GC Tryz.prog 184 (.pointer (some ⟨b,off,none⟩)) lo hi h=(qz hi 64 64).bind fun hh=>(qz lo 0 hh).bind fun l=>some (.slice (some ⟨b,off + (if 64=l then 0 else l * 5),none⟩) (hh - l) 0):=Eg (e:=158) (k:=64) (by kernel_rfl) (by kernel_rfl)
structure V where
 k:Int
 n:Int
 b:Int
 deriving DecidableEq
def V.YT (v:V):List Value:=[.int .i64 v.k,.int .i64 v.n,.int .i64 v.b]
def V.val (v:V):Value := .agg #[.int .i64 v.k,.int .i64 v.n,.int .i64 v.b]
def v0:V:=⟨0,0,0⟩
structure Cl where
 k:Int
 n:Int
 p:V
 deriving DecidableEq
def Cl.YT (c:Cl):List Value:=[.int .u8 c.k,.int .u8 c.n,.int .i64 c.p.k,.int .i64 c.p.n,.int .i64 c.p.b]
def eu:Cl:=⟨0,0,v0⟩
structure MB where
 size:Nat
 jG:Bool
 byte:Nat->Cl
abbrev MM:=List MB
def jV:Option Nat->Value
 | none => .pointer none
 | some g => .pointer (some ⟨g,0,none⟩)
def eV (h:za) (g:Nat) (f:Nat->Cl):Prop := ∃ cs,h.get g=some (.cells cs 184)/\cs.length=320 /\ ∀ k j,k < 64->j < 5->cs[k * 5 + j]? = (f k).YT[j]?
structure Xs (h:za) (q:Nat) (gs:List (Option Nat)) (B:MB) (F:Nat->Prop):Prop where
 hl:gs.length=(B.size + 63) / 64
 fq:F q
 hq:h.get q=some (.cells (gs.map jV) 159)
 hg:∀ (j g:Nat),gs[j]? = some (some g)->F g/\eV h g (fun k=>B.byte (64 * j + k))
 hn:∀ j:Nat,gs[j]? = some none->∀ k,k < 64->B.byte (64 * j + k)=eu
 hd:∀ i j g:Nat,gs[i]? = some (some g)->gs[j]? = some (some g)->i=j
 ht:∀ k,64 * gs.length<=k->B.byte k=eu
inductive XS (h:za) (pg:Value) (B:MB) (F:Nat->Prop):Prop
 | empty (e:pg = .slice none 0 0) (u:∀ k,B.byte k=eu):XS h pg B F
 | full (q c:Nat) (gs:List (Option Nat)) (e:pg = .slice (some ⟨q,0,none⟩) gs.length c) (x:Xs h q gs B F):XS h pg B F
def eR (h:za) (p:Nat) (B:MB) (F:Nat->Prop):Prop := ∃ pg,h.get p=some (.cells [.int .i64 B.size,pg,.bool B.jG] 155)/\F p/\XS h pg B F
def live (M:MM):Nat:=(M.filter fun B => !B.jG).length
structure i9 (h:za) (m:Nat) (bs:Value) (ps:List Nat) (fs:Nat->Nat->Prop) (M:MM) (F:Nat->Prop):Prop where
 hm:h.get m=some (.cells [bs,.int .i64 (live M)] 148)
 fm:F m
 len:ps.length=M.length
 hb:(M = []/\bs = .slice none 0 0) \/ ∃ bb c,bs = .slice (some ⟨bb,0,none⟩) M.length c/\c ≠ 0/\F bb/\h.get bb=some (.cells (ps.map fun p => .pointer (some ⟨p,0,none⟩)) 152) /\ ∀ i,¬ fs i bb
 nm:∀ i,¬ fs i m
 Xf:∀ i p B,ps[i]? = some p->M[i]? = some B->eR h p B (fs i)
 Fm:∀ i j b,fs i b->fs j b->i=j
 sub:∀ i b,fs i b->F b
 ok:∀ b,F b->True/\b < h.next
structure XR (h:za) (m:Nat) (bs:Value) (ps:List Nat) (fs:Nat->Nat->Prop) (M:MM) (F:Nat->Prop):Prop where
 hm:h.get m=some (.cells [bs,.int .i64 (live M)] 148)
 fm:F m
 len:ps.length=M.length
 hb:(M = []/\bs = .slice none 0 0) \/ ∃ bb c,bs = .slice (some ⟨bb,0,none⟩) M.length c/\c ≠ 0/\F bb/\h.get bb=some (.cells (ps.map fun p => .pointer (some ⟨p,0,none⟩)) 152) /\ ∀ i,¬ fs i bb
 nm:∀ i,¬ fs i m
 Xf:∀ i p B,ps[i]? = some p->M[i]? = some B->eR h p B (fs i)
 Fm:∀ i j b,fs i b->fs j b->i=j
 sub:∀ i b,fs i b->F b
 ok:∀ b,F b->h.ro<=b/\b < h.next
theorem XR.r {h:za} {m:Nat} {bs:Value} {ps:List Nat} {fs:Nat->Nat->Prop} {M:MM} {F:Nat->Prop} (x:XR h m bs ps fs M F):i9 h m bs ps fs M F:=⟨x.hm,x.fm,x.len,x.hb,x.nm,x.Xf,x.Fm,x.sub,fun b hb=>⟨trivial,(x.ok b hb).2⟩⟩
def n5 (h:za) (m:Nat) (M:MM) (F:Nat->Prop):Prop := ∃ bs ps fs,XR h m bs ps fs M F
structure ZR (F:Nat->Prop) (h h':za):Prop where
 next:h.next<=h'.next
 ro:h'.ro=h.ro
 get:∀ b,¬ F b->b < h.next->h'.get b=h.get b
theorem ZR.refl (F:Nat->Prop) (h:za):ZR F h h:=⟨Sp _,rfl,fun _ _ _=>rfl⟩
theorem ZR.trans {F:Nat->Prop} {a b c:za} (x:ZR F a b) (y:ZR F b c):ZR F a c :=
 ⟨S4 x.next y.next,y.ro.trans x.ro,fun i hi hlt=>(y.get i hi (Sq hlt x.next)).trans (x.get i hi hlt)⟩
theorem ZR.mono {F G:Nat->Prop} {a b:za} (x:ZR F a b) (h:∀ i,F i->G i):ZR G a b:=⟨x.next,x.ro,fun i hi hlt=>x.get i (fun e=>hi (h i e)) hlt⟩
def pL:Nat->Prop:=fun _=>False
theorem ZR.push {F:Nat->Prop} {h h':za} (x:ZR F h h') (o:vi):ZR F h (h'.push o) :=
 ⟨Nat.le_succ_of_le x.next,x.ro,fun b hb hlt=>(zU (Sq hlt x.next)).trans (x.get b hb hlt)⟩
theorem ZR.set {F:Nat->Prop} {h h':za} (x:ZR F h h') {b:Nat} (hb:F b\/h.next<=b) (o:Option vi):ZR F h (h'.set b o) :=
 ⟨x.next,x.ro,fun c hc hlt=>(zS (by rcases hb with e | e; (intro q;subst q;exact hc e);omega)).trans (x.get c hc hlt)⟩
section mono
variable {h h':za}
theorem eV.zH {g:Nat} {f:Nat->Cl} (x:eV h g f) (e:h'.get g=h.get g):eV h' g f:=by obtain ⟨cs,a,b⟩:=x;exact ⟨cs,e.trans a,b⟩
theorem Xs.zH {q:Nat} {gs:List (Option Nat)} {B:MB} {F:Nat->Prop} (x:Xs h q gs B F) (e:∀ b,F b->h'.get b=h.get b):Xs h' q gs B F :=
 ⟨x.hl,x.fq,(e q x.fq).trans x.hq,fun j g hj=>⟨(x.hg j g hj).1,(x.hg j g hj).2.zH (e g (x.hg j g hj).1)⟩,x.hn,x.hd,x.ht⟩
theorem Xs.more {q:Nat} {gs:List (Option Nat)} {B:MB} {F G:Nat->Prop} (x:Xs h q gs B F) (e:∀ b,F b->G b):Xs h q gs B G :=
 ⟨x.hl,e q x.fq,x.hq,fun j g hj=>⟨e _ (x.hg j g hj).1,(x.hg j g hj).2⟩,x.hn,x.hd,x.ht⟩
theorem XS.zH {pg:Value} {B:MB} {F:Nat->Prop} (x:XS h pg B F) (e:∀ b,F b->h'.get b=h.get b):XS h' pg B F:=by
 cases x with
 | empty a b=>exact .empty a b
 | full q c gs a x=>exact .full q c gs a (x.zH e)
theorem XS.more {pg:Value} {B:MB} {F G:Nat->Prop} (x:XS h pg B F) (e:∀ b,F b->G b):XS h pg B G:=by
 cases x with
 | empty a b=>exact .empty a b
 | full q c gs a x=>exact .full q c gs a (x.more e)
theorem eR.zH {p:Nat} {B:MB} {F:Nat->Prop} (x:eR h p B F) (e:∀ b,F b->h'.get b=h.get b):eR h' p B F:=by
 obtain ⟨pg,a,b,c⟩:=x;exact ⟨pg,(e p b).trans a,b,c.zH e⟩
theorem eR.more {p:Nat} {B:MB} {F G:Nat->Prop} (x:eR h p B F) (e:∀ b,F b->G b):eR h p B G:=by
 obtain ⟨pg,a,b,c⟩:=x;exact ⟨pg,a,e p b,c.more e⟩
theorem i9.zH {m:Nat} {bs:Value} {ps:List Nat} {fs:Nat->Nat->Prop} {M:MM} {F:Nat->Prop} (x:i9 h m bs ps fs M F) (e:∀ b,F b->h'.get b=h.get b) (hn:h.next<=h'.next):i9 h' m bs ps fs M F :=
 ⟨(e m x.fm).trans x.hm,x.fm,x.len,by
   rcases x.hb with a | ⟨bb,c,a,b,d,g,o⟩
   ·exact .inl a
   ·exact .inr ⟨bb,c,a,b,d,(e bb d).trans g,o⟩,x.nm,fun i p B hp hB=>(x.Xf i p B hp hB).zH (fun b hb=>e b (x.sub i b hb)),x.Fm,x.sub,fun b hb=>by
    exact ⟨trivial,Sq (x.ok b hb).2 hn⟩⟩
theorem XR.zH {m:Nat} {bs:Value} {ps:List Nat} {fs:Nat->Nat->Prop} {M:MM} {F:Nat->Prop} (x:XR h m bs ps fs M F) (e:∀ b,F b->h'.get b=h.get b) (hn:h.next<=h'.next) (hr:h'.ro=h.ro):XR h' m bs ps fs M F :=
 ⟨(e m x.fm).trans x.hm,x.fm,x.len,by
   rcases x.hb with a | ⟨bb,c,a,b,d,g,o⟩
   ·exact .inl a
   ·exact .inr ⟨bb,c,a,b,d,(e bb d).trans g,o⟩,x.nm,fun i p B hp hB=>(x.Xf i p B hp hB).zH (fun b hb=>e b (x.sub i b hb)),x.Fm,x.sub,fun b hb=>by
    have:=x.ok b hb;rw [hr];omega⟩
theorem n5.zH {m:Nat} {M:MM} {F:Nat->Prop} (x:n5 h m M F) (e:∀ b,F b->h'.get b=h.get b) (hn:h.next<=h'.next) (hr:h'.ro=h.ro):n5 h' m M F:=by
 obtain ⟨bs,ps,fs,x⟩:=x;exact ⟨bs,ps,fs,x.zH e hn hr⟩
theorem n5.XK {m:Nat} {M:MM} {F G:Nat->Prop} (x:n5 h m M F) (e:ZR G h h') (hd:∀ b,F b->¬ G b):n5 h' m M F:=by
 obtain ⟨bs,ps,fs,x⟩:=x
 exact ⟨bs,ps,fs,x.zH (fun b hb=>e.get b (hd b hb) (x.ok b hb).2) e.next e.ro⟩
end mono
theorem Hp {M:MM} {i:Nat} {B B':MB} (h:M[i]? = some B) (hf:B'.jG=B.jG):live (M.set i B')=live M:=by
 unfold live
 induction M generalizing i with
 | nil=>rfl
 | cons A M ih=>
   cases i with
   | zero=>simp at h;subst h;simp [hf,TF];split <;> rfl
   | succ i=>simp at h;simp only [S8,TF];split <;> simp [ih h]
theorem Aj {M:MM} {i:Nat} {B:MB} (h:M[i]? = some B):M.set i B=M:=by
 apply TK
 intro j
 by_cases e:i=j
 ·subst e
  have hlt:i < M.length:=by
   rcases SC i M.length with a | a
   ·exact a
   ·rw [Sr a] at h;cases h
  rw [Tj hlt,h]
 ·rw [TA e]
theorem XR.pX {h h1:za} {m:Nat} {bs:Value} {ps:List Nat} {fs:Nat->Nat->Prop} {M:MM} {F:Nat->Prop} (x:XR h m bs ps fs M F) {i q:Nat} {B B':MB} {F2:Nat->Prop} (hq:ps[i]? = some q) (hB:M[i]? = some B) (hf:B'.jG=B.jG)
  (XK:ZR (fs i) h h1) (hb:eR h1 q B' F2) (h2:∀ b,F2 b->fs i b\/h.next<=b) (h3:∀ b,F2 b->h1.ro<=b/\b < h1.next) :
  XR h1 m bs ps (fun k=>if k=i then F2 else fs k) (M.set i B') (fun b=>F b\/F2 b):=by
 have old:∀ b,F b->¬ fs i b->h1.get b=h.get b:=fun b hb hn=>XK.get b hn (x.ok b hb).2
 have hnew:∀ b,h.next<=b->F b->False:=fun b hl hb=>by have:=(x.ok b hb).2;omega
 have hlt:i < M.length:=by
  rcases SC i M.length with a | a
  ·exact a
  ·rw [Sr a] at hB;cases hB
 refine ⟨by rw [old m x.fm (x.nm i),x.hm,Hp hB hf],.inl x.fm,by rw [x.len,TD],?_,?_,?_,?_,?_,?_⟩
 ·rcases x.hb with ⟨rfl,_⟩ | ⟨bb,c,e1,e2,e3,e4,e5⟩
  ·cases hB
  ·refine .inr ⟨bb,c,by rw [e1,TD],e2,.inl e3,(old bb e3 (e5 i)).trans e4,fun k hk => ?_⟩
   split at hk
   ·rcases h2 bb hk with a | a
    ·exact e5 i a
    ·exact hnew bb a e3
   ·exact e5 k hk
 ·intro k hk
  split at hk
  ·rcases h2 m hk with a | a
   ·exact x.nm i a
   ·exact hnew m a x.fm
  ·exact x.nm k hk
 ·intro k p C hp hC
  by_cases e:k=i
  ·subst e
   rw [Tj hlt] at hC
   cases hC
   rw [hq] at hp;cases hp
   simp only [Sn]
   exact hb
  ·rw [TA (fun q=>e q.symm)] at hC
   simp only [Sl e]
   exact (x.Xf k p C hp hC).zH (fun b hb=>old b (x.sub k b hb) (fun hc=>e (x.Fm k i b hb hc)))
 ·intro a b z ha hz
  split at ha <;> split at hz
  ·rename_i e1 e2;rw [e1,e2]
  ·rename_i e1 e2
   rcases h2 z ha with c | c
   ·exact absurd (x.Fm b i z hz c) e2
   ·exact (hnew z c (x.sub b z hz)).elim
  ·rename_i e1 e2
   rcases h2 z hz with c | c
   ·exact absurd (x.Fm a i z ha c) e1
   ·exact (hnew z c (x.sub a z ha)).elim
  ·exact x.Fm a b z ha hz
 ·intro k b hk
  split at hk
  ·exact .inr hk
  ·exact .inl (x.sub k b hk)
 ·intro b hb
  have n1:=XK.next
  have n2:=XK.ro
  rcases hb with hb | hb
  ·have:=x.ok b hb;omega
  ·exact h3 b hb
def Qk (v:V):Bool:=if v.k=0 then (v.n == 0 && v.b == 0) else if v.k=1 then v.b == 0 else v.k == 2 && decide (1<=v.b)
theorem Jc (v:V) (h:za):vC Tryz.prog 125 [v.val] h (.bool (Qk v)):=by
 refine vC.of rfl ?_
 obtain ⟨k,n,b⟩:=v
 apply DJ
 unfold FF V.val Qk
 by_cases h0:k=0
 ·subst h0
  simp -implicitDefEqProofs only [zu,zG,zR,yR,zZ,qB,YX,zF,zP,yK,nth,nw,Value.cells,BK,Si,So,SG,Sy,SD,SF,Tx,SY,Tt,Sf,Sx,TU,Nat.reduceAdd,Int.reduceEq,Sp,uz,vE,Wi,zJ,ye,zw,Su,T8,zi,zq,yT,Vn,wm,uB]
  try rfl
 ·by_cases h1:k=1
  ·subst h1
   simp -implicitDefEqProofs only [zu,zG,zR,yR,zZ,qB,YX,zF,zP,yK,nw,Value.cells,BK,Si,So,SG,Sy,SD,SF,Tx,SY,Tt,Sf,Sx,Nat.reduceAdd,Sp,uz,vE,Wi,zJ,ye,zw,Su,zi,zq,yT,Vn,wm,uB,h0]
   try rfl
  ·by_cases h2:k=2
   ·subst h2
    simp -implicitDefEqProofs only [zu,zG,zR,zZ,jf,wj,qB,nt,YX,zF,zP,yK,nth,nw,Value.cells,BK,Si,So,SG,Sy,SD,SF,Tx,SY,Tt,Sf,Sx,TU,Nat.reduceAdd,Sp,uz,vE,Wi,zJ,ye,zw,Su,T8,zi,zq,yT,Vn,wm,uB,h0,h1]
    try rfl
   ·simp -implicitDefEqProofs only [zu,zG,zR,zZ,j6,yp,qB,YX,zF,zP,yK,nth,nw,Value.cells,BK,Si,So,SG,Sy,SD,SF,Tx,SY,Tt,Sf,Sx,Nat.reduceAdd,Sp,vE,Wi,zJ,ye,zw,Su,zi,zq,yT,Vn,wm,uB,h0,h1,h2]
    simp [h2]
theorem ZL (n:Int) (h:za):DC Tryz.prog 64 [.int .i64 n] h (fun v h1=>v=V.val ⟨1,n,0⟩/\ZR pL h h1):=by
 apply YA;intro hwf;have hro:=hwf.2
 apply Ij
 unfold N4 V.val
 simp -implicitDefEqProofs only [zu,zG,zR,qB,zP,yK,qS,nw,Value.cells,SG,Sy,SD,SF,Tf,Tw,zf,Te,S8,Tx,SY,Tt,Sf,Tm,Nat.reduceAdd,Tk,aab,Sp,qd,zJ,yg,vf,ye,zq,zL,vG,Ep,hro]
 exact ((ZR.refl _ _).push _).set (.inr (Sp _)) _
theorem Yb {n:Int} (h1 : -9223372036854775808<=n) (h2:n < 9223372036854775808):IntKind.wrap .i64 n=n:=by
 simp only [IntKind.wrap,IntKind.bits,IntKind.signed];simp;omega
def idx (M:MM) (n:Int):Option Nat:=if 1<=n/\n<=M.length then (match M[n.toNat - 1]? with
 | some B=>if B.jG=true then none else some (n.toNat - 1)
 | none=>none) else none
theorem iq {M:MM} {n:Int} {i:Nat} (h:idx M n=some i):n=i + 1 /\ ∃ B,M[i]? = some B/\B.jG=false:=by
 unfold idx at h
 split at h
 case isFalse=>cases h
 rename_i hn
 split at h
 case h_2=>cases h
 rename_i B hB
 split at h
 case isTrue=>cases h
 rename_i hf
 simp only [Se] at h
 subst h
 exact ⟨by omega,B,hB,by simpa using hf⟩
theorem IV {ps:List Nat} {i p:Nat} (h:ps[i]? = some p):(ps.map fun p=>Value.pointer (some ⟨p,0,none⟩))[i]? = some (.pointer (some ⟨p,0,none⟩)):=by simp [h]
theorem C0 {h:za} {m:Nat} {bs:Value} {ps:List Nat} {fs:Nat->Nat->Prop} {M:MM} {F:Nat->Prop} (x:i9 h m bs ps fs M F) {n:Int} (hn:n < 9223372036854775808) :
  DC Tryz.prog 82 [.pointer (some ⟨m,0,none⟩),.int .i64 n] h (fun v h1=>h1=h/\v=jV ((idx M n).bind fun i=>ps[i]?)):=by
 apply Ik
 unfold N5
 have hm:=x.hm
 by_cases h1:n < 1
 ·have e:idx M n=none:=by unfold idx;rw [Sl (by omega)]
  simp -implicitDefEqProofs only [zu,zG,zR,yR,WU,wj,vh,qB,qj,XJ,zF,zP,wy,Tg,Tk,uz,zw,XU,j0,h1,e,Tg,jV]
 ·rcases x.hb with ⟨rfl,rfl⟩ | ⟨bb,c,rfl,hc,fb,hbb,_⟩
  ·have e:idx ([]:MM) n=none:=by unfold idx;rw [Sl (by simp;omega)]
   have h2:((0:Nat):Int) < n:=by omega
   simp -implicitDefEqProofs only [zu,y9,zG,zR,yR,qU,WU,wj,yp,vh,qB,qj,X0,XJ,zF,zP,wy,yh,Tg,Si,Tk,uz,vE,zw,Su,XU,j0,Vf,h1,hm,h2,e,Tg,jV]
  ·by_cases h2:(M.length:Int) < n
   ·have e:idx M n=none:=by unfold idx;rw [Sl (by omega)]
    simp -implicitDefEqProofs only [zu,y9,zG,zR,yR,qU,WU,wj,yp,vh,qB,qj,X0,XJ,zF,zP,wy,yh,Tg,Si,Tk,uz,vE,zw,Su,XU,j0,Vf,h1,hm,h2,e,Tg,jV]
   ·have hi:n.toNat - 1 < M.length:=by omega
    obtain ⟨p,hp⟩:∃ p,ps[n.toNat - 1]? = some p:=⟨_,Sk (by rw [x.len];exact hi)⟩
    have hB:M[n.toNat - 1]? = some M[n.toNat - 1]:=Sk hi
    generalize M[n.toNat - 1]=B at hB
    obtain ⟨pg,hbk,_,_⟩:=x.Xf _ p B hp hB
    have hw:IntKind.wrap .i64 (n - 1)=n - 1:=Yb (by omega) (by omega)
    have ht:(n - 1).toNat * 1=n.toNat - 1:=by omega
    have hc1:0<=n - 1/\n - 1 < (M.length:Int):=by omega
    have hpp:=IV hp
    cases hf:B.jG with
    | true=>
      have e:idx M n=none:=by unfold idx;rw [Sn (by omega),hB];simp [hf]
      simp -implicitDefEqProofs only [zu,y9,zG,zR,yR,qU,yp,vh,qB,qj,X0,XJ,zF,zP,wy,yh,Tg,Si,So,Sy,Sf,Tk,vE,zw,Su,XU,Gr,Bu,j0,tw,B0,Vf,h1,hm,h2,hw,ht,hc1,hbb,hpp,hbk,hf,e,Tg,jV]
    | false=>
      have e:idx M n=some (n.toNat - 1):=by unfold idx;rw [Sn (by omega),hB];simp [hf]
      simp -implicitDefEqProofs only [zu,y9,zG,zR,zZ,qU,yp,vh,qB,qj,X0,XJ,zF,zP,wy,yh,SS,Si,So,Sy,Sf,Tk,aab,vE,zw,Su,XU,Gr,Bu,j0,tw,B0,Vf,h1,hm,h2,hw,ht,hc1,hbb,hpp,hbk,hf,e,SS,hp,jV]
def zp:List Value:=(List.replicate 64 [Value.int .u8 0,.int .u8 0,.int .i64 0,.int .i64 0,.int .i64 0]).flatten
theorem GI:xo Tryz.prog 184 []=some (.agg zp.toArray):=zH (by kernel_rfl)
theorem Ia:zp.length=320:=by kernel_rfl
theorem NS:∀ k j,k < 64->j < 5->zp[k * 5 + j]? = eu.YT[j]?:=by
 have h:(List.range 64).all (fun k=>(List.range 5).all fun j=>decide (k * 5 + j < zp.length))=true:=by decide +kernel
 have key:∀ k:Fin 64,∀ j:Fin 5,zp[k.1 * 5 + j.1]? = eu.YT[j.1]?:=by
  intro k j
  have hl:k.1 * 5 + j.1 < zp.length:=by rw [Ia];omega
  have e1:zp[k.1 * 5 + j.1]? = ([Value.int .u8 0,.int .u8 0,.int .i64 0,.int .i64 0,.int .i64 0]:List Value)[j.1]?:=by
   have aux:∀ (n:Nat) (l:List Value),l.length=5->∀ k j,k < n->j < 5->((List.replicate n l).flatten)[k * 5 + j]? = l[j]?:=by
    intro n l hl
    induction n with
    | zero=>intro k j hk;omega
    | succ n ih=>
      intro k j hk hj
      rw [List.replicate_succ,List.flatten_cons]
      cases k with
      | zero=>rw [Tl (by omega)];simp
      | succ k=>rw [Tu (by omega),hl,show (k + 1) * 5 + j - 5=k * 5 + j by omega];exact ih k j (by omega) hj
   exact aux 64 _ rfl k.1 j.1 k.2 j.2
  rw [e1];rfl
 exact fun k j hk hj=>key ⟨k,hk⟩ ⟨j,hj⟩
theorem NQ (v:Value) (n:Nat):ZV [v] (n * 1)=List.replicate n v:=by
 simp only [ZV,TN]
 apply TK
 intro i
 by_cases h:i < n
 ·simp [h,Nat.mod_one]
 ·simp [h]
theorem iQ {n j g:Nat} (h:(List.replicate n (none:Option Nat))[j]? = some (some g)):False:=by
 rw [List.getElem?_replicate] at h;split at h <;> cases h
theorem tG {gs:List (Option Nat)} {j:Nat} {o:Option Nat} (h:gs[j]? = some o):(gs.map jV)[j]? = some (jV o):=by simp [h]
theorem tH (gs:List (Option Nat)) (j g:Nat):(gs.map jV).set j (.pointer (some ⟨g,0,none⟩))=(gs.set j (some g)).map jV:=by rw [List.map_set];rfl
theorem E4 {h h1:za} {q j g:Nat} {gs:List (Option Nat)} {B:MB} {F:Nat->Prop} (hl:gs.length=(B.size + 63) / 64) (hg:∀ (j g:Nat),gs[j]? = some (some g)->F g/\eV h g (fun k=>B.byte (64 * j + k))) (hn:∀ j:Nat,gs[j]? = some none->∀ k,k < 64->B.byte (64 * j + k)=eu)
  (hd:∀ i j g:Nat,gs[i]? = some (some g)->gs[j]? = some (some g)->i=j) (ht:∀ k,64 * gs.length<=k->B.byte k=eu) (hj:gs[j]? = some none) (hq:h1.get q=some (.cells ((gs.set j (some g)).map jV) 159)) (fq:F q)
  (hold:∀ (i g:Nat),gs[i]? = some (some g)->h1.get g=h.get g) (hnew:h1.get g=some (.cells zp 184)) (fg:¬ F g):Xs h1 q (gs.set j (some g)) B (fun b=>F b\/b=g):=by
 have hlt:j < gs.length:=by
  rcases SC j gs.length with a | a
  ·exact a
  ·rw [Sr a] at hj;cases hj
 have hs:∀ i o,(gs.set j (some g))[i]? = some o->(i=j/\o=some g)\/(i ≠ j/\gs[i]? = some o):=by
  intro i o hi
  by_cases e:i=j
  ·subst e;rw [Tj hlt] at hi;exact .inl ⟨rfl,(aaq hi).symm⟩
  ·rw [TA (fun q=>e q.symm)] at hi;exact .inr ⟨e,hi⟩
 refine ⟨by simp [hl],.inl fq,hq,fun i g' hi => ?_,fun i hi => ?_,fun a b g' ha hb => ?_,by simpa using ht⟩
 ·rcases hs i _ hi with ⟨rfl,e⟩ | ⟨_,e⟩
  ·cases e
   refine ⟨.inr rfl,zp,hnew,Ia,fun k j' hk hj' => ?_⟩
   rw [NS k j' hk hj'];show _=(B.byte (64 * i + k)).YT[j']?;rw [hn i hj k hk]
  ·exact ⟨.inl (hg i g' e).1,(hg i g' e).2.zH (hold i g' e)⟩
 ·rcases hs i _ hi with ⟨_,e⟩ | ⟨_,e⟩
  ·cases e
  ·exact hn i e
 ·rcases hs a _ ha with ⟨e1,e2⟩ | ⟨_,e2⟩ <;> rcases hs b _ hb with ⟨e3,e4⟩ | ⟨_,e4⟩
  ·rw [e1,e3]
  ·cases e2;exact absurd (hg _ _ e4).1 fg
  ·cases e4;exact absurd (hg _ _ e2).1 fg
  ·exact hd a b g' e2 e4
section
variable {h:za} {p:Nat} {B:MB} {F:Nat->Prop} {pg:Value} {a:Int}
theorem LY (h0:0<=a) (h1:a < 4611686018427387904):IntKind.wrap .i64 (a.tdiv 64)=((a.toNat / 64:Nat):Int):=by
 rw [Int.tdiv_eq_ediv_of_nonneg h0,Yb (by omega) (by omega)];omega
def N0 (h:za) (B:MB) (F:Nat->Prop) (a:Int) (v:Value) (h1:za):Prop :=
 h1=h/\((v=jV none /\ ∀ k,k < 64->B.byte (64 * (a.toNat / 64) + k)=eu) \/ ∃ g,v=jV (some g)/\F g/\eV h g (fun k=>B.byte (64 * (a.toNat / 64) + k)))
theorem Ng (hb:h.get p=some (.cells [.int .i64 B.size,pg,.bool B.jG] 155)) (x:XS h pg B F) (h0:0<=a) (h1:a < B.size) (hz:B.size < 4611686018427387904) :
  DC Tryz.prog 83 [.pointer (some ⟨p,0,none⟩),.int .i64 a,.bool false] h (N0 h B F a):=by
 apply lL
 unfold AD
 cases x with
 | empty e u=>
   subst e
   simp -implicitDefEqProofs only [zu,zG,zR,yR,zZ,jf,wj,vh,qB,ZO,XJ,dF,zF,zP,wy,yh,nw,Value.cells,Si,So,Sy,Int.reduceEq,zw,Su,cD,zi,th,kE,VM,hb]
   exact ⟨rfl,.inl ⟨rfl,fun k _=>u _⟩⟩
 | full q c gs e x=>
   obtain ⟨hl,fq,hq,hg,hn,hd,ht⟩:=x
   subst e
   have hj:a.toNat / 64 < gs.length:=by rw [hl];omega
   have hw:=LY h0 (by omega)
   obtain ⟨o,ho⟩:∃ o,gs[a.toNat / 64]? = some o:=⟨_,Sk hj⟩
   have hgg:=tG ho
   have hc1:0<=((a.toNat / 64:Nat):Int)/\((a.toNat / 64:Nat):Int) < (gs.length:Int):=by omega
   cases o with
   | none=>
     simp -implicitDefEqProofs only [zu,zG,zR,zZ,jf,j6,wj,yp,vh,qB,dF,zF,zP,wy,yh,Q2,nw,Value.cells,Si,So,Sy,SD,SF,Tf,Tw,zf,Sf,Tm,Int.reduceEq,Tk,qd,vf,zw,Su,cD,gy,zi,Bx,JX,JY,kE,VM,iu,hb,hq,hw,hc1,SJ,TN,hgg,jV]
     exact ⟨rfl,.inl ⟨rfl,fun k hk=>hn _ ho k hk⟩⟩
   | some g=>
     simp -implicitDefEqProofs only [zu,zG,zR,zZ,j6,yp,vh,qB,dF,zF,zP,wy,yh,nw,Value.cells,Si,So,Sy,Sf,Int.reduceEq,Tk,zw,Su,cD,gy,zi,JY,eK,kE,VM,iu,hb,hq,hw,hc1,SJ,TN,hgg,jV]
     exact ⟨rfl,.inr ⟨g,rfl,hg _ g ho⟩⟩
def ra (h:za) (p:Nat) (B:MB) (F:Nat->Prop) (a:Int) (v:Value) (h1:za):Prop :=
 ∃ g q c gs F',v=jV (some g)/\h1.get p=some (.cells [.int .i64 B.size,.slice (some ⟨q,0,none⟩) gs.length c,.bool B.jG] 155)/\Xs h1 q gs B F'/\gs[a.toNat / 64]? = some (some g)/\F' p/\ZR F h h1/\(∀ b,F' b->F b\/h.next<=b) /\ ∀ b,F' b->h1.ro<=b/\b < h1.next
theorem ra.mk {h h1:za} {p q c g:Nat} {gs:List (Option Nat)} {B:MB} {F:Nat->Prop} {a:Int} (fp:F p) (ok:∀ b,F b->h.ro<=b/\b < h.next) (hl:gs.length=(B.size + 63) / 64) (hj:gs[a.toNat / 64]? = some none) (fq:F q\/h.next<=q)
  (hg:∀ (j g:Nat),gs[j]? = some (some g)->F g/\eV h g (fun k=>B.byte (64 * j + k))) (hn:∀ j:Nat,gs[j]? = some none->∀ k,k < 64->B.byte (64 * j + k)=eu)
  (hd:∀ i j g:Nat,gs[i]? = some (some g)->gs[j]? = some (some g)->i=j) (ht:∀ k,64 * gs.length<=k->B.byte k=eu)
  (XK:ZR F h h1) (hqn:q < h1.next) (hgn:h.next<=g/\g < h1.next) (hro:h.ro<=h.next)
  (hp1:h1.get p=some (.cells [.int .i64 B.size,.slice (some ⟨q,0,none⟩) gs.length c,.bool B.jG] 155)) (hq1:h1.get q=some (.cells ((gs.set (a.toNat / 64) (some g)).map jV) 159)) (hg1:h1.get g=some (.cells zp 184))
  (hold:∀ (i g:Nat),gs[i]? = some (some g)->h1.get g=h.get g):ra h p B F a (.pointer (some ⟨g,0,none⟩)) h1:=by
 have P:=E4 (F:=fun b=>F b\/b=q) (h1:=h1) hl (fun j g hj=>⟨.inl (hg j g hj).1,(hg j g hj).2⟩) hn hd ht hj hq1 (.inr rfl) hold hg1 (by
  rintro (e | e)
  ·have:=ok _ e;omega
  ·subst e;rw [hq1] at hg1;simp at hg1)
 have hlt:a.toNat / 64 < gs.length:=by
  rcases SC (a.toNat / 64) gs.length with e | e
  ·exact e
  ·rw [Sr e] at hj;cases hj
 refine ⟨g,q,c,_,_,rfl,by rw [TD];exact hp1,P,Tj hlt,.inl (.inl fp),XK,fun b hb => ?_,fun b hb => ?_⟩
 ·rcases hb with (hb | hb) | hb
  ·exact .inl hb
  ·subst hb;exact fq
  ·subst hb;exact .inr hgn.1
 ·have n1:=XK.next
  have n2:=XK.ro
  rcases hb with (hb | hb) | hb
  ·have:=ok b hb;omega
  ·subst hb
   rcases fq with fq | fq
   ·have:=ok b fq;omega
   ·omega
  ·subst hb;omega
theorem Hq (hb:h.get p=some (.cells [.int .i64 B.size,pg,.bool B.jG] 155)) (x:XS h pg B F) (fp:F p) (ok:∀ b,F b->h.ro<=b/\b < h.next) (hro:h.ro<=h.next) (h0:0<=a) (h1:a < B.size) (hz:B.size < 2147483648) :
  DC Tryz.prog 83 [.pointer (some ⟨p,0,none⟩),.int .i64 a,.bool true] h (ra h p B F a):=by
 apply lL
 unfold AD
 have hw:=LY h0 (by omega)
 have okp:=ok p fp
 have hpn:¬ p=h.next:=by omega
 have hnp:¬ h.next=p:=by omega
 have hpn1:¬ p=h.next + 1:=by omega
 cases x with
 | empty e u=>
   subst e
   have hn1:IntKind.wrap .i64 ((B.size:Int) + 64)=(B.size:Int) + 64:=Yb (by omega) (by omega)
   have hn2:IntKind.wrap .i64 ((B.size:Int) + 64 - 1)=((B.size + 63:Nat):Int):=by rw [Yb (by omega) (by omega)];omega
   have hn3:IntKind.wrap .i64 (((B.size + 63:Nat):Int).tdiv 64)=(((B.size + 63) / 64:Nat):Int):=by
    rw [Int.tdiv_eq_ediv_of_nonneg (by omega),Yb (by omega) (by omega)];omega
   have hm:=Nj .i64 .i64 (((B.size + 63) / 64:Nat):Int) (((B.size + 63) / 64:Nat):Int) h (by omega) (by omega) (by omega)
   have hj:a.toNat / 64 < (B.size + 63) / 64:=by omega
   have hj1:a.toNat / 64 + 1<=(B.size + 63) / 64:=hj
   have hc1:0<=((a.toNat / 64:Nat):Int)/\((a.toNat / 64:Nat):Int) < (((B.size + 63) / 64:Nat):Int):=by omega
   have hrep:(List.replicate ((B.size + 63) / 64) (Value.pointer none))[a.toNat / 64]? = some (.pointer none):=by simp [hj]
   have hset:∀ v:Value,((List.replicate ((B.size + 63) / 64) (Value.pointer none)).set (a.toNat / 64) v)[a.toNat / 64]? = some v:=fun v=>Tj (by simpa using hj)
   simp only [SJ,NQ] at hm
   simp -implicitDefEqProofs only [zu,y9,zG,zR,yR,zZ,jf,wj,vh,qB,ZO,XJ,dF,zF,zP,wy,yh,yK,Q2,VF,nw,Value.cells,Si,So,SG,Sy,SD,SF,List.length_replicate,Tf,Tw,zf,Te,S8,Sf,Tm,Nat.reduceAdd,Nat.reduceLeDiff,Int.reduceEq,Tk,yo,qA,qd,Kd,zJ,zU,yg,zS,eQ,cR,vf,zw,Su,cD,gy,zi,MG,Bx,th,JX,JY,kE,VM,iu,hb,hn1,hn2,hn3,hm,okp,hpn,hnp,hw,hc1,SJ,TN,hrep,GI,hj1,hro,hset]
   have hnn:¬ h.next + 1=h.next:=by omega
   have hrl:(List.replicate ((B.size + 63) / 64) (none:Option Nat)).length=(B.size + 63) / 64:=List.length_replicate
   refine ra.mk (q:=h.next) (c:=(B.size + 63) / 64 + 2) (gs:=List.replicate ((B.size + 63) / 64) none) fp ok hrl (by simp [hj]) (.inr (Sp _)) (fun j g hj=>(iQ hj).elim) (fun _ _ k _=>u _) (fun i j g hi=>(iQ hi).elim) (fun k _=>u k)
    ?_ ?_ ?_ hro ?_ ?_ ?_ (fun i g hi=>(iQ hi).elim)
   ·exact ((((ZR.refl F h).push _).set (.inl fp) _).push _).set (.inr (Sp _)) _
   ·simp only [qA,yo];omega
   ·simp only [qA,yo];omega
   ·rw [hrl];simp -implicitDefEqProofs only [yo,qA,zU,yg,zS,cR,Su,hpn,okp]
   ·simp -implicitDefEqProofs only [yg];rw [<- tH,List.map_replicate];rfl
   ·simp -implicitDefEqProofs only [yo,qA,zJ,zS,Su,hnn]
 | full q c gs e x=>
   obtain ⟨hl,fq,hq,hg,hn,hd,ht⟩:=x
   subst e
   have hj:a.toNat / 64 < gs.length:=by rw [hl];omega
   have hj1:a.toNat / 64 + 1<=gs.length:=hj
   obtain ⟨o,ho⟩:∃ o,gs[a.toNat / 64]? = some o:=⟨_,Sk hj⟩
   have hgg:=tG ho
   have hc1:0<=((a.toNat / 64:Nat):Int)/\((a.toNat / 64:Nat):Int) < (gs.length:Int):=by omega
   have okq:=ok q fq
   cases o with
   | some g=>
     simp -implicitDefEqProofs only [zu,zG,zR,zZ,j6,yp,vh,qB,dF,zF,zP,wy,yh,nw,Value.cells,Si,So,Sy,Sf,Int.reduceEq,Tk,zw,Su,cD,gy,zi,JY,eK,kE,VM,iu,hb,hq,hw,hc1,SJ,TN,hgg,jV]
     exact ⟨g,q,c,gs,F,rfl,hb,⟨hl,fq,hq,hg,hn,hd,ht⟩,ho,fp,.refl _ _,fun b hb => .inl hb,ok⟩
   | none=>
     have hqn:¬ q=h.next:=by omega
     have hnq:¬ h.next=q:=by omega
     have hpq:¬ p=q:=by intro e;subst e;rw [hb] at hq;simp at hq
     have hset:∀ v:Value,((gs.map jV).set (a.toNat / 64) v)[a.toNat / 64]? = some v:=fun v=>Tj (by simpa using hj)
     simp -implicitDefEqProofs only [zu,zG,zR,yR,zZ,jf,j6,wj,yp,vh,qB,dF,zF,zP,wy,yh,yK,Q2,nw,Value.cells,Si,So,SG,Sy,SD,SF,SX,Tf,Tw,zf,Sf,Tm,Int.reduceEq,Tk,qd,zU,yg,zS,vf,zw,Su,cD,gy,zi,Bx,JX,JY,kE,VM,iu,hb,hq,hw,hc1,SJ,TN,hgg,jV,GI,okq,okp,hj1,hset,hpq]
     refine ra.mk (q:=q) (c:=c) (gs:=gs) fp ok hl ho (.inl fq) hg hn hd ht ?_ ?_ ?_ hro ?_ ?_ ?_ (fun i g hi => ?_)
     ·exact ((ZR.refl F h).push _).set (.inl fq) _
     ·simp only [qA,yo];omega
     ·simp only [qA,yo];omega
     ·simp -implicitDefEqProofs only [zU,zS,Su,hpq,okp,hb]
     ·simp -implicitDefEqProofs only [yg];rw [<- tH]
     ·simp -implicitDefEqProofs only [zJ,zS,Su,hnq]
     ·have hgq:¬ g=q:=by
       intro e;subst e
       obtain ⟨cs,e1,_⟩:=(hg i g hi).2
       rw [hq] at e1;simp at e1
      have:=(ok g (hg i g hi).1).2
      simp -implicitDefEqProofs only [zU,zS,Su,hgq,this]
end
def right (M:MM) (c:Int) (p:V):Option Nat :=
 if p.k=2/\(c=1\/c=4\/c=8) then (match idx M p.b with
  | some i=>(match M[i]? with
    | some B=>if 0<=p.n/\p.n<=B.size - c/\p.n.tmod c=0 then some i else none
    | none=>none)
  | none=>none) else none
theorem iR {M:MM} {c:Int} {p:V} {i:Nat} (h:right M c p=some i):p.k=2/\(c=1\/c=4\/c=8)/\idx M p.b=some i /\ ∃ B,M[i]? = some B/\0<=p.n/\p.n<=B.size - c/\p.n.tmod c=0:=by
 unfold right at h
 split at h
 case isFalse=>cases h
 rename_i h1
 split at h
 case h_2=>cases h
 rename_i j hj
 split at h
 case h_2=>cases h
 rename_i B hB
 split at h
 case isFalse=>cases h
 rename_i h2
 simp only [Se] at h
 subst h
 exact ⟨h1.1,h1.2,hj,B,hB,h2⟩
theorem VQ {M:MM} {c:Int} {p:V} {i:Nat} {B:MB} (hi:idx M p.b=some i) (hB:M[i]? = some B) (h:¬ (0<=p.n/\p.n<=B.size - c/\p.n.tmod c=0)):right M c p=none:=by
 unfold right
 split
 ·simp only [hi,hB];exact Sl h
 ·rfl
theorem nW {M:MM} {c:Int} {p:V} {i:Nat} {B:MB} (hk:p.k=2) (hc:c=1\/c=4\/c=8) (hi:idx M p.b=some i) (hB:M[i]? = some B) (h:0<=p.n/\p.n<=B.size - c/\p.n.tmod c=0):right M c p=some i:=by
 unfold right
 rw [Sn ⟨hk,hc⟩]
 simp only [hi,hB];exact Sn h
def Ie (h:za) (f:Nat->Cl) (n c:Nat) (F:Nat->Prop) (v:Value):Prop :=
 (v = .slice none 0 0 /\ ∀ k,k < c->f (n + k)=eu) \/ ∃ g off cs cp,v = .slice (some ⟨g,off,none⟩) c cp/\F g/\h.get g=some (.cells cs 184)/\off + c * 5<=cs.length/\off=n % 64 * 5 /\ ∀ k j,k < c->j < 5->cs[off + k * 5 + j]? = (f (n + k)).YT[j]?
def PW (h:za) (M:MM) (F:Nat->Prop) (c:Int) (p:V) (v:Value) (h1:za):Prop :=
 ZR pL h h1/\match right M c p with
  | none=>v = .tuple #[.slice none 0 0,.bool false]
  | some i => ∃ s,v = .tuple #[s,.bool true] /\ ∀ B,M[i]? = some B->Ie h1 B.byte p.n.toNat c.toNat F s
def YU (n:Int):Prop := -9223372036854775808<=n/\n < 9223372036854775808
def V.ok (v:V):Prop:=YU v.k/\YU v.n/\YU v.b
def small (M:MM):Prop := ∀ (i:Nat) (B:MB),M[i]? = some B->B.size < 2147483648
section
variable {h:za} {m:Nat} {bs:Value} {ps:List Nat} {fs:Nat->Nat->Prop} {M:MM} {F:Nat->Prop} {c:Int} {p:V}
theorem Gl (x:i9 h m bs ps fs M F) (hs:small M) (hc:YU c) (hp:p.ok) :
  DC Tryz.prog 126 [.pointer (some ⟨m,0,none⟩),.int .i64 c,p.val,.bool false] h (PW h M F c p):=by
 obtain ⟨pk,pn,pb⟩:=p
 obtain ⟨hp1,hp2,hp3⟩:=hp
 unfold YU at hc hp1 hp2 hp3
 simp only at hp1 hp2 hp3
 apply dv
 unfold eW V.val
 have x1:i9 (h.push (.cells [.int .i64 pk,.int .i64 pn,.int .i64 pb] 64)) m bs ps fs M F:=x.zH (fun b hb=>zU (x.ok b hb).2) (TR _)
 have XK:ZR pL h (h.push (.cells [.int .i64 pk,.int .i64 pn,.int .i64 pb] 64)):=(ZR.refl _ _).push _
 by_cases hk:pk=2
 case neg=>
  have e:right M c ⟨pk,pn,pb⟩=none:=by unfold right;rw [Sl (fun q=>hk q.1)]
  simp -implicitDefEqProofs only [zu,zG,zR,yR,WU,Cz,wj,uM,ZP,zF,zP,yh,yK,nw,Value.cells,Si,SG,Sy,vE,zJ,zw,Su,S9,yQ,zi,wm,wi,uB,hk]
  exact ⟨XK,by rw [e]⟩
 subst hk
 by_cases hcc:c=1\/c=4\/c=8
 case neg=>
  have e:right M c ⟨2,pn,pb⟩=none:=by unfold right;rw [Sl (fun q=>hcc q.2)]
  have n1:¬ c=1:=fun q=>hcc (.inl q)
  have n4:¬ c=4:=fun q=>hcc (.inr (.inl q))
  have n8:¬ c=8:=fun q=>hcc (.inr (.inr q))
  simp -implicitDefEqProofs only [zu,zG,zR,yR,jf,qU,wj,yp,uM,ZP,zF,zP,yh,yK,nw,Value.cells,Si,SG,Sy,uz,vE,zJ,zw,Su,Ts,S9,yQ,zi,wm,wi,uB,n1,n4,n8]
  exact ⟨XK,by rw [e]⟩
 have hat:=C0 x1 hp3.2
 cases hi:idx M pb with
 | none=>
   have e:right M c ⟨2,pn,pb⟩=none:=by unfold right;rw [Sn ⟨rfl,hcc⟩];simp only [hi]
   rw [hi] at hat
   rcases hcc with rfl | rfl | rfl <;> simp -implicitDefEqProofs only [zu,zG,zR,zZ,jf,qU,j6,wj,yp,uM,ZP,zF,zP,yh,yK,nth,nw,Value.cells,Si,So,SG,Sy,Int.reduceEq,uz,vE,zJ,zw,Su,Ts,S9,yQ,zi,wm,wi,uB] <;> refine z7 (by kernel_rfl) rfl hat ?_ <;> rintro v h1 ⟨rfl,rfl⟩ <;> simp -implicitDefEqProofs only [zu,zG,zR,yR,WU,wj,zF,wy,Tg,JW,Tg,jV] <;> exact ⟨XK,by rw [e]⟩
 | some i=>
   obtain ⟨hpb,B,hB,hf⟩:=iq hi
   obtain ⟨q,hq⟩:∃ q,ps[i]? = some q:=by
    have hlt:i < M.length:=by
     rcases SC i M.length with a | a
     ·exact a
     ·rw [Sr a] at hB;cases hB
    exact ⟨_,Sk (by rw [x.len];exact hlt)⟩
   obtain ⟨pg,hbk,fq,hpg⟩:=x1.Xf i q B hq hB
   have hz:=hs i B hB
   rw [hi] at hat
   have hcb:1<=c/\c<=8:=by omega
   have hcn:¬ c=0:=by omega
   have hw:IntKind.wrap .i64 ((B.size:Int) - c)=(B.size:Int) - c:=Yb (by omega) (by omega)
   by_cases h0:pn < 0
   ·have e:=VQ (p:=⟨2,pn,pb⟩) (c:=c) hi hB (fun q=>by have:0<=pn:=q.1;omega)
    rcases hcc with rfl | rfl | rfl
    all_goals
     simp -implicitDefEqProofs only [zu,zG,zR,zZ,jf,qU,j6,wj,yp,uM,ZP,zF,zP,yh,yK,nth,nw,Value.cells,Si,So,SG,Sy,Int.reduceEq,uz,vE,zJ,zw,Su,Ts,S9,yQ,zi,wm,wi,uB]
     refine z7 (by kernel_rfl) rfl hat ?_
     rintro v h1 ⟨rfl,rfl⟩
     simp -implicitDefEqProofs only [zu,zG,zR,yR,qU,WU,wj,yp,qj,zF,zP,wy,SS,Si,So,uz,zJ,zw,yQ,Xo,hq,jV,h0]
     exact ⟨XK,by rw [e]⟩
   by_cases h1:(B.size:Int) - c < pn
   ·have e:=VQ (p:=⟨2,pn,pb⟩) (c:=c) hi hB (fun q=>by have:pn<=B.size - c:=q.2.1;omega)
    rcases hcc with rfl | rfl | rfl
    all_goals
     simp -implicitDefEqProofs only [zu,zG,zR,zZ,jf,qU,j6,wj,yp,uM,ZP,zF,zP,yh,yK,nth,nw,Value.cells,Si,So,SG,Sy,Int.reduceEq,uz,vE,zJ,zw,Su,Ts,S9,yQ,zi,wm,wi,uB]
     refine z7 (by kernel_rfl) rfl hat ?_
     rintro v h1 ⟨rfl,rfl⟩
     simp -implicitDefEqProofs only [zu,zG,zR,yR,qU,WU,wj,yp,vh,qj,X0,XJ,zF,zP,wy,SS,Si,So,uz,vE,zJ,zw,Su,yQ,zi,Xo,kE,hq,jV,h0,hbk,hw,h1]
     exact ⟨XK,by rw [e]⟩
   by_cases h2:pn.tmod c=0
   case neg=>
    have e:=VQ (p:=⟨2,pn,pb⟩) (c:=c) hi hB (fun q=>h2 q.2.2)
    rcases hcc with rfl | rfl | rfl
    all_goals
     simp -implicitDefEqProofs only [zu,zG,zR,zZ,jf,qU,j6,wj,yp,uM,ZP,zF,zP,yh,yK,nth,nw,Value.cells,Si,So,SG,Sy,Int.reduceEq,uz,vE,zJ,zw,Su,Ts,S9,yQ,zi,wm,wi,uB]
     refine z7 (by kernel_rfl) rfl hat ?_
     rintro v h1 ⟨rfl,rfl⟩
     simp -implicitDefEqProofs only [zu,zG,zR,yR,qU,yp,vh,qj,X0,ZP,XJ,KB,zF,zP,wy,SS,Si,So,Int.reduceEq,vE,zJ,zw,Su,S9,yQ,zi,Xo,kE,hq,jV,h0,hbk,hw,h1,h2]
     exact ⟨XK,by rw [e]⟩
   have e:=nW (p:=⟨2,pn,pb⟩) (c:=c) rfl hcc hi hB ⟨by show 0<=pn;omega,by show pn<=_;omega,h2⟩
   have hmd:=Ng hbk hpg (a:=pn) (by omega) (by omega) (by omega)
   have hr1:pn.tmod 64=((pn.toNat % 64:Nat):Int):=by rw [TL (by omega)];omega
   have hr2:IntKind.wrap .i64 (((pn.toNat % 64:Nat):Int) + c)=((pn.toNat % 64:Nat):Int) + c:=Yb (by omega) (by omega)
   have hin:((pn.toNat % 64:Nat):Int) + c<=64:=by
    rw [TL (by omega)] at h2
    rcases hcc with rfl | rfl | rfl <;> omega
   have hb1:0<=((pn.toNat % 64:Nat):Int) + c/\((pn.toNat % 64:Nat):Int) + c<=((64:Nat):Int):=by omega
   have hb2:0<=((pn.toNat % 64:Nat):Int)/\((pn.toNat % 64:Nat):Int)<=((((pn.toNat % 64:Nat):Int) + c).toNat:Int):=by omega
   have hb3:¬ 64=pn.toNat % 64:=by omega
   have hb4:(((pn.toNat % 64:Nat):Int) + c).toNat - pn.toNat % 64=c.toNat:=by omega
   rcases hcc with rfl | rfl | rfl
   all_goals
    simp -implicitDefEqProofs only [zu,zG,zR,zZ,jf,qU,j6,wj,yp,uM,ZP,zF,zP,yh,yK,nth,nw,Value.cells,Si,So,SG,Sy,Int.reduceEq,uz,vE,zJ,zw,Su,Ts,S9,yQ,zi,wm,wi,uB]
    refine z7 (by kernel_rfl) rfl hat ?_
    rintro v h1 ⟨rfl,rfl⟩
    simp -implicitDefEqProofs only [zu,zG,zR,zZ,qU,yp,vh,qj,X0,ZP,XJ,KB,zF,zP,wy,SS,nth,Si,So,Int.reduceEq,uz,vE,zJ,zw,Su,Ts,yQ,zi,Xo,kE,hq,jV,h0,hbk,hw,h1,h2]
    refine z7 (by kernel_rfl) rfl hmd ?_
    rintro v h1 ⟨rfl,⟨rfl,hu⟩ | ⟨g,rfl,fg,hpage⟩⟩
    ·simp -implicitDefEqProofs only [zu,zG,zR,yR,wy,JX,jV]
     refine ⟨XK,?_⟩
     rw [e]
     refine ⟨_,rfl,fun B' hB' => .inl ⟨rfl,fun k hk => ?_⟩⟩
     rw [hB] at hB';cases hB'
     have:=hu (pn.toNat % 64 + k) (by omega)
     rw [show 64 * (pn.toNat / 64) + (pn.toNat % 64 + k)=pn.toNat + k by omega] at this
     exact this
    ·simp -implicitDefEqProofs only [zu,zG,zR,zZ,vh,uM,ZO,KB,zF,zP,wy,yh,aI,SA,Wr,SS,Si,So,Sy,Sf,Sx,Tm,Int.reduceEq,Int.reduceToNat,Tk,aab,zJ,Su,eK,HT,jV,hr1,hr2,hb1,hb2,hb3,hb4,SJ]
     refine ⟨XK,?_⟩
     rw [e]
     refine ⟨_,rfl,fun B' hB' => .inr ?_⟩
     rw [hB] at hB';cases hB'
     obtain ⟨cs,hgc,hlen,hcs⟩:=hpage
     refine ⟨g,_,cs,0,rfl,x.sub i g fg,hgc,by rw [hlen];omega,rfl,fun k j hk hj => ?_⟩
     have:=hcs (pn.toNat % 64 + k) j (by omega) hj
     rw [show (pn.toNat % 64 + k) * 5 + j=pn.toNat % 64 * 5 + k * 5 + j by omega] at this
     rw [this]
     show (B.byte (64 * (pn.toNat / 64) + (pn.toNat % 64 + k))).YT[j]? = _
     rw [show 64 * (pn.toNat / 64) + (pn.toNat % 64 + k)=pn.toNat + k by omega]
def DA (h:za) (m:Nat) (M:MM) (F:Nat->Prop) (c:Int) (p:V) (v:Value) (h1:za):Prop :=
 match right M c p with
 | none=>v = .tuple #[.slice none 0 0,.bool false]/\ZR pL h h1
 | some i => ∃ g bs ps fs F' q qp cq gs B,M[i]? = some B/\v = .tuple #[.slice (some ⟨g,p.n.toNat % 64 * 5,none⟩) c.toNat 0,.bool true]/\XR h1 m bs ps fs M F'/\ps[i]? = some qp /\
   h1.get qp=some (.cells [.int .i64 B.size,.slice (some ⟨q,0,none⟩) gs.length cq,.bool B.jG] 155)/\fs i qp/\Xs h1 q gs B (fs i)/\gs[p.n.toNat / 64]? = some (some g)/\ZR F h h1 /\ ∀ b,F' b->F b\/h.next<=b
theorem Gm (hro:h.ro<=h.next) (x:XR h m bs ps fs M F) (hs:small M) (hc:YU c) (hp:p.ok) :
  DC Tryz.prog 126 [.pointer (some ⟨m,0,none⟩),.int .i64 c,p.val,.bool true] h (DA h m M F c p):=by
 obtain ⟨pk,pn,pb⟩:=p
 obtain ⟨hp1,hp2,hp3⟩:=hp
 unfold YU at hc hp1 hp2 hp3
 simp only at hp1 hp2 hp3
 apply dv
 unfold eW V.val
 have x1:XR (h.push (.cells [.int .i64 pk,.int .i64 pn,.int .i64 pb] 64)) m bs ps fs M F:=x.zH (fun b hb=>zU (x.ok b hb).2) (TR _) rfl
 have XK:ZR pL h (h.push (.cells [.int .i64 pk,.int .i64 pn,.int .i64 pb] 64)):=(ZR.refl _ _).push _
 have no:∀ {c},right M c ⟨pk,pn,pb⟩=none->DA h m M F c ⟨pk,pn,pb⟩ (.tuple #[.slice none 0 0,.bool false]) (h.push (.cells [.int .i64 pk,.int .i64 pn,.int .i64 pb] 64)):=fun e=>by
  unfold DA;rw [e];exact ⟨rfl,XK⟩
 by_cases hk:pk=2
 case neg=>
  have e:right M c ⟨pk,pn,pb⟩=none:=by unfold right;rw [Sl (fun q=>hk q.1)]
  simp -implicitDefEqProofs only [zu,zG,zR,yR,WU,Cz,wj,uM,ZP,zF,zP,yh,yK,nw,Value.cells,Si,SG,Sy,vE,zJ,zw,Su,S9,yQ,zi,wm,wi,uB,hk]
  exact no e
 subst hk
 by_cases hcc:c=1\/c=4\/c=8
 case neg=>
  have e:right M c ⟨2,pn,pb⟩=none:=by unfold right;rw [Sl (fun q=>hcc q.2)]
  have n1:¬ c=1:=fun q=>hcc (.inl q)
  have n4:¬ c=4:=fun q=>hcc (.inr (.inl q))
  have n8:¬ c=8:=fun q=>hcc (.inr (.inr q))
  simp -implicitDefEqProofs only [zu,zG,zR,yR,jf,qU,wj,yp,uM,ZP,zF,zP,yh,yK,nw,Value.cells,Si,SG,Sy,uz,vE,zJ,zw,Su,Ts,S9,yQ,zi,wm,wi,uB,n1,n4,n8]
  exact no e
 have hat:=C0 x1.r hp3.2
 cases hi:idx M pb with
 | none=>
   have e:right M c ⟨2,pn,pb⟩=none:=by unfold right;rw [Sn ⟨rfl,hcc⟩];simp only [hi]
   rw [hi] at hat
   rcases hcc with rfl | rfl | rfl <;> simp -implicitDefEqProofs only [zu,zG,zR,zZ,jf,qU,j6,wj,yp,uM,ZP,zF,zP,yh,yK,nth,nw,Value.cells,Si,So,SG,Sy,Int.reduceEq,uz,vE,zJ,zw,Su,Ts,S9,yQ,zi,wm,wi,uB] <;> refine z7 (by kernel_rfl) rfl hat ?_ <;> rintro v h1 ⟨rfl,rfl⟩ <;> simp -implicitDefEqProofs only [zu,zG,zR,yR,WU,wj,zF,wy,Tg,JW,Tg,jV] <;> exact no e
 | some i=>
   obtain ⟨hpb,B,hB,hf⟩:=iq hi
   obtain ⟨q,hq⟩:∃ q,ps[i]? = some q:=by
    have hlt:i < M.length:=by
     rcases SC i M.length with a | a
     ·exact a
     ·rw [Sr a] at hB;cases hB
    exact ⟨_,Sk (by rw [x.len];exact hlt)⟩
   obtain ⟨pg,hbk,fq,hpg⟩:=x1.Xf i q B hq hB
   have hz:=hs i B hB
   rw [hi] at hat
   have hcb:1<=c/\c<=8:=by omega
   have hcn:¬ c=0:=by omega
   have hw:IntKind.wrap .i64 ((B.size:Int) - c)=(B.size:Int) - c:=Yb (by omega) (by omega)
   by_cases h0:pn < 0
   ·have e:=VQ (p:=⟨2,pn,pb⟩) (c:=c) hi hB (fun q=>by have:0<=pn:=q.1;omega)
    rcases hcc with rfl | rfl | rfl
    all_goals
     simp -implicitDefEqProofs only [zu,zG,zR,zZ,jf,qU,j6,wj,yp,uM,ZP,zF,zP,yh,yK,nth,nw,Value.cells,Si,So,SG,Sy,Int.reduceEq,uz,vE,zJ,zw,Su,Ts,S9,yQ,zi,wm,wi,uB]
     refine z7 (by kernel_rfl) rfl hat ?_
     rintro v h1 ⟨rfl,rfl⟩
     simp -implicitDefEqProofs only [zu,zG,zR,yR,qU,WU,wj,yp,qj,zF,zP,wy,SS,Si,So,uz,zJ,zw,yQ,Xo,hq,jV,h0]
     exact no e
   by_cases h1:(B.size:Int) - c < pn
   ·have e:=VQ (p:=⟨2,pn,pb⟩) (c:=c) hi hB (fun q=>by have:pn<=B.size - c:=q.2.1;omega)
    rcases hcc with rfl | rfl | rfl
    all_goals
     simp -implicitDefEqProofs only [zu,zG,zR,zZ,jf,qU,j6,wj,yp,uM,ZP,zF,zP,yh,yK,nth,nw,Value.cells,Si,So,SG,Sy,Int.reduceEq,uz,vE,zJ,zw,Su,Ts,S9,yQ,zi,wm,wi,uB]
     refine z7 (by kernel_rfl) rfl hat ?_
     rintro v h1 ⟨rfl,rfl⟩
     simp -implicitDefEqProofs only [zu,zG,zR,yR,qU,WU,wj,yp,vh,qj,X0,XJ,zF,zP,wy,SS,Si,So,uz,vE,zJ,zw,Su,yQ,zi,Xo,kE,hq,jV,h0,hbk,hw,h1]
     exact no e
   by_cases h2:pn.tmod c=0
   case neg=>
    have e:=VQ (p:=⟨2,pn,pb⟩) (c:=c) hi hB (fun q=>h2 q.2.2)
    rcases hcc with rfl | rfl | rfl
    all_goals
     simp -implicitDefEqProofs only [zu,zG,zR,zZ,jf,qU,j6,wj,yp,uM,ZP,zF,zP,yh,yK,nth,nw,Value.cells,Si,So,SG,Sy,Int.reduceEq,uz,vE,zJ,zw,Su,Ts,S9,yQ,zi,wm,wi,uB]
     refine z7 (by kernel_rfl) rfl hat ?_
     rintro v h1 ⟨rfl,rfl⟩
     simp -implicitDefEqProofs only [zu,zG,zR,yR,qU,yp,vh,qj,X0,ZP,XJ,KB,zF,zP,wy,SS,Si,So,Int.reduceEq,vE,zJ,zw,Su,S9,yQ,zi,Xo,kE,hq,jV,h0,hbk,hw,h1,h2]
     exact no e
   have e:=nW (p:=⟨2,pn,pb⟩) (c:=c) rfl hcc hi hB ⟨by show 0<=pn;omega,by show pn<=_;omega,h2⟩
   have hmd:=Hq hbk hpg fq (fun b hb=>x1.ok b (x1.sub i b hb)) (by simp only [yo,qd];omega) (a:=pn) (by omega) (by omega) (by omega)
   have hr1:pn.tmod 64=((pn.toNat % 64:Nat):Int):=by rw [TL (by omega)];omega
   have hr2:IntKind.wrap .i64 (((pn.toNat % 64:Nat):Int) + c)=((pn.toNat % 64:Nat):Int) + c:=Yb (by omega) (by omega)
   have hin:((pn.toNat % 64:Nat):Int) + c<=64:=by
    rw [TL (by omega)] at h2
    rcases hcc with rfl | rfl | rfl <;> omega
   have hb1:0<=((pn.toNat % 64:Nat):Int) + c/\((pn.toNat % 64:Nat):Int) + c<=((64:Nat):Int):=by omega
   have hb2:0<=((pn.toNat % 64:Nat):Int)/\((pn.toNat % 64:Nat):Int)<=((((pn.toNat % 64:Nat):Int) + c).toNat:Int):=by omega
   have hb3:¬ 64=pn.toNat % 64:=by omega
   have hb4:(((pn.toNat % 64:Nat):Int) + c).toNat - pn.toNat % 64=c.toNat:=by omega
   have hbox:∀ h1,ZR (fs i) (h.push (.cells [.int .i64 2,.int .i64 pn,.int .i64 pb] 64)) h1->h1.get h.next=some (.cells [.int .i64 2,.int .i64 pn,.int .i64 pb] 64):=fun h1 ef=>by
    rw [ef.get h.next (fun hc=>by have:=(x.ok _ (x.sub i _ hc)).2;omega) (by simp only [yo];omega),yd]
   rcases hcc with rfl | rfl | rfl
   all_goals
    simp -implicitDefEqProofs only [zu,zG,zR,zZ,jf,qU,j6,wj,yp,uM,ZP,zF,zP,yh,yK,nth,nw,Value.cells,Si,So,SG,Sy,Int.reduceEq,uz,vE,zJ,zw,Su,Ts,S9,yQ,zi,wm,wi,uB]
    refine z7 (by kernel_rfl) rfl hat ?_
    rintro v h1 ⟨rfl,rfl⟩
    simp -implicitDefEqProofs only [zu,zG,zR,zZ,qU,yp,vh,qj,X0,ZP,XJ,KB,zF,zP,wy,SS,nth,Si,So,Int.reduceEq,uz,vE,zJ,zw,Su,Ts,yQ,zi,Xo,kE,hq,jV,h0,hbk,hw,h1,h2]
    refine z7 (by kernel_rfl) rfl hmd ?_
    rintro v h1 ⟨g,pq,cq,gs,F',rfl,hbk1,hfull,hgs,fp1,ef,hsub,hok⟩
    have hbx:=hbox h1 ef
    simp -implicitDefEqProofs only [zu,zG,zR,zZ,vh,uM,ZO,KB,zF,zP,wy,yh,aI,SA,Wr,SS,Si,So,Sy,Sf,Sx,Tm,Int.reduceEq,Int.reduceToNat,Tk,aab,Su,eK,HT,jV,hr1,hr2,hb1,hb2,hb3,hb4,SJ,hbx]
    unfold DA
    rw [e]
    have y:=x1.pX hq hB rfl ef ⟨_,hbk1,fp1,.full pq cq gs rfl hfull⟩ hsub hok
    rw [Aj hB] at y
    refine ⟨g,_,_,_,_,pq,q,cq,gs,B,hB,rfl,y,hq,hbk1,by simp only [Sf];exact fp1,by simp only [Sf];exact hfull,hgs,(XK.mono (fun _ h=>h.elim)).trans (ef.mono (fun b hb=>x.sub i b hb)),fun b hb => ?_⟩
    rcases hb with hb | hb
    ·exact .inl hb
    ·rcases hsub b hb with hb | hb
     ·exact .inl (x.sub i b hb)
     ·exact .inr (by have:h.next + 1<=b:=hb;omega)
end
def E1 (f:Nat->Cl) (n:Nat):Nat->Int
 | 0=>0
 | k + 1=>IntKind.wrap .u64 ((BitVec.ofInt 64 (E1 f n k) ||| BitVec.ofInt 64 (IntKind.wrap .u64 (IntKind.wrap .u64 (f (n + k)).n * 2 ^ (8 * k)))).toNat)
def WK (f:Nat->Cl) (n:Nat):Nat->Bool
 | 0=>true
 | k + 1=>WK f n k && decide ((f (n + k)).k=1)
def XW (f:Nat->Cl) (n:Nat) (c:Int):Nat->Bool
 | 0=>decide (c=8)
 | k + 1=>XW f n c k && decide ((f (n + k)).k=2) && decide (IntKind.wrap .i64 (f (n + k)).n=k) && decide ((f (n + k)).p=(f n).p)
def aB (f:Nat->Cl) (n:Nat) (c:Int):V :=
 if WK f n c.toNat=true then ⟨1,if c=8 then IntKind.wrap .i64 (E1 f n c.toNat) else if c=4 then IntKind.wrap .i64 (IntKind.wrap .i32 (E1 f n c.toNat)) else IntKind.wrap .i64 (IntKind.wrap .i8 (E1 f n c.toNat)),0⟩
 else if XW f n c c.toNat=true then (f n).p else v0
def Qo (M:MM) (c:Int) (p:V):Option V:=match right M c p with
 | none=>none
 | some i=>(M[i]?).map fun B=>aB B.byte p.n.toNat c
def lK (M:MM) (c:Int) (p:V) (v:Value):Prop:=match Qo M c p with
 | none=>v = .tuple #[v0.val,.bool false]
 | some a=>v = .tuple #[a.val,.bool true]
theorem dp {cs:List Value} {o:Nat} {c:Cl} (h:∀ j,j < 5->cs[o + j]? = c.YT[j]?):(cs.drop o).take 5=c.YT:=by
 apply TK
 intro j
 by_cases hj:j < 5
 ·rw [Td hj,S5];exact h j hj
 ·rw [Sr (by simp;omega),Sr (by show 5<=j;omega)]
theorem H4 {cs:List Value} {o:Nat} {c:Cl} (h:∀ j,j < 5->cs[o + j]? = c.YT[j]?):(cs.drop (o + 2)).take 3 = [.int .i64 c.p.k,.int .i64 c.p.n,.int .i64 c.p.b]:=by
 have:=congrArg (List.drop 2) (dp h)
 rw [List.drop_take,List.drop_drop] at this
 exact this
theorem PV (a b:V):((a.k == b.k) && ((a.n == b.n) && (a.b == b.b)))=decide (a=b):=by
 obtain ⟨a1,a2,a3⟩:=a
 obtain ⟨b1,b2,b3⟩:=b
 rw [Bool.eq_iff_iff]
 simp
theorem Hz {f:Nat->Cl} {n c:Nat} (h:∀ k,k < c->f (n + k)=eu) (h1:1<=c):WK f n c=false:=by
 cases c with
 | zero=>omega
 | succ c=>unfold WK;rw [h c (by omega)];simp [eu]
theorem E5 {f:Nat->Cl} {n c:Nat} {d:Int} (h:∀ k,k < c->f (n + k)=eu) (h1:1<=c):XW f n d c=false:=by
 cases c with
 | zero=>omega
 | succ c=>unfold XW;rw [h c (by omega)];simp [eu]
section
variable {h:za} {m:Nat} {bs:Value} {ps:List Nat} {fs:Nat->Nat->Prop} {M:MM} {F:Nat->Prop} {c:Int} {p:V}
def LI (h:za) (f:Nat->Cl) (n:Nat) (c:Int) (m:Nat) (vs:List Value) (h':za):Prop :=
 ∃ k,k<=c.toNat/\m=c.toNat - k/\vs = [.int .u64 (E1 f n k),.bool (WK f n k),.bool (XW f n c k),.int .i64 k]/\ZR pL h h'
theorem I9 (x:i9 h m bs ps fs M F) (hs:small M) (hc:YU c) (hp:p.ok) :
  DC Tryz.prog 108 [.pointer (some ⟨m,0,none⟩),.int .i64 c,p.val] h (fun v h1=>ZR pL h h1/\lK M c p v):=by
 apply YA;intro hwf;have hro:=hwf.2
 apply DH
 unfold FC
 have e1:p.val = .agg #[.int .i64 p.k,.int .i64 p.n,.int .i64 p.b]:=rfl
 have XK:ZR pL h ((h.push (.cells [.int .i64 p.k,.int .i64 p.n,.int .i64 p.b] 64)).push (.cells [.int .i64 0,.int .i64 0,.int .i64 0] 64)):=((ZR.refl _ _).push _).push _
 have x1:i9 ((h.push (.cells [.int .i64 p.k,.int .i64 p.n,.int .i64 p.b] 64)).push (.cells [.int .i64 0,.int .i64 0,.int .i64 0] 64)) m bs ps fs M F :=
  x.zH (fun b hb=>XK.get b (fun e=>e) (x.ok b hb).2) XK.next
 have hac:=Gl (c:=c) (p:=p) x1 hs hc hp
 rw [e1]
 simp -implicitDefEqProofs only [zu,zG,zR,YX,zP,yK,qS,nth,nw,Value.cells,BK,SG,Sy,SD,SF,Tf,Tw,zf,Tx,SY,Tt,Sf,Tm,Nat.reduceAdd,Tk,Sp,yo,zJ,zU,eQ,vf,ye,zw,Bv,zq,zL,MK,vG,yT,G5,G6,VN]
 rw [e1] at hac
 refine z7 (by kernel_rfl) rfl hac ?_
 rintro v h1 ⟨ef,hr⟩
 have hl:h1.get (h.next + 1)=some (.cells [.int .i64 0,.int .i64 0,.int .i64 0] 64):=by
  rw [ef.get _ (fun e=>e) (by simp only [yo];omega)]
  exact zJ (by simp only [yo])
 have hr1:h1.ro<=h.next + 1:=by rw [ef.ro];simp only [qd];omega
 have hpost:∀ a,Qo M c p=some a->lK M c p (.tuple #[.agg #[.int .i64 a.k,.int .i64 a.n,.int .i64 a.b],.bool true]):=fun a ha=>by unfold lK;rw [ha];rfl
 cases e:right M c p with
 | none=>
   rw [e] at hr
   subst hr
   simp -implicitDefEqProofs only [Uj,Uk,zu,y9,zG,zR,yR,uM,zF,yh,yK,Sy,SD,SF,Te,S8,SY,Tt,Sf,Nat.reduceAdd,Tk,Sp,yg,tj,Uw,hl,hr1]
   exact ⟨(XK.trans ef).set (.inr (by omega)) _,by unfold lK Qo;rw [e];rfl⟩
 | some i=>
   rw [e] at hr
   obtain ⟨s,rfl,hcell⟩:=hr
   obtain ⟨hk,hcc,hi,B,hB,hn0,hn1,hn2⟩:=iR e
   have hlm:Qo M c p=some (aB B.byte p.n.toNat c):=by unfold Qo;rw [e];simp only [hB];rfl
   have hc1:1<=c.toNat/\c.toNat<=8:=by omega
   rcases hcell B hB with ⟨rfl,hu⟩ | ⟨g,off,cs,cp,rfl,fg,hg,hlen,hoff,hcs⟩
   ·simp -implicitDefEqProofs only [Uj,Uk,zu,y9,zG,zR,yR,uM,zF,yh,yK,Sy,SD,SF,Te,S8,SY,Tt,Sf,Nat.reduceAdd,Tk,Sp,yg,tj,Uw,hl,hr1]
    refine ⟨(XK.trans ef).set (.inr (by omega)) _,?_⟩
    have:aB B.byte p.n.toNat c=v0:=by
     unfold aB;rw [Hz hu hc1.1,E5 hu hc1.1];rfl
    rw [this] at hlm
    exact hpost _ hlm
   ·simp -implicitDefEqProofs only [Uj,Uk,zu,y9,zG,zR,zZ,uM,zF,yh,yK,nth,Sy,aag,SD,SF,Te,S8,SY,Tt,Sf,Nat.reduceAdd,Nat.reduceMul,Int.reduceLE,Int.reduceToNat,Tk,aab,Sp,yg,II,Xj,Uw,hl,hr1]
    refine Zb (LI h1 B.byte p.n.toNat c) c.toNat ⟨0,by omega,by omega,rfl,.refl _ _⟩ ?_
    rintro n vs h2 ⟨k,hk1,rfl,rfl,ef2⟩
    have hg2:h2.get g=some (.cells cs 184):=by rw [ef2.get g (fun e=>e) (by have:=(x.ok g fg).2;have:=ef.next;have:=XK.next;omega),hg]
    by_cases hlt:k < c.toNat
    ·have hki:(k:Int) < (c.toNat:Int):=by omega
     have hcel:=dp (hcs k · hlt)
     have hc0:=dp (hcs 0 · (by omega))
     have hb1:0<=(k:Int)/\(k:Int) < (c.toNat:Int):=by omega
     have hb2:off + k * 5 + 5<=cs.length:=by omega
     have hb3:off + 5<=cs.length:=by omega
     have hb4:0<=(0:Int)/\(0:Int) < (c.toNat:Int):=by omega
     have hw1:IntKind.wrap .i64 (8 * (k:Int))=((8 * k:Nat):Int):=by rw [Yb (by omega) (by omega)];omega
     have hw2:IntKind.wrap .i64 ((k:Int) + 1)=((k + 1:Nat):Int):=by rw [Yb (by omega) (by omega)];omega
     have hr2:h2.ro<=h2.next:=by have:=ef2.ro;have:=ef2.next;have:=ef.next;simp only [yo] at this;omega
     have hk0:0<=((8 * k:Nat):Int):=by omega
     have hmin:min (8 * k) IntKind.u64.bits=8 * k:=by show min (8 * k) 64=_;omega
     have hnext:∀ {a b d h3},ZR pL h2 h3->a=E1 B.byte p.n.toNat (k + 1)->b=WK B.byte p.n.toNat (k + 1)->d=XW B.byte p.n.toNat c (k + 1)->∃ m,m < c.toNat - k/\LI h1 B.byte p.n.toNat c m [.int .u64 a,.bool b,.bool d,.int .i64 ((k + 1:Nat):Int)] h3:=fun ef3 ea eb ed=>
      ⟨c.toNat - (k + 1),by omega,k + 1,by omega,rfl,by rw [ea,eb,ed],ef2.trans ef3⟩
     have hefn:∀ l l',ZR pL h2 ((h2.push (.cells l 158)).set h2.next (some (.cells l' 158))):=fun l l'=>((ZR.refl _ _).push _).set (.inr (Sp _)) _
     have hgn:∀ l l',((h2.push (.cells l 158)).set h2.next (some (.cells l' 158))).get g=some (.cells cs 184):=fun l l'=>by rw [(hefn l l').get g (fun e=>e) (by have:=(x.ok g fg).2;have:=ef.next;have:=XK.next;have:=ef2.next;omega),hg2]
     simp only [Cl.YT] at hcel hc0
     have hp3:(cs.drop (off + 2)).take 3 = [.int .i64 (B.byte p.n.toNat).p.k,.int .i64 (B.byte p.n.toNat).p.n,.int .i64 (B.byte p.n.toNat).p.b]:=H4 (fun j hj=>by simpa using hcs 0 j (by omega) hj)
     have hb5:off + 2 + 3<=cs.length:=by omega
     cases hP:XW B.byte p.n.toNat c k with
     | false=>
       cases hN:WK B.byte p.n.toNat k
       all_goals
        simp -implicitDefEqProofs only [zu,y9,zG,zR,yR,zZ,jf,j6,wj,yp,qj,YX,ZO,W6,nu,Eo,zF,zP,yK,qS,nth,Si,So,Sy,SD,SF,Tf,Tw,zf,Te,S8,Sf,Tm,Nat.reduceAdd,Tk,Sp,uz,qd,zJ,yg,vf,ye,zw,oR,Bv,zq,Qa,Z6,WB,Xg,YK,Z4,JU,VN,Xj,hki,hg2,hb1,hb2,hb4,hcel,hw1,hw2,SJ,hr2,hk0,hmin]
        refine hnext (hefn _ _) rfl ?_ ?_
        ·simp [WK,hN]
        ·simp [XW,hP]
     | true=>
       by_cases hk2:(B.byte (p.n.toNat + k)).k=2
       ·by_cases hkk:IntKind.wrap .i64 (B.byte (p.n.toNat + k)).n=(k:Int)
        ·cases hN:WK B.byte p.n.toNat k
         all_goals
          simp -implicitDefEqProofs only [zu,y9,zG,zR,yR,zZ,jf,j6,wj,yp,qj,YX,ZO,W6,nu,Eo,zF,zP,yK,qS,nth,Si,So,Sy,aag,SD,SF,Tf,Tw,zf,Te,S8,Tx,SY,T4,Tt,Sf,Tm,Nat.reduceAdd,Nat.reduceMul,Int.reduceEq,Int.reduceToNat,Tk,Sp,uz,vE,qd,zJ,yg,vf,ye,zw,Su,oR,Bv,zq,Qa,zL,Z6,WB,Xg,YK,Z4,JU,GU,Vn,VN,Xj,hki,hg2,hb1,hb2,hb3,hb4,hp3,hcel,hw1,hw2,SJ,hr2,hk0,hgn,hmin,hk2,hkk]
          refine hnext (hefn _ _) rfl ?_ ?_
          ·simp [WK,hN,hk2]
          ·simp only [XW,hP,hk2,hkk,PV,TU,decide_true]
        ·cases hN:WK B.byte p.n.toNat k
         all_goals
          simp -implicitDefEqProofs only [zu,y9,zG,zR,yR,zZ,jf,j6,wj,yp,qj,YX,ZO,W6,nu,Eo,zF,zP,yK,qS,nth,Si,So,Sy,SD,SF,Tf,Tw,zf,Te,S8,Sf,Tm,Nat.reduceAdd,Int.reduceEq,Tk,Sp,uz,vE,qd,zJ,yg,vf,ye,zw,Su,oR,Bv,zq,Qa,Z6,WB,Xg,YK,Z4,JU,GU,VN,Xj,hki,hg2,hb1,hb2,hb3,hb4,hcel,hw1,hw2,SJ,hr2,hk0,hmin,hk2,hkk]
          refine hnext (hefn _ _) rfl ?_ ?_
          ·simp [WK,hN,hk2]
          ·simp [XW,hP,hk2,hkk]
       ·cases hN:WK B.byte p.n.toNat k
        all_goals
         simp -implicitDefEqProofs only [zu,y9,zG,zR,yR,zZ,jf,j6,wj,yp,qj,YX,ZO,W6,nu,Eo,zF,zP,yK,qS,nth,Si,So,Sy,SD,SF,Tf,Tw,zf,Te,S8,Sf,Tm,Nat.reduceAdd,Tk,Sp,uz,vE,qd,zJ,yg,vf,ye,zw,Su,oR,Bv,zq,Qa,Z6,WB,Xg,YK,Z4,JU,VN,Xj,hki,hg2,hb1,hb2,hb3,hb4,hcel,hw1,hw2,SJ,hr2,hk0,hmin,hk2]
         refine hnext (hefn _ _) rfl ?_ ?_
         ·simp [WK,hN]
         ·simp [XW,hP,hk2]
    ·have hki:¬ (k:Int) < (c.toNat:Int):=by omega
     have hkc:k=c.toNat:=by omega
     subst hkc
     have hl2:h2.get (h.next + 1)=some (.cells [.int .i64 0,.int .i64 0,.int .i64 0] 64):=by
      rw [ef2.get _ (fun e=>e) (by have:=ef.next;simp only [yo] at this;omega),hl]
     have hr2:h2.ro<=h.next + 1:=by rw [ef2.ro];exact hr1
     have hof:∀ n,DC Tryz.prog 64 [.int .i64 n] h2 (fun v h1=>v=V.val ⟨1,n,0⟩/\ZR pL h2 h1):=fun n=>ZL n h2
     have Rk:∀ h3,ZR pL h2 h3->h3.get (h.next + 1)=some (.cells [.int .i64 0,.int .i64 0,.int .i64 0] 64)/\h3.ro<=h.next + 1:=fun h3 e3=>
      ⟨by rw [e3.get _ (fun e=>e) (by have:=ef.next;have:=ef2.next;simp only [yo] at *;omega),hl2],by rw [e3.ro];exact hr2⟩
     have hfin:∀ {h3 a v},ZR pL h2 h3->aB B.byte p.n.toNat c=a->ZR pL h (h3.set (h.next + 1) v)/\lK M c p (.tuple #[.agg #[.int .i64 a.k,.int .i64 a.n,.int .i64 a.b],.bool true]):=fun e3 ea=>
      ⟨(((XK.trans ef).trans ef2).trans e3).set (.inr (by omega)) _,hpost _ (by rw [hlm,ea])⟩
     cases hN:WK B.byte p.n.toNat c.toNat with
     | true=>
       rcases hcc with rfl | rfl | rfl
       all_goals
        simp -implicitDefEqProofs only [zu,y9,zG,zR,yR,zZ,jf,wj,qj,YX,ZO,W6,zF,zP,nth,Nat.reduceSub,Int.reduceEq,Int.reduceToNat,uz,vE,zw,Su,Bv,Z6,WB,Xg,YK,Z4,Xj]
        refine z7 (by kernel_rfl) rfl (hof _) ?_
        rintro v h3 ⟨rfl,e3⟩
        obtain ⟨g1,g2⟩:=Rk h3 e3
        simp -implicitDefEqProofs only [zu,zG,zR,uM,zF,yK,qS,Sy,SD,SF,Tf,Tw,zf,Te,S8,SY,Tt,Sf,Tm,Nat.reduceAdd,Tk,Sp,yg,vf,zL,V.val,g1,g2]
        refine hfin (a:=⟨1,_,0⟩) e3 ?_
        unfold aB
        rw [Sn hN]
        rfl
     | false=>
       cases hP:XW B.byte p.n.toNat c c.toNat with
       | true=>
         have hp3:(cs.drop (off + 2)).take 3 = [.int .i64 (B.byte p.n.toNat).p.k,.int .i64 (B.byte p.n.toNat).p.n,.int .i64 (B.byte p.n.toNat).p.b]:=H4 (fun j hj=>by simpa using hcs 0 j (by omega) hj)
         have hb5:off + 2 + 3<=cs.length:=by omega
         have hb4:0<=(0:Int)/\(0:Int) < (c.toNat:Int):=by omega
         have hgn:∀ v,(h2.set (h.next + 1) v).get g=some (.cells cs 184):=fun v=>by rw [zS (by have:=(x.ok g fg).2;omega),hg2]
         ·simp -implicitDefEqProofs only [zu,y9,zG,zR,yR,zZ,jf,j6,yp,uM,qj,ZO,W6,zF,zP,yK,qS,nth,Sy,SD,SF,Tf,Tw,zf,Te,S8,SY,Tt,Sf,Tm,Nat.reduceAdd,Tk,Sp,vE,yg,vf,ye,zw,Su,Bv,zq,zL,Z6,WB,Xg,YK,Z4,VN,Xj,hki,hl2,hr2,hp3,hb5,hb4,hg2]
          refine hfin (a:=(B.byte p.n.toNat).p) (.refl _ _) ?_
          unfold aB
          rw [hN,hP]
          rfl
       | false=>
         rcases hcc with rfl | rfl | rfl
         all_goals
          simp -implicitDefEqProofs only [zu,y9,zG,zR,zZ,j6,yp,uM,qj,ZO,W6,zF,zP,yK,nth,Sy,SD,SF,Te,S8,SY,Tt,Sf,Nat.reduceAdd,Nat.reduceSub,Int.reduceToNat,Tk,Sp,yg,Z6,WB,Xg,YK,Z4,Xj,hl2,hr2]
          refine hfin (a:=v0) (.refl _ _) ?_
          unfold aB
          rw [hN,hP]
          rfl
end
theorem ZR.more {F G:Nat->Prop} {a b c:za} (x:ZR F a b) (y:ZR G b c) (hg:∀ i,G i->F i\/a.next<=i):ZR F a c :=
 ⟨S4 x.next y.next,y.ro.trans x.ro,fun i hi hlt=>by
  have hn:¬ G i:=fun e=>by
   rcases hg i e with q | q
   ·exact hi q
   ·omega
  rw [y.get i hn (Sq hlt x.next),x.get i hi hlt]⟩
theorem PX {b:Bool} {A B:(List Value->za->Prop)->Prop} {J:List Value->za->Prop} {vs:List Value} {x y:za} (hA:∀ j,A j=j vs x) (hB:∀ j,B j=j vs y) (hJ:J vs (if b=true then x else y)):CD (.bool b) A B J:=by
 cases b
 ·rw [zZ,hB];simpa using hJ
 ·rw [yR,hA];simpa using hJ
theorem XN (vs:List Value):∀ (cs:List Value) (o i:Nat),o + vs.length<=cs.length->(zf cs o vs)[i]? = if o<=i/\i < o + vs.length then vs[i - o]? else cs[i]?:=by
 induction vs with
 | nil=>intro cs o i _;rw [Sl (by simp)];rfl
 | cons v vs ih=>
   intro cs o i h
   simp only [SD] at h ⊢
   unfold zf
   rw [ih (cs.set o v) (o + 1) i (by rw [TD];omega)]
   by_cases h1:o + 1<=i/\i < o + 1 + vs.length
   ·rw [Sn h1,Sn (by omega),show i - o=i - (o + 1) + 1 by omega,So]
   ·rw [Sl h1]
    by_cases h2:i=o
    ·subst h2;rw [Sn (by omega),Tj (by omega)];simp
    ·rw [Sl (by omega),TA (by omega)]
def pX (f:Nat->Cl) (a:Nat) (c:Cl):Nat->Cl:=fun k=>if k=a then c else f k
theorem Xs.put {h:za} {q:Nat} {gs:List (Option Nat)} {B:MB} {F:Nat->Prop} (x:Xs h q gs B F) {a g:Nat} (hg:gs[a / 64]? = some (some g)) :
  ∃ cs,h.get g=some (.cells cs 184)/\a % 64 * 5 + 5<=cs.length /\ ∀ c:Cl,Xs (h.set g (some (.cells (zf cs (a % 64 * 5) c.YT) 184))) q gs { B with byte:=pX B.byte a c } F:=by
 obtain ⟨hl,fq,hq,hgs,hn,hd,ht⟩:=x
 obtain ⟨fg,cs,hc,hlen,hcs⟩:=hgs _ g hg
 refine ⟨cs,hc,by omega,fun c=>⟨hl,fq,?_,fun j g' hj=>⟨(hgs j g' hj).1,?_⟩,fun j hj k hk => ?_,hd,fun k hk => ?_⟩⟩
 ·rw [zS (by intro e;subst e;rw [hq] at hc;simp at hc),hq]
 ·by_cases e:g'=g
  ·subst e
   have ej:j=a / 64:=hd j _ g' hj hg
   subst ej
   refine ⟨_,yg,by rw [jk,hlen],fun k j hk hj => ?_⟩
   have vlen:c.YT.length=5:=rfl
   rw [XN _ _ _ _ (by rw [vlen];omega),vlen]
   show _=(pX B.byte a c (64 * (a / 64) + k)).YT[j]?
   unfold pX
   by_cases ek:k=a % 64
   ·rw [Sn (by omega),Sn (by omega),show k * 5 + j - a % 64 * 5=j by omega]
   ·rw [Sl (by omega),Sl (by omega)];exact hcs k j hk hj
  ·have ej:j ≠ a / 64:=by intro ej;subst ej;rw [hg] at hj;cases hj;exact e rfl
   obtain ⟨cs',hc',hlen',hcs'⟩:=(hgs j g' hj).2
   refine ⟨cs',by rw [zS e,hc'],hlen',fun k j' hk hj' => ?_⟩
   rw [hcs' k j' hk hj']
   show _=(pX B.byte a c (64 * j + k)).YT[j']?
   unfold pX
   rw [Sl (by omega)]
 ·show pX B.byte a c (64 * j + k)=eu
  unfold pX
  rw [Sl (by intro e;have:j=a / 64:=by omega
             subst this;rw [hg] at hj;cases hj)]
  exact hn j hj k hk
 ·show pX B.byte a c k=eu
  have hlt:a / 64 < gs.length:=by
   rcases SC (a / 64) gs.length with e | e
   ·exact e
   ·rw [Sr e] at hg;cases hg
  unfold pX
  rw [Sl (by omega)]
  exact ht k hk
def norm (v:V):V:=if Qk v=true then v else v0
def cellOf (v:V) (k:Nat):Cl:=if v.k=1 then ⟨1,IntKind.wrap .u8 (v.n.fdiv (2 ^ (8 * k))),v0⟩ else if v.k=2 then ⟨2,IntKind.wrap .u8 k,v⟩ else eu
def Vu (B:MB) (n:Nat) (v:V) (c:Nat):MB:={ B with byte:=fun a=>if n<=a/\a < n + c then cellOf v (a - n) else B.byte a }
theorem Al (B:MB) (n:Nat) (v:V):Vu B n v 0=B:=by
 unfold Vu
 congr 1
 funext a
 rw [Sl (by omega)]
theorem dR (B:MB) (n:Nat) (v:V) (c:Nat):{ Vu B n v c with byte:=pX (Vu B n v c).byte (n + c) (cellOf v c) } = Vu B n v (c + 1):=by
 unfold Vu pX
 simp only [MB.mk.injEq,aab]
 funext a
 by_cases e:a=n + c
 ·subst e;rw [Sn rfl,Sn (by omega),show n + c - n=c by omega]
 ·rw [Sl e]
  by_cases e2:n<=a/\a < n + c
  ·rw [Sn e2,Sn (by omega)]
  ·rw [Sl e2,Sl (by omega)]
def WR (M:MM) (c:Int) (p v:V):Option MM:=if (norm v).k=2/\c ≠ 8 then none else match right M c p with
 | none=>none
 | some i=>(M[i]?).map fun B=>M.set i (Vu B p.n.toNat (norm v) c.toNat)
def re (h:za) (m:Nat) (M':MM) (F:Nat->Prop) (h1:za):Prop := ∃ F',n5 h1 m M' F'/\ZR F h h1 /\ ∀ b,F' b->F b\/h.next<=b
def KL (h:za) (m:Nat) (M:MM) (F:Nat->Prop) (c:Int) (p v:V) (r:Value) (h1:za):Prop:=match WR M c p v with
 | none=>r = .bool false/\re h m M F h1
 | some M'=>r = .bool true/\re h m M' F h1
section
variable {h:za} {m:Nat} {bs:Value} {ps:List Nat} {fs:Nat->Nat->Prop} {M:MM} {F:Nat->Prop} {c:Int} {p v:V}
def aV (h:za) (q g:Nat) (gs:List (Option Nat)) (B:MB) (n:Nat) (v:V) (c:Int) (F:Nat->Prop) (m:Nat) (vs:List Value) (h':za):Prop :=
 ∃ k,k<=c.toNat/\m=c.toNat - k/\vs = [.int .i64 k]/\ZR (fun b=>b=g) h h'/\Xs h' q gs (Vu B n v k) F
theorem H3 (x:XR h m bs ps fs M F) (hs:small M) (hc:YU c) (hp:p.ok) :
  DC Tryz.prog 107 [.pointer (some ⟨m,0,none⟩),.int .i64 c,p.val,v.val] h (KL h m M F c p v):=by
 apply YA;intro hwf;have hro:=hwf.2
 apply AB
 unfold CJ
 have e1:p.val = .agg #[.int .i64 p.k,.int .i64 p.n,.int .i64 p.b]:=rfl
 have e2:v.val = .agg #[.int .i64 v.k,.int .i64 v.n,.int .i64 v.b]:=rfl
 rw [e1,e2]
 simp -implicitDefEqProofs only [zu,zG,zR,qB,zF,zP,yK,qS,nw,Value.cells,BK,SG,Sy,SD,SF,Tf,Tw,zf,Tx,SY,Tt,Sf,Tm,Nat.reduceAdd,Tk,Sp,yo,zJ,vf,ye,zw,yQ,zi,zq,zL,Ix,yT,wm,wi]
 rw [<- e2]
 refine zh (by kernel_rfl) rfl (Jc v _) ?_
 simp -implicitDefEqProofs only [zu,i5,Sy,SD,SF,Te,S8,Nat.reduceAdd,aab,Sp,yo,qd,zJ]
 refine PX (vs:=[]) (x:=((h.push (.cells [.int .i64 p.k,.int .i64 p.n,.int .i64 p.b] 64)).push (.cells [.int .i64 v.k,.int .i64 v.n,.int .i64 v.b] 64)).set (h.next + 1) (some (.cells [.int .i64 0,.int .i64 0,.int .i64 0] 64)))
  (y:=(h.push (.cells [.int .i64 p.k,.int .i64 p.n,.int .i64 p.b] 64)).push (.cells [.int .i64 v.k,.int .i64 v.n,.int .i64 v.b] 64)) ?_ ?_ ?_
 ·intro j
  have:h.ro<=h.next + 1:=by omega
  simp -implicitDefEqProofs only [zu,Sf,this]
 ·intro j;rfl
 generalize hH:(if (!Qk v)=true then ((h.push (.cells [.int .i64 p.k,.int .i64 p.n,.int .i64 p.b] 64)).push (.cells [.int .i64 v.k,.int .i64 v.n,.int .i64 v.b] 64)).set (h.next + 1) (some (.cells [.int .i64 0,.int .i64 0,.int .i64 0] 64)) else
  (h.push (.cells [.int .i64 p.k,.int .i64 p.n,.int .i64 p.b] 64)).push (.cells [.int .i64 v.k,.int .i64 v.n,.int .i64 v.b] 64))=H
 have XK:ZR pL h H:=by
  subst hH
  split
  ·exact (((ZR.refl _ _).push _).push _).set (.inr (by omega)) _
  ·exact ((ZR.refl _ _).push _).push _
 have hx:H.get (h.next + 1)=some (.cells [.int .i64 (norm v).k,.int .i64 (norm v).n,.int .i64 (norm v).b] 64):=by
  subst hH
  unfold norm
  cases Qk v
  ·simp only [S9,Sf];rw [Sl (by simp)];exact yg
  ·simp only [Ts,Sf];rw [Sl (by simp)];exact zJ rfl
 have hp1:H.get h.next=some (.cells [.int .i64 p.k,.int .i64 p.n,.int .i64 p.b] 64):=by
  have:¬ h.next=h.next + 1:=by omega
  have h3:((h.push (.cells [.int .i64 p.k,.int .i64 p.n,.int .i64 p.b] 64)).push (.cells [.int .i64 v.k,.int .i64 v.n,.int .i64 v.b] 64)).get h.next=some (.cells [.int .i64 p.k,.int .i64 p.n,.int .i64 p.b] 64):=by
   rw [zU (by simp only [yo];omega),yd]
  subst hH
  split
  ·rw [zS this,h3]
  ·exact h3
 have hnx:H.next=h.next + 2:=by
  subst hH
  cases Qk v <;> simp [yo,qA]
 clear hH
 have hsm:WR M c p v=if (norm v).k=2/\c ≠ 8 then none else match right M c p with
  | none=>none
  | some i=>(M[i]?).map fun B=>M.set i (Vu B p.n.toNat (norm v) c.toNat):=rfl
 generalize norm v=w at hx hsm
 have x1:XR H m bs ps fs M F:=x.zH (fun b hb=>XK.get b (fun e=>e) (x.ok b hb).2) XK.next XK.ro
 have hro1:H.ro<=H.next:=by rw [hnx,XK.ro];omega
 have hm0:∀ {h1},ZR pL H h1->re h m M F h1:=fun e3=>⟨F,⟨bs,ps,fs,x1.zH (fun b hb=>e3.get b (fun e=>e) (x1.ok b hb).2) e3.next e3.ro⟩,(XK.trans e3).mono (fun _ q=>q.elim),fun b hb => .inl hb⟩
 by_cases hbad:w.k=2/\c ≠ 8
 ·rw [Sn hbad] at hsm
  have h1:=hbad.1
  have h2:¬ c=8:=hbad.2
  simp -implicitDefEqProofs only [zu,zG,zR,yR,jf,wj,YX,ZP,zF,zP,Si,uz,vE,Su,S9,hx,h1,h2]
  unfold KL
  rw [hsm]
  exact ⟨rfl,hm0 (.refl _ _)⟩
 rw [Sl hbad] at hsm
 have hac:=Gm (c:=c) (p:=p) hro1 x1 hs hc hp
 rw [e1] at hac
 have hways:(w.k=2/\c=8) \/ ¬ w.k=2:=by
  by_cases e:w.k=2
  ·by_cases e3:c=8
   ·exact .inl ⟨e,e3⟩
   ·exact (hbad ⟨e,e3⟩).elim
  ·exact .inr e
 have hall:∀ r h1,DA H m M F c p r h1->(∃ ok,r = .tuple #[.slice none 0 0,.bool ok]/\ok=false/\KL h m M F c p v (.bool false) h1) \/ ∃ g,r = .tuple #[.slice (some ⟨g,p.n.toNat % 64 * 5,none⟩) c.toNat 0,.bool true] /\ ∃ q gs B G,aV h1 q g gs B p.n.toNat w c G c.toNat [.int .i64 0] h1/\0<=c /\
   (∀ k,k < c.toNat->gs[(p.n.toNat + k) / 64]? = some (some g)/\(p.n.toNat + k) % 64 * 5=p.n.toNat % 64 * 5 + k * 5)/\c<=8/\H.ro<=g/\h1.ro=H.ro/\(∀ h2,ZR (fun b=>b=g) h1 h2->h2.get (h.next + 1)=some (.cells [.int .i64 w.k,.int .i64 w.n,.int .i64 w.b] 64)) /\
   ∀ h2,aV h1 q g gs B p.n.toNat w c G 0 [.int .i64 c.toNat] h2->KL h m M F c p v (.bool true) h2:=by
  intro r h1 hr
  unfold DA at hr
  cases e:right M c p with
  | none=>
    rw [e] at hr
    obtain ⟨rfl,e3⟩:=hr
    refine .inl ⟨_,rfl,rfl,?_⟩
    rw [e] at hsm
    unfold KL
    rw [hsm]
    exact ⟨rfl,hm0 e3⟩
  | some i=>
    rw [e] at hr hsm
    obtain ⟨g,bs1,ps1,fs1,F1,q,qp,cq,gs,B,hB,rfl,x2,hq,hb,fq,full,hgs,ef,hsub⟩:=hr
    obtain ⟨hk,hcc,hi,B',hB',hn0,hn1,hn2⟩:=iR e
    rw [hB] at hB';cases hB'
    have fg:=(full.hg _ g hgs).1
    refine .inr ⟨g,rfl,q,gs,B,fs1 i,⟨0,by omega,by omega,rfl,.refl _ _,by rw [Al];exact full⟩,by omega,fun k hk => ?_,by omega,by have:=(x2.ok g (x2.sub i g fg)).1;have:=ef.ro;omega,ef.ro,fun h2 e2 => ?_,fun h2 hst => ?_⟩
    ·have hal:p.n.toNat % 64 + c.toNat<=64:=by
      rw [TL hn0] at hn2
      rcases hcc with rfl | rfl | rfl <;> omega
     exact ⟨by rw [show (p.n.toNat + k) / 64=p.n.toNat / 64 by omega];exact hgs,by omega⟩
    ·have n1:h.next + 1 ≠ g:=by
      intro en
      rcases hsub g (x2.sub i g fg) with h3 | h3
      ·have:=(x.ok g h3).2;omega
      ·omega
     rw [e2.get _ n1 (by have:=ef.next;omega),ef.get _ (fun h3=>by have:=(x.ok _ h3).2;omega) (by omega),hx]
    ·obtain ⟨k,hk1,hk2,hk3,e2,full2⟩:=hst
     have hkc:k=c.toNat:=by simp at hk3;omega
     subst hkc
     have hne:qp ≠ g:=by
      intro en;subst en
      obtain ⟨cs,hc1,_⟩:=(full.hg _ qp hgs).2
      rw [hb] at hc1;simp at hc1
     have hb2:h2.get qp=some (.cells [.int .i64 B.size,.slice (some ⟨q,0,none⟩) gs.length cq,.bool B.jG] 155):=by rw [e2.get _ hne (x2.ok qp (x2.sub i qp fq)).2,hb]
     have y:=x2.pX hq hB (B':=Vu B p.n.toNat w c.toNat) rfl (e2.mono (fun b (hb:b=g)=>by rw [hb];exact fg)) ⟨_,hb2,fq,.full q cq gs rfl full2⟩ (fun b hb => .inl hb) (fun b hb=>by have:=x2.ok b (x2.sub i b hb);have:=e2.next;have:=e2.ro;omega)
     unfold KL
     rw [hsm]
     simp only [hB,TG]
     have hsub2:∀ b,F1 b->F b\/h.next<=b:=fun b hb=>by
      rcases hsub b hb with q | q
      ·exact .inl q
      ·exact .inr (by omega)
     refine ⟨trivial,_,⟨_,_,_,y⟩,((XK.mono (fun _ q=>q.elim)).trans ef).more e2 (fun b (hb:b=g)=>by rw [hb];exact hsub2 g (x2.sub i g fg)),fun b hb => ?_⟩
     rcases hb with hb | hb
     ·exact hsub2 b hb
     ·exact hsub2 b (x2.sub i b hb)
 rcases hways with ⟨w2,c8⟩ | w2
 ·have d8:decide (c=8)=true:=uz c8
  simp -implicitDefEqProofs only [zu,zG,zR,zZ,jf,wj,YX,ZP,zF,zP,nth,Si,Sy,SD,SF,SY,Tt,Sf,Nat.reduceAdd,Sp,uz,Ts,hx,hp1,w2,d8]
  refine z7 (by kernel_rfl) rfl hac ?_
  intro r h1 hr
  rcases hall r h1 hr with ⟨_,rfl,rfl,hf⟩ | ⟨g,rfl,q,gs,B,G,hI,hc0,hk,hc8,hgr,hr1,hbx,hend⟩
  ·simp -implicitDefEqProofs only [Uj,Uk,zu,y9,zG,zR,yR,i5,zF,yh,S9,Uw]
   exact hf
  ·simp -implicitDefEqProofs only [Uj,Uk,zu,y9,zG,zR,zZ,i5,zF,yh,Ts,Uw]
   refine Zb (aV h1 q g gs B p.n.toNat w c G) c.toNat hI ?_
   rintro n vs h2 ⟨k,hk1,rfl,rfl,ef2,full2⟩
   by_cases hlt:k < c.toNat
   ·have hki:(k:Int) < (c.toNat:Int):=by omega
    obtain ⟨hgk,hok⟩:=hk k hlt
    obtain ⟨cs,hcs,hle,hput⟩:=full2.put hgk
    have hput':=hput (cellOf w k)
    rw [hok] at hle hput'
    have hbx2:=hbx h2 ef2
    have hr2:h2.ro<=g:=by rw [ef2.ro,hr1];exact hgr
    have hb1:0<=(k:Int)/\(k:Int) < (c.toNat:Int):=by omega
    have hw1:IntKind.wrap .i64 (8 * (k:Int))=((8 * k:Nat):Int):=by rw [Yb (by omega) (by omega)];omega
    have hw2:IntKind.wrap .i64 ((k:Int) + 1)=((k + 1:Nat):Int):=by rw [Yb (by omega) (by omega)];omega
    have hk0:0<=((8 * k:Nat):Int):=by omega
    have hmin:min (8 * k) IntKind.i64.bits=8 * k:=by show min (8 * k) 64=_;omega
    have hnext:∀ h3,h3=h2.set g (some (.cells (zf cs (p.n.toNat % 64 * 5 + k * 5) (cellOf w k).YT) 184))->∃ m,m < c.toNat - k/\aV h1 q g gs B p.n.toNat w c G m [.int .i64 ((k + 1:Nat):Int)] h3:=fun h3 e3=>
     ⟨c.toNat - (k + 1),by omega,k + 1,by omega,rfl,rfl,by rw [e3];exact ef2.set (.inl rfl) _,by rw [e3];have:=hput';unfold pX at this;rw [<- dR];exact this⟩
    simp -implicitDefEqProofs only [zu,y9,zG,zR,yR,zZ,qj,YX,ZO,W6,sN,zP,yK,qS,nth,Si,So,Sy,SD,SF,Tf,Tw,zf,SY,Tt,Sf,Tm,Nat.reduceAdd,Int.reduceEq,Tk,Sp,uz,vE,vf,Su,Qa,K7,Ul,BH,gO,Xj,hki,hbx2,hcs,hr2,hb1,hle,hw1,hw2,hk0,hmin,SJ,w2]
    refine hnext _ ?_
    unfold cellOf Cl.YT
    simp only [w2,zf,v0,eu,Sf,Sx,Int.reduceEq]
   ·have hkc:k=c.toNat:=by omega
    subst hkc
    have hki:¬ (c.toNat:Int) < (c.toNat:Int):=by omega
    simp -implicitDefEqProofs only [zu,y9,zG,zR,zZ,qj,ZO,W6,zP,nth,vE,Su,gO,Xj,hki]
    exact hend h2 ⟨c.toNat,by omega,by omega,rfl,ef2,full2⟩
 ·simp -implicitDefEqProofs only [zu,zG,zR,zZ,j6,yp,YX,zF,zP,nth,Si,Sy,SD,SF,SY,Tt,Sf,Nat.reduceAdd,Sp,vE,Su,hx,hp1,w2]
  refine z7 (by kernel_rfl) rfl hac ?_
  intro r h1 hr
  rcases hall r h1 hr with ⟨_,rfl,rfl,hf⟩ | ⟨g,rfl,q,gs,B,G,hI,hc0,hk,hc8,hgr,hr1,hbx,hend⟩
  ·simp -implicitDefEqProofs only [Uj,Uk,zu,y9,zG,zR,yR,i5,zF,yh,S9,Uw]
   exact hf
  ·simp -implicitDefEqProofs only [Uj,Uk,zu,y9,zG,zR,zZ,i5,zF,yh,Ts,Uw]
   refine Zb (aV h1 q g gs B p.n.toNat w c G) c.toNat hI ?_
   rintro n vs h2 ⟨k,hk1,rfl,rfl,ef2,full2⟩
   by_cases hlt:k < c.toNat
   ·have hki:(k:Int) < (c.toNat:Int):=by omega
    obtain ⟨hgk,hok⟩:=hk k hlt
    obtain ⟨cs,hcs,hle,hput⟩:=full2.put hgk
    have hput':=hput (cellOf w k)
    rw [hok] at hle hput'
    have hbx2:=hbx h2 ef2
    have hr2:h2.ro<=g:=by rw [ef2.ro,hr1];exact hgr
    have hb1:0<=(k:Int)/\(k:Int) < (c.toNat:Int):=by omega
    have hw1:IntKind.wrap .i64 (8 * (k:Int))=((8 * k:Nat):Int):=by rw [Yb (by omega) (by omega)];omega
    have hw2:IntKind.wrap .i64 ((k:Int) + 1)=((k + 1:Nat):Int):=by rw [Yb (by omega) (by omega)];omega
    have hk0:0<=((8 * k:Nat):Int):=by omega
    have hmin:min (8 * k) IntKind.i64.bits=8 * k:=by show min (8 * k) 64=_;omega
    have hnext:∀ h3,h3=h2.set g (some (.cells (zf cs (p.n.toNat % 64 * 5 + k * 5) (cellOf w k).YT) 184))->∃ m,m < c.toNat - k/\aV h1 q g gs B p.n.toNat w c G m [.int .i64 ((k + 1:Nat):Int)] h3:=fun h3 e3=>
     ⟨c.toNat - (k + 1),by omega,k + 1,by omega,rfl,rfl,by rw [e3];exact ef2.set (.inl rfl) _,by rw [e3];have:=hput';unfold pX at this;rw [<- dR];exact this⟩
    by_cases w1:w.k=1
    ·simp -implicitDefEqProofs only [zu,y9,zG,zR,yR,zZ,qj,YX,ZO,W6,sN,zP,yK,qS,nth,Si,So,Sy,SD,SF,Tf,Tw,zf,SY,Tt,Sf,Tm,Nat.reduceAdd,Int.reduceEq,Tk,Sp,uz,vE,vf,Su,Qa,K7,Ul,BH,gO,Xj,hki,hbx2,hcs,hr2,hb1,hle,hw1,hw2,hk0,hmin,SJ,w1]
     refine hnext _ ?_
     unfold cellOf Cl.YT
     simp only [w1,zf,v0,eu,Sf,Sx,Int.reduceEq]
    ·simp -implicitDefEqProofs only [zu,y9,zG,zR,yR,zZ,qj,YX,ZO,W6,sN,zP,yK,qS,nth,Si,So,Sy,SD,SF,Tf,Tw,zf,SY,Tt,Sf,Tm,Nat.reduceAdd,Tk,Sp,uz,vE,vf,Su,Qa,K7,Ul,BH,gO,Xj,hki,hbx2,hcs,hr2,hb1,hle,hw1,hw2,hk0,hmin,SJ,w1,w2]
     refine hnext _ ?_
     unfold cellOf Cl.YT
     simp only [w1,w2,zf,v0,eu,Sx]
   ·have hkc:k=c.toNat:=by omega
    subst hkc
    have hki:¬ (c.toNat:Int) < (c.toNat:Int):=by omega
    simp -implicitDefEqProofs only [zu,y9,zG,zR,zZ,qj,ZO,W6,zP,nth,vE,Su,gO,Xj,hki]
    exact hend h2 ⟨c.toNat,by omega,by omega,rfl,ef2,full2⟩
end
end Go.Mem
