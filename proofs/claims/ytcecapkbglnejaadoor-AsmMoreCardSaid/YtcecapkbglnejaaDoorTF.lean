/- A part of the proof. -/
import Derived.Test.YtcecapkbglnejaaDoorChecked
import Derived.KernelRfl
import Derived.Test.YtcecapkbglnejaaDoorTE
set_option linter.unusedVariables false
set_option linter.unusedSimpArgs false
set_option maxRecDepth 100000
namespace Go.Mem
open Go.Ai Go.Proofs Go.Proofs.Tryd
noncomputable abbrev zz:=prog
abbrev VK:=Value->za->Prop
abbrev LK:=List Value->za->Prop
abbrev ci (n:Int):Operand := .const (.int .i64 n)
abbrev fn (n:Nat):Value := .func (.func n) #[] #[]
variable {h:za} {t0 t1 t2 t3 t4 t5 t6:Value} {R:VK}
def qs:FuncId->Nat:=fun g=>0
theorem mixed:prog.follows .mixedOrders=true:=Checked.mixed Tryd.checked
theorem vT {f:FuncId} {args:List Value} {X:Prop} (e:X2 zz (vG zz qs) 200 f args h R=X) (hw:X):DC zz f args h R:=xw mixed (q:=qs) (n:=200) (Eq.mpr e hw)
def Hz:=fun (h:za) f c (R:VK)=>
 opt (nb [c,.int .i64 1] (zf zz .lss 3 (.tmp 5) (ci 1) c (.int .i64 1))) fun b=>GD b false (fun P=>P c h) (fun y z=>GD b false (fun Q=>Q f z) (fun S A=>GD b false (fun T=>opt (xO S) fun g=>T g A) (fun g B=>GD b false (fun U=>opt (zb zz 119 g 0) fun i=>U i B) (fun i j=>GD b false (fun V=>opt (zd zz 117 i j) fun d=>V d j) (fun d C=>GD b false (fun W=>xA (nb [d] (zo zz .len [117] 3 [d] C)) fun e X=>W e X) (fun e D=>GD b false (fun Y=>opt (nb [y,e] (zf zz .gtr 3 (.tmp 8) (.tmp 13) y e)) fun k=>Y k D) (fun k E=>opt (pk b (.bool true) k) fun a=>GD a false (fun Z=>Z f E) (fun aa F=>GD a false (fun ab=>opt (xO aa) fun l=>ab l F) (fun l G=>GD a false (fun ac=>opt (zb zz 119 l 0) fun m=>ac m G) (fun m n=>GD a false (fun ad=>opt (zd zz 117 m n) fun o=>ad o n) (fun o H=>GD a false (fun ae=>ae c H) (fun I J=>GD a false (fun af=>opt (nb [I,.int .i64 1] (zf zz .sub 3 (.tmp 21) (ci 1) I (.int .i64 1))) fun p=>af p J) (fun p K=>GD a false (fun ag=>opt (zA zz 117 o p) fun q=>ag q K) (fun q r=>GD a false (fun ah=>opt (zd zz 123 q r) fun s=>ah s r) (fun s L=>GD a false (fun ai=>opt (xO s) fun t=>ai t L) (fun t M=>GD a false (fun aj=>opt (zb zz 126 t 2) fun u=>aj u M) (fun u v=>GD a false (fun ak=>opt (zd zz 4 u v) fun w=>ak w v) (fun w N=>opt (pk a (.bool true) w) fun al=>CD al (fun O=>rv [.pointer none] N R)
 (fun O=>O [.pointer none] N)
 (fun au x=>opt (xO f) fun am=>opt (zb zz 119 am 0) fun an=>opt (zd zz 117 an x) fun ao=>opt (nb [c,.int .i64 1] (zf zz .sub 3 (.tmp 33) (ci 1) c (.int .i64 1))) fun ap=>opt (zA zz 117 ao ap) fun aq=>opt (zd zz 123 aq x) fun ar=>rv [ar] x R)) v) M) L) r) K) J) H) n) G) F) E) D) C) j) B) A) z) h
theorem DP (hw:Hz h t0 t1 R):DC zz 60 [t0,t1] h R:=vT (by kernel_rfl) hw
def Bq:=fun (h:za) k (R:VK)=>
 opt (nb [k] (some (Value.cells k).toList)) fun s=>nw h s 86 fun b a=>opt (zb zz 86 b 0) fun t=>opt (zd zz 3 t a) fun c=>BK (fun u=>opt (nb [c,.int .i64 0] (zf zz .eql 3 (.tmp 4) (ci 0) c (.int .i64 0))) fun v=>CD v (fun l=>opt (zd zz 86 b a) fun m=>opt (nb [] (yR zz 86 [])) fun n=>opt (nb [m,n] (zf zz .eql 86 (.tmp 7) (.tmp 8) m n)) fun w=>rv [w] a R)
 (fun l=>opt (nb [c,.int .i64 1] (zf zz .eql 3 (.tmp 4) (ci 1) c (.int .i64 1))) fun x=>CD x (fun o=>opt (zb zz 86 b 2) fun y=>opt (zd zz 3 y a) fun p=>opt (nb [p,.int .i64 0] (zf zz .eql 3 (.tmp 13) (ci 0) p (.int .i64 0))) fun z=>rv [z] a R)
 (fun o=>o [.bool false] a)
 (fun A B=>l [nth A 0] B))
 (fun C D=>u [nth C 0] D))
 (fun K f=>opt (zb zz 86 b 0) fun E=>opt (zd zz 3 E f) fun q=>opt (nb [q,.int .i64 2] (zf zz .eql 3 (.tmp 16) (.const (.int .i64 2)) q (.int .i64 2))) fun d=>GD d true (fun F=>opt (zb zz 86 b 2) fun g=>F g f) (fun g i=>GD d true (fun G=>opt (zd zz 3 g i) fun e=>G e i) (fun e r=>GD d true (fun H=>opt (nb [e,.int .i64 1] (zf zz .geq 3 (.tmp 20) (ci 1) e (.int .i64 1))) fun j=>H j r) (fun j I=>opt (pk d j (.bool false)) fun J=>rv [J] I R) r) i) f)
theorem tp (hw:Bq h t0 R):DC zz 100 [t0] h R:=vT (by kernel_rfl) hw
def E9:=fun (h:za) (R:VK)=>
 opt (nb [] (yR zz 119 [])) fun a=>opt (nb [a] (some (Value.cells a).toList)) fun b=>nw h b 119 fun c d=>rv [c] d R
theorem Bo (hw:E9 h  R):DC zz 42 [] h R:=vT (by kernel_rfl) hw
def rM:=fun (h:za) a b (R:VK)=>
 BK (fun A=>opt (nb [b,.int .i64 0] (zf zz .lss 3 (.tmp 7) (ci 0) b (.int .i64 0))) fun c=>GD c false (fun B=>B b h) (fun f g=>GD c false (fun C=>opt (nb [f,.int .i64 65536] (zf zz .gtr 3 (.tmp 10) (.const (.int .i64 65536)) f (.int .i64 65536))) fun d=>C d g) (fun d e=>opt (pk c (.bool true) d) fun D=>CD D (fun i=>rv [.int .i64 0,.int .i64 1] e R)
 (fun i=>opt (xO a) fun E=>opt (zb zz 119 E 0) fun F=>opt (zd zz 117 F e) fun j=>xA (nb [j] (zo zz .len [117] 3 [j] e)) fun k l=>opt (nb [k,.int .i64 100000] (zf zz .geq 3 (.tmp 18) (.const (.int .i64 100000)) k (.int .i64 100000))) fun G=>CD G (fun m=>rv [.int .i64 0,.int .i64 2] l R)
 (fun m=>m [.int .i64 0,.int .i64 0] l)
 (fun n H=>i [nth n 0,nth n 1] H))
 (fun o I=>A [nth o 0,nth o 1] I)) g) h)
 (fun aa p=>opt (xO a) fun J=>opt (zb zz 119 J 0) fun K=>opt (zd zz 117 K p) fun q=>opt (nb [b] (yR zz 126 [(0,b)])) fun r=>opt (nb [r] (some (Value.cells r).toList)) fun L=>nw p L 126 fun s M=>xA (nb [s] (y8 zz 117 1 [(0,s)] M)) fun t N=>xA (nb [q,t] (zo zz .append [117,117] 117 [q,t] N)) fun u O=>opt (xO a) fun P=>opt (zb zz 119 P 0) fun Q=>opt (nb [u] (zk zz 117 Q u O)) fun v=>opt (xO a) fun S=>opt (zb zz 119 S 1) fun T=>opt (zd zz 3 T v) fun w=>opt (nb [w,.int .i64 1] (zf zz .add 3 (.tmp 35) (ci 1) w (.int .i64 1))) fun x=>opt (xO a) fun U=>opt (zb zz 119 U 1) fun V=>opt (nb [x] (zk zz 3 V x v)) fun y=>opt (xO a) fun W=>opt (zb zz 119 W 0) fun X=>opt (zd zz 117 X y) fun z=>xA (nb [z] (zo zz .len [117] 3 [z] y)) fun Y Z=>rv [Y,.int .i64 0] Z R)
theorem nS (hw:rM h t0 t1 R):DC zz 44 [t0,t1] h R:=vT (by kernel_rfl) hw
def rN:=fun (h:za) O m n o (R:VK)=>
 opt (nb [n] (some (Value.cells n).toList)) fun P=>nw h P 86 fun Q S=>opt (nb [o] (some (Value.cells o).toList)) fun T=>nw S T 86 fun b p=>opt (zd zz 86 b p) fun U=>zR zz (fn 100) [U] p fun V q=>opt (KE zz .not V) fun W=>CD W (fun f=>opt (nb [] (yR zz 86 [])) fun r=>opt (nb [r] (zk zz 86 b r q)) fun X=>f [] X)
 (fun f=>f [] q)
 (fun a6 g=>opt (zb zz 86 b 0) fun Y=>opt (zd zz 3 Y g) fun s=>opt (nb [s,.int .i64 2] (zf zz .eql 3 (.tmp 17) (.const (.int .i64 2)) s (.int .i64 2))) fun i=>GD i true (fun Z=>Z m g) (fun t u=>GD i true (fun aa=>opt (nb [t,.int .i64 8] (zf zz .neq 3 (.tmp 20) (.const (.int .i64 8)) t (.int .i64 8))) fun j=>aa j u) (fun j v=>opt (pk i j (.bool false)) fun ab=>CD ab (fun w=>rv [.bool false] v R)
 (fun w=>w [.bool false] v)
 (fun ac x=>opt (zd zz 86 Q x) fun ad=>zR zz (fn 101) [O,m,ad,.bool true] x fun y z=>opt (ZW y 0) fun c=>opt (ZW y 1) fun ae=>opt (KE zz .not ae) fun af=>CD af (fun A=>rv [.bool false] z R)
 (fun A=>A [nth ac 0] z)
 (fun a7 ag=>xA (nb [c] (zo zz .len [170] 3 [c] ag)) fun B ah=>BK (fun ai=>LP (fun a C aj=>opt (nb [nth a 0,B] (zf zz .lss 3 (.tmp 34) (.tmp 33) (nth a 0) B)) fun ak=>CD ak (fun D=>D [] C)
 (fun D=>ai [] C)
 (fun a8 d=>BK (fun al=>opt (zb zz 86 b 0) fun am=>opt (zd zz 3 am d) fun e=>BK (fun an=>opt (nb [e,.int .i64 1] (zf zz .eql 3 (.tmp 38) (ci 1) e (.int .i64 1))) fun ao=>CD ao (fun k=>opt (zb zz 86 b 1) fun ap=>opt (zd zz 2 ap d) fun E=>opt (nb [.int .i64 8,nth a 0] (zf zz .mul 3 (.const (.int .i64 8)) (.tmp 49) (.int .i64 8) (nth a 0))) fun F=>opt (nb [E,F] (zf zz .shr 2 (.tmp 48) (.tmp 50) E F)) fun G=>xA (nb [G] (vn zz 2 5 G d)) fun H aq=>opt (nb [.int .u8 1,H] (yR zz 129 [(0,(.int .u8 1)),(1,H)])) fun I=>opt (zA zz 170 c (nth a 0)) fun ar=>opt (nb [I] (zk zz 129 ar I aq)) fun au=>k [] au)
 (fun k=>opt (nb [e,.int .i64 2] (zf zz .eql 3 (.tmp 38) (.const (.int .i64 2)) e (.int .i64 2))) fun av=>CD av (fun l=>xA (nb [nth a 0] (vn zz 3 5 (nth a 0) d)) fun J K=>opt (zd zz 86 b K) fun L=>opt (nb [.int .u8 2,J,L] (yR zz 129 [(0,(.int .u8 2)),(1,J),(2,L)])) fun M=>opt (zA zz 170 c (nth a 0)) fun aw=>opt (nb [M] (zk zz 129 aw M K)) fun ax=>l [] ax)
 (fun l=>opt (nb [] (yR zz 129 [])) fun N=>opt (zA zz 170 c (nth a 0)) fun ay=>opt (nb [N] (zk zz 129 ay N d)) fun az=>l [] az)
 (fun a9 a0=>k [] a0))
 (fun ba a1=>an [] a1))
 (fun bb a2=>al [] a2))
 (fun bc a3=>opt (nb [nth a 0,.int .i64 1] (zf zz .add 3 (.tmp 34) (ci 1) (nth a 0) (.int .i64 1))) fun a4=>aj [a4] a3)))
 [.int .i64 0] ah)
 (fun bd a5=>rv [.bool true] a5 R)))) u) g)
theorem nT (hw:rN h t0 t1 t2 t3 R):DC zz 87 [t0,t1,t2,t3] h R:=vT (by kernel_rfl) hw
def Bn:=fun (h:za) bd j K (R:VK)=>
 opt (nb [K] (some (Value.cells K).toList)) fun be=>nw h be 86 fun bf bg=>opt (xP zz 86) fun bh=>nw bg (Value.cells bh).toList 86 fun c L=>opt (zd zz 86 bf L) fun bi=>zR zz (fn 101) [bd,j,bi,.bool false] L fun M N=>opt (ZW M 0) fun f=>opt (ZW M 1) fun bj=>opt (nb [f,.slice none 0 0] (zf zz .eql 170 (.tmp 22) (.const (.slice none 0 0)) f (.slice none 0 0))) fun bk=>CD bk (fun O=>opt (nb [] (yR zz 86 [])) fun P=>opt (nb [P] (zk zz 86 c P N)) fun Q=>opt (zd zz 86 c Q) fun d=>rv [d,bj] Q R)
 (fun O=>O [.bool false] N)
 (fun bl bm=>opt (nb [j,.int .i64 8] (zf zz .eql 3 (.tmp 26) (.const (.int .i64 8)) j (.int .i64 8))) fun bn=>xA (nb [f] (zo zz .len [170] 3 [f] bm)) fun S bo=>BK (fun bp=>LP (fun a T bq=>opt (nb [nth a 3,S] (zf zz .lss 3 (.tmp 30) (.tmp 29) (nth a 3) S)) fun br=>CD br (fun U=>U [] T)
 (fun U=>bp [nth a 0,nth a 1,nth a 2] T)
 (fun di V=>BK (fun bs=>opt (zA zz 170 f (nth a 3)) fun bt=>opt (zd zz 129 bt V) fun W=>opt (xP zz 129) fun bu=>nw V (Value.cells bu).toList 129 fun g bv=>opt (nb [W] (zk zz 129 g W bv)) fun X=>opt (zb zz 129 g 1) fun bw=>opt (zd zz 5 bw X) fun Y=>xA (nb [Y] (vn zz 5 108 Y X)) fun Z aa=>opt (nb [.int .i64 8,nth a 3] (zf zz .mul 3 (.const (.int .i64 8)) (.tmp 39) (.int .i64 8) (nth a 3))) fun ab=>opt (nb [Z,ab] (zf zz .shl 108 (.tmp 38) (.tmp 40) Z ab)) fun ac=>opt (nb [nth a 0,ac] (zf zz .or 108 (.tmp 35) (.tmp 41) (nth a 0) ac)) fun bx=>GD (nth a 1) true (fun bz=>opt (zb zz 129 g 0) fun r=>bz r aa) (fun r s=>GD (nth a 1) true (fun b0=>opt (zd zz 5 r s) fun l=>b0 l s) (fun l ad=>GD (nth a 1) true (fun b1=>opt (nb [l,.int .u8 1] (zf zz .eql 5 (.tmp 46) (.const (.int .u8 1)) l (.int .u8 1))) fun t=>b1 t ad) (fun t ae=>opt (pk (nth a 1) t (.bool false)) fun b2=>GD (nth a 2) true (fun b3=>opt (zb zz 129 g 0) fun u=>b3 u ae) (fun u v=>GD (nth a 2) true (fun b4=>opt (zd zz 5 u v) fun m=>b4 m v) (fun m af=>GD (nth a 2) true (fun b5=>opt (nb [m,.int .u8 2] (zf zz .eql 5 (.tmp 52) (.const (.int .u8 2)) m (.int .u8 2))) fun w=>b5 w af) (fun w ag=>opt (pk (nth a 2) w (.bool false)) fun i=>GD i true (fun b6=>opt (zb zz 129 g 1) fun x=>b6 x ag) (fun x y=>GD i true (fun b7=>opt (zd zz 5 x y) fun n=>b7 n y) (fun n ah=>GD i true (fun b8=>xA (nb [n] (vn zz 5 3 n ah)) fun o b9=>b8 o b9) (fun o ai=>GD i true (fun ca=>ca (nth a 3) ai) (fun aj ak=>GD i true (fun cb=>opt (nb [o,aj] (zf zz .eql 3 (.tmp 58) (.tmp 59) o aj)) fun z=>cb z ak) (fun z al=>opt (pk i z (.bool false)) fun e=>GD e true (fun cc=>opt (zb zz 129 g 2) fun A=>cc A al) (fun A B=>GD e true (fun cd=>opt (zd zz 86 A B) fun p=>cd p B) (fun p am=>GD e true (fun ce=>ce f am) (fun cf an=>GD e true (fun cg=>opt (zA zz 170 cf (.int .i64 0)) fun C=>cg C an) (fun C ao=>GD e true (fun ch=>opt (zb zz 129 C 2) fun D=>ch D ao) (fun D E=>GD e true (fun cj=>opt (zd zz 86 D E) fun q=>cj q E) (fun q ap=>GD e true (fun ck=>opt (nb [p,q] (zf zz .eql 86 (.tmp 64) (.tmp 68) p q)) fun F=>ck F ap) (fun F cl=>opt (pk e F (.bool false)) fun cm=>bs [bx,b2,cm] cl) ap) E) ao) an) am) B) al) ak) ai) ah) y) ag) af) v) ae) ad) s) aa)
 (fun G cn=>opt (nb [nth a 3,.int .i64 1] (zf zz .add 3 (.tmp 30) (ci 1) (nth a 3) (.int .i64 1))) fun co=>bq [nth G 0,nth G 1,nth G 2,co] cn)))
 [.int .u64 0,.bool true,bn,.int .i64 0] bo)
 (fun b aq=>BK (fun cp=>GD (nth b 1) true (fun cq=>cq j aq) (fun ar au=>GD (nth b 1) true (fun cr=>opt (nb [ar,.int .i64 8] (zf zz .eql 3 (.tmp 75) (.const (.int .i64 8)) ar (.int .i64 8))) fun H=>cr H au) (fun H I=>opt (pk (nth b 1) H (.bool false)) fun cs=>CD cs (fun av=>xA (nb [nth b 0] (vn zz 108 2 (nth b 0) I)) fun ct cu=>zR zz (fn 46) [ct] cu fun aw cv=>opt (nb [aw] (zk zz 86 c aw cv)) fun ax=>opt (zd zz 86 c ax) fun d=>rv [d,.bool true] ax R)
 (fun av=>GD (nth b 1) true (fun cw=>cw j I) (fun ay az=>GD (nth b 1) true (fun cx=>opt (nb [ay,.int .i64 4] (zf zz .eql 3 (.tmp 84) (.const (.int .i64 4)) ay (.int .i64 4))) fun J=>cx J az) (fun J k=>opt (pk (nth b 1) J (.bool false)) fun cy=>CD cy (fun a0=>xA (nb [nth b 0] (vn zz 108 21 (nth b 0) k)) fun a1 cz=>xA (nb [a1] (vn zz 21 2 a1 cz)) fun c0 c1=>zR zz (fn 46) [c0] c1 fun a2 c2=>opt (nb [a2] (zk zz 86 c a2 c2)) fun a3=>opt (zd zz 86 c a3) fun d=>rv [d,.bool true] a3 R)
 (fun a0=>CD (nth b 1) (fun a4=>xA (nb [nth b 0] (vn zz 108 173 (nth b 0) k)) fun a5 c3=>xA (nb [a5] (vn zz 173 2 a5 c3)) fun c4 c5=>zR zz (fn 46) [c4] c5 fun a6 c6=>opt (nb [a6] (zk zz 86 c a6 c6)) fun a7=>opt (zd zz 86 c a7) fun d=>rv [d,.bool true] a7 R)
 (fun a4=>CD (nth b 2) (fun a8=>opt (zA zz 170 f (.int .i64 0)) fun c7=>opt (zb zz 129 c7 2) fun c8=>opt (zd zz 86 c8 k) fun a9=>opt (nb [a9] (zk zz 86 c a9 k)) fun ba=>opt (zd zz 86 c ba) fun d=>rv [d,.bool true] ba R)
 (fun a8=>a8 [nth bl 0] k)
 (fun c9 da=>a4 [nth c9 0] da))
 (fun db dc=>a0 [nth db 0] dc))
 (fun dd de=>av [nth dd 0] de)) az) I)
 (fun df dg=>cp [nth df 0] dg)) au) aq)
 (fun dj dh=>opt (nb [] (yR zz 86 [])) fun bb=>opt (nb [bb] (zk zz 86 c bb dh)) fun bc=>opt (zd zz 86 c bc) fun d=>rv [d,.bool true] bc R)))
theorem tk (hw:Bn h t0 t1 t2 R):DC zz 88 [t0,t1,t2] h R:=vT (by kernel_rfl) hw
def Bp:=fun (h:za) k l (R:VK)=>
 zR zz (fn 60) [k,l] h fun b c=>opt (nb [b,.pointer none] (zf zz .eql 123 (.tmp 10) (.const (.pointer none)) b (.pointer none))) fun m=>CD m (fun d=>rv [.bool false] c R)
 (fun d=>d [.bool false] c)
 (fun D e=>opt (xO b) fun n=>opt (zb zz 126 n 0) fun o=>opt (zd zz 3 o e) fun f=>BK (fun p=>LP (fun a g q=>opt (nb [nth a 0,f] (zf zz .lss 3 (.tmp 16) (.tmp 15) (nth a 0) f)) fun r=>CD r (fun i=>i [] g)
 (fun i=>p [] g)
 (fun E s=>BK (fun t=>zR zz (fn 61) [b,nth a 0,.bool true] s fun u v=>opt (nb [nth a 0,.int .i64 64] (zf zz .rem 3 (.tmp 22) (.const (.int .i64 64)) (nth a 0) (.int .i64 64))) fun w=>opt (nb [.int .u8 1] (yR zz 129 [(0,(.int .u8 1))])) fun j=>opt (xO u) fun x=>opt (zA zz 156 x w) fun y=>opt (nb [j] (zk zz 129 y j v)) fun z=>t [] z)
 (fun F A=>opt (nb [nth a 0,.int .i64 1] (zf zz .add 3 (.tmp 16) (ci 1) (nth a 0) (.int .i64 1))) fun B=>q [B] A)))
 [.int .i64 0] e)
 (fun G C=>rv [.bool true] C R))
theorem tn (hw:Bp h t0 t1 R):DC zz 45 [t0,t1] h R:=vT (by kernel_rfl) hw
def Bm:=fun (h:za) a b (R:VK)=>
 zR zz (fn 60) [a,b] h fun c e=>opt (nb [c,.pointer none] (zf zz .eql 123 (.tmp 9) (.const (.pointer none)) c (.pointer none))) fun n=>CD n (fun f=>rv [.bool false] e R)
 (fun f=>f [.bool false] e)
 (fun C d=>opt (xO a) fun o=>opt (zb zz 119 o 0) fun p=>opt (zd zz 117 p d) fun q=>opt (nb [b,.int .i64 1] (zf zz .sub 3 (.tmp 15) (ci 1) b (.int .i64 1))) fun r=>opt (xO c) fun s=>opt (zb zz 126 s 0) fun t=>opt (zd zz 3 t d) fun g=>opt (nb [g,.bool true] (yR zz 126 [(0,g),(2,(.bool true))])) fun i=>opt (nb [i] (some (Value.cells i).toList)) fun u=>nw d u 126 fun j v=>opt (zA zz 117 q r) fun w=>opt (nb [j] (zk zz 123 w j v)) fun k=>opt (xO a) fun x=>opt (zb zz 119 x 1) fun y=>opt (zd zz 3 y k) fun l=>opt (nb [l,.int .i64 1] (zf zz .sub 3 (.tmp 27) (ci 1) l (.int .i64 1))) fun m=>opt (xO a) fun z=>opt (zb zz 119 z 1) fun A=>opt (nb [m] (zk zz 3 A m k)) fun B=>rv [.bool true] B R)
theorem tj (hw:Bm h t0 t1 R):DC zz 94 [t0,t1] h R:=vT (by kernel_rfl) hw
def Jb:=fun (h:za) a4 b L a5 (R:VK)=>
 opt (nb [L] (some (Value.cells L).toList)) fun a6=>nw h a6 86 fun c p=>opt (zb zz 86 c 0) fun a7=>opt (zd zz 3 a7 p) fun M=>opt (nb [M,.int .i64 2] (zf zz .neq 3 (.tmp 14) (.const (.int .i64 2)) M (.int .i64 2))) fun d=>GD d false (fun a8=>a8 b p) (fun N O=>GD d false (fun a9=>opt (nb [N,.int .i64 1] (zf zz .neq 3 (.tmp 17) (ci 1) N (.int .i64 1))) fun q=>a9 q O) (fun q P=>GD d false (fun ba=>ba q P) (fun r Q=>GD r true (fun bb=>bb b Q) (fun S T=>GD r true (fun bc=>opt (nb [S,.int .i64 4] (zf zz .neq 3 (.tmp 20) (.const (.int .i64 4)) S (.int .i64 4))) fun s=>bc s T) (fun s U=>GD d false (fun bd=>opt (pk r s (.bool false)) fun t=>bd t U) (fun t V=>GD d false (fun be=>be t V) (fun u W=>GD u true (fun bf=>bf b W) (fun X Y=>GD u true (fun bg=>opt (nb [X,.int .i64 8] (zf zz .neq 3 (.tmp 24) (.const (.int .i64 8)) X (.int .i64 8))) fun v=>bg v Y) (fun v Z=>GD d false (fun bh=>opt (pk u v (.bool false)) fun w=>bh w Z) (fun w aa=>opt (pk d (.bool true) w) fun bi=>CD bi (fun ab=>rv [.slice none 0 0,.bool false] aa R)
 (fun ab=>ab [.slice none 0 0,.bool false] aa)
 (fun ac ad=>opt (zb zz 86 c 2) fun bj=>opt (zd zz 3 bj ad) fun bk=>zR zz (fn 60) [a4,bk] ad fun f ae=>opt (nb [f,.pointer none] (zf zz .eql 123 (.tmp 32) (.const (.pointer none)) f (.pointer none))) fun g=>GD g false (fun bl=>opt (zb zz 86 c 1) fun x=>bl x ae) (fun x y=>GD g false (fun bm=>opt (zd zz 2 x y) fun i=>bm i y) (fun i af=>GD g false (fun bn=>opt (nb [i,.int .i64 0] (zf zz .lss 2 (.tmp 36) (ci 0) i (.int .i64 0))) fun z=>bn z af) (fun z ag=>opt (pk g (.bool true) z) fun a=>GD a false (fun bo=>opt (zb zz 86 c 1) fun A=>bo A ag) (fun A B=>GD a false (fun bp=>opt (zd zz 2 A B) fun j=>bp j B) (fun j ah=>GD a false (fun bq=>bq f ah) (fun br ai=>GD a false (fun bs=>opt (xO br) fun C=>bs C ai) (fun C aj=>GD a false (fun bt=>opt (zb zz 126 C 0) fun D=>bt D aj) (fun D E=>GD a false (fun bu=>opt (zd zz 3 D E) fun k=>bu k E) (fun k ak=>GD a false (fun bv=>bv b ak) (fun al am=>GD a false (fun bw=>opt (nb [k,al] (zf zz .sub 3 (.tmp 45) (.tmp 46) k al)) fun l=>bw l am) (fun l an=>GD a false (fun bx=>opt (nb [j,l] (zf zz .gtr 2 (.tmp 41) (.tmp 47) j l)) fun F=>bx F an) (fun F ao=>opt (pk a (.bool true) F) fun e=>GD e false (fun bz=>opt (zb zz 86 c 1) fun G=>bz G ao) (fun G H=>GD e false (fun b0=>opt (zd zz 2 G H) fun m=>b0 m H) (fun m ap=>GD e false (fun b1=>b1 b ap) (fun aq ar=>GD e false (fun b2=>opt (nb [m,aq] (zf zz .rem 2 (.tmp 52) (.tmp 53) m aq)) fun n=>b2 n ar) (fun n au=>GD e false (fun b3=>opt (nb [n,.int .i64 0] (zf zz .neq 2 (.tmp 54) (ci 0) n (.int .i64 0))) fun I=>b3 I au) (fun I av=>opt (pk e (.bool true) I) fun b4=>CD b4 (fun aw=>rv [.slice none 0 0,.bool false] av R)
 (fun aw=>aw [nth ac 0,nth ac 1] av)
 (fun ax ay=>opt (zb zz 86 c 1) fun b5=>opt (zd zz 2 b5 ay) fun b6=>zR zz (fn 61) [f,b6,a5] ay fun J az=>opt (nb [J,.pointer none] (zf zz .eql 130 (.tmp 62) (.const (.pointer none)) J (.pointer none))) fun b7=>CD b7 (fun a0=>rv [.slice none 0 0,.bool true] az R)
 (fun a0=>a0 [nth ax 0,nth ax 1] az)
 (fun ca K=>opt (zb zz 86 c 1) fun b8=>opt (zd zz 2 b8 K) fun a1=>opt (nb [a1,.int .i64 64] (zf zz .rem 3 (.tmp 65) (.const (.int .i64 64)) a1 (.int .i64 64))) fun o=>opt (xO J) fun a2=>opt (nb [o,b] (zf zz .add 3 (.tmp 70) (.tmp 71) o b)) fun a3=>opt (nb [a2] (cond (Da (some o) && Da (some a3)) (Cf zz 156 a2 (some o) (some a3) K) none)) fun b9=>rv [b9,.bool true] K R))) au) ar) ap) H) ao) an) am) ak) E) aj) ai) ah) B) ag) af) y) ae)) Z) Y) W) V) U) T) Q) P) O) p
theorem Q8 (hw:Jb h t0 t1 t2 t3 R):DC zz 101 [t0,t1,t2,t3] h R:=vT (by kernel_rfl) hw
def Hy:=fun (h:za) a (R:VK)=>
 opt (xP zz 86) fun e=>nw h (Value.cells e).toList 86 fun b f=>opt (nb [.int .i64 1,a] (yR zz 86 [(0,(.int .i64 1)),(1,a)])) fun c=>opt (nb [c] (zk zz 86 b c f)) fun d=>opt (zd zz 86 b d) fun g=>rv [g] d R
theorem DO (hw:Hy h t0 R):DC zz 46 [t0] h R:=vT (by kernel_rfl) hw
def nU:=fun (h:za) a b k (R:VK)=>
 opt (xO a) fun y=>opt (zb zz 126 y 1) fun z=>opt (zd zz 124 z h) fun l=>opt (nb [l,.slice none 0 0] (zf zz .eql 124 (.tmp 10) (.const (.slice none 0 0)) l (.slice none 0 0))) fun m=>GD m true (fun A=>A k h) (fun B d=>opt (pk m B (.bool false)) fun C=>CD C (fun e=>opt (xO a) fun D=>opt (zb zz 126 D 0) fun E=>opt (zd zz 3 E d) fun n=>opt (nb [n,.int .i64 64] (zf zz .add 3 (.tmp 19) (.const (.int .i64 64)) n (.int .i64 64))) fun o=>opt (nb [o,.int .i64 1] (zf zz .sub 3 (.tmp 20) (ci 1) o (.int .i64 1))) fun p=>opt (nb [p,.int .i64 64] (zf zz .quo 3 (.tmp 21) (.const (.int .i64 64)) p (.int .i64 64))) fun q=>xA (Yl zz 124 q q d) fun r F=>opt (xO a) fun G=>opt (zb zz 126 G 1) fun H=>opt (nb [r] (zk zz 124 H r F)) fun I=>e [] I)
 (fun e=>e [] d)
 (fun aj f=>opt (xO a) fun J=>opt (zb zz 126 J 1) fun K=>opt (zd zz 124 K f) fun s=>opt (nb [s,.slice none 0 0] (zf zz .eql 124 (.tmp 29) (.const (.slice none 0 0)) s (.slice none 0 0))) fun L=>CD L (fun t=>rv [.pointer none] f R)
 (fun t=>t [.pointer none] f)
 (fun ak c=>opt (xO a) fun M=>opt (zb zz 126 M 1) fun N=>opt (zd zz 124 N c) fun O=>opt (nb [b,.int .i64 64] (zf zz .quo 3 (.tmp 35) (.const (.int .i64 64)) b (.int .i64 64))) fun P=>opt (zA zz 124 O P) fun Q=>opt (zd zz 130 Q c) fun u=>opt (nb [u,.pointer none] (zf zz .eql 130 (.tmp 38) (.const (.pointer none)) u (.pointer none))) fun v=>GD v true (fun S=>S k c) (fun T g=>opt (pk v T (.bool false)) fun U=>CD U (fun i=>opt (xO a) fun V=>opt (zb zz 126 V 1) fun W=>opt (zd zz 124 W g) fun X=>opt (nb [b,.int .i64 64] (zf zz .quo 3 (.tmp 47) (.const (.int .i64 64)) b (.int .i64 64))) fun Y=>opt (nb [] (yR zz 156 [])) fun w=>opt (nb [w] (some (Value.cells w).toList)) fun Z=>nw g Z 156 fun x aa=>opt (zA zz 124 X Y) fun ab=>opt (nb [x] (zk zz 130 ab x aa)) fun ac=>i [] ac)
 (fun i=>i [] g)
 (fun al j=>opt (xO a) fun ad=>opt (zb zz 126 ad 1) fun ae=>opt (zd zz 124 ae j) fun af=>opt (nb [b,.int .i64 64] (zf zz .quo 3 (.tmp 56) (.const (.int .i64 64)) b (.int .i64 64))) fun ag=>opt (zA zz 124 af ag) fun ah=>opt (zd zz 130 ah j) fun ai=>rv [ai] j R)) c))) h
theorem dr (hw:nU h t0 t1 t2 R):DC zz 61 [t0,t1,t2] h R:=vT (by kernel_rfl) hw
noncomputable def Wh:Array Field:=match Program.underlying Tryd.prog 86 with | some (.struct f)=>f | _ => #[]
theorem Zl (b off:Nat) (h:za):zd Tryd.prog 117 (.pointer (some ⟨b,off,none⟩)) h=zL h b off:=yD (by kernel_rfl) b off h
theorem B3 (b off:Nat) (h:za):zd Tryd.prog 123 (.pointer (some ⟨b,off,none⟩)) h=zL h b off:=yD (by kernel_rfl) b off h
theorem QC (b off:Nat) (h:za):zd Tryd.prog 124 (.pointer (some ⟨b,off,none⟩)) h=zL h b off:=yD (by kernel_rfl) b off h
theorem gV (b off:Nat) (h:za):zd Tryd.prog 129 (.pointer (some ⟨b,off,none⟩)) h=yb h b off 5:=v7 (by kernel_rfl) (by kernel_rfl) b off h
theorem JV (b off:Nat) (h:za):zd Tryd.prog 130 (.pointer (some ⟨b,off,none⟩)) h=zL h b off:=yD (by kernel_rfl) b off h
theorem xz (b off:Nat) (h:za):zd Tryd.prog 2 (.pointer (some ⟨b,off,none⟩)) h=zL h b off:=yD (by kernel_rfl) b off h
theorem zu (b off:Nat) (h:za):zd Tryd.prog 3 (.pointer (some ⟨b,off,none⟩)) h=zL h b off:=yD (by kernel_rfl) b off h
theorem oM (b off:Nat) (h:za):zd Tryd.prog 4 (.pointer (some ⟨b,off,none⟩)) h=zL h b off:=yD (by kernel_rfl) b off h
theorem oN (b off:Nat) (h:za):zd Tryd.prog 5 (.pointer (some ⟨b,off,none⟩)) h=zL h b off:=yD (by kernel_rfl) b off h
theorem zn (b off:Nat) (h:za):zd Tryd.prog 86 (.pointer (some ⟨b,off,none⟩)) h=yb h b off 3:=v7 (by kernel_rfl) (by kernel_rfl) b off h
theorem F5 (r:TypeId) (v x:Value) (n:Nat) (new:List Value) (h:za) (h1:ZQ x=some n) (h2:wW h n 1 x=some new) (h3:new.all xE=true) (h4:new.length=n * 1):zo Tryd.prog .append [117,117] r [v,x] h=Xv h 123 1 8 n new v:=jK (e:=123) (e2:=123) (by kernel_rfl) (by kernel_rfl) (by kernel_rfl) (by kernel_rfl) (by decide) h1 h2 h3 h4
theorem Ce (b off:Nat) (v:Option Addr) (vl vc:Nat) (h:za):zk Tryd.prog 117 (.pointer (some ⟨b,off,none⟩)) (.slice v vl vc) h=xU h b off [(.slice v vl vc)]:=wV (by kernel_rfl) b off _ h rfl
theorem Ga (b off:Nat) (v:Option Addr) (h:za):zk Tryd.prog 123 (.pointer (some ⟨b,off,none⟩)) (.pointer v) h=xU h b off [(.pointer v)]:=wV (by kernel_rfl) b off _ h rfl
theorem Gb (b off:Nat) (v:Option Addr) (vl vc:Nat) (h:za):zk Tryd.prog 124 (.pointer (some ⟨b,off,none⟩)) (.slice v vl vc) h=xU h b off [(.slice v vl vc)]:=wV (by kernel_rfl) b off _ h rfl
theorem Wa (b off:Nat) (l:List Value) (h:za) (hv:l.length=5):zk Tryd.prog 129 (.pointer (some ⟨b,off,none⟩)) (.agg l.toArray) h=xU h b off l:=qb (by kernel_rfl) b off l h hv
theorem oP (b off:Nat) (v:Option Addr) (h:za):zk Tryd.prog 130 (.pointer (some ⟨b,off,none⟩)) (.pointer v) h=xU h b off [(.pointer v)]:=wV (by kernel_rfl) b off _ h rfl
theorem ZV (b off:Nat) (v:Int) (h:za):zk Tryd.prog 3 (.pointer (some ⟨b,off,none⟩)) (.int .i64 v) h=xU h b off [(.int .i64 v)]:=wV (by kernel_rfl) b off _ h rfl
theorem zF (b off:Nat) (l:List Value) (h:za) (hv:l.length=3):zk Tryd.prog 86 (.pointer (some ⟨b,off,none⟩)) (.agg l.toArray) h=xU h b off l:=qb (by kernel_rfl) b off l h hv
theorem Gf:xP Tryd.prog 129=some (.agg #[(.int .u8 0),(.int .u8 0),(.int .i64 0),(.int .i64 0),(.int .i64 0)]):=zI (by kernel_rfl)
theorem wi:xP Tryd.prog 86=some (.agg #[(.int .i64 0),(.int .i64 0),(.int .i64 0)]):=zI (by kernel_rfl)
theorem D0:yR Tryd.prog 119 []=some (.agg #[(.slice none 0 0),(.int .i64 0)]):=zI (by kernel_rfl)
theorem Wc (v0:Int):yR Tryd.prog 126 [(0,(.int .i64 v0))]=some (.agg #[(.int .i64 v0),(.slice none 0 0),(.bool false)]):=zI (by kernel_rfl)
theorem oS (v0:Int) (v2:Bool):yR Tryd.prog 126 [(0,(.int .i64 v0)),(2,(.bool v2))]=some (.agg #[(.int .i64 v0),(.slice none 0 0),(.bool v2)]):=zI (by kernel_rfl)
theorem D1:yR Tryd.prog 129 []=some (.agg #[(.int .u8 0),(.int .u8 0),(.int .i64 0),(.int .i64 0),(.int .i64 0)]):=zI (by kernel_rfl)
theorem mi (v0:Int):yR Tryd.prog 129 [(0,(.int .u8 v0))]=some (.agg #[(.int .u8 v0),(.int .u8 0),(.int .i64 0),(.int .i64 0),(.int .i64 0)]):=zI (by kernel_rfl)
theorem VC (v0:Int) (v1:Int):yR Tryd.prog 129 [(0,(.int .u8 v0)),(1,(.int .u8 v1))]=some (.agg #[(.int .u8 v0),(.int .u8 v1),(.int .i64 0),(.int .i64 0),(.int .i64 0)]):=zI (by kernel_rfl)
theorem Xy (v0:Int) (v1:Int) (v20:Int) (v21:Int) (v22:Int):yR Tryd.prog 129 [(0,(.int .u8 v0)),(1,(.int .u8 v1)),(2,(.agg #[(.int .i64 v20),(.int .i64 v21),(.int .i64 v22)]))]=some (.agg #[(.int .u8 v0),(.int .u8 v1),(.int .i64 v20),(.int .i64 v21),(.int .i64 v22)]):=zI (by kernel_rfl)
theorem yA:yR Tryd.prog 86 []=some (.agg #[(.int .i64 0),(.int .i64 0),(.int .i64 0)]):=zI (by kernel_rfl)
theorem Ah (v0:Int) (v1:Int):yR Tryd.prog 86 [(0,(.int .i64 v0)),(1,(.int .i64 v1))]=some (.agg #[(.int .i64 v0),(.int .i64 v1),(.int .i64 0)]):=zI (by kernel_rfl)
theorem ZX (v0:Option Addr) (h:za):y8 Tryd.prog 117 1 [(0,(.pointer v0))] h=some (.slice (some ⟨h.next,0,none⟩) 1 3,h.push (.cells [(.pointer v0)] 123)):=zI (by kernel_rfl)
theorem ku (n:Int) (h:za):vn Tryd.prog 108 173 (.int .u64 n) h=some (.int .i8 (IntKind.wrap .i8 n),h):=zI (by kernel_rfl)
theorem ZZ (n:Int) (h:za):vn Tryd.prog 108 2 (.int .u64 n) h=some (.int .i64 (IntKind.wrap .i64 n),h):=zI (by kernel_rfl)
theorem jM (n:Int) (h:za):vn Tryd.prog 108 21 (.int .u64 n) h=some (.int .i32 (IntKind.wrap .i32 n),h):=zI (by kernel_rfl)
theorem jl (n:Int) (h:za):vn Tryd.prog 173 2 (.int .i8 n) h=some (.int .i64 (IntKind.wrap .i64 n),h):=zI (by kernel_rfl)
theorem ki (n:Int) (h:za):vn Tryd.prog 21 2 (.int .i32 n) h=some (.int .i64 (IntKind.wrap .i64 n),h):=zI (by kernel_rfl)
theorem oX (n:Int) (h:za):vn Tryd.prog 2 5 (.int .i64 n) h=some (.int .u8 (IntKind.wrap .u8 n),h):=zI (by kernel_rfl)
theorem J7 (n:Int) (h:za):vn Tryd.prog 3 5 (.int .i64 n) h=some (.int .u8 (IntKind.wrap .u8 n),h):=zI (by kernel_rfl)
theorem Uv (n:Int) (h:za):vn Tryd.prog 5 108 (.int .u8 n) h=some (.int .u64 (IntKind.wrap .u64 n),h):=zI (by kernel_rfl)
theorem Cy (n:Int) (h:za):vn Tryd.prog 5 3 (.int .u8 n) h=some (.int .i64 (IntKind.wrap .i64 n),h):=zI (by kernel_rfl)
theorem Ux (x y:Operand):zf Tryd.prog .eql 123 x y (.pointer none) (.pointer none)=some (.bool true):=zI (by kernel_rfl)
theorem mG (x y:Operand):zf Tryd.prog .eql 124 x y (.slice none 0 0) (.slice none 0 0)=some (.bool true):=zI (by kernel_rfl)
theorem Uy (x y:Operand):zf Tryd.prog .eql 130 x y (.pointer none) (.pointer none)=some (.bool true):=zI (by kernel_rfl)
theorem mH (x y:Operand):zf Tryd.prog .eql 170 x y (.slice none 0 0) (.slice none 0 0)=some (.bool true):=zI (by kernel_rfl)
theorem jV (x y:Operand) (a:Addr):zf Tryd.prog .eql 123 x y (.pointer (some a)) (.pointer none)=some (.bool false):=IK (e:=126) (by kernel_rfl) a
theorem Uz (x y:Operand) (a:Addr) (n c:Nat):zf Tryd.prog .eql 124 x y (.slice (some a) n c) (.slice none 0 0)=some (.bool false):=G1 (e:=130) (by kernel_rfl) a n c
theorem KV (x y:Operand) (a:Addr):zf Tryd.prog .eql 130 x y (.pointer (some a)) (.pointer none)=some (.bool false):=IK (e:=156) (by kernel_rfl) a
theorem Eb (x y:Operand) (a:Addr) (n c:Nat):zf Tryd.prog .eql 170 x y (.slice (some a) n c) (.slice none 0 0)=some (.bool false):=G1 (e:=129) (by kernel_rfl) a n c
theorem YF (x y:Operand) (a0:Int) (a1:Int) (a2:Int) (b0:Int) (b1:Int) (b2:Int):zf Tryd.prog .eql 86 x y (.agg #[(.int .i64 a0),(.int .i64 a1),(.int .i64 a2)]) (.agg #[(.int .i64 b0),(.int .i64 b1),(.int .i64 b2)])=some (.bool ((a0 == b0) && ((a1 == b1) && ((a2 == b2))))):=(ji (fs:=Wh) (r:=(a0 == b0) && ((a1 == b1) && ((a2 == b2)))) (by kernel_rfl) (by kernel_rfl) (by kernel_rfl) rfl rfl (Eq.trans (b:=(cond (a0 == b0) (cond (a1 == b1) (cond (a2 == b2) (some true) (some false)) (some false)) (some false))) (by kernel_rfl) (by cases (a0 == b0) <;> cases (a1 == b1) <;> cases (a2 == b2) <;> rfl))).1
theorem qi (b off:Nat):zb Tryd.prog 119 (.pointer (some ⟨b,off,none⟩)) 0=some (.pointer (some ⟨b,off,none⟩)):=zI (by kernel_rfl)
theorem Z1 (b off:Nat):zb Tryd.prog 119 (.pointer (some ⟨b,off,none⟩)) 1=some (.pointer (some ⟨b,off + 1,none⟩)):=zI (by kernel_rfl)
theorem uq (b off:Nat):zb Tryd.prog 126 (.pointer (some ⟨b,off,none⟩)) 0=some (.pointer (some ⟨b,off,none⟩)):=zI (by kernel_rfl)
theorem Y0 (b off:Nat):zb Tryd.prog 126 (.pointer (some ⟨b,off,none⟩)) 1=some (.pointer (some ⟨b,off + 1,none⟩)):=zI (by kernel_rfl)
theorem mL (b off:Nat):zb Tryd.prog 126 (.pointer (some ⟨b,off,none⟩)) 2=some (.pointer (some ⟨b,off + 2,none⟩)):=zI (by kernel_rfl)
theorem CH (b off:Nat):zb Tryd.prog 129 (.pointer (some ⟨b,off,none⟩)) 0=some (.pointer (some ⟨b,off,none⟩)):=zI (by kernel_rfl)
theorem CI (b off:Nat):zb Tryd.prog 129 (.pointer (some ⟨b,off,none⟩)) 1=some (.pointer (some ⟨b,off + 1,none⟩)):=zI (by kernel_rfl)
theorem Y3 (b off:Nat):zb Tryd.prog 129 (.pointer (some ⟨b,off,none⟩)) 2=some (.pointer (some ⟨b,off + 2,none⟩)):=zI (by kernel_rfl)
theorem xk (b off:Nat):zb Tryd.prog 86 (.pointer (some ⟨b,off,none⟩)) 0=some (.pointer (some ⟨b,off,none⟩)):=zI (by kernel_rfl)
theorem xi (b off:Nat):zb Tryd.prog 86 (.pointer (some ⟨b,off,none⟩)) 1=some (.pointer (some ⟨b,off + 1,none⟩)):=zI (by kernel_rfl)
theorem wO (b off:Nat):zb Tryd.prog 86 (.pointer (some ⟨b,off,none⟩)) 2=some (.pointer (some ⟨b,off + 2,none⟩)):=zI (by kernel_rfl)
theorem pE (b off len c:Nat) (k:IntKind) (i:Int):zA Tryd.prog 117 (.slice (some ⟨b,off,none⟩) len c) (.int k i)=if 0<=i/\i < len then some (.pointer (some ⟨b,off + i.toNat * 1,none⟩)) else none:=xN (e:=123) (by kernel_rfl) (by kernel_rfl)
theorem aX (b off len c:Nat) (k:IntKind) (i:Int):zA Tryd.prog 124 (.slice (some ⟨b,off,none⟩) len c) (.int k i)=if 0<=i/\i < len then some (.pointer (some ⟨b,off + i.toNat * 1,none⟩)) else none:=xN (e:=130) (by kernel_rfl) (by kernel_rfl)
theorem GF (b off:Nat) (k:IntKind) (i:Int):zA Tryd.prog 156 (.pointer (some ⟨b,off,none⟩)) (.int k i)=if 0<=i/\i < 64 then some (.pointer (some ⟨b,off + i.toNat * 5,none⟩)) else none:=Xr (e:=129) (len:=64) (by kernel_rfl) (by kernel_rfl)
theorem jO (b off len c:Nat) (k:IntKind) (i:Int):zA Tryd.prog 170 (.slice (some ⟨b,off,none⟩) len c) (.int k i)=if 0<=i/\i < len then some (.pointer (some ⟨b,off + i.toNat * 5,none⟩)) else none:=xN (e:=129) (by kernel_rfl) (by kernel_rfl)
theorem Yy (r:TypeId) (a:Option Addr) (n c:Nat) (h:za):zo Tryd.prog .len [117] r [.slice a n c] h=some (.int .i64 n,h):=zI (by kernel_rfl)
theorem XH (r:TypeId) (a:Option Addr) (n c:Nat) (h:za):zo Tryd.prog .len [170] r [.slice a n c] h=some (.int .i64 n,h):=zI (by kernel_rfl)
theorem GN (k k2:IntKind) (l c:Int) (h:za) (h0:0<=l) (h1:l<=c) (h2:c < 2 ^ 31):Yl Tryd.prog 124 (.int k l) (.int k2 c) h=some (.slice (some ⟨h.next,0,none⟩) l.toNat (c.toNat + 2),h.push (.cells (q7 [(.pointer none)] (c.toNat * 1)) 130)):=B8 (e:=130) (z:=(.pointer none)) (n:=1) (bytes:=8) (by kernel_rfl) (by kernel_rfl) (by kernel_rfl) rfl (by decide) (by decide) rfl h0 h1 h2
theorem Dq (b off:Nat) (lo hi:Option Value) (h:za):Cf Tryd.prog 156 (.pointer (some ⟨b,off,none⟩)) lo hi h=(vL hi 64 64).bind fun hh=>(vL lo 0 hh).bind fun l=>some (.slice (some ⟨b,off + (if 64=l then 0 else l * 5),none⟩) (hh - l) 0):=tZ (e:=129) (k:=64) (by kernel_rfl) (by kernel_rfl)
structure V where
 k:Int
 n:Int
 b:Int
 deriving DecidableEq
def V.jv (v:V):List Value:=[.int .i64 v.k,.int .i64 v.n,.int .i64 v.b]
def V.val (v:V):Value := .agg #[.int .i64 v.k,.int .i64 v.n,.int .i64 v.b]
def v0:V:=⟨0,0,0⟩
structure Cl where
 k:Int
 n:Int
 p:V
 deriving DecidableEq
def Cl.jv (c:Cl):List Value:=[.int .u8 c.k,.int .u8 c.n,.int .i64 c.p.k,.int .i64 c.p.n,.int .i64 c.p.b]
def KK:Cl:=⟨0,0,v0⟩
structure MB where
 size:Nat
 uX:Bool
 byte:Nat->Cl
abbrev MM:=List MB
def qd:Option Nat->Value
 | none => .pointer none
 | some g => .pointer (some ⟨g,0,none⟩)
def Ja (h:za) (g:Nat) (f:Nat->Cl):Prop := ∃ cs,h.get g=some (.cells cs 156)/\cs.length=320 /\ ∀ k j,k < 64->j < 5->cs[k * 5 + j]? = (f k).jv[j]?
structure j1 (h:za) (q:Nat) (gs:List (Option Nat)) (B:MB) (F:Nat->Prop):Prop where
 hl:gs.length=(B.size + 63) / 64
 fq:F q
 hq:h.get q=some (.cells (gs.map qd) 130)
 hg:∀ (j g:Nat),gs[j]? = some (some g)->F g/\Ja h g (fun k=>B.byte (64 * j + k))
 hn:∀ j:Nat,gs[j]? = some none->∀ k,k < 64->B.byte (64 * j + k)=KK
 hd:∀ i j g:Nat,gs[i]? = some (some g)->gs[j]? = some (some g)->i=j
 ht:∀ k,64 * gs.length<=k->B.byte k=KK
inductive Zj (h:za) (pg:Value) (B:MB) (F:Nat->Prop):Prop
 | empty (e:pg = .slice none 0 0) (u:∀ k,B.byte k=KK):Zj h pg B F
 | full (q c:Nat) (gs:List (Option Nat)) (e:pg = .slice (some ⟨q,0,none⟩) gs.length c) (x:j1 h q gs B F):Zj h pg B F
def K6 (h:za) (p:Nat) (B:MB) (F:Nat->Prop):Prop := ∃ pg,h.get p=some (.cells [.int .i64 B.size,pg,.bool B.uX] 126)/\F p/\Zj h pg B F
def live (M:MM):Nat:=(M.filter fun B => !B.uX).length
structure cG (h:za) (m:Nat) (bs:Value) (ps:List Nat) (fs:Nat->Nat->Prop) (M:MM) (F:Nat->Prop):Prop where
 hm:h.get m=some (.cells [bs,.int .i64 (live M)] 119)
 fm:F m
 len:ps.length=M.length
 hb:(M = []/\bs = .slice none 0 0) \/ ∃ bb c,bs = .slice (some ⟨bb,0,none⟩) M.length c/\c ≠ 0/\F bb/\h.get bb=some (.cells (ps.map fun p => .pointer (some ⟨p,0,none⟩)) 123) /\ ∀ i,¬ fs i bb
 nm:∀ i,¬ fs i m
 jU:∀ i p B,ps[i]? = some p->M[i]? = some B->K6 h p B (fs i)
 Bd:∀ i j b,fs i b->fs j b->i=j
 sub:∀ i b,fs i b->F b
 ok:∀ b,F b->True/\b < h.next
structure Zi (h:za) (m:Nat) (bs:Value) (ps:List Nat) (fs:Nat->Nat->Prop) (M:MM) (F:Nat->Prop):Prop where
 hm:h.get m=some (.cells [bs,.int .i64 (live M)] 119)
 fm:F m
 len:ps.length=M.length
 hb:(M = []/\bs = .slice none 0 0) \/ ∃ bb c,bs = .slice (some ⟨bb,0,none⟩) M.length c/\c ≠ 0/\F bb/\h.get bb=some (.cells (ps.map fun p => .pointer (some ⟨p,0,none⟩)) 123) /\ ∀ i,¬ fs i bb
 nm:∀ i,¬ fs i m
 jU:∀ i p B,ps[i]? = some p->M[i]? = some B->K6 h p B (fs i)
 Bd:∀ i j b,fs i b->fs j b->i=j
 sub:∀ i b,fs i b->F b
 ok:∀ b,F b->h.ro<=b/\b < h.next
theorem Zi.r {h:za} {m:Nat} {bs:Value} {ps:List Nat} {fs:Nat->Nat->Prop} {M:MM} {F:Nat->Prop} (x:Zi h m bs ps fs M F):cG h m bs ps fs M F:=⟨x.hm,x.fm,x.len,x.hb,x.nm,x.jU,x.Bd,x.sub,fun b hb=>⟨trivial,(x.ok b hb).2⟩⟩
def f9 (h:za) (m:Nat) (M:MM) (F:Nat->Prop):Prop := ∃ bs ps fs,Zi h m bs ps fs M F
structure qY (F:Nat->Prop) (h h':za):Prop where
 next:h.next<=h'.next
 ro:h'.ro=h.ro
 get:∀ b,¬ F b->b < h.next->h'.get b=h.get b
theorem qY.refl (F:Nat->Prop) (h:za):qY F h h:=⟨MI _,rfl,fun _ _ _=>rfl⟩
theorem qY.trans {F:Nat->Prop} {a b c:za} (x:qY F a b) (y:qY F b c):qY F a c :=
 ⟨Nm x.next y.next,y.ro.trans x.ro,fun i hi hlt=>(y.get i hi (ML hlt x.next)).trans (x.get i hi hlt)⟩
theorem qY.mono {F G:Nat->Prop} {a b:za} (x:qY F a b) (h:∀ i,F i->G i):qY G a b:=⟨x.next,x.ro,fun i hi hlt=>x.get i (fun e=>hi (h i e)) hlt⟩
def iz:Nat->Prop:=fun _=>False
theorem qY.push {F:Nat->Prop} {h h':za} (x:qY F h h') (o:xS):qY F h (h'.push o) :=
 ⟨Nat.le_succ_of_le x.next,x.ro,fun b hb hlt=>(zO (ML hlt x.next)).trans (x.get b hb hlt)⟩
theorem qY.set {F:Nat->Prop} {h h':za} (x:qY F h h') {b:Nat} (hb:F b\/h.next<=b) (o:Option xS):qY F h (h'.set b o) :=
 ⟨x.next,x.ro,fun c hc hlt=>(zN (by rcases hb with e | e; (intro q;subst q;exact hc e);omega)).trans (x.get c hc hlt)⟩
section mono
variable {h h':za}
theorem Ja.zI {g:Nat} {f:Nat->Cl} (x:Ja h g f) (e:h'.get g=h.get g):Ja h' g f:=by obtain ⟨cs,a,b⟩:=x;exact ⟨cs,e.trans a,b⟩
theorem j1.zI {q:Nat} {gs:List (Option Nat)} {B:MB} {F:Nat->Prop} (x:j1 h q gs B F) (e:∀ b,F b->h'.get b=h.get b):j1 h' q gs B F :=
 ⟨x.hl,x.fq,(e q x.fq).trans x.hq,fun j g hj=>⟨(x.hg j g hj).1,(x.hg j g hj).2.zI (e g (x.hg j g hj).1)⟩,x.hn,x.hd,x.ht⟩
theorem j1.more {q:Nat} {gs:List (Option Nat)} {B:MB} {F G:Nat->Prop} (x:j1 h q gs B F) (e:∀ b,F b->G b):j1 h q gs B G :=
 ⟨x.hl,e q x.fq,x.hq,fun j g hj=>⟨e _ (x.hg j g hj).1,(x.hg j g hj).2⟩,x.hn,x.hd,x.ht⟩
theorem Zj.zI {pg:Value} {B:MB} {F:Nat->Prop} (x:Zj h pg B F) (e:∀ b,F b->h'.get b=h.get b):Zj h' pg B F:=by
 cases x with
 | empty a b=>exact .empty a b
 | full q c gs a x=>exact .full q c gs a (x.zI e)
theorem Zj.more {pg:Value} {B:MB} {F G:Nat->Prop} (x:Zj h pg B F) (e:∀ b,F b->G b):Zj h pg B G:=by
 cases x with
 | empty a b=>exact .empty a b
 | full q c gs a x=>exact .full q c gs a (x.more e)
theorem K6.zI {p:Nat} {B:MB} {F:Nat->Prop} (x:K6 h p B F) (e:∀ b,F b->h'.get b=h.get b):K6 h' p B F:=by
 obtain ⟨pg,a,b,c⟩:=x;exact ⟨pg,(e p b).trans a,b,c.zI e⟩
theorem K6.more {p:Nat} {B:MB} {F G:Nat->Prop} (x:K6 h p B F) (e:∀ b,F b->G b):K6 h p B G:=by
 obtain ⟨pg,a,b,c⟩:=x;exact ⟨pg,a,e p b,c.more e⟩
theorem cG.zI {m:Nat} {bs:Value} {ps:List Nat} {fs:Nat->Nat->Prop} {M:MM} {F:Nat->Prop} (x:cG h m bs ps fs M F) (e:∀ b,F b->h'.get b=h.get b) (hn:h.next<=h'.next):cG h' m bs ps fs M F :=
 ⟨(e m x.fm).trans x.hm,x.fm,x.len,by
   rcases x.hb with a | ⟨bb,c,a,b,d,g,o⟩
   ·exact .inl a
   ·exact .inr ⟨bb,c,a,b,d,(e bb d).trans g,o⟩,x.nm,fun i p B hp hB=>(x.jU i p B hp hB).zI (fun b hb=>e b (x.sub i b hb)),x.Bd,x.sub,fun b hb=>by
    exact ⟨trivial,ML (x.ok b hb).2 hn⟩⟩
theorem Zi.zI {m:Nat} {bs:Value} {ps:List Nat} {fs:Nat->Nat->Prop} {M:MM} {F:Nat->Prop} (x:Zi h m bs ps fs M F) (e:∀ b,F b->h'.get b=h.get b) (hn:h.next<=h'.next) (hr:h'.ro=h.ro):Zi h' m bs ps fs M F :=
 ⟨(e m x.fm).trans x.hm,x.fm,x.len,by
   rcases x.hb with a | ⟨bb,c,a,b,d,g,o⟩
   ·exact .inl a
   ·exact .inr ⟨bb,c,a,b,d,(e bb d).trans g,o⟩,x.nm,fun i p B hp hB=>(x.jU i p B hp hB).zI (fun b hb=>e b (x.sub i b hb)),x.Bd,x.sub,fun b hb=>by
    have:=x.ok b hb;rw [hr];omega⟩
theorem f9.zI {m:Nat} {M:MM} {F:Nat->Prop} (x:f9 h m M F) (e:∀ b,F b->h'.get b=h.get b) (hn:h.next<=h'.next) (hr:h'.ro=h.ro):f9 h' m M F:=by
 obtain ⟨bs,ps,fs,x⟩:=x;exact ⟨bs,ps,fs,x.zI e hn hr⟩
theorem f9.Za {m:Nat} {M:MM} {F G:Nat->Prop} (x:f9 h m M F) (e:qY G h h') (hd:∀ b,F b->¬ G b):f9 h' m M F:=by
 obtain ⟨bs,ps,fs,x⟩:=x
 exact ⟨bs,ps,fs,x.zI (fun b hb=>e.get b (hd b hb) (x.ok b hb).2) e.next e.ro⟩
end mono
theorem CW {M:MM} {i:Nat} {B B':MB} (h:M[i]? = some B) (hf:B'.uX=B.uX):live (M.set i B')=live M:=by
 unfold live
 induction M generalizing i with
 | nil=>rfl
 | cons A M ih=>
   cases i with
   | zero=>simp at h;subst h;simp [hf,NW];split <;> rfl
   | succ i=>simp at h;simp only [Nq,NW];split <;> simp [ih h]
theorem nE {M:MM} {i:Nat} {B:MB} (h:M[i]? = some B):M.set i B=M:=by
 apply N1
 intro j
 by_cases e:i=j
 ·subst e
  have hlt:i < M.length:=by
   rcases MX i M.length with a | a
   ·exact a
   ·rw [MO a] at h;cases h
  rw [NA hlt,h]
 ·rw [NS e]
theorem Zi.iL {h h1:za} {m:Nat} {bs:Value} {ps:List Nat} {fs:Nat->Nat->Prop} {M:MM} {F:Nat->Prop} (x:Zi h m bs ps fs M F) {i q:Nat} {B B':MB} {F2:Nat->Prop} (hq:ps[i]? = some q) (hB:M[i]? = some B) (hf:B'.uX=B.uX)
  (Za:qY (fs i) h h1) (hb:K6 h1 q B' F2) (h2:∀ b,F2 b->fs i b\/h.next<=b) (h3:∀ b,F2 b->h1.ro<=b/\b < h1.next) :
  Zi h1 m bs ps (fun k=>if k=i then F2 else fs k) (M.set i B') (fun b=>F b\/F2 b):=by
 have old:∀ b,F b->¬ fs i b->h1.get b=h.get b:=fun b hb hn=>Za.get b hn (x.ok b hb).2
 have hnew:∀ b,h.next<=b->F b->False:=fun b hl hb=>by have:=(x.ok b hb).2;omega
 have hlt:i < M.length:=by
  rcases MX i M.length with a | a
  ·exact a
  ·rw [MO a] at hB;cases hB
 refine ⟨by rw [old m x.fm (x.nm i),x.hm,CW hB hf],.inl x.fm,by rw [x.len,NU],?_,?_,?_,?_,?_,?_⟩
 ·rcases x.hb with ⟨rfl,_⟩ | ⟨bb,c,e1,e2,e3,e4,e5⟩
  ·cases hB
  ·refine .inr ⟨bb,c,by rw [e1,NU],e2,.inl e3,(old bb e3 (e5 i)).trans e4,fun k hk => ?_⟩
   split at hk
   ·rcases h2 bb hk with a | a
    ·exact e5 i a
    ·exact hnew bb a e3
   ·exact e5 k hk
 ·intro k hk
  split at hk
  ·rcases h2 m hk with a | a
   ·exact x.nm i a
   ·exact hnew m a x.fm
  ·exact x.nm k hk
 ·intro k p C hp hC
  by_cases e:k=i
  ·subst e
   rw [NA hlt] at hC
   cases hC
   rw [hq] at hp;cases hp
   simp only [MK]
   exact hb
  ·rw [NS (fun q=>e q.symm)] at hC
   simp only [MJ e]
   exact (x.jU k p C hp hC).zI (fun b hb=>old b (x.sub k b hb) (fun hc=>e (x.Bd k i b hb hc)))
 ·intro a b z ha hz
  split at ha <;> split at hz
  ·rename_i e1 e2;rw [e1,e2]
  ·rename_i e1 e2
   rcases h2 z ha with c | c
   ·exact absurd (x.Bd b i z hz c) e2
   ·exact (hnew z c (x.sub b z hz)).elim
  ·rename_i e1 e2
   rcases h2 z hz with c | c
   ·exact absurd (x.Bd a i z ha c) e1
   ·exact (hnew z c (x.sub a z ha)).elim
  ·exact x.Bd a b z ha hz
 ·intro k b hk
  split at hk
  ·exact .inr hk
  ·exact .inl (x.sub k b hk)
 ·intro b hb
  have n1:=Za.next
  have n2:=Za.ro
  rcases hb with hb | hb
  ·have:=x.ok b hb;omega
  ·exact h3 b hb
def Wm (v:V):Bool:=if v.k=0 then (v.n == 0 && v.b == 0) else if v.k=1 then v.b == 0 else v.k == 2 && decide (1<=v.b)
theorem VH (v:V) (h:za):wS Tryd.prog 100 [v.val] h (.bool (Wm v)):=by
 refine wS.of rfl ?_
 obtain ⟨k,n,b⟩:=v
 apply tp
 unfold Bq V.val Wm
 by_cases h0:k=0
 ·subst h0
  simp -implicitDefEqProofs only [zq,zC,zM,yy,zS,vN,jy,zB,zK,yx,nth,nw,Value.cells,BK,MD,MH,M1,MT,MY,M0,NP,Nh,NL,MA,MS,Ob,Nat.reduceAdd,Int.reduceEq,MI,wL,wg,ZL,zE,yb,zL,MP,Oa,zu,zn,yA,YF,xk,wO]
  try rfl
 ·by_cases h1:k=1
  ·subst h1
   simp -implicitDefEqProofs only [zq,zC,zM,yy,zS,vN,jy,zB,zK,yx,nw,Value.cells,BK,MD,MH,M1,MT,MY,M0,NP,Nh,NL,MA,MS,Nat.reduceAdd,MI,wL,wg,ZL,zE,yb,zL,MP,zu,zn,yA,YF,xk,wO,h0]
   try rfl
  ·by_cases h2:k=2
   ·subst h2
    simp -implicitDefEqProofs only [zq,zC,zM,zS,uP,xj,vN,fy,jy,zB,zK,yx,nth,nw,Value.cells,BK,MD,MH,M1,MT,MY,M0,NP,Nh,NL,MA,MS,Ob,Nat.reduceAdd,MI,wL,wg,ZL,zE,yb,zL,MP,Oa,zu,zn,yA,YF,xk,wO,h0,h1]
    try rfl
   ·simp -implicitDefEqProofs only [zq,zC,zM,zS,qq,ye,vN,jy,zB,zK,yx,nth,nw,Value.cells,BK,MD,MH,M1,MT,MY,M0,NP,Nh,NL,MA,MS,Nat.reduceAdd,MI,wg,ZL,zE,yb,zL,MP,zu,zn,yA,YF,xk,wO,h0,h1,h2]
    simp [h2]
theorem qS (n:Int) (h:za):DC Tryd.prog 46 [.int .i64 n] h (fun v h1=>v=V.val ⟨1,n,0⟩/\qY iz h h1):=by
 apply Zq;intro hwf;have hro:=hwf.2
 apply DO
 unfold Hy V.val
 simp -implicitDefEqProofs only [zq,zC,zM,vN,zK,yx,vV,nw,Value.cells,M1,MT,MY,M0,Nx,NO,ze,Nw,Nq,NP,Nh,NL,MA,ND,Nat.reduceAdd,NB,Oq,MI,vr,zE,zZ,xU,yb,zn,zF,wi,Ah,hro]
 exact ((qY.refl _ _).push _).set (.inr (MI _)) _
theorem kC {n:Int} (h1 : -9223372036854775808<=n) (h2:n < 9223372036854775808):IntKind.wrap .i64 n=n:=by
 simp only [IntKind.wrap,IntKind.bits,IntKind.signed];simp;omega
def idx (M:MM) (n:Int):Option Nat:=if 1<=n/\n<=M.length then (match M[n.toNat - 1]? with
 | some B=>if B.uX=true then none else some (n.toNat - 1)
 | none=>none) else none
theorem aV {M:MM} {n:Int} {i:Nat} (h:idx M n=some i):n=i + 1 /\ ∃ B,M[i]? = some B/\B.uX=false:=by
 unfold idx at h
 split at h
 case isFalse=>cases h
 rename_i hn
 split at h
 case h_2=>cases h
 rename_i B hB
 split at h
 case isTrue=>cases h
 rename_i hf
 simp only [My] at h
 subst h
 exact ⟨by omega,B,hB,by simpa using hf⟩
theorem El {ps:List Nat} {i p:Nat} (h:ps[i]? = some p):(ps.map fun p=>Value.pointer (some ⟨p,0,none⟩))[i]? = some (.pointer (some ⟨p,0,none⟩)):=by simp [h]
theorem sd {h:za} {m:Nat} {bs:Value} {ps:List Nat} {fs:Nat->Nat->Prop} {M:MM} {F:Nat->Prop} (x:cG h m bs ps fs M F) {n:Int} (hn:n < 9223372036854775808) :
  DC Tryd.prog 60 [.pointer (some ⟨m,0,none⟩),.int .i64 n] h (fun v h1=>h1=h/\v=qd ((idx M n).bind fun i=>ps[i]?)):=by
 apply DP
 unfold Hz
 have hm:=x.hm
 by_cases h1:n < 1
 ·have e:idx M n=none:=by unfold idx;rw [MJ (by omega)]
  simp -implicitDefEqProofs only [zq,zC,zM,yy,Yf,xj,xR,vN,vy,j9,zB,zK,xo,Ny,NB,wL,zL,Zl,qi,h1,e,Ny,qd]
 ·rcases x.hb with ⟨rfl,rfl⟩ | ⟨bb,c,rfl,hc,fb,hbb,_⟩
  ·have e:idx ([]:MM) n=none:=by unfold idx;rw [MJ (by simp;omega)]
   have h2:((0:Nat):Int) < n:=by omega
   simp -implicitDefEqProofs only [zq,yF,zC,zM,yy,vW,Yf,xj,ye,xR,vN,vy,Zr,j9,zB,zK,xo,z8,Ny,MD,NB,wL,wg,zL,MP,Zl,qi,Yy,h1,hm,h2,e,Ny,qd]
  ·by_cases h2:(M.length:Int) < n
   ·have e:idx M n=none:=by unfold idx;rw [MJ (by omega)]
    simp -implicitDefEqProofs only [zq,yF,zC,zM,yy,vW,Yf,xj,ye,xR,vN,vy,Zr,j9,zB,zK,xo,z8,Ny,MD,NB,wL,wg,zL,MP,Zl,qi,Yy,h1,hm,h2,e,Ny,qd]
   ·have hi:n.toNat - 1 < M.length:=by omega
    obtain ⟨p,hp⟩:∃ p,ps[n.toNat - 1]? = some p:=⟨_,MF (by rw [x.len];exact hi)⟩
    have hB:M[n.toNat - 1]? = some M[n.toNat - 1]:=MF hi
    generalize M[n.toNat - 1]=B at hB
    obtain ⟨pg,hbk,_,_⟩:=x.jU _ p B hp hB
    have hw:IntKind.wrap .i64 (n - 1)=n - 1:=kC (by omega) (by omega)
    have ht:(n - 1).toNat * 1=n.toNat - 1:=by omega
    have hc1:0<=n - 1/\n - 1 < (M.length:Int):=by omega
    have hpp:=El hp
    cases hf:B.uX with
    | true=>
      have e:idx M n=none:=by unfold idx;rw [MK (by omega),hB];simp [hf]
      simp -implicitDefEqProofs only [zq,yF,zC,zM,yy,vW,ye,xR,vN,vy,Zr,j9,zB,zK,xo,z8,Ny,MD,MH,MT,MA,NB,wg,zL,MP,Zl,B3,oM,qi,mL,pE,Yy,h1,hm,h2,hw,ht,hc1,hbb,hpp,hbk,hf,e,Ny,qd]
    | false=>
      have e:idx M n=some (n.toNat - 1):=by unfold idx;rw [MK (by omega),hB];simp [hf]
      simp -implicitDefEqProofs only [zq,yF,zC,zM,zS,vW,ye,xR,vN,vy,Zr,j9,zB,zK,xo,z8,Nd,MD,MH,MT,MA,NB,Oq,wg,zL,MP,Zl,B3,oM,qi,mL,pE,Yy,h1,hm,h2,hw,ht,hc1,hbb,hpp,hbk,hf,e,Nd,hp,qd]
def zp:List Value:=(List.replicate 64 [Value.int .u8 0,.int .u8 0,.int .i64 0,.int .i64 0,.int .i64 0]).flatten
theorem Co:yR Tryd.prog 156 []=some (.agg zp.toArray):=zI (by kernel_rfl)
theorem DG:zp.length=320:=by kernel_rfl
theorem Hk:∀ k j,k < 64->j < 5->zp[k * 5 + j]? = KK.jv[j]?:=by
 have h:(List.range 64).all (fun k=>(List.range 5).all fun j=>decide (k * 5 + j < zp.length))=true:=by decide +kernel
 have key:∀ k:Fin 64,∀ j:Fin 5,zp[k.1 * 5 + j.1]? = KK.jv[j.1]?:=by
  intro k j
  have hl:k.1 * 5 + j.1 < zp.length:=by rw [DG];omega
  have e1:zp[k.1 * 5 + j.1]? = ([Value.int .u8 0,.int .u8 0,.int .i64 0,.int .i64 0,.int .i64 0]:List Value)[j.1]?:=by
   have aux:∀ (n:Nat) (l:List Value),l.length=5->∀ k j,k < n->j < 5->((List.replicate n l).flatten)[k * 5 + j]? = l[j]?:=by
    intro n l hl
    induction n with
    | zero=>intro k j hk;omega
    | succ n ih=>
      intro k j hk hj
      rw [List.replicate_succ,List.flatten_cons]
      cases k with
      | zero=>rw [NC (by omega)];simp
      | succ k=>rw [NM (by omega),hl,show (k + 1) * 5 + j - 5=k * 5 + j by omega];exact ih k j (by omega) hj
   exact aux 64 _ rfl k.1 j.1 k.2 j.2
  rw [e1];rfl
 exact fun k j hk hj=>key ⟨k,hk⟩ ⟨j,hj⟩
theorem Hi (v:Value) (n:Nat):q7 [v] (n * 1)=List.replicate n v:=by
 simp only [q7,N4]
 apply N1
 intro i
 by_cases h:i < n
 ·simp [h,Nat.mod_one]
 ·simp [h]
theorem bS {n j g:Nat} (h:(List.replicate n (none:Option Nat))[j]? = some (some g)):False:=by
 rw [List.getElem?_replicate] at h;split at h <;> cases h
theorem mV {gs:List (Option Nat)} {j:Nat} {o:Option Nat} (h:gs[j]? = some o):(gs.map qd)[j]? = some (qd o):=by simp [h]
theorem mW (gs:List (Option Nat)) (j g:Nat):(gs.map qd).set j (.pointer (some ⟨g,0,none⟩))=(gs.set j (some g)).map qd:=by rw [List.map_set];rfl
theorem AS {h h1:za} {q j g:Nat} {gs:List (Option Nat)} {B:MB} {F:Nat->Prop} (hl:gs.length=(B.size + 63) / 64) (hg:∀ (j g:Nat),gs[j]? = some (some g)->F g/\Ja h g (fun k=>B.byte (64 * j + k))) (hn:∀ j:Nat,gs[j]? = some none->∀ k,k < 64->B.byte (64 * j + k)=KK)
  (hd:∀ i j g:Nat,gs[i]? = some (some g)->gs[j]? = some (some g)->i=j) (ht:∀ k,64 * gs.length<=k->B.byte k=KK) (hj:gs[j]? = some none) (hq:h1.get q=some (.cells ((gs.set j (some g)).map qd) 130)) (fq:F q)
  (hold:∀ (i g:Nat),gs[i]? = some (some g)->h1.get g=h.get g) (hnew:h1.get g=some (.cells zp 156)) (fg:¬ F g):j1 h1 q (gs.set j (some g)) B (fun b=>F b\/b=g):=by
 have hlt:j < gs.length:=by
  rcases MX j gs.length with a | a
  ·exact a
  ·rw [MO a] at hj;cases hj
 have hs:∀ i o,(gs.set j (some g))[i]? = some o->(i=j/\o=some g)\/(i ≠ j/\gs[i]? = some o):=by
  intro i o hi
  by_cases e:i=j
  ·subst e;rw [NA hlt] at hi;exact .inl ⟨rfl,(Option.some.inj hi).symm⟩
  ·rw [NS (fun q=>e q.symm)] at hi;exact .inr ⟨e,hi⟩
 refine ⟨by simp [hl],.inl fq,hq,fun i g' hi => ?_,fun i hi => ?_,fun a b g' ha hb => ?_,by simpa using ht⟩
 ·rcases hs i _ hi with ⟨rfl,e⟩ | ⟨_,e⟩
  ·cases e
   refine ⟨.inr rfl,zp,hnew,DG,fun k j' hk hj' => ?_⟩
   rw [Hk k j' hk hj'];show _=(B.byte (64 * i + k)).jv[j']?;rw [hn i hj k hk]
  ·exact ⟨.inl (hg i g' e).1,(hg i g' e).2.zI (hold i g' e)⟩
 ·rcases hs i _ hi with ⟨_,e⟩ | ⟨_,e⟩
  ·cases e
  ·exact hn i e
 ·rcases hs a _ ha with ⟨e1,e2⟩ | ⟨_,e2⟩ <;> rcases hs b _ hb with ⟨e3,e4⟩ | ⟨_,e4⟩
  ·rw [e1,e3]
  ·cases e2;exact absurd (hg _ _ e4).1 fg
  ·cases e4;exact absurd (hg _ _ e2).1 fg
  ·exact hd a b g' e2 e4
section
variable {h:za} {p:Nat} {B:MB} {F:Nat->Prop} {pg:Value} {a:Int}
theorem Fq (h0:0<=a) (h1:a < 4611686018427387904):IntKind.wrap .i64 (a.tdiv 64)=((a.toNat / 64:Nat):Int):=by
 rw [Int.tdiv_eq_ediv_of_nonneg h0,kC (by omega) (by omega)];omega
def Hu (h:za) (B:MB) (F:Nat->Prop) (a:Int) (v:Value) (h1:za):Prop :=
 h1=h/\((v=qd none /\ ∀ k,k < 64->B.byte (64 * (a.toNat / 64) + k)=KK) \/ ∃ g,v=qd (some g)/\F g/\Ja h g (fun k=>B.byte (64 * (a.toNat / 64) + k)))
theorem GK (hb:h.get p=some (.cells [.int .i64 B.size,pg,.bool B.uX] 126)) (x:Zj h pg B F) (h0:0<=a) (h1:a < B.size) (hz:B.size < 4611686018427387904) :
  DC Tryd.prog 61 [.pointer (some ⟨p,0,none⟩),.int .i64 a,.bool false] h (Hu h B F a):=by
 apply dr
 unfold nU
 cases x with
 | empty e u=>
   subst e
   simp -implicitDefEqProofs only [zq,zC,zM,yy,zS,uP,xj,xR,vN,qV,j9,Kn,zB,zK,xo,z8,nw,Value.cells,MD,MH,MT,Int.reduceEq,zL,MP,QC,zu,mG,uq,Y0,hb]
   exact ⟨rfl,.inl ⟨rfl,fun k _=>u _⟩⟩
 | full q c gs e x=>
   obtain ⟨hl,fq,hq,hg,hn,hd,ht⟩:=x
   subst e
   have hj:a.toNat / 64 < gs.length:=by rw [hl];omega
   have hw:=Fq h0 (by omega)
   obtain ⟨o,ho⟩:∃ o,gs[a.toNat / 64]? = some o:=⟨_,MF hj⟩
   have hgg:=mV ho
   have hc1:0<=((a.toNat / 64:Nat):Int)/\((a.toNat / 64:Nat):Int) < (gs.length:Int):=by omega
   cases o with
   | none=>
     simp -implicitDefEqProofs only [zq,zC,zM,zS,uP,qq,xj,ye,xR,vN,Kn,zB,zK,xo,z8,WU,nw,Value.cells,MD,MH,MT,MY,M0,Nx,NO,ze,MA,ND,Int.reduceEq,NB,vr,xU,zL,MP,QC,JV,zu,oP,Uy,Uz,uq,Y0,aX,hb,hq,hw,hc1,M4,N4,hgg,qd]
     exact ⟨rfl,.inl ⟨rfl,fun k hk=>hn _ ho k hk⟩⟩
   | some g=>
     simp -implicitDefEqProofs only [zq,zC,zM,zS,qq,ye,xR,vN,Kn,zB,zK,xo,z8,nw,Value.cells,MD,MH,MT,MA,Int.reduceEq,NB,zL,MP,QC,JV,zu,Uz,KV,uq,Y0,aX,hb,hq,hw,hc1,M4,N4,hgg,qd]
     exact ⟨rfl,.inr ⟨g,rfl,hg _ g ho⟩⟩
def iS (h:za) (p:Nat) (B:MB) (F:Nat->Prop) (a:Int) (v:Value) (h1:za):Prop :=
 ∃ g q c gs F',v=qd (some g)/\h1.get p=some (.cells [.int .i64 B.size,.slice (some ⟨q,0,none⟩) gs.length c,.bool B.uX] 126)/\j1 h1 q gs B F'/\gs[a.toNat / 64]? = some (some g)/\F' p/\qY F h h1/\(∀ b,F' b->F b\/h.next<=b) /\ ∀ b,F' b->h1.ro<=b/\b < h1.next
theorem iS.mk {h h1:za} {p q c g:Nat} {gs:List (Option Nat)} {B:MB} {F:Nat->Prop} {a:Int} (fp:F p) (ok:∀ b,F b->h.ro<=b/\b < h.next) (hl:gs.length=(B.size + 63) / 64) (hj:gs[a.toNat / 64]? = some none) (fq:F q\/h.next<=q)
  (hg:∀ (j g:Nat),gs[j]? = some (some g)->F g/\Ja h g (fun k=>B.byte (64 * j + k))) (hn:∀ j:Nat,gs[j]? = some none->∀ k,k < 64->B.byte (64 * j + k)=KK)
  (hd:∀ i j g:Nat,gs[i]? = some (some g)->gs[j]? = some (some g)->i=j) (ht:∀ k,64 * gs.length<=k->B.byte k=KK)
  (Za:qY F h h1) (hqn:q < h1.next) (hgn:h.next<=g/\g < h1.next) (hro:h.ro<=h.next)
  (hp1:h1.get p=some (.cells [.int .i64 B.size,.slice (some ⟨q,0,none⟩) gs.length c,.bool B.uX] 126)) (hq1:h1.get q=some (.cells ((gs.set (a.toNat / 64) (some g)).map qd) 130)) (hg1:h1.get g=some (.cells zp 156))
  (hold:∀ (i g:Nat),gs[i]? = some (some g)->h1.get g=h.get g):iS h p B F a (.pointer (some ⟨g,0,none⟩)) h1:=by
 have P:=AS (F:=fun b=>F b\/b=q) (h1:=h1) hl (fun j g hj=>⟨.inl (hg j g hj).1,(hg j g hj).2⟩) hn hd ht hj hq1 (.inr rfl) hold hg1 (by
  rintro (e | e)
  ·have:=ok _ e;omega
  ·subst e;rw [hq1] at hg1;simp at hg1)
 have hlt:a.toNat / 64 < gs.length:=by
  rcases MX (a.toNat / 64) gs.length with e | e
  ·exact e
  ·rw [MO e] at hj;cases hj
 refine ⟨g,q,c,_,_,rfl,by rw [NU];exact hp1,P,NA hlt,.inl (.inl fp),Za,fun b hb => ?_,fun b hb => ?_⟩
 ·rcases hb with (hb | hb) | hb
  ·exact .inl hb
  ·subst hb;exact fq
  ·subst hb;exact .inr hgn.1
 ·have n1:=Za.next
  have n2:=Za.ro
  rcases hb with (hb | hb) | hb
  ·have:=ok b hb;omega
  ·subst hb
   rcases fq with fq | fq
   ·have:=ok b fq;omega
   ·omega
  ·subst hb;omega
theorem CX (hb:h.get p=some (.cells [.int .i64 B.size,pg,.bool B.uX] 126)) (x:Zj h pg B F) (fp:F p) (ok:∀ b,F b->h.ro<=b/\b < h.next) (hro:h.ro<=h.next) (h0:0<=a) (h1:a < B.size) (hz:B.size < 2147483648) :
  DC Tryd.prog 61 [.pointer (some ⟨p,0,none⟩),.int .i64 a,.bool true] h (iS h p B F a):=by
 apply dr
 unfold nU
 have hw:=Fq h0 (by omega)
 have okp:=ok p fp
 have hpn:¬ p=h.next:=by omega
 have hnp:¬ h.next=p:=by omega
 have hpn1:¬ p=h.next + 1:=by omega
 cases x with
 | empty e u=>
   subst e
   have hn1:IntKind.wrap .i64 ((B.size:Int) + 64)=(B.size:Int) + 64:=kC (by omega) (by omega)
   have hn2:IntKind.wrap .i64 ((B.size:Int) + 64 - 1)=((B.size + 63:Nat):Int):=by rw [kC (by omega) (by omega)];omega
   have hn3:IntKind.wrap .i64 (((B.size + 63:Nat):Int).tdiv 64)=(((B.size + 63) / 64:Nat):Int):=by
    rw [Int.tdiv_eq_ediv_of_nonneg (by omega),kC (by omega) (by omega)];omega
   have hm:=GN .i64 .i64 (((B.size + 63) / 64:Nat):Int) (((B.size + 63) / 64:Nat):Int) h (by omega) (by omega) (by omega)
   have hj:a.toNat / 64 < (B.size + 63) / 64:=by omega
   have hj1:a.toNat / 64 + 1<=(B.size + 63) / 64:=hj
   have hc1:0<=((a.toNat / 64:Nat):Int)/\((a.toNat / 64:Nat):Int) < (((B.size + 63) / 64:Nat):Int):=by omega
   have hrep:(List.replicate ((B.size + 63) / 64) (Value.pointer none))[a.toNat / 64]? = some (.pointer none):=by simp [hj]
   have hset:∀ v:Value,((List.replicate ((B.size + 63) / 64) (Value.pointer none)).set (a.toNat / 64) v)[a.toNat / 64]? = some v:=fun v=>NA (by simpa using hj)
   simp only [M4,Hi] at hm
   simp -implicitDefEqProofs only [zq,yF,zC,zM,yy,zS,uP,xj,xR,vN,qV,j9,Kn,zB,zK,xo,z8,yx,WU,YX,nw,Value.cells,MD,MH,M1,MT,MY,M0,List.length_replicate,Nx,NO,ze,Nw,Nq,MA,ND,Nat.reduceAdd,Nat.reduceLeDiff,Int.reduceEq,NB,yd,vM,vr,W1,zE,zO,zZ,zN,K5,QT,xU,zL,MP,QC,JV,zu,Gb,oP,mG,Uy,Uz,uq,Y0,aX,hb,hn1,hn2,hn3,hm,okp,hpn,hnp,hw,hc1,M4,N4,hrep,Co,hj1,hro,hset]
   have hnn:¬ h.next + 1=h.next:=by omega
   have hrl:(List.replicate ((B.size + 63) / 64) (none:Option Nat)).length=(B.size + 63) / 64:=List.length_replicate
   refine iS.mk (q:=h.next) (c:=(B.size + 63) / 64 + 2) (gs:=List.replicate ((B.size + 63) / 64) none) fp ok hrl (by simp [hj]) (.inr (MI _)) (fun j g hj=>(bS hj).elim) (fun _ _ k _=>u _) (fun i j g hi=>(bS hi).elim) (fun k _=>u k)
    ?_ ?_ ?_ hro ?_ ?_ ?_ (fun i g hi=>(bS hi).elim)
   ·exact ((((qY.refl F h).push _).set (.inl fp) _).push _).set (.inr (MI _)) _
   ·simp only [vM,yd];omega
   ·simp only [vM,yd];omega
   ·rw [hrl];simp -implicitDefEqProofs only [yd,vM,zO,zZ,zN,QT,MP,hpn,okp]
   ·simp -implicitDefEqProofs only [zZ];rw [<- mW,List.map_replicate];rfl
   ·simp -implicitDefEqProofs only [yd,vM,zE,zN,MP,hnn]
 | full q c gs e x=>
   obtain ⟨hl,fq,hq,hg,hn,hd,ht⟩:=x
   subst e
   have hj:a.toNat / 64 < gs.length:=by rw [hl];omega
   have hj1:a.toNat / 64 + 1<=gs.length:=hj
   obtain ⟨o,ho⟩:∃ o,gs[a.toNat / 64]? = some o:=⟨_,MF hj⟩
   have hgg:=mV ho
   have hc1:0<=((a.toNat / 64:Nat):Int)/\((a.toNat / 64:Nat):Int) < (gs.length:Int):=by omega
   have okq:=ok q fq
   cases o with
   | some g=>
     simp -implicitDefEqProofs only [zq,zC,zM,zS,qq,ye,xR,vN,Kn,zB,zK,xo,z8,nw,Value.cells,MD,MH,MT,MA,Int.reduceEq,NB,zL,MP,QC,JV,zu,Uz,KV,uq,Y0,aX,hb,hq,hw,hc1,M4,N4,hgg,qd]
     exact ⟨g,q,c,gs,F,rfl,hb,⟨hl,fq,hq,hg,hn,hd,ht⟩,ho,fp,.refl _ _,fun b hb => .inl hb,ok⟩
   | none=>
     have hqn:¬ q=h.next:=by omega
     have hnq:¬ h.next=q:=by omega
     have hpq:¬ p=q:=by intro e;subst e;rw [hb] at hq;simp at hq
     have hset:∀ v:Value,((gs.map qd).set (a.toNat / 64) v)[a.toNat / 64]? = some v:=fun v=>NA (by simpa using hj)
     simp -implicitDefEqProofs only [zq,zC,zM,yy,zS,uP,qq,xj,ye,xR,vN,Kn,zB,zK,xo,z8,yx,WU,nw,Value.cells,MD,MH,M1,MT,MY,M0,Nf,Nx,NO,ze,MA,ND,Int.reduceEq,NB,vr,zO,zZ,zN,xU,zL,MP,QC,JV,zu,oP,Uy,Uz,uq,Y0,aX,hb,hq,hw,hc1,M4,N4,hgg,qd,Co,okq,okp,hj1,hset,hpq]
     refine iS.mk (q:=q) (c:=c) (gs:=gs) fp ok hl ho (.inl fq) hg hn hd ht ?_ ?_ ?_ hro ?_ ?_ ?_ (fun i g hi => ?_)
     ·exact ((qY.refl F h).push _).set (.inl fq) _
     ·simp only [vM,yd];omega
     ·simp only [vM,yd];omega
     ·simp -implicitDefEqProofs only [zO,zN,MP,hpq,okp,hb]
     ·simp -implicitDefEqProofs only [zZ];rw [<- mW]
     ·simp -implicitDefEqProofs only [zE,zN,MP,hnq]
     ·have hgq:¬ g=q:=by
       intro e;subst e
       obtain ⟨cs,e1,_⟩:=(hg i g hi).2
       rw [hq] at e1;simp at e1
      have:=(ok g (hg i g hi).1).2
      simp -implicitDefEqProofs only [zO,zN,MP,hgq,this]
end
def right (M:MM) (c:Int) (p:V):Option Nat :=
 if p.k=2/\(c=1\/c=4\/c=8) then (match idx M p.b with
  | some i=>(match M[i]? with
    | some B=>if 0<=p.n/\p.n<=B.size - c/\p.n.tmod c=0 then some i else none
    | none=>none)
  | none=>none) else none
theorem bT {M:MM} {c:Int} {p:V} {i:Nat} (h:right M c p=some i):p.k=2/\(c=1\/c=4\/c=8)/\idx M p.b=some i /\ ∃ B,M[i]? = some B/\0<=p.n/\p.n<=B.size - c/\p.n.tmod c=0:=by
 unfold right at h
 split at h
 case isFalse=>cases h
 rename_i h1
 split at h
 case h_2=>cases h
 rename_i j hj
 split at h
 case h_2=>cases h
 rename_i B hB
 split at h
 case isFalse=>cases h
 rename_i h2
 simp only [My] at h
 subst h
 exact ⟨h1.1,h1.2,hj,B,hB,h2⟩
theorem Y7 {M:MM} {c:Int} {p:V} {i:Nat} {B:MB} (hi:idx M p.b=some i) (hB:M[i]? = some B) (h:¬ (0<=p.n/\p.n<=B.size - c/\p.n.tmod c=0)):right M c p=none:=by
 unfold right
 split
 ·simp only [hi,hB];exact MJ h
 ·rfl
theorem fY {M:MM} {c:Int} {p:V} {i:Nat} {B:MB} (hk:p.k=2) (hc:c=1\/c=4\/c=8) (hi:idx M p.b=some i) (hB:M[i]? = some B) (h:0<=p.n/\p.n<=B.size - c/\p.n.tmod c=0):right M c p=some i:=by
 unfold right
 rw [MK ⟨hk,hc⟩]
 simp only [hi,hB];exact MK h
def DJ (h:za) (f:Nat->Cl) (n c:Nat) (F:Nat->Prop) (v:Value):Prop :=
 (v = .slice none 0 0 /\ ∀ k,k < c->f (n + k)=KK) \/ ∃ g off cs cp,v = .slice (some ⟨g,off,none⟩) c cp/\F g/\h.get g=some (.cells cs 156)/\off + c * 5<=cs.length/\off=n % 64 * 5 /\ ∀ k j,k < c->j < 5->cs[off + k * 5 + j]? = (f (n + k)).jv[j]?
def Lo (h:za) (M:MM) (F:Nat->Prop) (c:Int) (p:V) (v:Value) (h1:za):Prop :=
 qY iz h h1/\match right M c p with
  | none=>v = .tuple #[.slice none 0 0,.bool false]
  | some i => ∃ s,v = .tuple #[s,.bool true] /\ ∀ B,M[i]? = some B->DJ h1 B.byte p.n.toNat c.toNat F s
def jw (n:Int):Prop := -9223372036854775808<=n/\n < 9223372036854775808
def V.ok (v:V):Prop:=jw v.k/\jw v.n/\jw v.b
def small (M:MM):Prop := ∀ (i:Nat) (B:MB),M[i]? = some B->B.size < 2147483648
section
variable {h:za} {m:Nat} {bs:Value} {ps:List Nat} {fs:Nat->Nat->Prop} {M:MM} {F:Nat->Prop} {c:Int} {p:V}
theorem BX (x:cG h m bs ps fs M F) (hs:small M) (hc:jw c) (hp:p.ok) :
  DC Tryd.prog 101 [.pointer (some ⟨m,0,none⟩),.int .i64 c,p.val,.bool false] h (Lo h M F c p):=by
 obtain ⟨pk,pn,pb⟩:=p
 obtain ⟨hp1,hp2,hp3⟩:=hp
 unfold jw at hc hp1 hp2 hp3
 simp only at hp1 hp2 hp3
 apply Q8
 unfold Jb V.val
 have x1:cG (h.push (.cells [.int .i64 pk,.int .i64 pn,.int .i64 pb] 86)) m bs ps fs M F:=x.zI (fun b hb=>zO (x.ok b hb).2) (N7 _)
 have Za:qY iz h (h.push (.cells [.int .i64 pk,.int .i64 pn,.int .i64 pb] 86)):=(qY.refl _ _).push _
 by_cases hk:pk=2
 case neg=>
  have e:right M c ⟨pk,pn,pb⟩=none:=by unfold right;rw [MJ (fun q=>hk q.1)]
  simp -implicitDefEqProofs only [zq,zC,zM,yy,Yf,rD,xj,wY,qW,zB,zK,z8,yx,nw,Value.cells,MD,M1,MT,wg,zE,zL,MP,Nr,xz,zu,xk,xi,wO,hk]
  exact ⟨Za,by rw [e]⟩
 subst hk
 by_cases hcc:c=1\/c=4\/c=8
 case neg=>
  have e:right M c ⟨2,pn,pb⟩=none:=by unfold right;rw [MJ (fun q=>hcc q.2)]
  have n1:¬ c=1:=fun q=>hcc (.inl q)
  have n4:¬ c=4:=fun q=>hcc (.inr (.inl q))
  have n8:¬ c=8:=fun q=>hcc (.inr (.inr q))
  simp -implicitDefEqProofs only [zq,zC,zM,yy,uP,vW,xj,ye,wY,qW,zB,zK,z8,yx,nw,Value.cells,MD,M1,MT,wL,wg,zE,zL,MP,NK,Nr,xz,zu,xk,xi,wO,n1,n4,n8]
  exact ⟨Za,by rw [e]⟩
 have hat:=sd x1 hp3.2
 cases hi:idx M pb with
 | none=>
   have e:right M c ⟨2,pn,pb⟩=none:=by unfold right;rw [MK ⟨rfl,hcc⟩];simp only [hi]
   rw [hi] at hat
   rcases hcc with rfl | rfl | rfl <;> simp -implicitDefEqProofs only [zq,zC,zM,zS,uP,vW,qq,xj,ye,wY,qW,zB,zK,z8,yx,nth,nw,Value.cells,MD,MH,M1,MT,Int.reduceEq,wL,wg,zE,zL,MP,NK,Nr,xz,zu,xk,xi,wO] <;> refine zW (by kernel_rfl) rfl hat ?_ <;> rintro v h1 ⟨rfl,rfl⟩ <;> simp -implicitDefEqProofs only [zq,zC,zM,yy,Yf,xj,zB,xo,Ny,Ux,Ny,qd] <;> exact ⟨Za,by rw [e]⟩
 | some i=>
   obtain ⟨hpb,B,hB,hf⟩:=aV hi
   obtain ⟨q,hq⟩:∃ q,ps[i]? = some q:=by
    have hlt:i < M.length:=by
     rcases MX i M.length with a | a
     ·exact a
     ·rw [MO a] at hB;cases hB
    exact ⟨_,MF (by rw [x.len];exact hlt)⟩
   obtain ⟨pg,hbk,fq,hpg⟩:=x1.jU i q B hq hB
   have hz:=hs i B hB
   rw [hi] at hat
   have hcb:1<=c/\c<=8:=by omega
   have hcn:¬ c=0:=by omega
   have hw:IntKind.wrap .i64 ((B.size:Int) - c)=(B.size:Int) - c:=kC (by omega) (by omega)
   by_cases h0:pn < 0
   ·have e:=Y7 (p:=⟨2,pn,pb⟩) (c:=c) hi hB (fun q=>by have:0<=pn:=q.1;omega)
    rcases hcc with rfl | rfl | rfl
    all_goals
     simp -implicitDefEqProofs only [zq,zC,zM,zS,uP,vW,qq,xj,ye,wY,qW,zB,zK,z8,yx,nth,nw,Value.cells,MD,MH,M1,MT,Int.reduceEq,wL,wg,zE,zL,MP,NK,Nr,xz,zu,xk,xi,wO]
     refine zW (by kernel_rfl) rfl hat ?_
     rintro v h1 ⟨rfl,rfl⟩
     simp -implicitDefEqProofs only [zq,zC,zM,yy,vW,Yf,xj,ye,vy,zB,zK,xo,Nd,MD,MH,wL,zE,zL,xz,jV,hq,qd,h0]
     exact ⟨Za,by rw [e]⟩
   by_cases h1:(B.size:Int) - c < pn
   ·have e:=Y7 (p:=⟨2,pn,pb⟩) (c:=c) hi hB (fun q=>by have:pn<=B.size - c:=q.2.1;omega)
    rcases hcc with rfl | rfl | rfl
    all_goals
     simp -implicitDefEqProofs only [zq,zC,zM,zS,uP,vW,qq,xj,ye,wY,qW,zB,zK,z8,yx,nth,nw,Value.cells,MD,MH,M1,MT,Int.reduceEq,wL,wg,zE,zL,MP,NK,Nr,xz,zu,xk,xi,wO]
     refine zW (by kernel_rfl) rfl hat ?_
     rintro v h1 ⟨rfl,rfl⟩
     simp -implicitDefEqProofs only [zq,zC,zM,yy,vW,Yf,xj,ye,xR,vy,Zr,j9,zB,zK,xo,Nd,MD,MH,wL,wg,zE,zL,MP,xz,zu,jV,uq,hq,qd,h0,hbk,hw,h1]
     exact ⟨Za,by rw [e]⟩
   by_cases h2:pn.tmod c=0
   case neg=>
    have e:=Y7 (p:=⟨2,pn,pb⟩) (c:=c) hi hB (fun q=>h2 q.2.2)
    rcases hcc with rfl | rfl | rfl
    all_goals
     simp -implicitDefEqProofs only [zq,zC,zM,zS,uP,vW,qq,xj,ye,wY,qW,zB,zK,z8,yx,nth,nw,Value.cells,MD,MH,M1,MT,Int.reduceEq,wL,wg,zE,zL,MP,NK,Nr,xz,zu,xk,xi,wO]
     refine zW (by kernel_rfl) rfl hat ?_
     rintro v h1 ⟨rfl,rfl⟩
     simp -implicitDefEqProofs only [zq,zC,zM,yy,vW,ye,xR,vy,Zr,qW,j9,Vg,zB,zK,xo,Nd,MD,MH,Int.reduceEq,wg,zE,zL,MP,Nr,xz,zu,jV,uq,hq,qd,h0,hbk,hw,h1,h2]
     exact ⟨Za,by rw [e]⟩
   have e:=fY (p:=⟨2,pn,pb⟩) (c:=c) rfl hcc hi hB ⟨by show 0<=pn;omega,by show pn<=_;omega,h2⟩
   have hmd:=GK hbk hpg (a:=pn) (by omega) (by omega) (by omega)
   have hr1:pn.tmod 64=((pn.toNat % 64:Nat):Int):=by rw [N2 (by omega)];omega
   have hr2:IntKind.wrap .i64 (((pn.toNat % 64:Nat):Int) + c)=((pn.toNat % 64:Nat):Int) + c:=kC (by omega) (by omega)
   have hin:((pn.toNat % 64:Nat):Int) + c<=64:=by
    rw [N2 (by omega)] at h2
    rcases hcc with rfl | rfl | rfl <;> omega
   have hb1:0<=((pn.toNat % 64:Nat):Int) + c/\((pn.toNat % 64:Nat):Int) + c<=((64:Nat):Int):=by omega
   have hb2:0<=((pn.toNat % 64:Nat):Int)/\((pn.toNat % 64:Nat):Int)<=((((pn.toNat % 64:Nat):Int) + c).toNat:Int):=by omega
   have hb3:¬ 64=pn.toNat % 64:=by omega
   have hb4:(((pn.toNat % 64:Nat):Int) + c).toNat - pn.toNat % 64=c.toNat:=by omega
   rcases hcc with rfl | rfl | rfl
   all_goals
    simp -implicitDefEqProofs only [zq,zC,zM,zS,uP,vW,qq,xj,ye,wY,qW,zB,zK,z8,yx,nth,nw,Value.cells,MD,MH,M1,MT,Int.reduceEq,wL,wg,zE,zL,MP,NK,Nr,xz,zu,xk,xi,wO]
    refine zW (by kernel_rfl) rfl hat ?_
    rintro v h1 ⟨rfl,rfl⟩
    simp -implicitDefEqProofs only [zq,zC,zM,zS,vW,ye,xR,vy,Zr,qW,j9,Vg,zB,zK,xo,Nd,nth,MD,MH,Int.reduceEq,wL,wg,zE,zL,MP,NK,xz,zu,jV,uq,hq,qd,h0,hbk,hw,h1,h2]
    refine zW (by kernel_rfl) rfl hmd ?_
    rintro v h1 ⟨rfl,⟨rfl,hu⟩ | ⟨g,rfl,fg,hpage⟩⟩
    ·simp -implicitDefEqProofs only [zq,zC,zM,yy,xo,Uy,qd]
     refine ⟨Za,?_⟩
     rw [e]
     refine ⟨_,rfl,fun B' hB' => .inl ⟨rfl,fun k hk => ?_⟩⟩
     rw [hB] at hB';cases hB'
     have:=hu (pn.toNat % 64 + k) (by omega)
     rw [show 64 * (pn.toNat / 64) + (pn.toNat % 64 + k)=pn.toNat + k by omega] at this
     exact this
    ·simp -implicitDefEqProofs only [zq,zC,zM,zS,xR,wY,qV,Vg,zB,zK,xo,z8,US,MV,ZO,Nd,MD,MH,MT,MA,MS,ND,Int.reduceEq,Int.reduceToNat,NB,Oq,zE,MP,KV,Dq,qd,hr1,hr2,hb1,hb2,hb3,hb4,M4]
     refine ⟨Za,?_⟩
     rw [e]
     refine ⟨_,rfl,fun B' hB' => .inr ?_⟩
     rw [hB] at hB';cases hB'
     obtain ⟨cs,hgc,hlen,hcs⟩:=hpage
     refine ⟨g,_,cs,0,rfl,x.sub i g fg,hgc,by rw [hlen];omega,rfl,fun k j hk hj => ?_⟩
     have:=hcs (pn.toNat % 64 + k) j (by omega) hj
     rw [show (pn.toNat % 64 + k) * 5 + j=pn.toNat % 64 * 5 + k * 5 + j by omega] at this
     rw [this]
     show (B.byte (64 * (pn.toNat / 64) + (pn.toNat % 64 + k))).jv[j]? = _
     rw [show 64 * (pn.toNat / 64) + (pn.toNat % 64 + k)=pn.toNat + k by omega]
def sZ (h:za) (m:Nat) (M:MM) (F:Nat->Prop) (c:Int) (p:V) (v:Value) (h1:za):Prop :=
 match right M c p with
 | none=>v = .tuple #[.slice none 0 0,.bool false]/\qY iz h h1
 | some i => ∃ g bs ps fs F' q qp cq gs B,M[i]? = some B/\v = .tuple #[.slice (some ⟨g,p.n.toNat % 64 * 5,none⟩) c.toNat 0,.bool true]/\Zi h1 m bs ps fs M F'/\ps[i]? = some qp /\
   h1.get qp=some (.cells [.int .i64 B.size,.slice (some ⟨q,0,none⟩) gs.length cq,.bool B.uX] 126)/\fs i qp/\j1 h1 q gs B (fs i)/\gs[p.n.toNat / 64]? = some (some g)/\qY F h h1 /\ ∀ b,F' b->F b\/h.next<=b
theorem BY (hro:h.ro<=h.next) (x:Zi h m bs ps fs M F) (hs:small M) (hc:jw c) (hp:p.ok) :
  DC Tryd.prog 101 [.pointer (some ⟨m,0,none⟩),.int .i64 c,p.val,.bool true] h (sZ h m M F c p):=by
 obtain ⟨pk,pn,pb⟩:=p
 obtain ⟨hp1,hp2,hp3⟩:=hp
 unfold jw at hc hp1 hp2 hp3
 simp only at hp1 hp2 hp3
 apply Q8
 unfold Jb V.val
 have x1:Zi (h.push (.cells [.int .i64 pk,.int .i64 pn,.int .i64 pb] 86)) m bs ps fs M F:=x.zI (fun b hb=>zO (x.ok b hb).2) (N7 _) rfl
 have Za:qY iz h (h.push (.cells [.int .i64 pk,.int .i64 pn,.int .i64 pb] 86)):=(qY.refl _ _).push _
 have no:∀ {c},right M c ⟨pk,pn,pb⟩=none->sZ h m M F c ⟨pk,pn,pb⟩ (.tuple #[.slice none 0 0,.bool false]) (h.push (.cells [.int .i64 pk,.int .i64 pn,.int .i64 pb] 86)):=fun e=>by
  unfold sZ;rw [e];exact ⟨rfl,Za⟩
 by_cases hk:pk=2
 case neg=>
  have e:right M c ⟨pk,pn,pb⟩=none:=by unfold right;rw [MJ (fun q=>hk q.1)]
  simp -implicitDefEqProofs only [zq,zC,zM,yy,Yf,rD,xj,wY,qW,zB,zK,z8,yx,nw,Value.cells,MD,M1,MT,wg,zE,zL,MP,Nr,xz,zu,xk,xi,wO,hk]
  exact no e
 subst hk
 by_cases hcc:c=1\/c=4\/c=8
 case neg=>
  have e:right M c ⟨2,pn,pb⟩=none:=by unfold right;rw [MJ (fun q=>hcc q.2)]
  have n1:¬ c=1:=fun q=>hcc (.inl q)
  have n4:¬ c=4:=fun q=>hcc (.inr (.inl q))
  have n8:¬ c=8:=fun q=>hcc (.inr (.inr q))
  simp -implicitDefEqProofs only [zq,zC,zM,yy,uP,vW,xj,ye,wY,qW,zB,zK,z8,yx,nw,Value.cells,MD,M1,MT,wL,wg,zE,zL,MP,NK,Nr,xz,zu,xk,xi,wO,n1,n4,n8]
  exact no e
 have hat:=sd x1.r hp3.2
 cases hi:idx M pb with
 | none=>
   have e:right M c ⟨2,pn,pb⟩=none:=by unfold right;rw [MK ⟨rfl,hcc⟩];simp only [hi]
   rw [hi] at hat
   rcases hcc with rfl | rfl | rfl <;> simp -implicitDefEqProofs only [zq,zC,zM,zS,uP,vW,qq,xj,ye,wY,qW,zB,zK,z8,yx,nth,nw,Value.cells,MD,MH,M1,MT,Int.reduceEq,wL,wg,zE,zL,MP,NK,Nr,xz,zu,xk,xi,wO] <;> refine zW (by kernel_rfl) rfl hat ?_ <;> rintro v h1 ⟨rfl,rfl⟩ <;> simp -implicitDefEqProofs only [zq,zC,zM,yy,Yf,xj,zB,xo,Ny,Ux,Ny,qd] <;> exact no e
 | some i=>
   obtain ⟨hpb,B,hB,hf⟩:=aV hi
   obtain ⟨q,hq⟩:∃ q,ps[i]? = some q:=by
    have hlt:i < M.length:=by
     rcases MX i M.length with a | a
     ·exact a
     ·rw [MO a] at hB;cases hB
    exact ⟨_,MF (by rw [x.len];exact hlt)⟩
   obtain ⟨pg,hbk,fq,hpg⟩:=x1.jU i q B hq hB
   have hz:=hs i B hB
   rw [hi] at hat
   have hcb:1<=c/\c<=8:=by omega
   have hcn:¬ c=0:=by omega
   have hw:IntKind.wrap .i64 ((B.size:Int) - c)=(B.size:Int) - c:=kC (by omega) (by omega)
   by_cases h0:pn < 0
   ·have e:=Y7 (p:=⟨2,pn,pb⟩) (c:=c) hi hB (fun q=>by have:0<=pn:=q.1;omega)
    rcases hcc with rfl | rfl | rfl
    all_goals
     simp -implicitDefEqProofs only [zq,zC,zM,zS,uP,vW,qq,xj,ye,wY,qW,zB,zK,z8,yx,nth,nw,Value.cells,MD,MH,M1,MT,Int.reduceEq,wL,wg,zE,zL,MP,NK,Nr,xz,zu,xk,xi,wO]
     refine zW (by kernel_rfl) rfl hat ?_
     rintro v h1 ⟨rfl,rfl⟩
     simp -implicitDefEqProofs only [zq,zC,zM,yy,vW,Yf,xj,ye,vy,zB,zK,xo,Nd,MD,MH,wL,zE,zL,xz,jV,hq,qd,h0]
     exact no e
   by_cases h1:(B.size:Int) - c < pn
   ·have e:=Y7 (p:=⟨2,pn,pb⟩) (c:=c) hi hB (fun q=>by have:pn<=B.size - c:=q.2.1;omega)
    rcases hcc with rfl | rfl | rfl
    all_goals
     simp -implicitDefEqProofs only [zq,zC,zM,zS,uP,vW,qq,xj,ye,wY,qW,zB,zK,z8,yx,nth,nw,Value.cells,MD,MH,M1,MT,Int.reduceEq,wL,wg,zE,zL,MP,NK,Nr,xz,zu,xk,xi,wO]
     refine zW (by kernel_rfl) rfl hat ?_
     rintro v h1 ⟨rfl,rfl⟩
     simp -implicitDefEqProofs only [zq,zC,zM,yy,vW,Yf,xj,ye,xR,vy,Zr,j9,zB,zK,xo,Nd,MD,MH,wL,wg,zE,zL,MP,xz,zu,jV,uq,hq,qd,h0,hbk,hw,h1]
     exact no e
   by_cases h2:pn.tmod c=0
   case neg=>
    have e:=Y7 (p:=⟨2,pn,pb⟩) (c:=c) hi hB (fun q=>h2 q.2.2)
    rcases hcc with rfl | rfl | rfl
    all_goals
     simp -implicitDefEqProofs only [zq,zC,zM,zS,uP,vW,qq,xj,ye,wY,qW,zB,zK,z8,yx,nth,nw,Value.cells,MD,MH,M1,MT,Int.reduceEq,wL,wg,zE,zL,MP,NK,Nr,xz,zu,xk,xi,wO]
     refine zW (by kernel_rfl) rfl hat ?_
     rintro v h1 ⟨rfl,rfl⟩
     simp -implicitDefEqProofs only [zq,zC,zM,yy,vW,ye,xR,vy,Zr,qW,j9,Vg,zB,zK,xo,Nd,MD,MH,Int.reduceEq,wg,zE,zL,MP,Nr,xz,zu,jV,uq,hq,qd,h0,hbk,hw,h1,h2]
     exact no e
   have e:=fY (p:=⟨2,pn,pb⟩) (c:=c) rfl hcc hi hB ⟨by show 0<=pn;omega,by show pn<=_;omega,h2⟩
   have hmd:=CX hbk hpg fq (fun b hb=>x1.ok b (x1.sub i b hb)) (by simp only [yd,vr];omega) (a:=pn) (by omega) (by omega) (by omega)
   have hr1:pn.tmod 64=((pn.toNat % 64:Nat):Int):=by rw [N2 (by omega)];omega
   have hr2:IntKind.wrap .i64 (((pn.toNat % 64:Nat):Int) + c)=((pn.toNat % 64:Nat):Int) + c:=kC (by omega) (by omega)
   have hin:((pn.toNat % 64:Nat):Int) + c<=64:=by
    rw [N2 (by omega)] at h2
    rcases hcc with rfl | rfl | rfl <;> omega
   have hb1:0<=((pn.toNat % 64:Nat):Int) + c/\((pn.toNat % 64:Nat):Int) + c<=((64:Nat):Int):=by omega
   have hb2:0<=((pn.toNat % 64:Nat):Int)/\((pn.toNat % 64:Nat):Int)<=((((pn.toNat % 64:Nat):Int) + c).toNat:Int):=by omega
   have hb3:¬ 64=pn.toNat % 64:=by omega
   have hb4:(((pn.toNat % 64:Nat):Int) + c).toNat - pn.toNat % 64=c.toNat:=by omega
   have hbox:∀ h1,qY (fs i) (h.push (.cells [.int .i64 2,.int .i64 pn,.int .i64 pb] 86)) h1->h1.get h.next=some (.cells [.int .i64 2,.int .i64 pn,.int .i64 pb] 86):=fun h1 ef=>by
    rw [ef.get h.next (fun hc=>by have:=(x.ok _ (x.sub i _ hc)).2;omega) (by simp only [yd];omega),z7]
   rcases hcc with rfl | rfl | rfl
   all_goals
    simp -implicitDefEqProofs only [zq,zC,zM,zS,uP,vW,qq,xj,ye,wY,qW,zB,zK,z8,yx,nth,nw,Value.cells,MD,MH,M1,MT,Int.reduceEq,wL,wg,zE,zL,MP,NK,Nr,xz,zu,xk,xi,wO]
    refine zW (by kernel_rfl) rfl hat ?_
    rintro v h1 ⟨rfl,rfl⟩
    simp -implicitDefEqProofs only [zq,zC,zM,zS,vW,ye,xR,vy,Zr,qW,j9,Vg,zB,zK,xo,Nd,nth,MD,MH,Int.reduceEq,wL,wg,zE,zL,MP,NK,xz,zu,jV,uq,hq,qd,h0,hbk,hw,h1,h2]
    refine zW (by kernel_rfl) rfl hmd ?_
    rintro v h1 ⟨g,pq,cq,gs,F',rfl,hbk1,hfull,hgs,fp1,ef,hsub,hok⟩
    have hbx:=hbox h1 ef
    simp -implicitDefEqProofs only [zq,zC,zM,zS,xR,wY,qV,Vg,zB,zK,xo,z8,US,MV,ZO,Nd,MD,MH,MT,MA,MS,ND,Int.reduceEq,Int.reduceToNat,NB,Oq,MP,KV,Dq,qd,hr1,hr2,hb1,hb2,hb3,hb4,M4,hbx]
    unfold sZ
    rw [e]
    have y:=x1.iL hq hB rfl ef ⟨_,hbk1,fp1,.full pq cq gs rfl hfull⟩ hsub hok
    rw [nE hB] at y
    refine ⟨g,_,_,_,_,pq,q,cq,gs,B,hB,rfl,y,hq,hbk1,by simp only [MA];exact fp1,by simp only [MA];exact hfull,hgs,(Za.mono (fun _ h=>h.elim)).trans (ef.mono (fun b hb=>x.sub i b hb)),fun b hb => ?_⟩
    rcases hb with hb | hb
    ·exact .inl hb
    ·rcases hsub b hb with hb | hb
     ·exact .inl (x.sub i b hb)
     ·exact .inr (by have:h.next + 1<=b:=hb;omega)
end
def AP (f:Nat->Cl) (n:Nat):Nat->Int
 | 0=>0
 | k + 1=>IntKind.wrap .u64 ((BitVec.ofInt 64 (AP f n k) ||| BitVec.ofInt 64 (IntKind.wrap .u64 (IntKind.wrap .u64 (f (n + k)).n * 2 ^ (8 * k)))).toNat)
def Z5 (f:Nat->Cl) (n:Nat):Nat->Bool
 | 0=>true
 | k + 1=>Z5 f n k && decide ((f (n + k)).k=1)
def Zm (f:Nat->Cl) (n:Nat) (c:Int):Nat->Bool
 | 0=>decide (c=8)
 | k + 1=>Zm f n c k && decide ((f (n + k)).k=2) && decide (IntKind.wrap .i64 (f (n + k)).n=k) && decide ((f (n + k)).p=(f n).p)
def UN (f:Nat->Cl) (n:Nat) (c:Int):V :=
 if Z5 f n c.toNat=true then ⟨1,if c=8 then IntKind.wrap .i64 (AP f n c.toNat) else if c=4 then IntKind.wrap .i64 (IntKind.wrap .i32 (AP f n c.toNat)) else IntKind.wrap .i64 (IntKind.wrap .i8 (AP f n c.toNat)),0⟩
 else if Zm f n c c.toNat=true then (f n).p else v0
def Wp (M:MM) (c:Int) (p:V):Option V:=match right M c p with
 | none=>none
 | some i=>(M[i]?).map fun B=>UN B.byte p.n.toNat c
def dq (M:MM) (c:Int) (p:V) (v:Value):Prop:=match Wp M c p with
 | none=>v = .tuple #[v0.val,.bool false]
 | some a=>v = .tuple #[a.val,.bool true]
theorem Q4 {cs:List Value} {o:Nat} {c:Cl} (h:∀ j,j < 5->cs[o + j]? = c.jv[j]?):(cs.drop o).take 5=c.jv:=by
 apply N1
 intro j
 by_cases hj:j < 5
 ·rw [Nv hj,Nn];exact h j hj
 ·rw [MO (by simp;omega),MO (by show 5<=j;omega)]
theorem Dz {cs:List Value} {o:Nat} {c:Cl} (h:∀ j,j < 5->cs[o + j]? = c.jv[j]?):(cs.drop (o + 2)).take 3 = [.int .i64 c.p.k,.int .i64 c.p.n,.int .i64 c.p.b]:=by
 have:=congrArg (List.drop 2) (Q4 h)
 rw [List.drop_take,List.drop_drop] at this
 exact this
theorem Ln (a b:V):((a.k == b.k) && ((a.n == b.n) && (a.b == b.b)))=decide (a=b):=by
 obtain ⟨a1,a2,a3⟩:=a
 obtain ⟨b1,b2,b3⟩:=b
 rw [Bool.eq_iff_iff]
 simp
theorem C8 {f:Nat->Cl} {n c:Nat} (h:∀ k,k < c->f (n + k)=KK) (h1:1<=c):Z5 f n c=false:=by
 cases c with
 | zero=>omega
 | succ c=>unfold Z5;rw [h c (by omega)];simp [KK]
theorem AT {f:Nat->Cl} {n c:Nat} {d:Int} (h:∀ k,k < c->f (n + k)=KK) (h1:1<=c):Zm f n d c=false:=by
 cases c with
 | zero=>omega
 | succ c=>unfold Zm;rw [h c (by omega)];simp [KK]
section
variable {h:za} {m:Nat} {bs:Value} {ps:List Nat} {fs:Nat->Nat->Prop} {M:MM} {F:Nat->Prop} {c:Int} {p:V}
def E5 (h:za) (f:Nat->Cl) (n:Nat) (c:Int) (m:Nat) (vs:List Value) (h':za):Prop :=
 ∃ k,k<=c.toNat/\m=c.toNat - k/\vs = [.int .u64 (AP f n k),.bool (Z5 f n k),.bool (Zm f n c k),.int .i64 k]/\qY iz h h'
theorem Ew (x:cG h m bs ps fs M F) (hs:small M) (hc:jw c) (hp:p.ok) :
  DC Tryd.prog 88 [.pointer (some ⟨m,0,none⟩),.int .i64 c,p.val] h (fun v h1=>qY iz h h1/\dq M c p v):=by
 apply Zq;intro hwf;have hro:=hwf.2
 apply tk
 unfold Bn
 have e1:p.val = .agg #[.int .i64 p.k,.int .i64 p.n,.int .i64 p.b]:=rfl
 have Za:qY iz h ((h.push (.cells [.int .i64 p.k,.int .i64 p.n,.int .i64 p.b] 86)).push (.cells [.int .i64 0,.int .i64 0,.int .i64 0] 86)):=((qY.refl _ _).push _).push _
 have x1:cG ((h.push (.cells [.int .i64 p.k,.int .i64 p.n,.int .i64 p.b] 86)).push (.cells [.int .i64 0,.int .i64 0,.int .i64 0] 86)) m bs ps fs M F :=
  x.zI (fun b hb=>Za.get b (fun e=>e) (x.ok b hb).2) Za.next
 have hac:=BX (c:=c) (p:=p) x1 hs hc hp
 rw [e1]
 simp -implicitDefEqProofs only [zq,zC,zM,jy,zK,yx,vV,nth,nw,Value.cells,BK,M1,MT,MY,M0,Nx,NO,ze,NP,Nh,NL,MA,ND,Nat.reduceAdd,NB,MI,yd,zE,zO,K5,xU,yb,zL,oN,zn,zF,Gf,wi,yA,CH,CI,Y3]
 rw [e1] at hac
 refine zW (by kernel_rfl) rfl hac ?_
 rintro v h1 ⟨ef,hr⟩
 have hl:h1.get (h.next + 1)=some (.cells [.int .i64 0,.int .i64 0,.int .i64 0] 86):=by
  rw [ef.get _ (fun e=>e) (by simp only [yd];omega)]
  exact zE (by simp only [yd])
 have hr1:h1.ro<=h.next + 1:=by rw [ef.ro];simp only [vr];omega
 have hpost:∀ a,Wp M c p=some a->dq M c p (.tuple #[.agg #[.int .i64 a.k,.int .i64 a.n,.int .i64 a.b],.bool true]):=fun a ha=>by unfold dq;rw [ha];rfl
 cases e:right M c p with
 | none=>
   rw [e] at hr
   subst hr
   simp -implicitDefEqProofs only [Xw,Xx,zq,yF,zC,zM,yy,wY,zB,z8,yx,MT,MY,M0,Nw,Nq,Nh,NL,MA,Nat.reduceAdd,NB,MI,zZ,mH,XH,hl,hr1]
   exact ⟨(Za.trans ef).set (.inr (by omega)) _,by unfold dq Wp;rw [e];rfl⟩
 | some i=>
   rw [e] at hr
   obtain ⟨s,rfl,hcell⟩:=hr
   obtain ⟨hk,hcc,hi,B,hB,hn0,hn1,hn2⟩:=bT e
   have hlm:Wp M c p=some (UN B.byte p.n.toNat c):=by unfold Wp;rw [e];simp only [hB];rfl
   have hc1:1<=c.toNat/\c.toNat<=8:=by omega
   rcases hcell B hB with ⟨rfl,hu⟩ | ⟨g,off,cs,cp,rfl,fg,hg,hlen,hoff,hcs⟩
   ·simp -implicitDefEqProofs only [Xw,Xx,zq,yF,zC,zM,yy,wY,zB,z8,yx,MT,MY,M0,Nw,Nq,Nh,NL,MA,Nat.reduceAdd,NB,MI,zZ,mH,XH,hl,hr1]
    refine ⟨(Za.trans ef).set (.inr (by omega)) _,?_⟩
    have:UN B.byte p.n.toNat c=v0:=by
     unfold UN;rw [C8 hu hc1.1,AT hu hc1.1];rfl
    rw [this] at hlm
    exact hpost _ hlm
   ·simp -implicitDefEqProofs only [Xw,Xx,zq,yF,zC,zM,zS,wY,zB,z8,yx,nth,MT,Ox,MY,M0,Nw,Nq,Nh,NL,MA,Nat.reduceAdd,Nat.reduceMul,Int.reduceLE,Int.reduceToNat,NB,Oq,MI,zZ,Eb,jO,XH,hl,hr1]
    refine kD (E5 h1 B.byte p.n.toNat c) c.toNat ⟨0,by omega,by omega,rfl,.refl _ _⟩ ?_
    rintro n vs h2 ⟨k,hk1,rfl,rfl,ef2⟩
    have hg2:h2.get g=some (.cells cs 156):=by rw [ef2.get g (fun e=>e) (by have:=(x.ok g fg).2;have:=ef.next;have:=Za.next;omega),hg]
    by_cases hlt:k < c.toNat
    ·have hki:(k:Int) < (c.toNat:Int):=by omega
     have hcel:=Q4 (hcs k · hlt)
     have hc0:=Q4 (hcs 0 · (by omega))
     have hb1:0<=(k:Int)/\(k:Int) < (c.toNat:Int):=by omega
     have hb2:off + k * 5 + 5<=cs.length:=by omega
     have hb3:off + 5<=cs.length:=by omega
     have hb4:0<=(0:Int)/\(0:Int) < (c.toNat:Int):=by omega
     have hw1:IntKind.wrap .i64 (8 * (k:Int))=((8 * k:Nat):Int):=by rw [kC (by omega) (by omega)];omega
     have hw2:IntKind.wrap .i64 ((k:Int) + 1)=((k + 1:Nat):Int):=by rw [kC (by omega) (by omega)];omega
     have hr2:h2.ro<=h2.next:=by have:=ef2.ro;have:=ef2.next;have:=ef.next;simp only [yd] at this;omega
     have hk0:0<=((8 * k:Nat):Int):=by omega
     have hmin:min (8 * k) IntKind.u64.bits=8 * k:=by show min (8 * k) 64=_;omega
     have hnext:∀ {a b d h3},qY iz h2 h3->a=AP B.byte p.n.toNat (k + 1)->b=Z5 B.byte p.n.toNat (k + 1)->d=Zm B.byte p.n.toNat c (k + 1)->∃ m,m < c.toNat - k/\E5 h1 B.byte p.n.toNat c m [.int .u64 a,.bool b,.bool d,.int .i64 ((k + 1:Nat):Int)] h3:=fun ef3 ea eb ed=>
      ⟨c.toNat - (k + 1),by omega,k + 1,by omega,rfl,by rw [ea,eb,ed],ef2.trans ef3⟩
     have hefn:∀ l l',qY iz h2 ((h2.push (.cells l 129)).set h2.next (some (.cells l' 129))):=fun l l'=>((qY.refl _ _).push _).set (.inr (MI _)) _
     have hgn:∀ l l',((h2.push (.cells l 129)).set h2.next (some (.cells l' 129))).get g=some (.cells cs 156):=fun l l'=>by rw [(hefn l l').get g (fun e=>e) (by have:=(x.ok g fg).2;have:=ef.next;have:=Za.next;have:=ef2.next;omega),hg2]
     simp only [Cl.jv] at hcel hc0
     have hp3:(cs.drop (off + 2)).take 3 = [.int .i64 (B.byte p.n.toNat).p.k,.int .i64 (B.byte p.n.toNat).p.n,.int .i64 (B.byte p.n.toNat).p.b]:=Dz (fun j hj=>by simpa using hcs 0 j (by omega) hj)
     have hb5:off + 2 + 3<=cs.length:=by omega
     cases hP:Zm B.byte p.n.toNat c k with
     | false=>
       cases hN:Z5 B.byte p.n.toNat k
       all_goals
        simp -implicitDefEqProofs only [zq,yF,zC,zM,yy,zS,uP,qq,xj,ye,vy,jy,qV,Yn,fA,Af,zB,zK,yx,vV,nth,MD,MH,MT,MY,M0,Nx,NO,ze,Nw,Nq,MA,ND,Nat.reduceAdd,NB,MI,wL,vr,zE,zZ,xU,yb,zL,gV,oN,zn,Wa,ku,ZZ,jM,jl,ki,Uv,Y3,jO,hki,hg2,hb1,hb2,hb4,hcel,hw1,hw2,M4,hr2,hk0,hmin]
        refine hnext (hefn _ _) rfl ?_ ?_
        ·simp [Z5,hN]
        ·simp [Zm,hP]
     | true=>
       by_cases hk2:(B.byte (p.n.toNat + k)).k=2
       ·by_cases hkk:IntKind.wrap .i64 (B.byte (p.n.toNat + k)).n=(k:Int)
        ·cases hN:Z5 B.byte p.n.toNat k
         all_goals
          simp -implicitDefEqProofs only [zq,yF,zC,zM,yy,zS,uP,qq,xj,ye,vy,jy,qV,Yn,fA,Af,zB,zK,yx,vV,nth,MD,MH,MT,Ox,MY,M0,Nx,NO,ze,Nw,Nq,NP,Nh,Ok,NL,MA,ND,Nat.reduceAdd,Nat.reduceMul,Int.reduceEq,Int.reduceToNat,NB,MI,wL,wg,vr,zE,zZ,xU,yb,zL,MP,gV,oN,zn,Wa,zF,ku,ZZ,jM,jl,ki,Uv,Cy,YF,Y3,jO,hki,hg2,hb1,hb2,hb3,hb4,hp3,hcel,hw1,hw2,M4,hr2,hk0,hgn,hmin,hk2,hkk]
          refine hnext (hefn _ _) rfl ?_ ?_
          ·simp [Z5,hN,hk2]
          ·simp only [Zm,hP,hk2,hkk,Ln,Ob,decide_true]
        ·cases hN:Z5 B.byte p.n.toNat k
         all_goals
          simp -implicitDefEqProofs only [zq,yF,zC,zM,yy,zS,uP,qq,xj,ye,vy,jy,qV,Yn,fA,Af,zB,zK,yx,vV,nth,MD,MH,MT,MY,M0,Nx,NO,ze,Nw,Nq,MA,ND,Nat.reduceAdd,Int.reduceEq,NB,MI,wL,wg,vr,zE,zZ,xU,yb,zL,MP,gV,oN,zn,Wa,ku,ZZ,jM,jl,ki,Uv,Cy,Y3,jO,hki,hg2,hb1,hb2,hb3,hb4,hcel,hw1,hw2,M4,hr2,hk0,hmin,hk2,hkk]
          refine hnext (hefn _ _) rfl ?_ ?_
          ·simp [Z5,hN,hk2]
          ·simp [Zm,hP,hk2,hkk]
       ·cases hN:Z5 B.byte p.n.toNat k
        all_goals
         simp -implicitDefEqProofs only [zq,yF,zC,zM,yy,zS,uP,qq,xj,ye,vy,jy,qV,Yn,fA,Af,zB,zK,yx,vV,nth,MD,MH,MT,MY,M0,Nx,NO,ze,Nw,Nq,MA,ND,Nat.reduceAdd,NB,MI,wL,wg,vr,zE,zZ,xU,yb,zL,MP,gV,oN,zn,Wa,ku,ZZ,jM,jl,ki,Uv,Y3,jO,hki,hg2,hb1,hb2,hb3,hb4,hcel,hw1,hw2,M4,hr2,hk0,hmin,hk2]
         refine hnext (hefn _ _) rfl ?_ ?_
         ·simp [Z5,hN]
         ·simp [Zm,hP,hk2]
    ·have hki:¬ (k:Int) < (c.toNat:Int):=by omega
     have hkc:k=c.toNat:=by omega
     subst hkc
     have hl2:h2.get (h.next + 1)=some (.cells [.int .i64 0,.int .i64 0,.int .i64 0] 86):=by
      rw [ef2.get _ (fun e=>e) (by have:=ef.next;simp only [yd] at this;omega),hl]
     have hr2:h2.ro<=h.next + 1:=by rw [ef2.ro];exact hr1
     have hof:∀ n,DC Tryd.prog 46 [.int .i64 n] h2 (fun v h1=>v=V.val ⟨1,n,0⟩/\qY iz h2 h1):=fun n=>qS n h2
     have LH:∀ h3,qY iz h2 h3->h3.get (h.next + 1)=some (.cells [.int .i64 0,.int .i64 0,.int .i64 0] 86)/\h3.ro<=h.next + 1:=fun h3 e3=>
      ⟨by rw [e3.get _ (fun e=>e) (by have:=ef.next;have:=ef2.next;simp only [yd] at *;omega),hl2],by rw [e3.ro];exact hr2⟩
     have hfin:∀ {h3 a v},qY iz h2 h3->UN B.byte p.n.toNat c=a->qY iz h (h3.set (h.next + 1) v)/\dq M c p (.tuple #[.agg #[.int .i64 a.k,.int .i64 a.n,.int .i64 a.b],.bool true]):=fun e3 ea=>
      ⟨(((Za.trans ef).trans ef2).trans e3).set (.inr (by omega)) _,hpost _ (by rw [hlm,ea])⟩
     cases hN:Z5 B.byte p.n.toNat c.toNat with
     | true=>
       rcases hcc with rfl | rfl | rfl
       all_goals
        simp -implicitDefEqProofs only [zq,yF,zC,zM,yy,zS,uP,xj,vy,jy,qV,Yn,zB,zK,nth,Nat.reduceSub,Int.reduceEq,Int.reduceToNat,wL,wg,zL,MP,oN,ku,ZZ,jM,jl,ki,jO]
        refine zW (by kernel_rfl) rfl (hof _) ?_
        rintro v h3 ⟨rfl,e3⟩
        obtain ⟨g1,g2⟩:=LH h3 e3
        simp -implicitDefEqProofs only [zq,zC,zM,wY,zB,yx,vV,MT,MY,M0,Nx,NO,ze,Nw,Nq,Nh,NL,MA,ND,Nat.reduceAdd,NB,MI,zZ,xU,zF,V.val,g1,g2]
        refine hfin (a:=⟨1,_,0⟩) e3 ?_
        unfold UN
        rw [MK hN]
        rfl
     | false=>
       cases hP:Zm B.byte p.n.toNat c c.toNat with
       | true=>
         have hp3:(cs.drop (off + 2)).take 3 = [.int .i64 (B.byte p.n.toNat).p.k,.int .i64 (B.byte p.n.toNat).p.n,.int .i64 (B.byte p.n.toNat).p.b]:=Dz (fun j hj=>by simpa using hcs 0 j (by omega) hj)
         have hb5:off + 2 + 3<=cs.length:=by omega
         have hb4:0<=(0:Int)/\(0:Int) < (c.toNat:Int):=by omega
         have hgn:∀ v,(h2.set (h.next + 1) v).get g=some (.cells cs 156):=fun v=>by rw [zN (by have:=(x.ok g fg).2;omega),hg2]
         ·simp -implicitDefEqProofs only [zq,yF,zC,zM,yy,zS,uP,qq,ye,wY,vy,qV,Yn,zB,zK,yx,vV,nth,MT,MY,M0,Nx,NO,ze,Nw,Nq,Nh,NL,MA,ND,Nat.reduceAdd,NB,MI,wg,zZ,xU,yb,zL,MP,oN,zn,zF,ku,ZZ,jM,jl,ki,Y3,jO,hki,hl2,hr2,hp3,hb5,hb4,hg2]
          refine hfin (a:=(B.byte p.n.toNat).p) (.refl _ _) ?_
          unfold UN
          rw [hN,hP]
          rfl
       | false=>
         rcases hcc with rfl | rfl | rfl
         all_goals
          simp -implicitDefEqProofs only [zq,yF,zC,zM,zS,qq,ye,wY,vy,qV,Yn,zB,zK,yx,nth,MT,MY,M0,Nw,Nq,Nh,NL,MA,Nat.reduceAdd,Nat.reduceSub,Int.reduceToNat,NB,MI,zZ,ku,ZZ,jM,jl,ki,jO,hl2,hr2]
          refine hfin (a:=v0) (.refl _ _) ?_
          unfold UN
          rw [hN,hP]
          rfl
end
theorem qY.more {F G:Nat->Prop} {a b c:za} (x:qY F a b) (y:qY G b c) (hg:∀ i,G i->F i\/a.next<=i):qY F a c :=
 ⟨Nm x.next y.next,y.ro.trans x.ro,fun i hi hlt=>by
  have hn:¬ G i:=fun e=>by
   rcases hg i e with q | q
   ·exact hi q
   ·omega
  rw [y.get i hn (ML hlt x.next),x.get i hi hlt]⟩
theorem Lp {b:Bool} {A B:(List Value->za->Prop)->Prop} {J:List Value->za->Prop} {vs:List Value} {x y:za} (hA:∀ j,A j=j vs x) (hB:∀ j,B j=j vs y) (hJ:J vs (if b=true then x else y)):CD (.bool b) A B J:=by
 cases b
 ·rw [zS,hB];simpa using hJ
 ·rw [yy,hA];simpa using hJ
theorem Zc (vs:List Value):∀ (cs:List Value) (o i:Nat),o + vs.length<=cs.length->(ze cs o vs)[i]? = if o<=i/\i < o + vs.length then vs[i - o]? else cs[i]?:=by
 induction vs with
 | nil=>intro cs o i _;rw [MJ (by simp)];rfl
 | cons v vs ih=>
   intro cs o i h
   simp only [MY] at h ⊢
   unfold ze
   rw [ih (cs.set o v) (o + 1) i (by rw [NU];omega)]
   by_cases h1:o + 1<=i/\i < o + 1 + vs.length
   ·rw [MK h1,MK (by omega),show i - o=i - (o + 1) + 1 by omega,MH]
   ·rw [MJ h1]
    by_cases h2:i=o
    ·subst h2;rw [MK (by omega),NA (by omega)];simp
    ·rw [MJ (by omega),NS (by omega)]
def iL (f:Nat->Cl) (a:Nat) (c:Cl):Nat->Cl:=fun k=>if k=a then c else f k
theorem j1.put {h:za} {q:Nat} {gs:List (Option Nat)} {B:MB} {F:Nat->Prop} (x:j1 h q gs B F) {a g:Nat} (hg:gs[a / 64]? = some (some g)) :
  ∃ cs,h.get g=some (.cells cs 156)/\a % 64 * 5 + 5<=cs.length /\ ∀ c:Cl,j1 (h.set g (some (.cells (ze cs (a % 64 * 5) c.jv) 156))) q gs { B with byte:=iL B.byte a c } F:=by
 obtain ⟨hl,fq,hq,hgs,hn,hd,ht⟩:=x
 obtain ⟨fg,cs,hc,hlen,hcs⟩:=hgs _ g hg
 refine ⟨cs,hc,by omega,fun c=>⟨hl,fq,?_,fun j g' hj=>⟨(hgs j g' hj).1,?_⟩,fun j hj k hk => ?_,hd,fun k hk => ?_⟩⟩
 ·rw [zN (by intro e;subst e;rw [hq] at hc;simp at hc),hq]
 ·by_cases e:g'=g
  ·subst e
   have ej:j=a / 64:=hd j _ g' hj hg
   subst ej
   refine ⟨_,zZ,by rw [uU,hlen],fun k j hk hj => ?_⟩
   have vlen:c.jv.length=5:=rfl
   rw [Zc _ _ _ _ (by rw [vlen];omega),vlen]
   show _=(iL B.byte a c (64 * (a / 64) + k)).jv[j]?
   unfold iL
   by_cases ek:k=a % 64
   ·rw [MK (by omega),MK (by omega),show k * 5 + j - a % 64 * 5=j by omega]
   ·rw [MJ (by omega),MJ (by omega)];exact hcs k j hk hj
  ·have ej:j ≠ a / 64:=by intro ej;subst ej;rw [hg] at hj;cases hj;exact e rfl
   obtain ⟨cs',hc',hlen',hcs'⟩:=(hgs j g' hj).2
   refine ⟨cs',by rw [zN e,hc'],hlen',fun k j' hk hj' => ?_⟩
   rw [hcs' k j' hk hj']
   show _=(iL B.byte a c (64 * j + k)).jv[j']?
   unfold iL
   rw [MJ (by omega)]
 ·show iL B.byte a c (64 * j + k)=KK
  unfold iL
  rw [MJ (by intro e;have:j=a / 64:=by omega
             subst this;rw [hg] at hj;cases hj)]
  exact hn j hj k hk
 ·show iL B.byte a c k=KK
  have hlt:a / 64 < gs.length:=by
   rcases MX (a / 64) gs.length with e | e
   ·exact e
   ·rw [MO e] at hg;cases hg
  unfold iL
  rw [MJ (by omega)]
  exact ht k hk
def norm (v:V):V:=if Wm v=true then v else v0
def cellOf (v:V) (k:Nat):Cl:=if v.k=1 then ⟨1,IntKind.wrap .u8 (v.n.fdiv (2 ^ (8 * k))),v0⟩ else if v.k=2 then ⟨2,IntKind.wrap .u8 k,v⟩ else KK
def YM (B:MB) (n:Nat) (v:V) (c:Nat):MB:={ B with byte:=fun a=>if n<=a/\a < n + c then cellOf v (a - n) else B.byte a }
theorem nF (B:MB) (n:Nat) (v:V):YM B n v 0=B:=by
 unfold YM
 congr 1
 funext a
 rw [MJ (by omega)]
theorem KB (B:MB) (n:Nat) (v:V) (c:Nat):{ YM B n v c with byte:=iL (YM B n v c).byte (n + c) (cellOf v c) } = YM B n v (c + 1):=by
 unfold YM iL
 simp only [MB.mk.injEq,Oq]
 funext a
 by_cases e:a=n + c
 ·subst e;rw [MK rfl,MK (by omega),show n + c - n=c by omega]
 ·rw [MJ e]
  by_cases e2:n<=a/\a < n + c
  ·rw [MK e2,MK (by omega)]
  ·rw [MJ e2,MJ (by omega)]
def Yc (M:MM) (c:Int) (p v:V):Option MM:=if (norm v).k=2/\c ≠ 8 then none else match right M c p with
 | none=>none
 | some i=>(M[i]?).map fun B=>M.set i (YM B p.n.toNat (norm v) c.toNat)
def iT (h:za) (m:Nat) (M':MM) (F:Nat->Prop) (h1:za):Prop := ∃ F',f9 h1 m M' F'/\qY F h h1 /\ ∀ b,F' b->F b\/h.next<=b
def Vo (h:za) (m:Nat) (M:MM) (F:Nat->Prop) (c:Int) (p v:V) (r:Value) (h1:za):Prop:=match Yc M c p v with
 | none=>r = .bool false/\iT h m M F h1
 | some M'=>r = .bool true/\iT h m M' F h1
section
variable {h:za} {m:Nat} {bs:Value} {ps:List Nat} {fs:Nat->Nat->Prop} {M:MM} {F:Nat->Prop} {c:Int} {p v:V}
def U6 (h:za) (q g:Nat) (gs:List (Option Nat)) (B:MB) (n:Nat) (v:V) (c:Int) (F:Nat->Prop) (m:Nat) (vs:List Value) (h':za):Prop :=
 ∃ k,k<=c.toNat/\m=c.toNat - k/\vs = [.int .i64 k]/\qY (fun b=>b=g) h h'/\j1 h' q gs (YM B n v k) F
theorem Dy (x:Zi h m bs ps fs M F) (hs:small M) (hc:jw c) (hp:p.ok) :
  DC Tryd.prog 87 [.pointer (some ⟨m,0,none⟩),.int .i64 c,p.val,v.val] h (Vo h m M F c p v):=by
 apply Zq;intro hwf;have hro:=hwf.2
 apply nT
 unfold rN
 have e1:p.val = .agg #[.int .i64 p.k,.int .i64 p.n,.int .i64 p.b]:=rfl
 have e2:v.val = .agg #[.int .i64 v.k,.int .i64 v.n,.int .i64 v.b]:=rfl
 rw [e1,e2]
 simp -implicitDefEqProofs only [zq,zC,zM,vN,zB,zK,yx,vV,nw,Value.cells,BK,M1,MT,MY,M0,Nx,NO,ze,NP,Nh,NL,MA,ND,Nat.reduceAdd,NB,MI,yd,zE,xU,yb,zL,xz,zu,zn,zF,D1,yA,xk,xi]
 rw [<- e2]
 refine zj (by kernel_rfl) rfl (VH v _) ?_
 simp -implicitDefEqProofs only [zq,cD,MT,MY,M0,Nw,Nq,Nat.reduceAdd,Oq,MI,yd,vr,zE]
 refine Lp (vs:=[]) (x:=((h.push (.cells [.int .i64 p.k,.int .i64 p.n,.int .i64 p.b] 86)).push (.cells [.int .i64 v.k,.int .i64 v.n,.int .i64 v.b] 86)).set (h.next + 1) (some (.cells [.int .i64 0,.int .i64 0,.int .i64 0] 86)))
  (y:=(h.push (.cells [.int .i64 p.k,.int .i64 p.n,.int .i64 p.b] 86)).push (.cells [.int .i64 v.k,.int .i64 v.n,.int .i64 v.b] 86)) ?_ ?_ ?_
 ·intro j
  have:h.ro<=h.next + 1:=by omega
  simp -implicitDefEqProofs only [zq,MA,this]
 ·intro j;rfl
 generalize hH:(if (!Wm v)=true then ((h.push (.cells [.int .i64 p.k,.int .i64 p.n,.int .i64 p.b] 86)).push (.cells [.int .i64 v.k,.int .i64 v.n,.int .i64 v.b] 86)).set (h.next + 1) (some (.cells [.int .i64 0,.int .i64 0,.int .i64 0] 86)) else
  (h.push (.cells [.int .i64 p.k,.int .i64 p.n,.int .i64 p.b] 86)).push (.cells [.int .i64 v.k,.int .i64 v.n,.int .i64 v.b] 86))=H
 have Za:qY iz h H:=by
  subst hH
  split
  ·exact (((qY.refl _ _).push _).push _).set (.inr (by omega)) _
  ·exact ((qY.refl _ _).push _).push _
 have hx:H.get (h.next + 1)=some (.cells [.int .i64 (norm v).k,.int .i64 (norm v).n,.int .i64 (norm v).b] 86):=by
  subst hH
  unfold norm
  cases Wm v
  ·simp only [Nr,MA];rw [MJ (by simp)];exact zZ
  ·simp only [NK,MA];rw [MJ (by simp)];exact zE rfl
 have hp1:H.get h.next=some (.cells [.int .i64 p.k,.int .i64 p.n,.int .i64 p.b] 86):=by
  have:¬ h.next=h.next + 1:=by omega
  have h3:((h.push (.cells [.int .i64 p.k,.int .i64 p.n,.int .i64 p.b] 86)).push (.cells [.int .i64 v.k,.int .i64 v.n,.int .i64 v.b] 86)).get h.next=some (.cells [.int .i64 p.k,.int .i64 p.n,.int .i64 p.b] 86):=by
   rw [zO (by simp only [yd];omega),z7]
  subst hH
  split
  ·rw [zN this,h3]
  ·exact h3
 have hnx:H.next=h.next + 2:=by
  subst hH
  cases Wm v <;> simp [yd,vM]
 clear hH
 have hsm:Yc M c p v=if (norm v).k=2/\c ≠ 8 then none else match right M c p with
  | none=>none
  | some i=>(M[i]?).map fun B=>M.set i (YM B p.n.toNat (norm v) c.toNat):=rfl
 generalize norm v=w at hx hsm
 have x1:Zi H m bs ps fs M F:=x.zI (fun b hb=>Za.get b (fun e=>e) (x.ok b hb).2) Za.next Za.ro
 have hro1:H.ro<=H.next:=by rw [hnx,Za.ro];omega
 have hm0:∀ {h1},qY iz H h1->iT h m M F h1:=fun e3=>⟨F,⟨bs,ps,fs,x1.zI (fun b hb=>e3.get b (fun e=>e) (x1.ok b hb).2) e3.next e3.ro⟩,(Za.trans e3).mono (fun _ q=>q.elim),fun b hb => .inl hb⟩
 by_cases hbad:w.k=2/\c ≠ 8
 ·rw [MK hbad] at hsm
  have h1:=hbad.1
  have h2:¬ c=8:=hbad.2
  simp -implicitDefEqProofs only [zq,zC,zM,yy,uP,xj,jy,qW,zB,zK,MD,wL,wg,MP,Nr,hx,h1,h2]
  unfold Vo
  rw [hsm]
  exact ⟨rfl,hm0 (.refl _ _)⟩
 rw [MJ hbad] at hsm
 have hac:=BY (c:=c) (p:=p) hro1 x1 hs hc hp
 rw [e1] at hac
 have hways:(w.k=2/\c=8) \/ ¬ w.k=2:=by
  by_cases e:w.k=2
  ·by_cases e3:c=8
   ·exact .inl ⟨e,e3⟩
   ·exact (hbad ⟨e,e3⟩).elim
  ·exact .inr e
 have hall:∀ r h1,sZ H m M F c p r h1->(∃ ok,r = .tuple #[.slice none 0 0,.bool ok]/\ok=false/\Vo h m M F c p v (.bool false) h1) \/ ∃ g,r = .tuple #[.slice (some ⟨g,p.n.toNat % 64 * 5,none⟩) c.toNat 0,.bool true] /\ ∃ q gs B G,U6 h1 q g gs B p.n.toNat w c G c.toNat [.int .i64 0] h1/\0<=c /\
   (∀ k,k < c.toNat->gs[(p.n.toNat + k) / 64]? = some (some g)/\(p.n.toNat + k) % 64 * 5=p.n.toNat % 64 * 5 + k * 5)/\c<=8/\H.ro<=g/\h1.ro=H.ro/\(∀ h2,qY (fun b=>b=g) h1 h2->h2.get (h.next + 1)=some (.cells [.int .i64 w.k,.int .i64 w.n,.int .i64 w.b] 86)) /\
   ∀ h2,U6 h1 q g gs B p.n.toNat w c G 0 [.int .i64 c.toNat] h2->Vo h m M F c p v (.bool true) h2:=by
  intro r h1 hr
  unfold sZ at hr
  cases e:right M c p with
  | none=>
    rw [e] at hr
    obtain ⟨rfl,e3⟩:=hr
    refine .inl ⟨_,rfl,rfl,?_⟩
    rw [e] at hsm
    unfold Vo
    rw [hsm]
    exact ⟨rfl,hm0 e3⟩
  | some i=>
    rw [e] at hr hsm
    obtain ⟨g,bs1,ps1,fs1,F1,q,qp,cq,gs,B,hB,rfl,x2,hq,hb,fq,full,hgs,ef,hsub⟩:=hr
    obtain ⟨hk,hcc,hi,B',hB',hn0,hn1,hn2⟩:=bT e
    rw [hB] at hB';cases hB'
    have fg:=(full.hg _ g hgs).1
    refine .inr ⟨g,rfl,q,gs,B,fs1 i,⟨0,by omega,by omega,rfl,.refl _ _,by rw [nF];exact full⟩,by omega,fun k hk => ?_,by omega,by have:=(x2.ok g (x2.sub i g fg)).1;have:=ef.ro;omega,ef.ro,fun h2 e2 => ?_,fun h2 hst => ?_⟩
    ·have hal:p.n.toNat % 64 + c.toNat<=64:=by
      rw [N2 hn0] at hn2
      rcases hcc with rfl | rfl | rfl <;> omega
     exact ⟨by rw [show (p.n.toNat + k) / 64=p.n.toNat / 64 by omega];exact hgs,by omega⟩
    ·have n1:h.next + 1 ≠ g:=by
      intro en
      rcases hsub g (x2.sub i g fg) with h3 | h3
      ·have:=(x.ok g h3).2;omega
      ·omega
     rw [e2.get _ n1 (by have:=ef.next;omega),ef.get _ (fun h3=>by have:=(x.ok _ h3).2;omega) (by omega),hx]
    ·obtain ⟨k,hk1,hk2,hk3,e2,full2⟩:=hst
     have hkc:k=c.toNat:=by simp at hk3;omega
     subst hkc
     have hne:qp ≠ g:=by
      intro en;subst en
      obtain ⟨cs,hc1,_⟩:=(full.hg _ qp hgs).2
      rw [hb] at hc1;simp at hc1
     have hb2:h2.get qp=some (.cells [.int .i64 B.size,.slice (some ⟨q,0,none⟩) gs.length cq,.bool B.uX] 126):=by rw [e2.get _ hne (x2.ok qp (x2.sub i qp fq)).2,hb]
     have y:=x2.iL hq hB (B':=YM B p.n.toNat w c.toNat) rfl (e2.mono (fun b (hb:b=g)=>by rw [hb];exact fg)) ⟨_,hb2,fq,.full q cq gs rfl full2⟩ (fun b hb => .inl hb) (fun b hb=>by have:=x2.ok b (x2.sub i b hb);have:=e2.next;have:=e2.ro;omega)
     unfold Vo
     rw [hsm]
     simp only [hB,NX]
     have hsub2:∀ b,F1 b->F b\/h.next<=b:=fun b hb=>by
      rcases hsub b hb with q | q
      ·exact .inl q
      ·exact .inr (by omega)
     refine ⟨trivial,_,⟨_,_,_,y⟩,((Za.mono (fun _ q=>q.elim)).trans ef).more e2 (fun b (hb:b=g)=>by rw [hb];exact hsub2 g (x2.sub i g fg)),fun b hb => ?_⟩
     rcases hb with hb | hb
     ·exact hsub2 b hb
     ·exact hsub2 b (x2.sub i b hb)
 rcases hways with ⟨w2,c8⟩ | w2
 ·have d8:decide (c=8)=true:=wL c8
  simp -implicitDefEqProofs only [zq,zC,zM,zS,uP,xj,jy,qW,zB,zK,nth,MD,MT,MY,M0,Nh,NL,MA,Nat.reduceAdd,MI,wL,NK,hx,hp1,w2,d8]
  refine zW (by kernel_rfl) rfl hac ?_
  intro r h1 hr
  rcases hall r h1 hr with ⟨_,rfl,rfl,hf⟩ | ⟨g,rfl,q,gs,B,G,hI,hc0,hk,hc8,hgr,hr1,hbx,hend⟩
  ·simp -implicitDefEqProofs only [Xw,Xx,zq,yF,zC,zM,yy,cD,zB,z8,Nr,XH]
   exact hf
  ·simp -implicitDefEqProofs only [Xw,Xx,zq,yF,zC,zM,zS,cD,zB,z8,NK,XH]
   refine kD (U6 h1 q g gs B p.n.toNat w c G) c.toNat hI ?_
   rintro n vs h2 ⟨k,hk1,rfl,rfl,ef2,full2⟩
   by_cases hlt:k < c.toNat
   ·have hki:(k:Int) < (c.toNat:Int):=by omega
    obtain ⟨hgk,hok⟩:=hk k hlt
    obtain ⟨cs,hcs,hle,hput⟩:=full2.put hgk
    have hput':=hput (cellOf w k)
    rw [hok] at hle hput'
    have hbx2:=hbx h2 ef2
    have hr2:h2.ro<=g:=by rw [ef2.ro,hr1];exact hgr
    have hb1:0<=(k:Int)/\(k:Int) < (c.toNat:Int):=by omega
    have hw1:IntKind.wrap .i64 (8 * (k:Int))=((8 * k:Nat):Int):=by rw [kC (by omega) (by omega)];omega
    have hw2:IntKind.wrap .i64 ((k:Int) + 1)=((k + 1:Nat):Int):=by rw [kC (by omega) (by omega)];omega
    have hk0:0<=((8 * k:Nat):Int):=by omega
    have hmin:min (8 * k) IntKind.i64.bits=8 * k:=by show min (8 * k) 64=_;omega
    have hnext:∀ h3,h3=h2.set g (some (.cells (ze cs (p.n.toNat % 64 * 5 + k * 5) (cellOf w k).jv) 156))->∃ m,m < c.toNat - k/\U6 h1 q g gs B p.n.toNat w c G m [.int .i64 ((k + 1:Nat):Int)] h3:=fun h3 e3=>
     ⟨c.toNat - (k + 1),by omega,k + 1,by omega,rfl,rfl,by rw [e3];exact ef2.set (.inl rfl) _,by rw [e3];have:=hput';unfold iL at this;rw [<- KB];exact this⟩
    simp -implicitDefEqProofs only [zq,yF,zC,zM,yy,zS,vy,jy,qV,Yn,mg,zK,yx,vV,nth,MD,MH,MT,MY,M0,Nx,NO,ze,Nh,NL,MA,ND,Nat.reduceAdd,Int.reduceEq,NB,MI,wL,wg,xU,MP,Wa,VC,Xy,oX,J7,jO,hki,hbx2,hcs,hr2,hb1,hle,hw1,hw2,hk0,hmin,M4,w2]
    refine hnext _ ?_
    unfold cellOf Cl.jv
    simp only [w2,ze,v0,KK,MA,MS,Int.reduceEq]
   ·have hkc:k=c.toNat:=by omega
    subst hkc
    have hki:¬ (c.toNat:Int) < (c.toNat:Int):=by omega
    simp -implicitDefEqProofs only [zq,yF,zC,zM,zS,vy,qV,Yn,zK,nth,wg,MP,J7,jO,hki]
    exact hend h2 ⟨c.toNat,by omega,by omega,rfl,ef2,full2⟩
 ·simp -implicitDefEqProofs only [zq,zC,zM,zS,qq,ye,jy,zB,zK,nth,MD,MT,MY,M0,Nh,NL,MA,Nat.reduceAdd,MI,wg,MP,hx,hp1,w2]
  refine zW (by kernel_rfl) rfl hac ?_
  intro r h1 hr
  rcases hall r h1 hr with ⟨_,rfl,rfl,hf⟩ | ⟨g,rfl,q,gs,B,G,hI,hc0,hk,hc8,hgr,hr1,hbx,hend⟩
  ·simp -implicitDefEqProofs only [Xw,Xx,zq,yF,zC,zM,yy,cD,zB,z8,Nr,XH]
   exact hf
  ·simp -implicitDefEqProofs only [Xw,Xx,zq,yF,zC,zM,zS,cD,zB,z8,NK,XH]
   refine kD (U6 h1 q g gs B p.n.toNat w c G) c.toNat hI ?_
   rintro n vs h2 ⟨k,hk1,rfl,rfl,ef2,full2⟩
   by_cases hlt:k < c.toNat
   ·have hki:(k:Int) < (c.toNat:Int):=by omega
    obtain ⟨hgk,hok⟩:=hk k hlt
    obtain ⟨cs,hcs,hle,hput⟩:=full2.put hgk
    have hput':=hput (cellOf w k)
    rw [hok] at hle hput'
    have hbx2:=hbx h2 ef2
    have hr2:h2.ro<=g:=by rw [ef2.ro,hr1];exact hgr
    have hb1:0<=(k:Int)/\(k:Int) < (c.toNat:Int):=by omega
    have hw1:IntKind.wrap .i64 (8 * (k:Int))=((8 * k:Nat):Int):=by rw [kC (by omega) (by omega)];omega
    have hw2:IntKind.wrap .i64 ((k:Int) + 1)=((k + 1:Nat):Int):=by rw [kC (by omega) (by omega)];omega
    have hk0:0<=((8 * k:Nat):Int):=by omega
    have hmin:min (8 * k) IntKind.i64.bits=8 * k:=by show min (8 * k) 64=_;omega
    have hnext:∀ h3,h3=h2.set g (some (.cells (ze cs (p.n.toNat % 64 * 5 + k * 5) (cellOf w k).jv) 156))->∃ m,m < c.toNat - k/\U6 h1 q g gs B p.n.toNat w c G m [.int .i64 ((k + 1:Nat):Int)] h3:=fun h3 e3=>
     ⟨c.toNat - (k + 1),by omega,k + 1,by omega,rfl,rfl,by rw [e3];exact ef2.set (.inl rfl) _,by rw [e3];have:=hput';unfold iL at this;rw [<- KB];exact this⟩
    by_cases w1:w.k=1
    ·simp -implicitDefEqProofs only [zq,yF,zC,zM,yy,zS,vy,jy,qV,Yn,mg,zK,yx,vV,nth,MD,MH,MT,MY,M0,Nx,NO,ze,Nh,NL,MA,ND,Nat.reduceAdd,Int.reduceEq,NB,MI,wL,wg,xU,MP,Wa,VC,Xy,oX,J7,jO,hki,hbx2,hcs,hr2,hb1,hle,hw1,hw2,hk0,hmin,M4,w1]
     refine hnext _ ?_
     unfold cellOf Cl.jv
     simp only [w1,ze,v0,KK,MA,MS,Int.reduceEq]
    ·simp -implicitDefEqProofs only [zq,yF,zC,zM,yy,zS,vy,jy,qV,Yn,mg,zK,yx,vV,nth,MD,MH,MT,MY,M0,Nx,NO,ze,Nh,NL,MA,ND,Nat.reduceAdd,NB,MI,wL,wg,xU,MP,Wa,VC,Xy,oX,J7,jO,hki,hbx2,hcs,hr2,hb1,hle,hw1,hw2,hk0,hmin,M4,w1,w2]
     refine hnext _ ?_
     unfold cellOf Cl.jv
     simp only [w1,w2,ze,v0,KK,MS]
   ·have hkc:k=c.toNat:=by omega
    subst hkc
    have hki:¬ (c.toNat:Int) < (c.toNat:Int):=by omega
    simp -implicitDefEqProofs only [zq,yF,zC,zM,zS,vy,qV,Yn,zK,nth,wg,MP,J7,jO,hki]
    exact hend h2 ⟨c.toNat,by omega,by omega,rfl,ef2,full2⟩
end
end Go.Mem
