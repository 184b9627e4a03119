import Derived.Test.YtpjjmindjodknaaGreatTN
set_option linter.unusedVariables false
set_option linter.unusedSimpArgs false
set_option maxRecDepth 100000
namespace Go.Eb
open Go.Ai Go.Proofs
open Go.Rtl (zL zP Old inc)
open Go.Rm (Zq wy wh ux ur uy XW uD yC Rd Rd.of Rd.at Rd.mono)
open Go.As (z8 Pg ZF vV uL vQ jg um kf)
open Go.Ar (xi)
open Go.En
section
variable {lo:y5} {h:za} {L:List HP} {p:Pg} {b2 b4 bl b8 c n o i:Nat} {gv sv av cv:Value} {ls:List Nat} {f:Go.As.Fn} {x:z8} {J:List Value->za->Prop} {R:Value->za->Prop}
theorem HS (hK:Rd lo (mP p bl ls sv av)) (X:CW p) (hfi:p.funcs[i]? = some f) (hls:ls.length=p.funcs.length) (hsz:z9 p.funcs<=1000000) {bs:List Int} (hbs:bs.length=z9 (p.funcs.take i)) (wf:w9 h)
  (s:Sat lo h (pt b4 (bu p cv sv gv) :: wR cv bs :: L)) (gvn:ya gv=false)
  (k:∀ h' cv',w9 h'->Sat lo h' (pt b4 (bu p cv' sv gv) :: wR cv' (bs ++ jB (wB p.globals 16777216) (xV p.funcs 0) f.code (z9 (p.funcs.take i)) f.code (z9 (p.funcs.take i))) :: L)->J [] h') :
  LP (Vy (.int .i64 f.code.length) J f.cv (.pointer (some ⟨b4,0,none⟩)) (.slice (some ⟨bl,0,none⟩) p.funcs.length c) [.int .i64 i] av) [.int .i64 0] h:=by
 refine uY (fun m vs h' => ∃ (j:Nat) (cv':Value),j<=f.code.length/\m=f.code.length - j/\vs = [.int .i64 (j:Nat)]/\w9 h'/\Sat lo h' (pt b4 (bu p cv' sv gv) :: wR cv' (bs ++ jB (wB p.globals 16777216) (xV p.funcs 0) f.code (z9 (p.funcs.take i)) (f.code.take j) (z9 (p.funcs.take i))) :: L)) f.code.length
  ⟨0,cv,Oe _,rfl,rfl,wf,by
   have e:bs ++ jB (wB p.globals 16777216) (xV p.funcs 0) f.code (z9 (p.funcs.take i)) (f.code.take 0) (z9 (p.funcs.take i))=bs:=Pj bs
   rw [e];exact s⟩ ?_
 rintro m vs h1 ⟨j,cv',hj,rfl,rfl,w1,s1⟩
 have K:=hK.at s1
 have fm:=NQ hfi
 have F:=K.pg.fns f fm
 have hcf:=X.cf f fm
 unfold Vy
 by_cases hc:(j:Int) < (f.code.length:Int)
 ·obtain ⟨x,hi⟩:∃ x,f.code[j]? = some x:=⟨_,NC (by omega)⟩
  obtain ⟨bi,oi,ci,ti,ha,hbi,hgi,hle,htk,_⟩:=uL F.code (i:=j) (r:=x.row) (by rw [NU,hi];rfl) rfl
  have et:f.code.take (j + 1)=f.code.take j ++ [x]:=by rw [OA,hi];rfl
  have hin:=inc (show j < 4611686018427387904 by omega)
  have szf:=Wh fm
  have szt:=Xj f.code j
  simp -implicitDefEqProofs only [EE,nth,Value.cells,↓z7,N5,jF,qf,aT,aq,ar,hc,ha,hgi,hle,htk]
  refine fw s1 w1 fun b8 h2 w2 s2 => ?_
  simp -implicitDefEqProofs only [EE,Nat.reduceAdd,aS]
  refine rf s2 w2 (by simp) rfl fun h3 w3 s3 => ?_
  have g8:=s3.get
  simp -implicitDefEqProofs only [EE,zt,N5,Nat.reduceAdd,jF,qf,g8]
  refine LG (n:=yO (f.code.take j)) hK X hfi hls (NQ hi) hsz (by rw [Oy,hbs,Up]) (by omega) w3 s3 gvn fun h4 cv2 w4 s4 => ?_
  simp -implicitDefEqProofs only [EE,nth,hin]
  refine ⟨f.code.length - (j + 1),by omega,j + 1,cv2,by omega,rfl,rfl,w4,?_⟩
  rw [et,QH,<- O5]
  exact s4
 ·have e:j=f.code.length:=by omega
  subst e
  rw [OE] at s1
  simp -implicitDefEqProofs only [EE,nth,hc]
  exact k h1 cv' w1 s1
theorem FN (hK:Rd lo (mP p bl ls sv av)) (X:CW p) (hls:ls.length=p.funcs.length) (hsz:z9 p.funcs<=1000000) (wf:w9 h)
  (s:Sat lo h (pt b4 (bu p (.slice none 0 0) sv gv) :: L)) (gvn:ya gv=false)
  (k:∀ h' cv',Sat lo h' (pt b4 (bu p cv' sv gv) :: wR cv' (WV p) :: L)->J [] h') :
  LP (Vz (.int .i64 p.funcs.length) J p.fv (.pointer (some ⟨b4,0,none⟩)) (.slice (some ⟨bl,0,none⟩) p.funcs.length c) av) [.int .i64 0] h:=by
 refine uY (fun m vs h' => ∃ (i:Nat) (cv':Value),i<=p.funcs.length/\m=p.funcs.length - i/\vs = [.int .i64 (i:Nat)]/\w9 h'/\Sat lo h' (pt b4 (bu p cv' sv gv) :: wR cv' (ZH (wB p.globals 16777216) (xV p.funcs 0) (p.funcs.take i) 0) :: L)) p.funcs.length
  ⟨0,.slice none 0 0,Oe _,rfl,rfl,wf,(lZ s).f [1,0]⟩ ?_
 rintro m vs h1 ⟨i,cv',hi,rfl,rfl,w1,s1⟩
 have K:=hK.at s1
 have fl:=X.fl
 unfold Vz
 by_cases hc:(i:Int) < (p.funcs.length:Int)
 ·obtain ⟨f,hf⟩:∃ f,p.funcs[i]? = some f:=⟨_,NC (by omega)⟩
  have fm:=NQ hf
  obtain ⟨bf,ofs,cf,tf,hif,hbf,hgf,hlf,htf,hkf⟩:=jg K.pg.funcs (i:=i) (r:=f.row) (by rw [NU,hf];rfl) rfl
  have cvn:=(K.pg.fns f fm).code.Zp
  have cvc:=(K.pg.fns f fm).code.KW
  have hin:=inc (show i < 4611686018427387904 by omega)
  have et:p.funcs.take (i + 1)=p.funcs.take i ++ [f]:=by rw [OA,hf];rfl
  simp -implicitDefEqProofs only [EE,nth,Value.cells,↓z7,N5,jF,Yr,eu,au,ax,hc,hif,hgf,hlf,htf]
  refine fw s1 w1 fun b8 h2 w2 s2 => ?_
  simp -implicitDefEqProofs only [EE,Nat.reduceAdd,dZ]
  refine rf s2 w2 (by simp) (by simp [cvc];rfl) fun h3 w3 s3 => ?_
  have g8:=s3.get
  have hlc:=fun h'=>vQ ((hK.at s3).pg.fns f fm).code 3 h'
  simp -implicitDefEqProofs only [EE,↓z7,zt,zq,uP,wj,g8,cvn,hlc]
  refine HS (bs:=ZH (wB p.globals 16777216) (xV p.funcs 0) (p.funcs.take i) 0) hK X hf hls hsz (JH _ _ _ _) w3 (s3.drop) gvn fun h4 cv2 w4 s4 => ?_
  simp -implicitDefEqProofs only [EE,nth,hin]
  refine ⟨p.funcs.length - (i + 1),by omega,i + 1,cv2,by omega,rfl,rfl,w4,?_⟩
  rw [et,QI,OT]
  exact s4
 ·have e:i=p.funcs.length:=by omega
  subst e
  rw [OE] at s1
  simp -implicitDefEqProofs only [EE,nth,hc]
  exact k h1 cv' s1
end
end Go.Eb
namespace Go.Ac
open Go.Ai Go.Proofs Go.Proofs.Tryz
noncomputable abbrev zz:=prog
abbrev VK:=Value->za->Prop
abbrev LK:=List Value->za->Prop
abbrev ci (n:Int):Operand := .const (.int .i64 n)
abbrev fn (n:Nat):Value := .func (.func n) #[] #[]
variable {h:za} {t0 t1 t2 t3 t4 t5 t6:Value} {R:VK}
def qs:FuncId->Nat:=fun g=>[0].getD g 0
theorem mixed:prog.follows .mixedOrders=true:=Pm Tryz.checked
def mS:=fun a b g (h:LK) c (i:za)=>
 opt (nb [a,c] (jD zz 50 [(0,a),(1,c)])) fun d=>zB (nb [d] (zf zz 23 1 [(0,d)] i)) fun e j=>zB (nb [b,e] (zg zz .append [23,23] 23 [b,e] j)) fun f k=>opt (zb zz 25 g 1) fun l=>opt (nb [f] (zZ zz 23 l f k)) fun m=>h [] m
def mT:=fun c (a:za) d e (f:LK)=>
 opt (zb zz 25 c 1) fun g=>opt (zc zz 23 g a) fun h=>opt (zb zz 25 d 1) fun i=>opt (zc zz 23 i a) fun j=>opt (zI zz 23 j (nth e 0)) fun k=>opt (zb zz 50 k 0) fun l=>opt (zc zz 9 l a) fun m=>zB (nb [] (zf zz 48 0 [] a)) fun n b=>opt (zb zz 25 d 1) fun o=>opt (zc zz 23 o (cut b a.next b.next)) fun p=>opt (zI zz 23 p (nth e 0)) fun q=>opt (zb zz 50 q 1) fun r=>opt (zc zz 48 r (cut b a.next b.next)) fun s=>WQ zz [48,48] 48 [n,s] (some (a.next,b.next)) b b (mS m h c f)
def mU:=fun b c a (d:LK) (h:List Value) (e:za)=>
 BK (mT b e c a)
 (fun i f=>opt (nb [nth a 0,.int .i64 1] (zd zz .add 3 (.tmp 19) (ci 1) (nth a 0) (.int .i64 1))) fun g=>d [g] f)
def mV:=fun b (h:LK) i a (c:za) (j:LK)=>
 opt (zb zz 25 b 1) fun k=>opt (zc zz 23 k c) fun d=>zB (nb [d] (zg zz .len [23] 3 [d] c)) fun e f=>opt (nb [nth a 0,e] (zd zz .lss 3 (.tmp 14) (.tmp 17) (nth a 0) e)) fun l=>CD l (fun g=>g [] f)
 (fun g=>h [] f)
 (mU i b a j)
def mW:=fun c (e b:za) f (R:VK) g (a:za)=>
 opt (zb zz 25 c 2) fun n=>opt (zc zz 3 n (cut (cut a e.next b.next) b.next a.next)) fun h=>opt (zb zz 25 c 3) fun o=>opt (zc zz 3 o (cut (cut a e.next b.next) b.next a.next)) fun i=>opt (nb [g,h,i] (jD zz 25 [(0,g),(2,h),(3,i)])) fun j=>opt (vK zz 25) fun p=>nw a (Value.cells p).toList 25 fun d q=>opt (nb [j] (zZ zz 25 d j q)) fun r=>BK (fun s=>LP (mV c s d)
 [.int .i64 0] r)
 (fun u k=>opt (zc zz 25 d k) fun l=>opt (nb [l] (zZ zz 25 f l k)) fun m=>opt (zc zz 25 f m) fun t=>rv [t] m R)
def C2:=fun (h:za) c (R:VK)=>
 opt (nb [c] (some (Value.cells c).toList)) fun e=>nw h e 25 fun d f=>opt (vK zz 25) fun g=>nw f (Value.cells g).toList 25 fun i b=>zB (nb [] (zf zz 22 0 [] b)) fun j a=>opt (zb zz 25 d 0) fun k=>opt (zc zz 22 k (cut a b.next a.next)) fun l=>WQ zz [22,22] 22 [j,l] (some (b.next,a.next)) a a (mW d b a i R)
theorem A7 (hw:C2 h t0 R):DC zz 9 [t0] h R:=AY mixed (q:=qs) (n:=200) (Eq.mpr (by kernel_rfl) hw)
theorem wL (b off:Nat) (h:za):zc Tryz.prog 22 (.pointer (some ⟨b,off,none⟩)) h=zq h b off:=ym (by kernel_rfl) b off h
theorem wN (b off:Nat) (h:za):zc Tryz.prog 23 (.pointer (some ⟨b,off,none⟩)) h=zq h b off:=ym (by kernel_rfl) b off h
theorem Xv (b off:Nat) (h:za):zc Tryz.prog 25 (.pointer (some ⟨b,off,none⟩)) h=jF h b off 4:=uW (by kernel_rfl) (by kernel_rfl) b off h
theorem zi (b off:Nat) (h:za):zc Tryz.prog 3 (.pointer (some ⟨b,off,none⟩)) h=zq h b off:=ym (by kernel_rfl) b off h
theorem uP (b off:Nat) (h:za):zc Tryz.prog 48 (.pointer (some ⟨b,off,none⟩)) h=zq h b off:=ym (by kernel_rfl) b off h
theorem Hu (b off:Nat) (h:za):zc Tryz.prog 9 (.pointer (some ⟨b,off,none⟩)) h=zq h b off:=ym (by kernel_rfl) b off h
theorem oH (r:TypeId) (v x:Value) (n:Nat) (new:List Value) (h:za) (h1:jK x=some n) (h2:wZ h n 1 x=some new) (h3:new.all xp=true) (h4:new.length=n * 1):zg Tryz.prog .append [22,22] r [v,x] h=Yh h 3 1 8 n new v:=jx (e:=3) (e2:=3) (by kernel_rfl) (by kernel_rfl) (by kernel_rfl) (by kernel_rfl) (by decide) h1 h2 h3 h4
theorem IN (r:TypeId) (v x:Value) (n:Nat) (new:List Value) (h:za) (h1:jK x=some n) (h2:wZ h n 2 x=some new) (h3:new.all xp=true) (h4:new.length=n * 2):zg Tryz.prog .append [23,23] r [v,x] h=Yh h 50 2 40 n new v:=jx (e:=50) (e2:=50) (by kernel_rfl) (by kernel_rfl) (by kernel_rfl) (by kernel_rfl) (by decide) h1 h2 h3 h4
theorem IQ (r:TypeId) (v x:Value) (n:Nat) (new:List Value) (h:za) (h1:jK x=some n) (h2:wZ h n 7 x=some new) (h3:new.all xp=true) (h4:new.length=n * 7):zg Tryz.prog .append [48,48] r [v,x] h=Yh h 42 7 56 n new v:=jx (e:=42) (e2:=42) (by kernel_rfl) (by kernel_rfl) (by kernel_rfl) (by kernel_rfl) (by decide) h1 h2 h3 h4
theorem IU (b off:Nat) (v:Option Addr) (vl vc:Nat) (h:za):zZ Tryz.prog 23 (.pointer (some ⟨b,off,none⟩)) (.slice v vl vc) h=fO h b off [(.slice v vl vc)]:=Y0 (by kernel_rfl) b off _ h rfl
theorem tX (b off:Nat) (l:List Value) (h:za) (hv:l.length=4):zZ Tryz.prog 25 (.pointer (some ⟨b,off,none⟩)) (.agg l.toArray) h=fO h b off l:=qF (by kernel_rfl) b off l h hv
theorem tY:vK Tryz.prog 25=some (.agg #[(.slice none 0 0),(.slice none 0 0),(.int .i64 0),(.int .i64 0)]):=zK (by kernel_rfl)
theorem oL (v0:Option Addr) (v0l v0c:Nat) (v2:Int) (v3:Int):jD Tryz.prog 25 [(0,(.slice v0 v0l v0c)),(2,(.int .i64 v2)),(3,(.int .i64 v3))]=some (.agg #[(.slice v0 v0l v0c),(.slice none 0 0),(.int .i64 v2),(.int .i64 v3)]):=zK (by kernel_rfl)
theorem B0 (v0:ByteArray) (v1:Option Addr) (v1l v1c:Nat):jD Tryz.prog 50 [(0,(.string v0)),(1,(.slice v1 v1l v1c))]=some (.agg #[(.string v0),(.slice v1 v1l v1c)]):=zK (by kernel_rfl)
theorem ey (h:za):zf Tryz.prog 22 0 [] h=some (.slice (some ⟨h.next,0,none⟩) 0 2,h.push (.cells [] 3)):=zK (by kernel_rfl)
theorem B5 (v00:ByteArray) (v01:Option Addr) (v01l v01c:Nat) (h:za):zf Tryz.prog 23 1 [(0,(.agg #[(.string v00),(.slice v01 v01l v01c)]))] h=some (.slice (some ⟨h.next,0,none⟩) 1 3,h.push (.cells [(.string v00),(.slice v01 v01l v01c)] 50)):=zK (by kernel_rfl)
theorem DS (h:za):zf Tryz.prog 48 0 [] h=some (.slice (some ⟨h.next,0,none⟩) 0 2,h.push (.cells [] 42)):=zK (by kernel_rfl)
theorem yZ (b off:Nat):zb Tryz.prog 25 (.pointer (some ⟨b,off,none⟩)) 0=some (.pointer (some ⟨b,off,none⟩)):=zK (by kernel_rfl)
theorem yo (b off:Nat):zb Tryz.prog 25 (.pointer (some ⟨b,off,none⟩)) 1=some (.pointer (some ⟨b,off + 1,none⟩)):=zK (by kernel_rfl)
theorem ug (b off:Nat):zb Tryz.prog 25 (.pointer (some ⟨b,off,none⟩)) 2=some (.pointer (some ⟨b,off + 2,none⟩)):=zK (by kernel_rfl)
theorem kL (b off:Nat):zb Tryz.prog 25 (.pointer (some ⟨b,off,none⟩)) 3=some (.pointer (some ⟨b,off + 3,none⟩)):=zK (by kernel_rfl)
theorem l9 (b off:Nat):zb Tryz.prog 50 (.pointer (some ⟨b,off,none⟩)) 0=some (.pointer (some ⟨b,off,none⟩)):=zK (by kernel_rfl)
theorem wj (b off:Nat):zb Tryz.prog 50 (.pointer (some ⟨b,off,none⟩)) 1=some (.pointer (some ⟨b,off + 1,none⟩)):=zK (by kernel_rfl)
theorem pw (b off len c:Nat) (k:IntKind) (i:Int):zI Tryz.prog 23 (.slice (some ⟨b,off,none⟩) len c) (.int k i)=if 0<=i/\i < len then some (.pointer (some ⟨b,off + i.toNat * 2,none⟩)) else none:=xo (e:=50) (by kernel_rfl) (by kernel_rfl)
theorem JT (r:TypeId) (a:Option Addr) (n c:Nat) (h:za):zg Tryz.prog .len [23] r [.slice a n c] h=some (.int .i64 n,h):=zK (by kernel_rfl)
end Go.Ac
namespace Go.Ar
open Go.Ai Go.Proofs
open Go.Rtl (zL zP Old inc Vg mE fI fJ mF sU)
open Go.Rm (Rd Rd.of Rd.at Zq ur uD yC)
open Go.As (z8 Pg ZF vV)
theorem bP (xs:List z8):∀ r,r ∈ xs.map z8.row->r.length=7:=uD (f:=z8.row) (fun _=>rfl) xs
theorem sn (fs:List Go.As.Fn):∀ r,r ∈ fs.map Go.As.Fn.row->r.length=2:=uD (f:=Go.As.Fn.row) (fun _=>rfl) fs
def Lt (f:Go.As.Fn):HP:=Zq 42 7 f.cv (f.code.map z8.row)
def Md (q:Pg):HP:=Wk [Zq 3 1 q.gv (q.globals.map yC),Zq 50 2 q.fv (q.funcs.map Go.As.Fn.row),Wk (q.funcs.map Lt)]
section
variable {lo:y5} {h:za} {L:List HP}
theorem pR {q:Pg} (s:Sat lo h (Md q :: L)) (h1:q.globals.length<=17592186043904) (h2:q.funcs.length * 24<=140737488351232) (h3:∀ f,f ∈ q.funcs->f.code.length * 56<=140737488351232):vV h q:=by
 have s1:=s.open
 refine ⟨sU s1 (by simp),h1,ur (s1.p 1) (sn _),h2,fun f hf=>⟨?_,h3 f hf⟩⟩
 have:=mE (s1.p 2) (List.mem_map_of_mem (f:=Lt) hf)
 exact ur this (bP _)
end
open Go.Rtl (Ys im Wf x6 QF qK)
theorem iq {t te:TypeId} {n bz:Nat} (hap:∀ (r:TypeId) (v x:Value) (k:Nat) (new:List Value) (h:za),jK x=some k->wZ h k n x=some new->new.all xp=true->new.length=k * n->zg Tryz.prog .append [t,t] r [v,x] h=Yh h te n bz k new v)
  {h:za} {x:Value} {rows:List (List Value)} {e:Nat} (S:zP (h.push (.cells [] te)) x n rows) (h0n:0 < n) (hn:∀ r,r ∈ rows->r.length=n) (hc:rows.flatten.all xp=true) (Ah:rows.length * bz<=2 ^ 47) (hro:h.ro<=h.next) (he:h.next < e) {K:Value->za->Prop} (k:∀ v h6,Ys h h6 te v rows->Old h h6->h6.ro<=h6.next->K v h6) :
  WQ Tryz.prog [t,t] t [.slice (some ⟨h.next,0,none⟩) 0 2,x] (some (h.next,e)) (h.push (.cells [] te)) (h.push (.cells [] te)) K:=by
 refine ⟨⟨NG _,he,by rw [y6];simp⟩,?_⟩
 have W:Ys h (h.push (.cells [] te)) te (.slice (some ⟨h.next,0,none⟩) 0 2) [] := .inr ⟨h.next,2,rfl,by decide,NG _,N0 _,hro,y6⟩
 obtain ⟨l',h',a1,a2,a3,a4,a5,a6,a7,_⟩:=im (n:=n) (bz:=bz) W (OS hro) (OP _) h0n (fun r hr=>by cases hr) (ys:=rows) (by simpa using Ah)
 have a0:=hap t (.slice (some ⟨h.next,0,none⟩) 0 2) x rows.length rows.flatten (h.push (.cells [] te)) S.BR (S.first h0n hn) hc (qK hn)
 rw [a0,a1,kO rfl,kO S.Zp,W7]
 show K l' _
 have hr:(wU (Wg (h.push (.cells [] te)) (.slice (some ⟨h.next,0,none⟩) 0 2) h') h').ro=h.ro:=by rw [Wf,bS];rfl
 have a5':h.next + 1<=h'.next:=a5
 have gg:∀ b,(wU (Wg (h.push (.cells [] te)) (.slice (some ⟨h.next,0,none⟩) 0 2) h') h').get b=if h.next<=b/\b < h'.next then h'.get b else h.get b:=by
  intro b
  rw [x7,We]
  show (if h.next + 1<=b/\b < h'.next then h'.get b else ((h.push (.cells [] te)).set h.next (h'.get h.next)).get b)=_
  by_cases hb:h.next + 1<=b/\b < h'.next
  ·rw [NK hb,NK ⟨by omega,hb.2⟩]
  ·rw [NJ hb]
   by_cases hb2:b=h.next
   ·subst hb2;rw [kD,NK ⟨NG _,by omega⟩]
   ·rw [vf hb2,NJ (by omega),za.wT,NJ hb2]
 refine k _ _ ?_ ⟨by rw [x6];omega,hr,fun b hb=>by rw [gg,NJ (by omega)]⟩ ?_
 ·rw [Pk] at a2
  rcases a2 with q | ⟨b,c,q1,q2,q3,q4,q5,q6⟩
  ·exact .inl q
  ·refine .inr ⟨b,c,q1,q2,q3,q4,?_,?_⟩
   ·rw [hr];omega
   ·rw [gg,NK ⟨q3,q4⟩];exact q6
 ·rw [hr,x6];omega
end Go.Ar
namespace Go.Ac
open Go.Ai Go.Proofs
open Go.Rtl (zL zP Old inc Vg mE fI fJ mF sU AQ E5 KP YL Ys)
open Go.Rm (Rd Rd.of Rd.at Zq ur uy jP wh ux uD yC)
open Go.As (z8 Pg ZF vV jg XL um jC)
open Go.Ar (Lt Md bP sn iq)
def Alike (fs gs:List Go.As.Fn):Prop:=gs.map (fun f=>(f.nm,f.code))=fs.map fun f=>(f.nm,f.code)
theorem Al:∀ xs:List z8,(xs.map z8.row).flatten.all xp=true
 | []=>rfl
 | x :: xs=>by
   rw [OF,Ph,List.all_append,Al xs]
   rfl
section
variable {h:za} {p:Pg}
theorem D0 (P:vV h p) (hfl:p.funcs.length<=100):DC Tryz.prog 9 [p.val] h (fun v h' => ∃ q:Pg,v=q.val/\q.globals=p.globals/\q.main=p.main/\q.params=p.params/\Alike p.funcs q.funcs/\Sat (.of h) h' [Md q]):=by
 apply jY;intro wf
 apply A7
 unfold C2
 have s0:Sat (.of h) h []:=Sat.self wf.2
 have RP:Rd (.of h) (vV · p):=Rd.of (y5.Zz h) P fun h' o=>P.old o
 have gvn:=P.globals.Zp
 have gvc:=P.globals.KW
 have fvn:=P.funcs.Zp
 have fvc:=P.funcs.KW
 simp -implicitDefEqProofs only [EE,Value.cells,tY,ey]
 refine ZY s0 fun b1 h2 s2 => ?_
 simp -implicitDefEqProofs only [EE,zq,wL,yZ]
 refine ZY s2 fun b2 h4 s4 => ?_
 have g1:=(s4.p 1).get
 have l1:=(s4.p 1).lt
 have gc1:∀ t,(cut (h4.push (.cells [] 3)) h4.next t).get b1=some (.cells [p.gv,p.fv,.int .i64 p.main,.int .i64 p.params] 25):=fun t=>by rw [kC l1,zQ l1];exact g1
 simp -implicitDefEqProofs only [EE,gc1]
 refine KP (h:=h4) ((RP.at s4).globals.old (Old.push _ _)) P.pf s4.base.p6 (N0 _) ?_
 intro gv' h6 W e6 r6
 have s6:=AQ W e6 r6 s4
 have g6:h6.get b1=some (.cells [p.gv,p.fv,.int .i64 p.main,.int .i64 p.params] 25):=(s6.p 2).get
 have gcc:(cut (cut h6 h4.next (h4.next + 1)) (h4.next + 1) h6.next).get b1=some (.cells [p.gv,p.fv,.int .i64 p.main,.int .i64 p.params] 25):=by
  rw [kC (by show b1 < h4.next + 1;omega),kC l1];exact g6
 unfold mW
 obtain ⟨va,vl,vc,rfl⟩:=W.shape
 simp -implicitDefEqProofs only [EE,Value.cells,zq,zi,tY,oL,ug,kL,gcc]
 refine ZY s6 fun b3 h8 s8 => ?_
 simp -implicitDefEqProofs only [EE,Nat.reduceAdd,tX]
 refine ZJ s8 (by simp) (by rfl) fun h9 s9 => ?_
 refine uY (fun m vs h' => ∃ (i:Nat) (fv:Value) (gs:List Go.As.Fn),i<=p.funcs.length/\m=p.funcs.length - i/\vs = [.int .i64 (i:Nat)]/\Alike (p.funcs.take i) gs/\Sat (.of h) h' [pt b3 (.cells [.slice va vl vc,fv,.int .i64 p.main,.int .i64 p.params] 25),Zq 3 1 (.slice va vl vc) (p.globals.map yC),Zq 50 2 fv (gs.map Go.As.Fn.row),Wk (gs.map Lt),pt b2 (.cells [.slice none 0 0,.slice none 0 0,.int .i64 0,.int .i64 0] 25),pt b1 (.cells p.row 25)]) p.funcs.length
  ⟨0,.slice none 0 0,[],Oe _,rfl,rfl,rfl,(uy 50 2 (mF s9)).f [2,3,0,1,4,5]⟩ ?_
 rintro m vs h' ⟨i,fv,gs,hi,rfl,rfl,hal,s⟩
 have g3:=s.get
 have g1:=(s.p 5).get
 have l1:=(s.p 5).lt
 have PP:=RP.at s
 have fl:=fun h'=>um PP.funcs 3 h'
 unfold mV
 by_cases hc:(i:Int) < (p.funcs.length:Int)
 ·obtain ⟨f,hf⟩:∃ f,p.funcs[i]? = some f:=⟨_,NC (by omega)⟩
  have F:=PP.fns f (NQ hf)
  obtain ⟨bf,ofs,cf,tf,hif,hbf,hgf,hlf,htf,hkf⟩:=jg PP.funcs (i:=i) (r:=f.row) (by rw [NU,hf];rfl) rfl
  have k0:=hkf 0 (by decide)
  have k0:cf[ofs]? = some (.string f.nm):=k0
  have k1:=hkf 1 (by decide)
  have k1:cf[ofs + 1]? = some f.cv:=k1
  have gc1:∀ t,(cut (h'.push (.cells [] 42)) h'.next t).get b1=some (.cells [p.gv,p.fv,.int .i64 p.main,.int .i64 p.params] 25):=fun t=>by rw [kC l1,zQ l1];exact g1
  have gcf:∀ t,(cut (h'.push (.cells [] 42)) h'.next t).get bf=some (.cells cf tf):=fun t=>by rw [kC hbf,zQ hbf];exact hgf
  have fvn':=wh (s.p 2)
  simp -implicitDefEqProofs only [EE,nth,↓z7,zq,wN,uP,Hu,DS,yo,l9,wj,mT,mU,g1,g3,fvn,fl,hc,hif,hgf,k0,k1,gc1,gcf]
  refine iq (bz:=56) (fun r v x k new h a b c d=>IQ r v x k new h a b c d) (F.code.old (Old.push _ _)) (by decide) (bP _) ?_ (by rw [NX];have:=F.gj;omega) s.base.p6 (N0 _) ?_
  ·exact Al _
  ·intro v h6 W e6 r6
   have s6:=E5 W (bP _) e6 r6 s
   have g3:=(s6.p 1).get
   obtain ⟨wa,wl,wc,rfl⟩:=W.shape
   have s7:=s6.push (.cells [.string f.nm,.slice wa wl wc] 50)
   have hgl:gs.length=i:=by have:=congrArg List.length hal;simp at this;omega
   obtain ⟨b',c',h8,a1,s8⟩:=jP (s7.p 4) (sn gs) [.string f.nm,.slice wa wl wc] rfl (by decide) 40 (by rw [NX];omega)
   rw [NX] at a1 s8
   have hap:∀ r,zg Tryz.prog .append [23,23] r [fv,.slice (some ⟨h6.next,0,none⟩) 1 3] (h6.push (.cells [.string f.nm,.slice wa wl wc] 50))=some (.slice (some ⟨b',0,none⟩) (gs.length + 1) c',h8):=fun r=>by
    rw [IN r _ _ 1 [.string f.nm,.slice wa wl wc] _ rfl (by simp only [wZ,y6];rfl) rfl rfl]
    exact a1
   unfold mS
   simp -implicitDefEqProofs only [EE,IU,B0,B5,yo,fvn',hap]
   refine ZJ (s8.p 3) (by simp) rfl fun h9 s9 => ?_
   simp -implicitDefEqProofs only [inc (show i < 4611686018427387904 by omega)]
   refine ⟨p.funcs.length - (i + 1),by omega,i + 1,.slice (some ⟨b',0,none⟩) (gs.length + 1) c',gs ++ [⟨f.nm,.slice wa wl wc,f.code⟩],by omega,rfl,rfl,?_,?_⟩
   ·unfold Alike at hal ⊢
    rw [Ou,hal,OA,hf];simp
   ·rw [Ou,Ou]
    have s10:=fI (A:=Lt ⟨f.nm,.slice wa wl wc,f.code⟩) (s9.f [3,5])
    exact s10.k [1,4,2,0,5,6]
 ·have e:i=p.funcs.length:=by omega
  subst e
  rw [OE] at hal
  have fn1:=wh (s.p 2)
  have fc1:=ux (s.p 2)
  simp -implicitDefEqProofs only [EE,nth,N5,Nat.reduceAdd,jF,zq,wN,Xv,tX,yo,g1,g3,fvn,fl,hc]
  refine ZJ (s.p 4) (by simp) (by simp [fc1];exact ⟨rfl,rfl,rfl⟩) fun h9 s9 => ?_
  have g9:=s9.get
  simp -implicitDefEqProofs only [EE,zt,N5,Nat.reduceAdd,jF,Xv,g9]
  refine ⟨⟨.slice va vl vc,p.globals,fv,gs,p.main,p.params⟩,rfl,rfl,rfl,rfl,hal,?_⟩
  exact Sat.close (s9.k [2,3,4])
end
end Go.Ac
namespace Go.Eb
open Go.Ai Go.Proofs
open Go.Rtl (zL zP Old inc AQ KP YL Vg)
open Go.Rm (Zq wy wh ux ur uy XW uD yC Rd Rd.of Rd.at Rd.mono)
open Go.As (z8 Pg ZF vV uL vQ jg um kf)
open Go.Ar (xi)
open Go.En
def CQ (p:Pg) (h:za) (v:Value) (h':za):Prop :=
 if kf p=true then ∃ cv sv gv,v = .tuple #[.agg #[cv,sv,gv,.int .i64 p.main,.int .i64 p.params],.int .i64 0]/\Sat (.of h) h' [wR cv (WV p),Zq 3 1 sv ((uT p.funcs).map yC),Zq 3 1 gv (p.globals.map yC)]
 else v = .tuple #[.agg #[.slice none 0 0,.slice none 0 0,.slice none 0 0,.int .i64 0,.int .i64 0],.int .i64 1]/\Sat (.of h) h' []
section
variable {h:za} {p:Pg}
theorem oY (P:vV h p) (hsz:kf p=true->z9 p.funcs<=1000000):DC Tryz.prog 10 [p.val] h (CQ p h):=by
 apply jY;intro wf
 apply mY
 unfold mX
 have s0:Sat (.of h) h []:=Sat.self wf.2
 have RP:Rd (.of h) (vV · p):=Rd.of (y5.Zz h) P fun h' o=>P.old o
 have gvn:=P.globals.Zp
 have gvc:=P.globals.KW
 have fvn:=P.funcs.Zp
 have fvc:=P.funcs.KW
 simp -implicitDefEqProofs only [EE,Value.cells,oJ]
 refine ZY s0 fun b1 h2 s2 => ?_
 simp -implicitDefEqProofs only [EE,jF,Xv]
 refine ZY s2 fun b2 h4 s4 => ?_
 have g1:=(s4.p 1).get
 simp -implicitDefEqProofs only [EE,N5,Nat.reduceAdd,g1]
 refine zJ (by kernel_rfl) (by simp only [yB];rfl) (Go.As.HZ (RP.at s4)) ?_
 cases hg:kf p with
 | false=>
   simp -implicitDefEqProofs only [EE,Nat.reduceAdd,ir,Hy,cQ]
   refine ZJ s4 (by simp) rfl fun h5 s5 => ?_
   have g2:=s5.get
   simp -implicitDefEqProofs only [EE,zt,N5,Nat.reduceAdd,jF,DD,g2]
   unfold CQ
   rw [NJ (by rw [hg];decide)]
   exact ⟨rfl,s5.drop.drop⟩
 | true=>
   have X:=sK hg
   have hsz:=hsz hg
   have l1:=(s4.p 1).lt
   have gc1:∀ t,(cut (h4.push (.cells [] 3)) h4.next t).get b1=some (.cells [p.gv,p.fv,.int .i64 p.main,.int .i64 p.params] 25):=fun t=>by rw [kC l1,zQ l1];exact g1
   simp -implicitDefEqProofs only [EE,zq,wL,ey,yZ,aC,gc1]
   refine KP (h:=h4) ((RP.at s4).globals.old (Old.push _ _)) P.pf s4.base.p6 (N0 _) ?_
   intro gv' h6 W e6 r6
   have s6:=AQ W e6 r6 s4
   have g6:h6.get b1=some (.cells [p.gv,p.fv,.int .i64 p.main,.int .i64 p.params] 25):=(s6.p 2).get
   have gcc:(cut (cut h6 h4.next (h4.next + 1)) (h4.next + 1) h6.next).get b1=some (.cells [p.gv,p.fv,.int .i64 p.main,.int .i64 p.params] 25):=by
    rw [kC (by show b1 < h4.next + 1;omega),kC l1];exact g6
   obtain ⟨va,vl,vc,rfl⟩:=W.shape
   have fll:=X.fl
   have lf:=fun h'=>um (RP.at s6).funcs 3 h'
   simp -implicitDefEqProofs only [EE,Value.cells,zq,zi,oJ,oM,ug,kL,aB,gcc]
   refine ZY s6 fun b4 h8 s8 => ?_
   simp -implicitDefEqProofs only [EE,Nat.reduceAdd,ir]
   refine ZJ s8 (by simp) (by rfl) fun h9 s9 => ?_
   have g1:=(s9.p 3).get
   have n0:(0:Int)<=(p.funcs.length:Int):=by omega
   have n1:(p.funcs.length:Int)<=(p.funcs.length:Int):=Int.le_refl _
   have n2:(p.funcs.length:Int) < 2147483648:=by omega
   have mk:=LZ .i64 .i64 (p.funcs.length:Int) (p.funcs.length:Int) h9 n0 n1 n2
   rw [OB,Pd,Co] at mk
   have s10:=s9.push (.cells (UD [] p.funcs.length) 65)
   have g1':=(s10.p 4).get
   simp -implicitDefEqProofs only [EE,nth,↓z7,zq,wN,yo,g1,fvn,lf,mk,g1']
   refine E8 (p:=p) (lo := .of h) RP (fun f fm x hx=>(X.ins f fm x hx).lay) hsz (fun f fm=>by have:=X.cf f fm;omega) X.fl ((uy 3 1 s10).f [1,0,2]) rfl fun h11 lo1 ls sv hle hls hLR s11 => ?_
   obtain ⟨lo2,l2,hL,s12⟩:=Hi s11
   obtain ⟨lo3,l3,hS,s13,back⟩:=XW s12 (W3 _)
   have RP3:Rd lo3 (vV · p):=RP.mono ((hle.trans l2).trans l3)
   have g1:=(s13.p 3).get
   simp -implicitDefEqProofs only [EE,zq,wL,yZ,aA,g1]
   refine vp (by kernel_rfl) (by simp only [yB,gvn,N1]) (rm (EO (RP3.at s13).globals X.gr (Oc X.gl (by decide)))) ?_
   rintro av h14 ⟨s14,w14⟩
   have s15:=s13.join s14
   have avn:=wh s14
   obtain ⟨lo4,l4,hA,s16,_⟩:=XW s15 (W3 _)
   have g1:=(s16.p 3).get
   have lf:=fun h'=>um ((RP3.mono l4).at s16).funcs 3 h'
   simp -implicitDefEqProofs only [EE,↓z7,zq,wN,yo,az,g1,fvn,lf]
   have hK:Rd lo4 (mP p h9.next ls sv av):=fun h b=>⟨RP3.mono l4 h b,(hLR.mono (l2.trans (l3.trans l4))) h b,(hL.mono (l3.trans l4)) h b,(hS.mono l4) h b,hA h b⟩
   refine FN (p:=p) hK X hls hsz w14 s16 rfl fun h17 cv s17 => ?_
   have s18:=Sat.mono l4 s17
   have s19:=back _ _ s18
   have s20:=Sat.mono (hle.trans l2) s19
   have g4:=(s20.p 1).get
   have svn:=wh s20
   have svc:=ux s20
   have cvn:=xj (s20.p 2)
   have cvc:=lY (s20.p 2)
   simp -implicitDefEqProofs only [EE,N5,Nat.reduceAdd,jF,DD,ir,ay,g4]
   refine ZJ (s20.p 4) (by simp) (by simp [svc,cvc];exact ⟨rfl,rfl,rfl⟩) fun h21 s21 => ?_
   have g2:=s21.get
   simp -implicitDefEqProofs only [EE,zt,N5,Nat.reduceAdd,jF,DD,g2]
   unfold CQ
   rw [NK hg]
   refine ⟨cv,sv,.slice va vl vc,rfl,?_⟩
   exact s21.k [3,1,4]
end
open Go.Rm (jP)
def fA (xs:List z8) (n:Nat):List Int:=(gy xs n).map fun (k:Nat)=>(k:Int)
theorem EH (xs:List z8) (n:Nat):(fA xs n).length=xs.length:=by unfold fA;rw [NX,pL]
theorem Cv (xs:List z8) (x:z8) (n:Nat):fA (xs ++ [x]) n=fA xs n ++ [((n + yO xs:Nat):Int)]:=by
 unfold fA
 rw [iU,Ou];rfl
theorem AE {xs:List z8} {n k:Nat} (h:k < xs.length):(fA xs n)[k]? = some ((n + yO (xs.take k):Nat):Int):=by
 unfold fA
 rw [NU,AG xs n k h];rfl
def QY (v:Value):List Value:=[v]
def CV (p:Pg) (vs:List Value) (h:za):Prop := ∀ (k:Nat) (v:Value) (f:Go.As.Fn),vs[k]? = some v->p.funcs[k]? = some f->zP h v 1 ((fA f.code (z9 (p.funcs.take k))).map yC)
section
variable {lo:y5} {h:za} {L:List HP} {p:Pg} {b1 c n o i st:Nat} {sv av lv:Value} {f:Go.As.Fn} {x:z8} {J:List Value->za->Prop} {v0 v1 v2:Value}
theorem Ik (RP:Rd lo (vV · p)) (hfi:p.funcs[i]? = some f) (hY:∀ x,x ∈ f.code->lp x) (hsz:yO f.code<=1000000) (hst:st<=1000000) (hfl:f.code.length<=1000000) (s:Sat lo h (Zq 3 1 (.slice none 0 0) ([].map yC) :: pt b1 (.cells p.row 25) :: L))
  (k:∀ h' lv,Sat lo h' (Zq 3 1 lv ((fA f.code st).map yC) :: pt b1 (.cells p.row 25) :: L)->J [.int .i64 ((st + yO f.code:Nat):Int),lv] h') :
  LP (VC (.pointer (some ⟨b1,0,none⟩)) [v0,v1,v2,.int .i64 i] J) [.int .i64 st,.slice none 0 0,.int .i64 0] h:=by
 refine uY (fun m vs h' => ∃ (j:Nat) (lv:Value),j<=f.code.length/\m=f.code.length - j/\vs = [.int .i64 ((st + yO (f.code.take j):Nat):Int),lv,.int .i64 (j:Nat)]/\Sat lo h' (Zq 3 1 lv ((fA (f.code.take j) st).map yC) :: pt b1 (.cells p.row 25) :: L)) f.code.length ⟨0,.slice none 0 0,Oe _,rfl,rfl,s⟩ ?_
 rintro m vs h1 ⟨j,lv,hj,rfl,rfl,s1⟩
 have P:=RP.at s1
 have fm:=NQ hfi
 obtain ⟨bf,ofs,cf,tf,hif,hbf,hgf,hlf,htf,hkf⟩:=jg P.funcs (i:=i) (r:=f.row) (by rw [NU,hfi];rfl) rfl
 have k1:cf[ofs + 1]? = some f.cv:=hkf 1 (by decide)
 have g1:=(s1.p 1).get
 have fvn:=P.funcs.Zp
 have cvn:=(P.fns f fm).code.Zp
 have lf:=fun h'=>vQ (P.fns f fm).code 3 h'
 have lvn:=wh s1
 unfold VC
 by_cases hc:(j:Int) < (f.code.length:Int)
 ·obtain ⟨x,hi⟩:∃ x,f.code[j]? = some x:=⟨_,NC (by omega)⟩
  have et:f.code.take (j + 1)=f.code.take j ++ [x]:=by rw [OA,hi];rfl
  have hss:=fK (f.code.take j) x
  rw [<- et] at hss
  have hmono:=Xj f.code (j + 1)
  have hin:=inc (show j < 4611686018427387904 by omega)
  obtain ⟨b5,c5,h5,e5,s5⟩:=lT s1 ((st + yO (f.code.take j):Nat):Int) (by rw [EH,Ok];omega)
  rw [<- Cv,<- et] at s5
  have P5:=RP.at s5
  obtain ⟨bf5,ofs5,cf5,tf5,hif5,hbf5,hgf5,hlf5,htf5,hkf5⟩:=jg P5.funcs (i:=i) (r:=f.row) (by rw [NU,hfi];rfl) rfl
  have k15:cf5[ofs5 + 1]? = some f.cv:=hkf5 1 (by decide)
  obtain ⟨bi,oi,ci,ti,ha,hbi,hgi,hle,htk,_⟩:=uL (P5.fns f fm).code (i:=j) (r:=x.row) (by rw [NU,hi];rfl) rfl
  have g5:=(s5.p 1).get
  simp -implicitDefEqProofs only [EE,nth,↓z7,zq,wN,uP,Un,yo,wj,aF,g1,hif,hgf,k1,cvn,lf,hc]
  simp -implicitDefEqProofs only [EE,nth,N5,jF,zq,qf,uP,wj,lvn,e5,g5,hif5,hgf5,k15,ha,hgi,hle,htk]
  refine vp (by kernel_rfl) rfl (l5 (hY x (NQ hi)) 0) ?_
  rintro v h6 s6
  have s7:=s5.join s6
  have vn:=xj s6
  have ln:=fun h'=>Wc (xx s6 NT) 3 h'
  have sz:(zw x 0).length=vW x:=rfl
  rw [sz] at ln
  have hadd:IntKind.wrap .i64 (((st + yO (f.code.take j):Nat):Int) + (vW x:Int))=((st + yO (f.code.take (j + 1)):Nat):Int):=by
   rw [hss,Go.Mem.gC (by omega) (by omega)];push_cast;omega
  simp -implicitDefEqProofs only [EE,nth,aE,aG,vn,ln,hadd,hin]
  refine ⟨f.code.length - (j + 1),by omega,j + 1,.slice (some ⟨b5,0,none⟩) ((fA (f.code.take j) st).length + 1) c5,by omega,rfl,rfl,s7.drop⟩
 ·have e:j=f.code.length:=by omega
  subst e
  rw [OE] at s1 ⊢
  simp -implicitDefEqProofs only [EE,nth,zq,wN,uP,yo,wj,g1,hif,hgf,k1,cvn,lf,hc]
  exact k h1 lv s1
theorem AV (vs:List Value):∀ r,r ∈ vs.map QY->r.length=1:=uD (f:=QY) (fun _=>rfl) vs
theorem Il (RP:Rd lo (vV · p)) (X:CW p) (hsz:z9 p.funcs<=1000000) (s:Sat lo h (pt b1 (.cells p.row 25) :: L))
  (k:∀ h' lo1 vs av sv,lo.Le lo1->vs.length=p.funcs.length->Rd lo1 (CV p vs)->Sat lo1 h' (Zq 3 1 sv ((uT p.funcs).map yC) :: Zq 22 1 av (vs.map QY) :: pt b1 (.cells p.row 25) :: L)->J [sv,av] h') :
  LP (VD (.pointer (some ⟨b1,0,none⟩)) J) [.slice none 0 0,.slice none 0 0,.int .i64 0,.int .i64 0] h:=by
 refine uY (fun m vs h' => ∃ (i:Nat) (lo1:y5) (ls:List Value) (av sv:Value),i<=p.funcs.length/\m=p.funcs.length - i/\vs = [sv,av,.int .i64 ((z9 (p.funcs.take i):Nat):Int),.int .i64 (i:Nat)]/\ls.length=i/\lo.Le lo1/\Rd lo1 (CV p ls)/\Sat lo1 h' (Zq 3 1 sv ((uT (p.funcs.take i)).map yC) :: Zq 22 1 av (ls.map QY) :: pt b1 (.cells p.row 25) :: L)) p.funcs.length
  ⟨0,lo,[],.slice none 0 0,.slice none 0 0,Oe _,rfl,rfl,rfl,y5.Le.refl _,fun h b k q f h1=>(by cases h1),uy _ _ (uy _ _ s)⟩ ?_
 rintro m vs h1 ⟨i,lo1,ls,av,sv,hi,rfl,rfl,hls,hle1,hR,s1⟩
 have RP1:=RP.mono hle1
 have P:=RP1.at s1
 have fvn:=P.funcs.Zp
 have lf:=fun h'=>um P.funcs 3 h'
 have g1:=(s1.p 2).get
 have fl:=X.fl
 have svn:=wh s1
 have avn:=wh (s1.p 1)
 unfold VD
 by_cases hc:(i:Int) < (p.funcs.length:Int)
 ·obtain ⟨f,hf⟩:∃ f,p.funcs[i]? = some f:=⟨_,NC (by omega)⟩
  have fm:=NQ hf
  have hcf:=X.cf f fm
  have hin:=inc (show i < 4611686018427387904 by omega)
  have et:p.funcs.take (i + 1)=p.funcs.take i ++ [f]:=by rw [OA,hf];rfl
  have hss:=QW f (p.funcs.take i)
  rw [<- et] at hss
  have hmono:=jk p.funcs (i + 1)
  obtain ⟨b5,c5,h5,e5,s5⟩:=lT s1 ((z9 (p.funcs.take i):Nat):Int) (by rw [Vi,Ok];omega)
  rw [<- bh,<- et] at s5
  simp -implicitDefEqProofs only [EE,nth,↓z7,zq,wN,Un,yo,aI,g1,fvn,lf,hc,svn,e5]
  refine Ik RP1 hf (fun x hx=>(X.ins f fm x hx).lay) (by have:=Wh fm;omega) (by omega) (by omega) (uy 3 1 (s5.f [2])) fun h6 lv s6 => ?_
  obtain ⟨lo2,l2,hL,s7,_⟩:=XW s6 (W3 _)
  have lvn:=wh s6
  have lvc:=ux s6
  obtain ⟨la,ll,lc,rfl⟩:∃ a n c,lv = .slice a n c:=by obtain ⟨a,c,e⟩:=Go.Rm.J8 s6;exact ⟨a,_,c,e⟩
  have s8:=s7.push (.cells [.slice la ll lc] 22)
  obtain ⟨b',c',h8,a1,s9⟩:=jP (s8.p 3) (AV ls) [.slice la ll lc] rfl (by decide) 24 (by rw [NX];omega)
  rw [NX] at a1 s9
  have hap:∀ r,zg Tryz.prog .append [72,72] r [av,.slice (some ⟨h6.next,0,none⟩) 1 3] (h6.push (.cells [.slice la ll lc] 22))=some (.slice (some ⟨b',0,none⟩) (ls.length + 1) c',h8):=fun r=>by
   rw [IS r _ _ 1 [.slice la ll lc] _ rfl (by simp only [wZ,y6];rfl) (by simp only [Pe,List.all_nil,PL];exact lvc) rfl]
   exact a1
  simp -implicitDefEqProofs only [EE,nth,B6,aH,aJ,avn,hap,hin]
  refine ⟨p.funcs.length - (i + 1),by omega,i + 1,lo2,ls ++ [.slice la ll lc],.slice (some ⟨b',0,none⟩) (ls.length + 1) c',.slice (some ⟨b5,0,none⟩) ((uT (p.funcs.take i)).length + 1) c5,by omega,rfl,by rw [hss],by simp [hls],hle1.trans l2,fun h b k q f' hk hf' => ?_,?_⟩
  ·by_cases hki:k < ls.length
   ·rw [Oi hki] at hk
    exact hR.mono l2 h b k q f' hk hf'
   ·have hk2:k=ls.length:=by
     have:=(Ow.1 hk).1
     simp at this;omega
    subst hk2
    simp at hk
    subst hk
    rw [hls,hf] at hf'
    cases hf'
    rw [hls]
    exact hL h b
  ·rw [Ou]
   exact (s9.f [1]).drop.f [2,0,1]
 ·have e:i=p.funcs.length:=by omega
  subst e
  rw [OE] at s1
  simp -implicitDefEqProofs only [EE,nth,zq,wN,yo,g1,fvn,lf,hc]
  exact k h1 lo1 ls av sv hle1 hls hR s1
end
open Go.Ar (YI)
section
variable {lo:y5} {h:za} {L:List HP} {p:Pg} {b1 b13 b15 c n o i j:Nat} {sv av gv cv:Value} {ls:List Value} {f:Go.As.Fn} {x:z8} {J:List Value->za->Prop} {v0 v1 v2:Value}
structure lj (p:Pg) (ls:List Value) (sv av gv:Value) (h:za):Prop where
 pg:vV h p
 L8:CV p ls h
 lists:zP h av 1 (ls.map QY)
 sW:zP h sv 1 ((uT p.funcs).map yC)
 J1:zP h gv 1 ((wB p.globals 16777216).map yC)
theorem DN {h:za} {sv:Value} {vs:List Value} (S:zP h sv 1 (vs.map QY)) {i:Nat} {v:Value} (hz:vs[i]? = some v):∃ b o c t,zI Tryz.prog 72 sv (.int .i64 i)=some (.pointer (some ⟨b,o,none⟩))/\b < h.next/\h.get b=some (.cells c t)/\c[o]? = some v:=by
 obtain ⟨b,o,c,t,⟨off,cp,e1,e2⟩,hi,hb,hg,_,_,hk⟩:=S.spot (i:=i) (r:=QY v) (by rw [NU,hz];rfl) rfl
 refine ⟨b,o,c,t,?_,hb,hg,by have:=hk 0 (by decide);exact this⟩
 rw [e1,LJ,NK (by omega),e2,OB]
theorem D9 {code:List z8} {l:Int} (h:¬ xi code l 0 < 0):(xi code l 0).toNat < code.length/\((xi code l 0).toNat:Int)=xi code l 0:=by
 rcases Go.Ar.Wa code l 0 with ⟨a,b⟩ | ⟨j,a,⟨y,hy,hyl⟩,b⟩
 ·omega
 ·have:=(Ow.1 hy).1
  rw [a];omega
theorem Lr (K:lj p ls sv av gv h) (X:CW p) (hfi:p.funcs[i]? = some f) (hls:ls.length=p.funcs.length) (hx:x ∈ f.code) (hsz:z9 p.funcs<=1000000) (hn:n<=1000000) (g13:h.get b13=some (.cells f.row 50)) (g15:h.get b15=some (.cells x.row 42))
  (k:J [.int .i64 (ma (wB p.globals 16777216) (xV p.funcs 0) f.code (z9 (p.funcs.take i)) (z9 (p.funcs.take i) + n) x)] h) :
  Wy (.int .i64 x.op) h [sv,av] [cv,.int .i64 i] (.pointer (some ⟨b13,0,none⟩)) (.pointer (some ⟨b15,0,none⟩)) (.int .i64 ((z9 (p.funcs.take i) + n + vW x:Nat):Int)) gv J:=by
 have fm:=NQ hfi
 have hi:=(Ow.1 hfi).1
 have IX:=X.ins f fm x hx
 have F:=K.pg.fns f fm
 have cvn:=F.code.Zp
 have tk:=jk p.funcs i
 have szl:=size_le x
 unfold ma K8 at k
 unfold Wy
 by_cases hj:x.op=18\/x.op=19
 ·have nl:=IX.Mu hj
  obtain ⟨f1,f2⟩:=D9 nl
  have oa:=AE (xs:=f.code) (n:=z9 (p.funcs.take i)) f1
  obtain ⟨q,hq⟩:∃ q,ls[i]? = some q:=⟨_,NC (by omega)⟩
  obtain ⟨b,o,c,t,a1,a2,a3,a4⟩:=DN K.lists hq
  have S:=K.L8 i q f hq hfi
  obtain ⟨b',o',c',t',d1,d2,d3,d4⟩:=JE S oa
  rw [f2] at d1
  have szf:=Wh fm
  have szt:=Xj f.code (xi f.code x.l 0).toNat
  have w:=Go.Mem.gC (n:=((z9 (p.funcs.take i) + yO (f.code.take (xi f.code x.l 0).toNat):Nat):Int) - ((z9 (p.funcs.take i) + n + vW x:Nat):Int)) (by omega) (by omega)
  rw [NK (by omega),NK hj] at k
  rcases hj with h18 | h19
  ·have hd:decide (x.op=18)=true:=Ol h18
   simp -implicitDefEqProofs only [EE,nth,N5,Nat.reduceAdd,jF,zq,wL,zi,Yr,x9,Wx,hd,a1,a3,a4,g13,g15]
   refine xW (by kernel_rfl) (by simp only [yB];rfl) (YI F x.l) ?_
   simp -implicitDefEqProofs only [EE,nth,zq,zi,VE,d1,d3,d4,w]
   exact k
  ·have hd:decide (x.op=19)=true:=Ol h19
   have hd18:decide (x.op=18)=false:=OC (by omega)
   simp -implicitDefEqProofs only [EE,nth,N5,Nat.reduceAdd,jF,zq,wL,zi,Yr,x9,Wx,hd18,hd,a1,a3,a4,g13,g15]
   refine xW (by kernel_rfl) (by simp only [yB];rfl) (YI F x.l) ?_
   simp -implicitDefEqProofs only [EE,nth,zq,zi,VE,d1,d3,d4,w]
   exact k
 have hd18:decide (x.op=18)=false:=OC (by omega)
 have hd19:decide (x.op=19)=false:=OC (by omega)
 by_cases h21:x.op=21
 ·have hd:decide (x.op=21)=true:=Ol h21
  have cl:=IX.call h21
  have sa:=fN cl.1 cl.2
  obtain ⟨b,o,c3,t,a1,a2,a3,a4⟩:=JE K.sW sa.1
  rw [O6 cl.1] at a1
  rw [NK (by omega),NJ hj,NK h21] at k
  have w:=Go.Mem.gC (n:=(((xV p.funcs 0)[x.sub.toNat]?.getD 0:Nat):Int) - ((z9 (p.funcs.take i) + n + vW x:Nat):Int)) (by omega) (by omega)
  simp -implicitDefEqProofs only [EE,nth,zq,zi,zk,Kp,YD,hd18,hd19,hd,g15,a1,a3,a4,w]
  exact k
 have hd21:decide (x.op=21)=false:=OC h21
 by_cases h6:x.op=6
 ·have hd:decide (x.op=6)=true:=Ol h6
  have lg:=IX.Ib h6
  have sa:=mj X lg.1 lg.2.1
  obtain ⟨b,o,c3,t,a1,a2,a3,a4⟩:=GQ K.J1 sa.1
  rw [O6 lg.1] at a1
  rw [NK (by omega),NJ hj,NJ h21,NK h6] at k
  have w:=Go.Mem.gC (n:=(wB p.globals 16777216)[x.sub.toNat]?.getD 0 + x.k) (by omega) (by omega)
  have w2:=Go.Mem.gC (n:=(wB p.globals 16777216)[x.sub.toNat]?.getD 0 + x.k - ((z9 (p.funcs.take i) + n + vW x:Nat):Int)) (by omega) (by omega)
  simp -implicitDefEqProofs only [EE,nth,zq,xA,zi,zk,zu,Ko,Ww,YD,hd18,hd19,hd21,hd,g15,a1,a3,a4,w,w2]
  exact k
 have hd6:decide (x.op=6)=false:=OC h6
 rw [NJ (by omega)] at k
 simp -implicitDefEqProofs only [EE,nth,Ww,YD,hd18,hd19,hd21,hd6]
 exact k
theorem HQ (hK:Rd lo (lj p ls sv av gv)) (X:CW p) (hfi:p.funcs[i]? = some f) (hls:ls.length=p.funcs.length) (hsz:z9 p.funcs<=1000000) {bs:List Int} (hbs:bs.length=z9 (p.funcs.take i)) (wf:w9 h)
  (s:Sat lo h (pt b13 (.cells f.row 50) :: wR cv bs :: L)) {w0:Value}
  (k:∀ h' cv',w9 h'->Sat lo h' (pt b13 (.cells f.row 50) :: wR cv' (bs ++ jB (wB p.globals 16777216) (xV p.funcs 0) f.code (z9 (p.funcs.take i)) f.code (z9 (p.funcs.take i))) :: L)->J [cv'] h') :
  LP (Wz (.pointer (some ⟨b13,0,none⟩)) J [sv,av] [w0,.int .i64 i] gv) [cv,.int .i64 0] h:=by
 refine uY (fun m vs h' => ∃ (j:Nat) (cv':Value),j<=f.code.length/\m=f.code.length - j/\vs = [cv',.int .i64 (j:Nat)]/\w9 h'/\Sat lo h' (pt b13 (.cells f.row 50) :: wR cv' (bs ++ jB (wB p.globals 16777216) (xV p.funcs 0) f.code (z9 (p.funcs.take i)) (f.code.take j) (z9 (p.funcs.take i))) :: L)) f.code.length
  ⟨0,cv,Oe _,rfl,rfl,wf,by
   have e:bs ++ jB (wB p.globals 16777216) (xV p.funcs 0) f.code (z9 (p.funcs.take i)) (f.code.take 0) (z9 (p.funcs.take i))=bs:=Pj bs
   rw [e];exact s⟩ ?_
 rintro m vs h1 ⟨j,cv',hj,rfl,rfl,w1,s1⟩
 have K:=hK.at s1
 have fm:=NQ hfi
 have F:=K.pg.fns f fm
 have hcf:=X.cf f fm
 have g13:=s1.get
 have fcn:=F.code.Zp
 have lf:=fun h'=>vQ F.code 3 h'
 have cvn:=xj (s1.p 1)
 unfold Wz
 by_cases hc:(j:Int) < (f.code.length:Int)
 ·obtain ⟨x,hi⟩:∃ x,f.code[j]? = some x:=⟨_,NC (by omega)⟩
  have hx:=NQ hi
  obtain ⟨bi,oi,ci,ti,ha,hbi,hgi,hle,htk,_⟩:=uL F.code (i:=j) (r:=x.row) (by rw [NU,hi];rfl) rfl
  have et:f.code.take (j + 1)=f.code.take j ++ [x]:=by rw [OA,hi];rfl
  have hin:=inc (show j < 4611686018427387904 by omega)
  have szf:=Wh fm
  have szt:=Xj f.code j
  have tk:=jk p.funcs i
  have szl:=size_le x
  simp -implicitDefEqProofs only [EE,nth,Value.cells,↓z7,N5,jF,zq,qf,uP,aT,wj,Kt,g13,fcn,lf,hc,ha,hgi,hle,htk]
  refine fw s1 w1 fun b15 h2 w2 s2 => ?_
  simp -implicitDefEqProofs only [EE,Nat.reduceAdd,aS]
  refine rf s2 w2 (by simp) rfl fun h3 w3 s3 => ?_
  have g15:=s3.get
  have K3:=hK.at s3
  obtain ⟨q,hq⟩:∃ q,ls[i]? = some q:=⟨_,NC (by have:=(Ow.1 hfi).1;omega)⟩
  obtain ⟨b,o,c,t,a1,a2,a3,a4⟩:=DN K3.lists hq
  have S:=K3.L8 i q f hq hfi
  have qn:=S.Zp
  obtain ⟨b',o',c',t',d1,d2,d3,d4⟩:=JE S (AE (xs:=f.code) (n:=z9 (p.funcs.take i)) (k:=j) (by omega))
  simp -implicitDefEqProofs only [EE,nth,zt,N5,Nat.reduceAdd,jF,zq,wL,zi,qf,a1,a3,a4,d1,d3,d4,g15]
  refine l6 (by kernel_rfl) rfl w3 s3 (l5 (X.ins f fm x hx).lay 0) ?_
  rintro v h4 s4 gr w4
  have s5:=gr _ s4
  generalize wU h3 h4=h5 at s5 w4 ⊢
  have vn:=xj s4
  have g15:=(s5.p 1).get
  have g13:=(s5.p 2).get
  have ln:=fun h'=>Wc (xx s5 NT) 3 h'
  have sz:(zw x 0).length=vW x:=rfl
  rw [sz] at ln
  have hadd:IntKind.wrap .i64 (((z9 (p.funcs.take i) + yO (f.code.take j):Nat):Int) + (vW x:Int))=((z9 (p.funcs.take i) + yO (f.code.take j) + vW x:Nat):Int):=by
   rw [Go.Mem.gC (by omega) (by omega)];push_cast;rfl
  simp -implicitDefEqProofs only [EE,↓z7,zt,Nat.reduceAdd,zq,zi,ze,Kr,vn,ln,hadd,g15]
  refine Lr (f:=f) (hK.at s5) X hfi hls hx hsz (by omega) g13 g15 ?_
  simp -implicitDefEqProofs only [EE,nth,zt,N5,Nat.reduceAdd,jF,qf,Kq,g15]
  refine vp (by kernel_rfl) rfl (rm (l5 (X.ins f fm x hx).lay _)) ?_
  rintro v2 h6 ⟨s6,w6⟩
  have s7:=s5.join s6
  obtain ⟨a,m,c2,h8,e8,s8,w8,_⟩:=KQ (s7.p 4) (xx (s7.p 4) (OD _ NT)) (by rw [Oy,hbs,Up,AP];omega)
  have v2n:=xj s6
  simp -implicitDefEqProofs only [EE,nth,Ku,v2n,cvn,e8,hin]
  refine ⟨f.code.length - (j + 1),by omega,j + 1,.slice a m c2,by omega,rfl,rfl,w8 w6,?_⟩
  rw [et,QH,<- O5]
  exact (s8.f [1,2,3]).drop.drop.drop.f [1,0]
 ·have e:j=f.code.length:=by omega
  subst e
  rw [OE] at s1
  simp -implicitDefEqProofs only [EE,nth,zq,uP,wj,g13,fcn,lf,hc]
  exact k h1 cv' w1 s1
theorem FL (hK:Rd lo (lj p ls sv av gv)) (X:CW p) (hls:ls.length=p.funcs.length) (hsz:z9 p.funcs<=1000000) (wf:w9 h)
  (s:Sat lo h (pt b1 (.cells p.row 25) :: wR cv [] :: L))
  (k:∀ h' cv',Sat lo h' (pt b1 (.cells p.row 25) :: wR cv' (WV p) :: L)->J [cv'] h') :
  LP (WA (.pointer (some ⟨b1,0,none⟩)) J [sv,av] gv) [cv,.int .i64 0] h:=by
 refine uY (fun m vs h' => ∃ (i:Nat) (cv':Value),i<=p.funcs.length/\m=p.funcs.length - i/\vs = [cv',.int .i64 (i:Nat)]/\w9 h'/\Sat lo h' (pt b1 (.cells p.row 25) :: wR cv' (ZH (wB p.globals 16777216) (xV p.funcs 0) (p.funcs.take i) 0) :: L)) p.funcs.length
  ⟨0,cv,Oe _,rfl,rfl,wf,s⟩ ?_
 rintro m vs h1 ⟨i,cv',hi,rfl,rfl,w1,s1⟩
 have K:=hK.at s1
 have fl:=X.fl
 have g1:=s1.get
 have fvn:=K.pg.funcs.Zp
 have lf:=fun h'=>um K.pg.funcs 3 h'
 have cvn:=xj (s1.p 1)
 unfold WA
 by_cases hc:(i:Int) < (p.funcs.length:Int)
 ·obtain ⟨f,hf⟩:∃ f,p.funcs[i]? = some f:=⟨_,NC (by omega)⟩
  have fm:=NQ hf
  obtain ⟨bf,ofs,cf,tf,hif,hbf,hgf,hlf,htf,hkf⟩:=jg K.pg.funcs (i:=i) (r:=f.row) (by rw [NU,hf];rfl) rfl
  have fcn:=(K.pg.fns f fm).code.Zp
  have fcc:=(K.pg.fns f fm).code.KW
  have hin:=inc (show i < 4611686018427387904 by omega)
  have et:p.funcs.take (i + 1)=p.funcs.take i ++ [f]:=by rw [OA,hf];rfl
  simp -implicitDefEqProofs only [EE,nth,Value.cells,↓z7,N5,jF,zq,wN,Yr,eu,yo,Kv,g1,fvn,lf,hc,hif,hgf,hlf,htf]
  refine fw s1 w1 fun b13 h2 w2 s2 => ?_
  simp -implicitDefEqProofs only [EE,Nat.reduceAdd,dZ]
  refine rf s2 w2 (by simp) (by simp [fcc];rfl) fun h3 w3 s3 => ?_
  refine HQ (bs:=ZH (wB p.globals 16777216) (xV p.funcs 0) (p.funcs.take i) 0) hK X hf hls hsz (JH _ _ _ _) w3 (s3.f [0,2]) fun h4 cv2 w4 s4 => ?_
  simp -implicitDefEqProofs only [EE,nth,Kw,hin]
  refine ⟨p.funcs.length - (i + 1),by omega,i + 1,cv2,by omega,rfl,rfl,w4,?_⟩
  rw [et,QI,OT]
  exact s4.drop.f [1,0]
 ·have e:i=p.funcs.length:=by omega
  subst e
  rw [OE] at s1
  simp -implicitDefEqProofs only [EE,nth,zq,wN,yo,g1,fvn,lf,hc]
  exact k h1 cv' s1
theorem iD (P:vV h p) (hg:kf p=true) (hsz:z9 p.funcs<=1000000):DC Tryz.prog 12 [p.val] h (fun v h' => ∃ cv sv,v = .tuple #[cv,sv]/\Sat (.of h) h' [wR cv (WV p),Zq 3 1 sv ((uT p.funcs).map yC)]):=by
 apply jY;intro wf
 apply lx
 unfold hO
 have X:=sK hg
 have s0:Sat (.of h) h []:=Sat.self wf.2
 have RP:Rd (.of h) (vV · p):=Rd.of (y5.Zz h) P fun h' o=>P.old o
 have gvn:=P.globals.Zp
 have gvc:=P.globals.KW
 have fvn:=P.funcs.Zp
 have fvc:=P.funcs.KW
 simp -implicitDefEqProofs only [EE,Value.cells,↓z7]
 refine ZY s0 fun b1 h2 s2 => ?_
 simp -implicitDefEqProofs only []
 refine Il RP X hsz s2 fun h3 lo1 ls av sv hle hls hOff s3 => ?_
 have svn:=wh s3
 have avn:=wh (s3.p 1)
 obtain ⟨lo2,l2,hS,s4,back⟩:=XW s3 (W3 _)
 obtain ⟨lo3,l3,hA,s5,_⟩:=XW s4 (AV _)
 have RP3:Rd lo3 (vV · p):=RP.mono ((hle.trans l2).trans l3)
 have g1:=s5.get
 simp -implicitDefEqProofs only [EE,zq,wL,yZ,g1]
 refine vp (by kernel_rfl) (by simp only [yB,gvn,N1]) (rm (B8 (RP3.at s5).globals X.gr (Oc X.gl (by decide)))) ?_
 rintro gv h6 ⟨s6,w6⟩
 have s7:=s5.join s6
 obtain ⟨lo4,l4,hG,s8,_⟩:=XW s7 (W3 _)
 have gn:=wh s6
 have hK:Rd lo4 (lj p ls sv av gv):=fun h b=>⟨RP3.mono l4 h b,(hOff.mono (l2.trans (l3.trans l4))) h b,(hA.mono l4) h b,(hS.mono (l3.trans l4)) h b,hG h b⟩
 simp -implicitDefEqProofs only [Kx]
 refine FL hK X hls hsz (qL w6 _) ((yp s8 [] 2 (by decide)).f [1,0]) fun h9 cv s9 => ?_
 have cvn:=xj (s9.p 1)
 simp -implicitDefEqProofs only [EE,nth,cvn,svn]
 refine ⟨cv,sv,rfl,?_⟩
 have s10:=Sat.mono (l3.trans l4) s9
 have s11:=Sat.mono hle (back _ _ s10)
 exact s11.k [2,0]
end
end Go.Eb
namespace Go.Ec
open Go.Ai Go.Proofs
open Go.Rtl (zL zP Old inc wq xz)
open Go.Rm (yC uD Rd Rd.of Rd.at Zq ur)
open Go.As (z8 Pg ZF vV jg uL XL jC um vQ)
open Go.Eb (jQ Zk JE jy)
structure Small (p:Pg):Prop where
 fl:p.funcs.length<=6
 gl:p.globals.length<=6
 cf:∀ f,f ∈ p.funcs->f.code.length<=60
theorem fL {p:Pg} (S:Small p):Go.En.z9 p.funcs<=1000000:=by
 have:∀ fs:List Go.As.Fn,(∀ f,f ∈ fs->f.code.length<=60)->Go.En.z9 fs<=600 * fs.length:=fun fs=>by
  induction fs with
  | nil=>intro _;exact NG _
  | cons f fs ih=>
    intro h
    have a:=ih fun g hg=>h g (OD _ hg)
    have b:=h f NT
    have c:=Go.En.re f.code
    show Go.En.yO f.code + Go.En.z9 fs<=600 * (fs.length + 1)
    omega
 have a:=this p.funcs S.cf
 have:=S.fl
 omega
section
variable {h:za} {p:Pg}
theorem Ls (P:vV h p):DC Tryz.prog 8 [p.val] h (fun v h' => ∃ B,v = .bool B/\(B=true->Small p)/\Sat (.of h) h' []):=by
 apply jY;intro wf
 have s0:Sat (.of h) h []:=Sat.self wf.2
 have RP:Rd (.of h) (vV · p):=Rd.of (y5.Zz h) P fun h' o=>P.old o
 apply Db
 unfold GI
 have gvn:=P.globals.Zp
 have gvc:=P.globals.KW
 have fvn:=P.funcs.Zp
 have fvc:=P.funcs.KW
 simp -implicitDefEqProofs only [EE,Value.cells]
 refine ZY s0 fun b5 h2 s2 => ?_
 have g5:=s2.get
 have no:∀ h' L,Sat (.of h) h' (pt b5 (.cells p.row 25) :: L)->∃ B,Value.bool false = .bool B/\(B=true->Small p)/\Sat (.of h) h' L:=fun h' L s=>⟨false,rfl,fun q=>(by cases q),s.drop⟩
 have fl:=um (RP.at s2).funcs 3
 have gl:=jC (RP.at s2).globals 3
 by_cases c1:(p.funcs.length:Int) > 6
 ·simp -implicitDefEqProofs only [EE,zq,wN,yo,Ky,Kz,g5,fvn,fl,c1]
  exact no _ [] s2
 by_cases c2:(p.globals.length:Int) > 6
 ·simp -implicitDefEqProofs only [EE,zq,wL,wN,yZ,yo,Ky,Kz,g5,gvn,fvn,fl,gl,c1,c2]
  exact no _ [] s2
 simp -implicitDefEqProofs only [EE,nth,↓z7,zq,wL,wN,yZ,yo,nB,Ky,Kz,g5,gvn,fvn,fl,gl,c1,c2]
 refine uY (fun m vs h' => ∃ (i:Nat) (v0:Value),i<=p.funcs.length/\m=p.funcs.length - i/\vs = [v0,.int .i64 (i:Nat)]/\(∀ f,f ∈ p.funcs.take i->f.code.length<=60)/\h'=h2) p.funcs.length ⟨0,_,Oe _,rfl,rfl,fun f hf=>by simp at hf,rfl⟩ ?_
 rintro m vs h' ⟨i,v0,hi,rfl,rfl,hsm,rfl⟩
 unfold nu
 by_cases hc:(i:Int) < (p.funcs.length:Int)
 ·obtain ⟨f,hf⟩:∃ f,p.funcs[i]? = some f:=⟨_,NC (by omega)⟩
  obtain ⟨bf,o,cf,tf,hix,hbf,hgf,hof,htf,hkf⟩:=jg (RP.at s2).funcs (i:=i) (r:=f.row) (by rw [NU,hf];rfl) rfl
  have F:=(RP.at s2).fns f (NQ hf)
  have cn:=F.code.Zp
  have cl:=vQ F.code 3
  have k1:=hkf 1 (by decide)
  have k1:cf[o + 1]? = some f.cv:=k1
  have hin:=inc (show i < 4611686018427387904 by omega)
  by_cases d1:(f.code.length:Int) > 60
  ·simp -implicitDefEqProofs only [EE,nth,↓z7,zq,wN,uP,yo,wj,dm,hc,g5,fvn,fl,hix,hgf,k1,cn,cl,d1]
   exact no _ [] s2
  simp -implicitDefEqProofs only [EE,nth,↓z7,zq,wN,uP,yo,wj,dm,nt,hc,g5,fvn,fl,hix,hgf,k1,cn,cl,d1]
  have hsm2:∀ g,g ∈ p.funcs.take (i + 1)->g.code.length<=60:=fun g hg=>by
   rw [OA,hf] at hg
   rcases Om.1 hg with q | q
   ·exact hsm g q
   ·simp at q;subst q;omega
  refine uY (fun m vs h9 => ∃ (j:Nat) (v0:Value),j<=f.code.length/\m=f.code.length - j/\vs = [v0,.int .i64 (j:Nat)]/\h9=h') f.code.length ⟨0,_,Oe _,rfl,rfl,rfl⟩ ?_
  rintro m vs h9 ⟨j,v1,hj,rfl,rfl,rfl⟩
  unfold tE
  by_cases hc2:(j:Int) < (f.code.length:Int)
  ·obtain ⟨x,hx⟩:∃ x,f.code[j]? = some x:=⟨_,NC (by omega)⟩
   obtain ⟨bi,oi,ci,ti,ha,hbi,hgi,hle,htk,hki⟩:=uL F.code (i:=j) (r:=x.row) (by rw [NU,hx];rfl) rfl
   have q0:=hki 0 (by decide)
   have q0:ci[oi]? = some (.int .i64 x.op):=q0
   have q6:=hki 6 (by decide)
   have q6:ci[oi + 6]? = some (.int .i64 x.k):=q6
   have hjn:=inc (show j < 4611686018427387904 by omega)
   by_cases e1:x.op=23
   ·by_cases e2:x.k > 1024
    ·simp -implicitDefEqProofs only [EE,nth,↓z7,zq,xA,wN,zi,uP,yo,ze,zu,wj,bE,bF,bG,bH,bI,bJ,bK,hc2,g5,hix,hgf,k1,cn,cl,ha,hgi,q0,q6,e1,e2]
     exact no _ [] s2
    ·simp -implicitDefEqProofs only [EE,nth,↓z7,zq,xA,wN,zi,uP,yo,ze,zu,wj,bE,bF,bG,bH,bI,bJ,bK,lz,hc2,g5,hix,hgf,k1,cn,cl,ha,hgi,q0,q6,e1,e2,hjn]
     exact ⟨f.code.length - (j + 1),by omega,j + 1,_,by omega,rfl,rfl⟩
   ·simp -implicitDefEqProofs only [EE,nth,↓z7,zq,wN,zi,uP,yo,ze,wj,bE,bF,bG,bH,bI,bJ,bK,lz,hc2,g5,hix,hgf,k1,cn,cl,ha,hgi,q0,e1,hjn]
    exact ⟨f.code.length - (j + 1),by omega,j + 1,_,by omega,rfl,rfl⟩
  ·simp -implicitDefEqProofs only [EE,nth,zq,wN,uP,yo,wj,hc2,g5,hix,hgf,k1,cn,cl,hin]
   exact ⟨p.funcs.length - (i + 1),by omega,i + 1,_,by omega,rfl,rfl,hsm2⟩
 have ei:i=p.funcs.length:=by omega
 subst ei
 rw [OE] at hsm
 simp -implicitDefEqProofs only [EE,nth,zq,wN,yo,hc,g5,fvn,fl]
 refine uY (fun m vs h9 => ∃ (i:Nat) (v0:Value),i<=p.globals.length/\m=p.globals.length - i/\vs = [v0,.int .i64 (i:Nat)]/\h9=h') p.globals.length ⟨0,_,Oe _,rfl,rfl,rfl⟩ ?_
 rintro m vs h9 ⟨i,v0,hi,rfl,rfl,rfl⟩
 unfold nz
 by_cases hc:(i:Int) < (p.globals.length:Int)
 ·obtain ⟨z,hz⟩:∃ z,p.globals[i]? = some z:=⟨_,NC (by omega)⟩
  obtain ⟨b11,o11,c11,t11,ix11,lt11,g11,k11⟩:=XL (RP.at s2).globals hz
  have hin:=inc (show i < 4611686018427387904 by omega)
  by_cases d1:z > 1024
  ·simp -implicitDefEqProofs only [EE,nth,↓z7,zq,wL,zi,yZ,dp,hc,g5,gvn,gl,ix11,g11,k11,d1]
   exact no _ [] s2
  ·simp -implicitDefEqProofs only [EE,nth,↓z7,zq,wL,zi,yZ,dp,nv,hc,g5,gvn,gl,ix11,g11,k11,d1,hin]
   exact ⟨p.globals.length - (i + 1),by omega,i + 1,_,by omega,rfl,rfl⟩
 ·simp -implicitDefEqProofs only [EE,nth,zq,wL,yZ,hc,g5,gvn,gl]
  exact ⟨true,rfl,fun _=>⟨by omega,by omega,hsm⟩,s2.drop⟩
theorem Ej {av bv:Value} {zs:List Int} (A:zL h av zs) (B:zL h bv zs) (hl:zs.length < 4611686018427387904):wV Tryz.prog 13 [av,bv] h (.bool true):=by
 apply wq
 replace A:=A.lock
 replace B:=B.lock
 generalize h.lock=L at A B
 apply hX
 unfold lA
 have an:=A.Zp
 have bn:=B.Zp
 have la:=fun h'=>jC A 3 h'
 have lb:=fun h'=>jC B 3 h'
 have e0:(!decide ((zs.length:Int)=(zs.length:Int)))=false:=by simp
 simp -implicitDefEqProofs only [EE,nth,↓z7,an,bn,la,lb]
 refine uY (fun m vs h' => ∃ (i:Nat) (v0:Value),i<=zs.length/\m=zs.length - i/\vs = [v0,.int .i64 (i:Nat)]/\h'=L) zs.length ⟨0,_,Oe _,rfl,rfl,rfl⟩ ?_
 rintro m vs h' ⟨i,v0,hi,rfl,rfl,rfl⟩
 unfold KH
 by_cases hc:(i:Int) < (zs.length:Int)
 ·obtain ⟨z,hz⟩:∃ z,zs[i]? = some z:=⟨_,NC (by omega)⟩
  obtain ⟨b1,o1,c1,t1,x1,l1,g1,k1⟩:=XL A hz
  obtain ⟨b2,o2,c2,t2,x2,l2,g2,k2⟩:=XL B hz
  have hin:=inc (show i < 4611686018427387904 by omega)
  have e1:(!decide (z=z))=false:=by simp
  simp -implicitDefEqProofs only [EE,nth,↓z7,zq,zi,KF,KG,an,la,hc,x1,x2,g1,g2,k1,k2,hin]
  exact ⟨zs.length - (i + 1),by omega,i + 1,_,by omega,rfl,rfl⟩
 ·simp -implicitDefEqProofs only [EE,nth,an,la,hc]
  rfl
theorem sP {av bv:Value} {l:List z8} (A:zP h av 7 (l.map z8.row)) (B:zP h bv 7 (l.map z8.row)) (hl:l.length < 4611686018427387904):wV Tryz.prog 31 [av,bv] h (.bool true):=by
 apply wq
 replace A:=A.lock
 replace B:=B.lock
 generalize h.lock=L at A B
 apply fS
 unfold c7
 have an:=A.Zp
 have bn:=B.Zp
 have la:=fun h'=>vQ A 3 h'
 have lb:=fun h'=>vQ B 3 h'
 have e0:(!decide ((l.length:Int)=(l.length:Int)))=false:=by simp
 simp -implicitDefEqProofs only [EE,nth,↓z7,an,bn,la,lb]
 refine uY (fun m vs h' => ∃ (i:Nat) (v0:Value),i<=l.length/\m=l.length - i/\vs = [v0,.int .i64 (i:Nat)]/\h'=L) l.length ⟨0,_,Oe _,rfl,rfl,rfl⟩ ?_
 rintro m vs h' ⟨i,v0,hi,rfl,rfl,rfl⟩
 unfold Km
 by_cases hc:(i:Int) < (l.length:Int)
 ·obtain ⟨x,hx⟩:∃ x,l[i]? = some x:=⟨_,NC (by omega)⟩
  obtain ⟨b1,o1,c1,t1,x1,l1,g1,n1,k1,_⟩:=uL A (i:=i) (r:=x.row) (by rw [NU,hx];rfl) rfl
  obtain ⟨b2,o2,c2,t2,x2,l2,g2,n2,k2,_⟩:=uL B (i:=i) (r:=x.row) (by rw [NU,hx];rfl) rfl
  have hin:=inc (show i < 4611686018427387904 by omega)
  simp -implicitDefEqProofs only [EE,nth,↓z7,N5,jF,Pp,qf,Ij,Kk,Kl,an,la,hc,x1,x2,g1,g2,n1,n2,k1,k2,Pp,Bool.and_self,hin]
  exact ⟨l.length - (i + 1),by omega,i + 1,_,by omega,rfl,rfl⟩
 ·simp -implicitDefEqProofs only [EE,nth,an,la,hc]
  rfl
end
open Go.Eb (jU)
section
variable {h:za} {p q:Pg}
theorem dW {fs gs:List Go.As.Fn} (a:Go.Ac.Alike fs gs) {i:Nat} {f:Go.As.Fn} (hf:fs[i]? = some f):∃ g,gs[i]? = some g/\g.nm=f.nm/\g.code=f.code:=by
 unfold Go.Ac.Alike at a
 have:=congrArg (fun l=>l[i]?) a
 simp only [NU,hf,OG] at this
 cases hg:gs[i]? with
 | none=>rw [hg] at this;cases this
 | some g=>
   rw [hg] at this
   simp only [OG,Nz,NB] at this
   exact ⟨g,rfl,this.1,this.2⟩
theorem JA {fs gs:List Go.As.Fn} (a:Go.Ac.Alike fs gs):gs.length=fs.length:=by
 have:=congrArg List.length a
 simpa using this
theorem Ir (P:vV h p) (Q:vV h q) (wf:w9 h) (eg:q.globals=p.globals) (em:q.main=p.main) (ep:q.params=p.params) (al:Go.Ac.Alike p.funcs q.funcs):wV Tryz.prog 14 [p.val,q.val] h (.bool true):=by
 apply wq
 replace P:=P.lock
 replace Q:=Q.lock
 replace wf:=wf.lock
 generalize h.lock=L at P Q wf
 have s0:Sat (.of L) L []:=Sat.self wf.2
 have RP:Rd (.of L) (vV · p):=Rd.of (y5.Zz L) P fun h' o=>P.old o
 have RQ:Rd (.of L) (vV · q):=Rd.of (y5.Zz L) Q fun h' o=>Q.old o
 apply Ba
 unfold C5
 have gvn:=P.globals.Zp
 have gvc:=P.globals.KW
 have fvn:=P.funcs.Zp
 have fvc:=P.funcs.KW
 have gvn2:=Q.globals.Zp
 have gvc2:=Q.globals.KW
 have fvn2:=Q.funcs.Zp
 have fvc2:=Q.funcs.KW
 simp -implicitDefEqProofs only [EE,Value.cells]
 refine ZY s0 fun b1 h2 s2 => ?_
 simp -implicitDefEqProofs only [EE,zq,zi,ug]
 refine ZY s2 fun b2 h4 s4 => ?_
 have g2:=s4.get
 have g1:=(s4.p 1).get
 have P4:=RP.at s4
 have Q4:=RQ.at s4
 have lf1:=fun h'=>um P4.funcs 3 h'
 have lf2:=fun h'=>um Q4.funcs 3 h'
 have lg1:=fun h'=>jC P4.globals 3 h'
 have lg2:=fun h'=>jC Q4.globals 3 h'
 rw [JA al] at lf2
 rw [eg] at lg2
 have e0:∀ z:Int,(!decide (z=z))=false:=fun z=>by simp
 simp -implicitDefEqProofs only [EE,nth,↓z7,zq,wL,wN,zi,yZ,yo,ug,kL,gS,gT,gU,gV,gW,gX,gY,gZ,g7,hE,g1,g2,em,ep,gvn,fvn,gvn2,fvn2,lf1,lf2,lg1,lg2]
 refine uY (fun m vs h' => ∃ (i:Nat) (v0:Value),i<=p.globals.length/\m=p.globals.length - i/\vs = [v0,.int .i64 (i:Nat)]/\h'=h4) p.globals.length ⟨0,_,Oe _,rfl,rfl,rfl⟩ ?_
 rintro m vs h' ⟨i,v0,hi,rfl,rfl,rfl⟩
 unfold nd
 by_cases hc:(i:Int) < (p.globals.length:Int)
 ·obtain ⟨z,hz⟩:∃ z,p.globals[i]? = some z:=⟨_,NC (by omega)⟩
  obtain ⟨c1,o1,d1,t1,x1,l1,y1,k1⟩:=XL P4.globals hz
  obtain ⟨c2,o2,d2,t2,x2,l2,y2,k2⟩:=XL Q4.globals (z:=z) (by rw [eg];exact hz)
  have hin:=inc (show i < 4611686018427387904 by have:=P.pf;omega)
  simp -implicitDefEqProofs only [EE,nth,↓z7,zq,wL,zi,yZ,na,nc,g1,g2,gvn,lg1,hc,x1,x2,y1,y2,k1,k2,hin]
  exact ⟨p.globals.length - (i + 1),by omega,i + 1,_,by omega,rfl,rfl⟩
 ·simp -implicitDefEqProofs only [EE,nth,zq,wL,yZ,g1,gvn,lg1,hc]
  refine uY (fun m vs h9 => ∃ (i:Nat) (v0:Value),i<=p.funcs.length/\m=p.funcs.length - i/\vs = [v0,.int .i64 (i:Nat)]/\h9=h') p.funcs.length ⟨0,_,Oe _,rfl,rfl,rfl⟩ ?_
  rintro m vs h9 ⟨i,v0,hi,rfl,rfl,rfl⟩
  unfold gR
  by_cases hc:(i:Int) < (p.funcs.length:Int)
  ·obtain ⟨f,hf⟩:∃ f,p.funcs[i]? = some f:=⟨_,NC (by omega)⟩
   obtain ⟨g,hg,en,ec⟩:=dW al hf
   obtain ⟨bf,o,cf,tf,hix,hbf,hgf,hof,htf,hkf⟩:=jg P4.funcs (i:=i) (r:=f.row) (by rw [NU,hf];rfl) rfl
   obtain ⟨bg,og,cg,tg,hix2,hbg,hgg,hog,htg,hkg⟩:=jg Q4.funcs (i:=i) (r:=g.row) (by rw [NU,hg];rfl) rfl
   have F:=P4.fns f (NQ hf)
   have G:=Q4.fns g (NQ hg)
   have fn:=F.code.Zp
   have gn:=G.code.Zp
   have k0:=hkf 0 (by decide)
   have k0:cf[o]? = some (.string f.nm):=k0
   have k1:=hkf 1 (by decide)
   have k1:cf[o + 1]? = some f.cv:=k1
   have m0:=hkg 0 (by decide)
   have m0:cg[og]? = some (.string g.nm):=m0
   rw [en] at m0
   have m1:=hkg 1 (by decide)
   have m1:cg[og + 1]? = some g.cv:=m1
   have hin:=inc (show i < 4611686018427387904 by have:=P.Cd;omega)
   have GC:=G.code
   rw [ec] at GC
   have sc:=sP F.code GC (by have:=F.gj;omega)
   simp -implicitDefEqProofs only [EE,nth,↓z7,zq,Pp,wN,uP,Hu,yo,l9,wj,L4,nh,ni,nj,nk,nn,gO,gP,g1,g2,fvn,lf1,hc,hix,hix2,hgf,hgg,k0,k1,m0,m1,Pp]
   refine xW (by kernel_rfl) (by simp only [yB,fn,gn,N1]) sc ?_
   simp -implicitDefEqProofs only [EE,nth,ng,gQ,hin]
   exact ⟨p.funcs.length - (i + 1),by omega,i + 1,_,by omega,rfl,rfl⟩
  ·simp -implicitDefEqProofs only [EE,nth,zq,wN,yo,g1,fvn,lf1,hc]
   rfl
theorem r8 (zs:List Int):∀ s:ByteArray,bytesOf (zs.map fun z=>Value.int .u8 z) s=some (zs.foldl (fun s z=>s.push (UInt8.ofNat z.toNat)) s):=by
 induction zs with
 | nil=>intro s;rfl
 | cons z zs ih=>
   intro s
   exact ih _
def Fb (zs:List Int):ByteArray:=zs.foldl (fun s z=>s.push (UInt8.ofNat z.toNat)) .empty
theorem EC (h:za):wM Tryz.prog 29 9 (.slice none 0 0) h=some (.string (Fb []),h):=by kernel_rfl
theorem Fc {v:Value} {zs:List Int} (S:jQ h v zs):wM Tryz.prog 29 9 v h=some (.string (Fb zs),h):=by
 have S0:=S
 have ab:Dq h v=some (.string (Fb zs)):=by
  rcases S with ⟨rfl,e⟩ | ⟨b,off,cp,rfl,hc⟩
  ·have:zs = []:=by simpa using e
   subst this;rfl
  ·have f:=(Zk S0).2
   rw [NX]
   unfold Dq
   by_cases h0:zs.length=0
   ·have:zs = []:=OH.1 h0
    subst this;rfl
   ·have hb:Nat.beq zs.length 0=false:=by
     cases hz:Nat.beq zs.length 0 with
     | false=>rfl
     | true=>exact absurd (NL hz) h0
    obtain ⟨c,t,_,hg,_⟩:=hc (by intro e;exact h0 (by simpa using congrArg List.length e))
    simp only [wZ,hg,Pd,hb,N1] at f
    simp only [hb,N1,hg]
    cases hl:Nat.ble (off + zs.length) c.length with
    | false=>rw [hl] at f;cases f
    | true=>
      rw [hl] at f
      simp only [NR,Nz] at f ⊢
      rw [f,r8];rfl
 have h1:zT Tryz.prog (underlying 29)=some (.slice 5):=by kernel_rfl
 have h2:zT Tryz.prog (underlying 9)=some .string:=by kernel_rfl
 have h3:zT Tryz.prog (underlying 5)=some (.int .u8):=by kernel_rfl
 rcases S0 with ⟨rfl,e⟩ | ⟨b,off,cp,rfl,hc⟩
 ·have:zs = []:=by simpa using e
  subst this
  exact EC h
 ·have h5:(cond (flat (.slice (some ⟨b,off,none⟩) (zs.map jy).length cp)) (fl (zT Tryz.prog (convert 29 9 (.slice (some ⟨b,off,none⟩) (zs.map jy).length cp)))) none)=none:=rfl
  unfold wM QE
  rw [h5]
  simp only [h1,h2,h3,ab,OG]
end
open Go.Rtl (sU)
open Go.Rm (wh ux)
open Go.As (kf)
open Go.Eb (wR xj lY xx CQ oY iD Wc uT Vi sK)
open Go.Ar (Md pR l7 Y6)
open Go.Ac (D0)
def yes (v:Value) (_:za):Prop:=v = .bool true
section
variable {h:za} {p:Pg}
theorem KV {P:List Go.As.Fn->List Go.As.Fn->Prop} (h0:P [] []) (h1:∀ f g fs gs,g.code=f.code->gs.map Go.As.Fn.code=fs.map Go.As.Fn.code->P fs gs->P (f :: fs) (g :: gs)):∀ fs gs:List Go.As.Fn,gs.map Go.As.Fn.code=fs.map Go.As.Fn.code->P fs gs
 | [],[],_=>h0
 | [],g :: gs,e=>by cases e
 | f :: fs,[],e=>by cases e
 | f :: fs,g :: gs,e=>by
   simp only [OF,Ov] at e
   exact h1 f g fs gs e.1 e.2 (KV h0 h1 fs gs e.2)
theorem rW {fs gs:List Go.As.Fn} (a:Go.Ac.Alike fs gs):gs.map Go.As.Fn.code=fs.map Go.As.Fn.code:=by
 unfold Go.Ac.Alike at a
 have:=congrArg (List.map Prod.snd) a
 rw [List.map_map,List.map_map] at this
 exact this
theorem Cj {q:Pg} (eg:q.globals=p.globals) (em:q.main=p.main) (ep:q.params=p.params) (al:Go.Ac.Alike p.funcs q.funcs):kf q=kf p/\Go.En.WV q=Go.En.WV p/\uT q.funcs=uT p.funcs:=by
 have el:=JA al
 have ac:=rW al
 have st:∀ n,Go.En.xV q.funcs n=Go.En.xV p.funcs n:=by
  refine KV (P:=fun fs gs => ∀ n,Go.En.xV gs n=Go.En.xV fs n) (fun n=>rfl) (fun f g fs gs e _ ih n => ?_) _ _ ac
  show n :: Go.En.xV gs (n + Go.En.yO g.code)=n :: Go.En.xV fs (n + Go.En.yO f.code)
  rw [e,ih]
 have fb:∀ f g:Go.As.Fn,g.code=f.code->Go.As.JK q g=Go.As.JK p f:=fun f g e=>by
  unfold Go.As.JK
  rw [e,el,eg]
 have al2:q.funcs.all (Go.As.JK q)=p.funcs.all (Go.As.JK p):=by
  refine KV (P:=fun fs gs=>gs.all (Go.As.JK q)=fs.all (Go.As.JK p)) rfl (fun f g fs gs e _ ih => ?_) _ _ ac
  rw [Pe,Pe,ih,fb f g e]
 refine ⟨?_,?_,?_⟩
 ·unfold kf Go.As.uq
  rw [al2,el,eg,em,ep]
 ·unfold Go.En.WV
  rw [eg,st]
  have:∀ n,Go.En.ZH (Go.En.wB p.globals 16777216) (Go.En.xV p.funcs 0) q.funcs n=Go.En.ZH (Go.En.wB p.globals 16777216) (Go.En.xV p.funcs 0) p.funcs n:=by
   refine KV (P:=fun fs gs => ∀ n,Go.En.ZH (Go.En.wB p.globals 16777216) (Go.En.xV p.funcs 0) gs n=Go.En.ZH (Go.En.wB p.globals 16777216) (Go.En.xV p.funcs 0) fs n) (fun n=>rfl) (fun f g fs gs e _ ih n => ?_) _ _ ac
   show Go.En.jB _ _ g.code n g.code n ++ Go.En.ZH _ _ gs _=Go.En.jB _ _ f.code n f.code n ++ Go.En.ZH _ _ fs _
   rw [e,ih]
  exact this 0
 ·unfold uT
  rw [st]
theorem DT (P:vV h p) (aw:∀ h',Old h h'->wV Tryz.prog 7 [] h' (.bool true)):DC Tryz.prog 3 [p.val] h yes:=by
 apply jY;intro wf
 apply fR
 unfold cP
 have s0:Sat (.of h) h []:=Sat.self wf.2
 have RP:Rd (.of h) (vV · p):=Rd.of (y5.Zz h) P fun h' o=>P.old o
 have RQ:Rd (.of h) (fun h'=>wV Tryz.prog 7 [] h' (.bool true)):=fun h' b=>aw h' (by obtain ⟨a,c,d⟩:=(y5.Zz h).old b;exact ⟨a,c,d⟩)
 have gvn:=P.globals.Zp
 have gvc:=P.globals.KW
 have fvn:=P.funcs.Zp
 have fvc:=P.funcs.KW
 simp -implicitDefEqProofs only [EE,Value.cells]
 refine ZY s0 fun b1 h2 s2 => ?_
 have g1:=s2.get
 refine zJ (by kernel_rfl) rfl (RQ.at s2) ?_
 simp -implicitDefEqProofs only [EE,N5,Nat.reduceAdd,jF,Xv,UW,g1]
 refine vp (by kernel_rfl) (by simp only [yB];rfl) (Ls (RP.at s2)) ?_
 rintro v h3 ⟨B,rfl,hB,s3⟩
 have s4:=s2.join s3
 have g1:=s4.get
 cases B with
 | false=>
   simp -implicitDefEqProofs only [EE,XJ]
   rfl
 | true=>
   have SM:=hB rfl
   simp -implicitDefEqProofs only [EE,N5,Nat.reduceAdd,jF,Xv,XJ,g1]
   refine vp (by kernel_rfl) (by simp only [yB];rfl) (D0 (RP.at s4) (by have:=SM.fl;omega)) ?_
   rintro v h5 ⟨q,rfl,eg,em,ep,al,s5⟩
   have s6:=s4.join s5
   have el:=JA al
   have RDQ:∀ {h'} {L:List HP},Sat (.of h) h' (Md q :: L)->vV h' q:=fun t=>pR t (by rw [eg];exact P.pf) (by rw [el];have:=P.Cd;omega) fun f' hf'=>by
    obtain ⟨k,hk,rfl⟩:=Pl hf'
    obtain ⟨g,h1,h2,h3⟩:=dW al (NC (show k < p.funcs.length by omega))
    rw [NC hk] at h1
    cases h1
    rw [h3]
    exact (P.fns _ (PH _)).gj
   obtain ⟨gl1,gl2,gl3⟩:=Cj eg em ep al
   have Q6:=RDQ s6
   have qgn:=Q6.globals.Zp
   have qgc:=Q6.globals.KW
   have qfn:=Q6.funcs.Zp
   have qfc:=Q6.funcs.KW
   simp -implicitDefEqProofs only [EE,Value.cells,tY,UU]
   refine ZY s6 fun b3 h7 s7 => ?_
   simp -implicitDefEqProofs only [EE,Nat.reduceAdd,tX]
   refine ZJ s7 (by simp) (by simp [qgc,qfc];exact ⟨rfl,rfl⟩) fun h8 s8 => ?_
   have g1:=(s8.p 2).get
   simp -implicitDefEqProofs only [EE,N5,Nat.reduceAdd,jF,Xv,g1]
   refine vp (by kernel_rfl) (by simp only [yB];rfl) (oY (RP.at s8) (fun _=>fL SM)) ?_
   rintro v h9 hv
   unfold CQ at hv
   cases hg:kf p with
   | false=>
     rw [NJ (by rw [hg];decide)] at hv
     obtain ⟨rfl,s9⟩:=hv
     have s10:=s8.join s9
     simp -implicitDefEqProofs only [EE,Value.cells,oJ,XI]
     refine ZY s10 fun b4 h11 s11 => ?_
     simp -implicitDefEqProofs only [EE,Nat.reduceAdd,ir]
     refine ZJ s11 (by simp) rfl fun h12 s12 => ?_
     have g3:=(s12.p 1).get
     have g4:=s12.get
     have gq:=l7 (RDQ (s12.p 2))
     rw [Y6,gl1,hg] at gq
     simp -implicitDefEqProofs only [EE,zt,N5,Nat.reduceAdd,jF,Xv,g3]
     refine zJ (by kernel_rfl) (by simp only [yB];rfl) gq ?_
     have hz:decide (((0:Nat):Int)=0)=true:=by decide
     simp -implicitDefEqProofs only [EE,zt,Nat.reduceAdd,zq,wL,ig,Us,KY,JS,Er,Q5,Q7,Q8,Q9,Ka,XH,g4,hz]
     rfl
   | true=>
     rw [NK hg] at hv
     obtain ⟨cv,sv,gv,rfl,s9⟩:=hv
     have s10:=s8.join s9
     have cvn:=xj s10
     have cvc:=lY s10
     have svn:=wh (s10.p 1)
     have svc:=ux (s10.p 1)
     have gn:=wh (s10.p 2)
     have gc:=ux (s10.p 2)
     simp -implicitDefEqProofs only [EE,Value.cells,oJ,XI]
     refine ZY s10 fun b4 h11 s11 => ?_
     simp -implicitDefEqProofs only [EE,Nat.reduceAdd,ir]
     refine ZJ s11 (by simp) (by simp [cvc,svc,gc];exact ⟨rfl,rfl⟩) fun h12 s12 => ?_
     have g3:=(s12.p 4).get
     have g4:=s12.get
     have gq:=l7 (RDQ (s12.p 5))
     rw [Y6,gl1,hg] at gq
     simp -implicitDefEqProofs only [EE,zt,N5,Nat.reduceAdd,jF,Xv,g3]
     refine zJ (by kernel_rfl) (by simp only [yB];rfl) gq ?_
     simp -implicitDefEqProofs only [EE,zt,N5,Nat.reduceAdd,jF,Xv,XH,g3]
     have szq:Go.En.z9 q.funcs<=1000000:=by
      refine fL ⟨by rw [el];exact SM.fl,by rw [eg];exact SM.gl,fun f hf => ?_⟩
      obtain ⟨k,hk,rfl⟩:=Pl hf
      obtain ⟨g,h1,h2,h3⟩:=dW al (NC (show k < p.funcs.length by omega))
      rw [NC hk] at h1
      cases h1
      rw [h3]
      exact SM.cf _ (PH _)
     refine vp (by kernel_rfl) (by simp only [yB];rfl) (Go.Eb.rm (iD (RDQ (s12.p 5)) (by rw [gl1];exact hg) szq)) ?_
     rintro v h13 ⟨⟨bv,tv,rfl,s13⟩,w13⟩
     rw [gl2,gl3] at s13
     have s14:=s12.join s13
     have g4:=(s14.p 2).get
     have g3:=(s14.p 6).get
     have g1:=(s14.p 8).get
     have bn:=xj s13
     have tn:=wh (s13.p 1)
     have t1:=Fc (xx s14 (by simp):jQ h13 bv (Go.En.WV p))
     have t2:=Fc (xx s14 (by simp):jQ h13 cv (Go.En.WV p))
     simp -implicitDefEqProofs only [EE,zt,Nat.reduceAdd,zq,Pp,wL,ig,Lq,Us,KY,UO,UP,UQ,UR,US,UT,bn,tn,g4,cvn,t1,t2,Pp]
     refine zJ (by kernel_rfl) (by simp only [yB,svn,tn,N1]) (Ej (zs:=uT p.funcs) (sU s14 (by simp)) (sU s14 (by simp)) (by rw [Vi];have:=SM.fl;omega)) ?_
     simp -implicitDefEqProofs only [EE,zt,Nat.reduceAdd,zq,wL,yZ,FG,UM,UN,g4,g3]
     refine zJ (by kernel_rfl) (by simp only [yB,gn,qgn,N1]) (Ej (zs:=p.globals) (sU s14 (by simp)) (eg ▸ (RDQ (s14.p 7)).globals) (by have:=SM.gl;omega)) ?_
     have em':decide (p.main=q.main)=true:=Ol em.symm
     have ep':decide (p.params=q.params)=true:=Ol ep.symm
     simp -implicitDefEqProofs only [EE,zt,N5,Nat.reduceAdd,jF,zq,Xv,zi,ug,kL,FH,FI,Kb,Kc,Kd,Ke,UJ,UK,UL,g4,g3,g1,em',ep']
     refine zJ (by kernel_rfl) (by simp only [yB];rfl) (Ir (RP.at s14) (RDQ (s14.p 7)) w13 eg em ep al) ?_
     simp -implicitDefEqProofs only [EE]
     rfl
end
def cls:List Nat:=[0,0,1,1,1,1,1,1,1,1,1,1,1,1,1,1,1,1,1,1,1,1,1,1,1,1,1,1,1,1,1,1,1,1,1,1,1,1,1,1,1,1,1,1,1,1,1,3,1,1,1,1,1,1,1,1,1,1,1,1,1,1,1,1,1,1,1,1,1,1,1,1,1,1,1,1,1,1,1,1,1,1,1,1,1,1,1,1,1,1,1,1,1,1,1,1,1,1,1,1,1,1,1,1,1,1,1,1,1,1,1,1,1,1,1,1,1,1,1,1,1,1,1,1,1,1,0,0,0,0,0,0,0,0,0,0,0,0,0,0,0,0,0,0,0]
set_option maxRecDepth 100000 in
theorem fits:jO Tryz.prog cls=true:=by decide +kernel
set_option maxRecDepth 100000 in
theorem BW:Is (run Tryz.prog cls 4000 (.call 7 []) (mH 100 []))=true:=by kernel_rfl
theorem Fv (h:za):wV Tryz.prog 7 [] h (.bool true):=by
 refine ⟨rfl,?_⟩
 obtain ⟨h',he⟩:=Gb BW
 have:=rD (P:=Tryz.prog) (m:=100) (tabs:=[]) (v := .bool true) (f:=7) rfl (NW (by kernel_rfl)) (fun x hx=>by cases hx) ((A6 fits mixed he).mono (fun v h1 q=>q.1)) (h:=h.lock) (fun x hx=>by cases hx)
 exact this.mono (fun v h1 q=>q.1)
end Go.Ec
namespace Go.As
open Go.Ai Go.Proofs
open Go.Rtl (zL zP Old)
theorem absH_lt (w:World) (b:Nat) (o:wi) (h:(absH Tryz.prog w).get b=some o):b < (absH Tryz.prog w).next:=(pX Tryz.prog w).Vn b o h
theorem c2:Tryz.prog.cellsOf 2=1:=by kernel_rfl
theorem c3:Tryz.prog.cellsOf 3=1:=by kernel_rfl
theorem c9:Tryz.prog.cellsOf 9=1:=by kernel_rfl
theorem Ni:Tryz.prog.cellsOf 22=1:=by kernel_rfl
theorem Nj:Tryz.prog.cellsOf 23=1:=by kernel_rfl
theorem Nk:Tryz.prog.cellsOf 25=4:=by kernel_rfl
theorem Nl:Tryz.prog.cellsOf 48=1:=by kernel_rfl
theorem M9:Tryz.prog.cellsOf 50=2:=by kernel_rfl
theorem Na:Tryz.prog.cellsOf 42=7:=by kernel_rfl
theorem y2:Tryz.prog.bytesOf 2=8:=by kernel_rfl
theorem y3:Tryz.prog.bytesOf 3=8:=by kernel_rfl
theorem Nr:Tryz.prog.bytesOf 50=40:=by kernel_rfl
theorem Ns:Tryz.prog.bytesOf 42=56:=by kernel_rfl
theorem pV:reachBytes=140737488351232:=rfl
theorem Aq {α:Type} {n:Nat} {Q:Nat->α->Prop} (h:∀ i,i < n->∃ z,Q i z):∃ l:List α,l.length=n /\ ∀ i z,l[i]? = some z->Q i z:=by
 obtain ⟨f,hf⟩:=Classical.axiomOfChoice (r:=fun (i:Fin n) z=>Q i.1 z) fun i=>h i.1 i.2
 refine ⟨List.ofFn f,by simp,fun i z hz => ?_⟩
 rw [List.getElem?_ofFn] at hz
 split at hz
 ·rename_i hi
  simp only [Nz] at hz
  subst hz
  exact hf ⟨i,hi⟩
 ·cases hz
theorem EI {c:List Value} {n:Nat} {v:Value} (h:(c.drop n).take 1 = [v]):c[n]? = some v:=by
 have:=congrArg (fun l=>l[0]?) h
 simpa [List.getElem?_take,Od] using this
section
variable {h:za} (hw:∀ b o,h.get b=some o->b < h.next)
include hw
theorem Gd {a:Value} (r:ad Tryz.prog h 22 [a]):∃ zs,zL h a zs/\zs.length<=17592186043904:=by
 rcases p9 Tryz.underlying22 c3 y3 (by decide) r with e | ⟨b,off,len,e,hl,hc⟩
 ·simp only [Ov,PM] at e
  exact ⟨[],.inl ⟨e,rfl⟩,Oe _⟩
 ·simp only [Ov,PM] at e
  subst e
  rw [pV] at hl
  by_cases h0:0 < len
  ·obtain ⟨c,t,hg,hat⟩:=hc h0
   obtain ⟨l,e1,e2⟩:=Aq (n:=len) (Q:=fun i (z:Int)=>c[off + i]? = some (.int .i64 z)) fun i hi=>by
    obtain ⟨h1,h2⟩:=hat i hi
    obtain ⟨z,hz,_⟩:=XU Tryz.underlying3 h2
    rw [Pd] at hz
    exact ⟨z,EI hz⟩
   refine ⟨l,.inr ⟨b,off,0,by rw [e1],fun _=>⟨c,t,hw b _ hg,hg,e2⟩⟩,by omega⟩
  ·have:len=0:=by omega
   subst this
   exact ⟨[],.inr ⟨b,off,0,rfl,fun q=>absurd rfl q⟩,Oe _⟩
omit hw in
theorem Ip {cs:List Value} (r:ad Tryz.prog h 42 cs):∃ x:z8,cs=x.row/\True:=by
 obtain ⟨hl,hf⟩:=J5 Tryz.underlying42 r
 rw [Na] at hl
 match cs,hl with
 | [a0,a1,a2,a3,a4,a5,a6],_=>
   have f0:ad Tryz.prog h 3 (([a0,a1,a2,a3,a4,a5,a6].drop 0).take (Tryz.prog.cellsOf 3)):=hf _ (Oq (i:=0) rfl)
   have f1:ad Tryz.prog h 3 (([a0,a1,a2,a3,a4,a5,a6].drop 1).take (Tryz.prog.cellsOf 3)):=hf _ (Oq (i:=1) rfl)
   have f2:ad Tryz.prog h 3 (([a0,a1,a2,a3,a4,a5,a6].drop 2).take (Tryz.prog.cellsOf 3)):=hf _ (Oq (i:=2) rfl)
   have f3:ad Tryz.prog h 3 (([a0,a1,a2,a3,a4,a5,a6].drop 3).take (Tryz.prog.cellsOf 3)):=hf _ (Oq (i:=3) rfl)
   have f4:ad Tryz.prog h 3 (([a0,a1,a2,a3,a4,a5,a6].drop 4).take (Tryz.prog.cellsOf 3)):=hf _ (Oq (i:=4) rfl)
   have f5:ad Tryz.prog h 3 (([a0,a1,a2,a3,a4,a5,a6].drop 5).take (Tryz.prog.cellsOf 3)):=hf _ (Oq (i:=5) rfl)
   have f6:ad Tryz.prog h 2 (([a0,a1,a2,a3,a4,a5,a6].drop 6).take (Tryz.prog.cellsOf 2)):=hf _ (Oq (i:=6) rfl)
   simp only [c2,c3,O7,Pw,Pv,List.take_zero] at f0 f1 f2 f3 f4 f5 f6
   obtain ⟨z0,e0,_⟩:=XU Tryz.underlying3 f0
   obtain ⟨z1,e1,_⟩:=XU Tryz.underlying3 f1
   obtain ⟨z2,e2,_⟩:=XU Tryz.underlying3 f2
   obtain ⟨z3,e3,_⟩:=XU Tryz.underlying3 f3
   obtain ⟨z4,e4,_⟩:=XU Tryz.underlying3 f4
   obtain ⟨z5,e5,_⟩:=XU Tryz.underlying3 f5
   obtain ⟨z6,e6,_⟩:=XU Tryz.underlying2 f6
   simp only [Ov,PM] at e0 e1 e2 e3 e4 e5 e6
   subst e0 e1 e2 e3 e4 e5 e6
   exact ⟨⟨z0,z1,z2,z3,z4,z5,z6⟩,rfl,trivial⟩
theorem AI {α:Type} {row:α->List Value} {ok:α->Prop} {ts te:TypeId} {n bz:Nat} (hu:Tryz.prog.underlying ts=some (.slice te)) (hs:Tryz.prog.cellsOf te=n) (hb:Tryz.prog.bytesOf te=bz) (h0n:0 < n) (h8:8<=bz)
  (hrow:∀ cs,ad Tryz.prog h te cs->∃ x,cs=row x/\ok x) {a:Value} (r:ad Tryz.prog h ts [a]):∃ l:List α,zP h a n (l.map row)/\l.length * bz<=140737488351232 /\ ∀ x,x ∈ l->ok x:=by
 rcases p9 hu hs hb h0n r with e | ⟨b,off,len,e,hl,hc⟩
 ·simp only [Ov,PM] at e
  exact ⟨[],.inl ⟨e,rfl⟩,by simp,fun x hx=>by cases hx⟩
 ·simp only [Ov,PM] at e
  subst e
  rw [pV] at hl
  by_cases h0:0 < len
  ·obtain ⟨c,t,hg,hat⟩:=hc h0
   obtain ⟨l,e1,e2⟩:=Aq (n:=len) (Q:=fun i x=>off + i * n + n<=c.length/\(c.drop (off + i * n)).take n=row x/\ok x) fun i hi=>by
    obtain ⟨h1,h2⟩:=hat i hi
    obtain ⟨x,hx,hok⟩:=hrow _ h2
    exact ⟨x,h1,hx,hok⟩
   refine ⟨l,.inr ⟨b,off,0,by rw [NX,e1],fun _=>⟨c,t,hw b _ hg,hg,fun i r hr => ?_⟩⟩,?_,fun x hx => ?_⟩
   ·rw [NU] at hr
    cases hx:l[i]? with
    | none=>rw [hx] at hr;cases hr
    | some x=>
      rw [hx] at hr
      simp only [OG,Nz] at hr
      subst hr
      exact ⟨(e2 i x hx).1,(e2 i x hx).2.1⟩
   ·rw [e1];exact hl
   ·obtain ⟨k,hk,rfl⟩:=Pl hx
    exact (e2 k _ (NC hk)).2.2
  ·have:len=0:=by omega
   subst this
   exact ⟨[],.inr ⟨b,off,0,rfl,fun q=>absurd rfl q⟩,by simp,fun x hx=>by cases hx⟩
theorem Me {cs:List Value} (r:ad Tryz.prog h 50 cs):∃ f:Fn,cs=f.row/\ZF h f:=by
 obtain ⟨hl,hf⟩:=J5 Tryz.underlying50 r
 rw [M9] at hl
 match cs,hl with
 | [a0,a1],_=>
   have f0:ad Tryz.prog h 9 (([a0,a1].drop 0).take (Tryz.prog.cellsOf 9)):=hf _ (Oq (i:=0) rfl)
   have f1:ad Tryz.prog h 48 (([a0,a1].drop 1).take (Tryz.prog.cellsOf 48)):=hf _ (Oq (i:=1) rfl)
   simp only [c9,Nl,O7,Pw,Pv,List.take_zero] at f0 f1
   obtain ⟨s,e0,_⟩:=CE Tryz.underlying9 f0
   obtain ⟨code,C,hc,hi⟩:=AI hw Tryz.underlying48 Na Ns (by decide) (by decide) (fun cs r=>Ip r) f1
   simp only [Ov,PM] at e0
   subst e0
   exact ⟨⟨s,a1,code⟩,rfl,C,hc⟩
theorem rd_pg {cs:List Value} (r:ad Tryz.prog h 25 cs):∃ p:Pg,cs=p.row/\vV h p:=by
 obtain ⟨hl,hf⟩:=J5 Tryz.underlying25 r
 rw [Nk] at hl
 match cs,hl with
 | [a0,a1,a2,a3],_=>
   have f0:ad Tryz.prog h 22 (([a0,a1,a2,a3].drop 0).take (Tryz.prog.cellsOf 22)):=hf _ (Oq (i:=0) rfl)
   have f1:ad Tryz.prog h 23 (([a0,a1,a2,a3].drop 1).take (Tryz.prog.cellsOf 23)):=hf _ (Oq (i:=1) rfl)
   have f2:ad Tryz.prog h 3 (([a0,a1,a2,a3].drop 2).take (Tryz.prog.cellsOf 3)):=hf _ (Oq (i:=2) rfl)
   have f3:ad Tryz.prog h 3 (([a0,a1,a2,a3].drop 3).take (Tryz.prog.cellsOf 3)):=hf _ (Oq (i:=3) rfl)
   simp only [c3,Ni,Nj,O7,Pw,Pv,List.take_zero] at f0 f1 f2 f3
   obtain ⟨l,S,hl⟩:=Gd hw f0
   obtain ⟨fs,C,hc,hi⟩:=AI hw Tryz.underlying23 M9 Nr (by decide) (by decide) (fun cs r=>Me hw r) f1
   obtain ⟨z2,e2,_⟩:=XU Tryz.underlying3 f2
   obtain ⟨z3,e3,_⟩:=XU Tryz.underlying3 f3
   simp only [Ov,PM] at e2 e3
   subst e2 e3
   refine ⟨⟨a0,l,a1,fs,z2,z3⟩,rfl,S,hl,C,by show fs.length * 24<=140737488351232;omega,hi⟩
end
end Go.As
namespace Go.Ec
open Go.Ai Go.Proofs
open Go.As (Pg vV)
theorem bytes_law {h:za} {p:Pg} (P:vV h p):DC Tryz.prog 3 [p.val] h yes:=DT P fun h' e=>Fv h'
end Go.Ec
