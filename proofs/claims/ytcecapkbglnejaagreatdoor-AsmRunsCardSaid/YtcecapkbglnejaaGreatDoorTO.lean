import Derived.Test.YtcecapkbglnejaaGreatDoorTN
set_option linter.unusedVariables false
set_option linter.unusedSimpArgs false
set_option maxRecDepth 100000
namespace Go.Ac
open Go.Ai Go.Proofs
open Go.Rtl (zl zE Old inc si Fh BD BE Fi zfj zdD za4 G0 UB UL)
open Go.Rm (Rd Rd.of Rd.at w7 ua qB YD wL qV uF yA)
open Go.As (xY Pg WB wR Ws Jo Z6 Ww)
open Go.Ar (fnP pgP r8 LB C8)
def Alike(fs gs:List Go.As.Fn):Prop:=gs.map (λf=>(f.nm,f.code))=fs.map λf=>(f.nm,f.code)
theorem N7:∀xs:List xY,(xs.map xY.row).flatten.all wI=true
 |[]=>rfl
 |x::xs=>by
  rw[abN,acw,List.all_append,N7 xs];rfl
section
variable {h:za}{p:Pg}
theorem Lp(P:wR h p)(hfl:p.funcs.length<=100):DC pu 8 [p.val] h (λv h'=>∃q:Pg,v=q.val/\q.globals=p.globals/\q.main=p.main/\q.params=p.params/\Alike p.funcs q.funcs/\Sat (.of h) h' [pgP q]):=by
 apply YG;intro wf;apply OX;unfold R5;have s0:Sat (.of h) h []:=Sat.self wf.2;have RP:Rd (.of h) (wR · p):=Rd.of (yE.uf h) P λh' o=>P.old o;have gvn:=P.globals.kY;have gvc:=P.globals.fC;have fvn:=P.funcs.kY;have fvc:=P.funcs.fC;simp only[EE,Value.cells,Tc,Tl];refine w8 s0 λb1 h2 s2=>?_;simp only[EE,zo,w9,xZ];refine w8 s2 λb2 h4 s4=>?_;have g1:=(s4.p 1).get;have l1:=(s4.p 1).lt;have gc1:∀t,(cut (h4.push (.cells [] 3)) h4.next t).get b1=some (.cells [p.gv,p.fv,pm p.main,pm p.params] 25):=λt=>by rw[QO l1,zD l1];exact g1
 simp only[EE,gc1];refine G0 (h:=h4) ((RP.at s4).globals.old (Old.push _ _)) P.LJ s4.base.Fx (aa6 _) ?_;intro gv' h6 W e6 r6;have s6:=zdD W e6 r6 s4;have g6:h6.get b1=some (.cells [p.gv,p.fv,pm p.main,pm p.params] 25):=(s6.p 2).get
 have gcc:(cut (cut h6 h4.next (h4.next+1)) (h4.next+1) h6.next).get b1=some (.cells [p.gv,p.fv,pm p.main,pm p.params] 25):=by
  rw[QO (by show b1<h4.next+1;omega),QO l1];exact g6
 unfold FL;obtain⟨va,vl,vc,rfl⟩:=W.shape;simp only[EE,Value.cells,zo,Tc,G7,jR,ku,gcc];refine w8 s6 λb3 h8 s8=>?_;simp only[EE,Nat.reduceAdd,S7];refine z9 s8 (by simp) (by rfl) λh9 s9=>?_
 refine qQ (λm vs h'=>∃(i:Nat) (fv:aaa) (gs:List Go.As.Fn),i<=p.funcs.length/\m=p.funcs.length-i/\vs=[pm (i:Nat)]/\Alike (p.funcs.take i) gs/\Sat (.of h) h' [pt b3 (.cells [.slice va vl vc,fv,pm p.main,pm p.params] 25),w7 3 1 (.slice va vl vc) (p.globals.map yA),w7 47 2 fv (gs.map Go.As.Fn.row),Q0 (gs.map fnP),pt b2 (.cells [pp,pp,pm 0,pm 0] 25),pt b1 (.cells p.row 25)]) p.funcs.length
  ⟨0,pp,[],aaX _,rfl,rfl,rfl,(qB 47 2 (Fi s9)).f [2,3,0,1,4,5]⟩ ?_
 rintro m vs h' ⟨i,fv,gs,hi,rfl,rfl,hal,s⟩;have g3:=s.get;have g1:=(s.p 5).get;have l1:=(s.p 5).lt;have PP:=RP.at s;have fl:=λh'=>Z6 PP.funcs 3 h';unfold FK;by_cases hc:(i:Int)<(p.funcs.length:Int)
 ·obtain⟨f,hf⟩:∃f,p.funcs[i]? = some f:=⟨_,aac (by omega)⟩;have F:=PP.fns f (aaA hf);obtain⟨bf,ofs,cf,tf,hif,hbf,hgf,hlf,htf,hkf⟩:=Ws PP.funcs (i:=i) (r:=f.row) (by rw[aau,hf];rfl) rfl;have k0:=hkf 0 (by decide);have k0:cf[ofs]? = some (.string f.nm):=k0;have k1:=hkf 1 (by decide);have k1:cf[ofs+1]? = some f.cv:=k1;have gc1:∀t,(cut (h'.push (.cells [] 50)) h'.next t).get b1=some (.cells [p.gv,p.fv,pm p.main,pm p.params] 25):=λt=>by rw[QO l1,zD l1];exact g1
  have gcf:∀t,(cut (h'.push (.cells [] 50)) h'.next t).get bf=some (.cells cf tf):=λt=>by rw[QO hbf,zD hbf];exact hgf
  have fvn':=wL (s.p 2);simp only[EE,nth,↓xg,zo,vZ,Yd,zfX,Tn,yZ,NT,uB,FI,FJ,g1,g3,fvn,fl,hc,hif,hgf,k0,k1,gc1,gcf];refine C8 (bz:=56) (λr v x k new h a b c d=>zf1 r v x k new h a b c d) (F.code.old (Old.push _ _)) (by decide) (r8 _) ?_ (by rw[aav];have:=F.ru;omega) s.base.Fx (aa6 _) ?_
  ·exact N7 _
  ·intro v h6 W e6 r6;have s6:=za4 W (r8 _) e6 r6 s;have g3:=(s6.p 1).get;obtain⟨wa,wl,wc,rfl⟩:=W.shape;have s7:=s6.push (.cells [.string f.nm,.slice wa wl wc] 47);have hgl:gs.length=i:=by have:=congrArg List.length hal;simp at this;omega
   obtain⟨b',c',h8,a1,s8⟩:=YD (s7.p 4) (LB gs) [.string f.nm,.slice wa wl wc] rfl (by decide) 40 (by rw[aav];omega);rw[aav]at a1 s8
   have hap:∀r,zP pu .append [23,23] r [fv,.slice (some ⟨h6.next,0,none⟩) 1 3] (h6.push (.cells [.string f.nm,.slice wa wl wc] 47))=some (.slice (some ⟨b',0,none⟩) (gs.length+1) c',h8):=λr=>by
    rw[zfZ r _ _ 1 [.string f.nm,.slice wa wl wc] _ rfl (by simp only[vW,zv];rfl) rfl rfl];exact a1
   unfold FH;simp only[EE,zf6,Pw,Pz,yZ,fvn',hap];refine z9 (s8.p 3) (by simp) rfl λh9 s9=>?_;simp only[inc (show i<4611686018427387904 by omega)];refine⟨p.funcs.length-(i+1),by omega,i+1,.slice (some ⟨b',0,none⟩) (gs.length+1) c',gs++[⟨f.nm,.slice wa wl wc,f.code⟩],by omega,rfl,rfl,?_,?_⟩
   ·unfold Alike at hal ⊢;rw[abX,hal,acx,hf];simp
   ·rw[abX,abX];have s10:=BD (A:=fnP ⟨f.nm,.slice wa wl wc,f.code⟩) (s9.f [3,5]);exact s10.k [1,4,2,0,5,6]
 ·have e:i=p.funcs.length:=by omega
  subst e;rw[acd]at hal;have fn1:=wL (s.p 2);have fc1:=qV (s.p 2);simp only[EE,nth,Nat.reduceAdd,zN,zo,vZ,Um,S7,yZ,g1,g3,fvn,fl,hc];refine z9 (s.p 4) (by simp) (by simp[fc1];exact⟨rfl,rfl,rfl⟩) λh9 s9=>?_;have g9:=s9.get;simp only[EE,zb,Nat.reduceAdd,zN,Um,g9];refine⟨⟨.slice va vl vc,p.globals,fv,gs,p.main,p.params⟩,rfl,rfl,rfl,rfl,hal,?_⟩;exact Sat.close (s9.k [2,3,4])
end
end Go.Ac
namespace Go.Am
open Go.Ai Go.Proofs Go.Proofs.Tryz
noncomputable abbrev zz:=prog
abbrev VK:=aaa->za->Prop
abbrev LK:=List aaa->za->Prop
abbrev ci(n:Int):Operand := .const (pm n)
abbrev fn(n:Nat):aaa := .func (.func n) #[] #[]
variable {h:za}{t0 t1 t2 t3 t4 t5 t6:aaa}{R:VK}
def qs:FuncId->Nat:=λg=>[0].getD g 0
theorem mixed:prog.follows .mixedOrders=true:=ab4 Tryz.checked
theorem zT{f:FuncId}{args:List aaa}{X:Prop}(e:Rx zz (bJ zz qs) 200 f args h R=X)(hw:X):DC zz f args h R:=VQ mixed (q:=qs) (n:=200) (Eq.mpr e hw)
def rK:=λc (R:VK) d (e:LK) f (a:za)=>
 opt (pk c f (.bool false)) λg=>CD g (λb=>rv [.bool false] a R)
 (λb=>b [nth d 0] a)
 (λh i=>e [nth h 0] i)
def rL:=λa (R:VK) c (d:LK) e (b:za)=>
 zg a true (zh .gtr 2 63 e 1024) b (rK a R c d) b
def rM:=λa (R:VK) d (e:LK) f (c:za)=>
 zg a true (ze zz 50 f 6) c (λg b=>zg a true (zd zz 2 g b) b (rL a R d e) b) c
def rN:=λa b (R:VK) (e:LK) f (c:za)=>
 GD a true (λg=>g (nth b 1) c) (λh d=>zg a true (zJ zz 45 f h) d (rM a R b e) d) c
def rO:=λa d (R:VK) (e:LK) f (c:za)=>
 zg a true (ze zz 47 f 1) c (λg b=>zg a true (zd zz 45 g b) b (rN a d R e) b) c
def rP:=λa d e (R:VK) (f:LK) g (b:za)=>
 GD a true (λh=>h (nth d 1) b) (λi c=>zg a true (zJ zz 23 g i) c (rO a e R f) c) b
def rQ:=λd (a:za) e f (R:VK) (g:LK)=>
 zt 25 d 1 23 a λh=>opt (zJ zz 23 h (nth e 1)) λi=>zt 47 i 1 45 a λj=>opt (zJ zz 45 j (nth f 1)) λk=>zt 50 k 0 3 a λl=>opt (zh .eql 3 51 l 23) λb=>zg b true (ze zz 25 d 1) a (λm c=>zg b true (zd zz 23 m c) c (rP b e f R g) c) a
def D8:=λa (b:LK) c (d:za)=>
 opt (zh .add 3 40 (nth a 1) 1) λe=>b [nth c 0,e] d
def M8:=λc d (g:LK) (R:VK) a (b:za) (h:LK)=>
 zt 25 c 1 23 b λi=>opt (zJ zz 23 i (nth d 1)) λj=>zt 47 j 1 45 b λk=>yp (v8 45 k b) λl e=>opt (yz .lss 3 31 38 (nth a 1) l) λm=>CD m (λf=>f [] e)
 (λf=>g [nth a 0] e)
 (λo n=>BK (rQ c n d a R)
 (D8 a h))
def tO:=λc (a:za) b (R:VK) (f:LK)=>
 zt 25 c 1 23 a λg=>opt (zJ zz 23 g (nth b 1)) λh=>zt 47 h 1 45 a λi=>yp (v8 45 i a) λj d=>opt (zh .gtr 3 29 j 80) λk=>CD k (λe=>rv [.bool false] d R)
 (λe=>e [nth b 0] d)
 (λl m=>BK (λn=>LP (M8 c b n R)
 [nth l 0,pm 0] m)
 (λo p=>f [nth o 0] p))
def Gn:=λa (b:LK) c (d:za)=>
 opt (zh .add 3 21 (nth a 1) 1) λe=>b [nth c 0,e] d
def Gp:=λb (f:LK) (R:VK) a (c:za) (g:LK)=>
 zt 25 b 1 23 c λh=>yp (v8 23 h c) λi d=>opt (yz .lss 3 16 19 (nth a 1) i) λj=>CD j (λe=>e [] d)
 (λe=>f [nth a 0] d)
 (λl k=>BK (tO b k a R)
 (Gn a g))
def tP:=λd (a:za) b (R:VK) (e:LK)=>
 zt 25 d 0 22 a λf=>vx 22 f (nth b 1) 3 a λg=>opt (zh .gtr 3 77 g 1024) λh=>CD h (λc=>rv [.bool false] a R)
 (λc=>c [nth b 0] a)
 (λi j=>e [nth i 0] j)
def Gq:=λa (b:LK) c (d:za)=>
 opt (zh .add 3 71 (nth a 1) 1) λe=>b [nth c 0,e] d
def Gr:=λb (f:LK) (R:VK) a (c:za) (g:LK)=>
 zt 25 b 0 22 c λh=>yp (v8 22 h c) λi d=>opt (yz .lss 3 66 69 (nth a 1) i) λj=>CD j (λe=>e [] d)
 (λe=>f [nth a 0] d)
 (λl k=>BK (tP b k a R)
 (Gq a g))
def Gs:=λa (R:VK) b (c:za)=>
 BK (λd=>LP (Gp a d R)
 [nth b 0,pm 0] c)
 (λe f=>BK (λg=>LP (Gr a g R)
 [nth e 0,pm 0] f)
 (λi h=>rv [.bool true] h R))
def cW:=λa (R:VK) e f (b:za)=>
 zg a false (zh .gtr 3 13 f 8) b (λg c=>opt (pk a (.bool true) g) λh=>CD h (λd=>rv [.bool false] c R)
 (λd=>d [.bool false] c)
 (Gs e R)) b
def cX:=λa (R:VK) d e (b:za)=>
 zg a false (zd zz 22 e b) b (λf c=>GD a false (λg=>yp (v8 22 f c) λh i=>g h i) (cW a R d) c) b
def Sm:=λ(h:za) b (R:VK)=>
 opt (nb [b] (some (Value.cells b).toList)) λf=>nw h f 25 λa c=>zt 25 a 1 23 c λg=>yp (v8 23 g c) λi d=>opt (zh .gtr 3 8 i 8) λe=>zg e false (ze zz 25 a 0) d (cX e R a) d
theorem Gt(hw:Sm h t0 R):DC zz 7 [t0] h R:=zT (by kernel_rfl) hw
def sB:=λd b (a:za) e (R:VK) (f:LK)=>
 vx 30 d (nth b 1) 85 a λg=>vx 30 e (nth b 1) 85 a λh=>opt (yz .neq 85 32 36 g h) λi=>CD i (λc=>rv [.bool false] a R)
 (λc=>c [nth b 0] a)
 (λj k=>f [nth j 0] k)
def sC:=λa (b:LK) c (d:za)=>
 opt (zh .add 3 27 (nth a 1) 1) λe=>b [nth c 0,e] d
def sD:=λb (e:LK) f (R:VK) a (g:za) (h:LK)=>
 yp (v8 30 b g) λi c=>opt (yz .lss 3 23 25 (nth a 1) i) λj=>CD j (λd=>d [] c)
 (λd=>e [nth a 0] c)
 (λl k=>BK (sB b a k f R)
 (sC a h))
def gI:=λc (R:VK) d e f (a:za)=>
 opt (pk c (.bool true) f) λg=>CD g (λb=>rv [.bool false] a R)
 (λb=>b [.bool false] a)
 (λh i=>BK (λj=>LP (sD d j e R)
 [nth h 0,pm 0] i)
 (λl k=>rv [.bool true] k R))
def gJ:=λa e b (R:VK) f g h (c:za)=>
 zg a true (yz .neq 3 17 19 e h) c (λi d=>zg b false (pk a i (.bool false)) d (gI b R f g) d) c
def gK:=λa b e (R:VK) f g (c:za)=>
 GD a true (λh=>h b c) (λi d=>GD a true (λj=>yp (v8 30 i d) λk l=>j k l) (gJ a g e R f b) d) c
def gL:=λb e f (R:VK) a (c:za)=>
 GD a true (λg=>g b c) (λh d=>GD a true (λi=>yp (v8 30 h d) λj k=>i j k) (gK a e f R b) d) c
def FM:=λ(h:za) b c f (R:VK)=>
 yp (v8 30 b h) λg i=>yp (v8 30 c i) λj d=>opt (yz .gtr 3 9 11 g j) λa=>GD a false (λk=>k f d) (λl e=>GD a false (λm=>m l e) (gL b c a R) e) d
theorem FO(hw:FM h t0 t1 t2 R):DC zz 16 [t0,t1,t2] h R:=zT (by kernel_rfl) hw
def Gd:=λb d (R:VK) e (c:za)=>
 GD b true (λf=>zq zz (fn 16) [d,e,.bool true] c (λa g=>f a g)) (λa h=>opt (pk b a (.bool false)) λi=>rv [i] h R) c
def Ge:=λa d (R:VK) e (c:za)=>
 zg a true (ze zz 33 d 2) c (λf b=>zg a true (zd zz 30 f b) b (Gd a e R) b) c
def Gf:=λd e f (R:VK) g (c:za)=>
 opt (pk d g (.bool false)) λa=>zg a true (ze zz 33 e 2) c (λh b=>zg a true (zd zz 30 h b) b (Ge a f R) b) c
def Gg:=λa d e f (R:VK) g (b:za)=>
 zg a true (zd zz 2 g b) b (λh c=>zg a true (yz .eql 2 12 14 d h) c (Gf a e f R) c) b
def Gh:=λa c e (R:VK) f (b:za)=>
 zg a true (zd zz 2 f b) b (λg d=>zg a true (ze zz 33 c 1) d (Gg a g e c R) d) b
def Se:=λ(h:za) c d (R:VK)=>
 opt (nb [c] (some (Value.cells c).toList)) λg=>nw h g 33 λb i=>opt (nb [d] (some (Value.cells d).toList)) λj=>nw i j 33 λe a=>zt 33 b 0 3 a λk=>zt 33 e 0 3 a λl=>opt (yz .eql 3 6 8 k l) λf=>zg f true (ze zz 33 b 1) a (Gh f e b R) a
theorem O9(hw:Se h t0 t1 R):DC zz 12 [t0,t1] h R:=zT (by kernel_rfl) hw
def Cr:=λd (a:za) b e (R:VK) (f:LK)=>
 zt 33 d 3 31 a λg=>vx 31 g (nth b 1) 80 a λh=>zt 33 e 3 31 a λi=>vx 31 i (nth b 1) 80 a λj=>opt (yz .neq 80 31 36 h j) λk=>CD k (λc=>rv [.bool false] a R)
 (λc=>c [nth b 0] a)
 (λl m=>f [nth l 0] m)
def Cs:=λa (b:LK) c (d:za)=>
 opt (zh .add 3 25 (nth a 1) 1) λe=>b [nth c 0,e] d
def Ct:=λb (f:LK) g (R:VK) a (c:za) (h:LK)=>
 zt 33 b 3 31 c λi=>yp (v8 31 i c) λj d=>opt (yz .lss 3 20 23 (nth a 1) j) λk=>CD k (λe=>e [] d)
 (λe=>f [nth a 0] d)
 (λm l=>BK (Cr b l a g R)
 (Cs a h))
def Cu:=λc (R:VK) d e f (a:za)=>
 opt (pk c (.bool true) f) λg=>CD g (λb=>rv [.bool false] a R)
 (λb=>b [.bool false] a)
 (λh i=>BK (λj=>LP (Ct d j e R)
 [nth h 0,pm 0] i)
 (λl k=>rv [.bool true] k R))
def Cv:=λa e (R:VK) f g h (c:za)=>
 GD a false (λi=>yp (v8 31 h c) λb j=>i b j) (λb d=>zg a false (yz .neq 3 14 17 e b) d (Cu a R f g) d) c
def Cw:=λa c (R:VK) e f (d:za)=>
 zg a false (ze zz 33 c 3) d (λg b=>zg a false (zd zz 31 g b) b (Cv a f R e c) b) d
def Cx:=λa d (R:VK) e f (b:za)=>
 zg a false (zd zz 31 f b) b (λg c=>GD a false (λh=>yp (v8 31 g c) λi j=>h i j) (Cw a d R e) c) b
def ML:=λ(h:za) c d (R:VK)=>
 opt (nb [c] (some (Value.cells c).toList)) λg=>nw h g 33 λb i=>opt (nb [d] (some (Value.cells d).toList)) λj=>nw i j 33 λe a=>zt 33 b 0 3 a λk=>zt 33 e 0 3 a λl=>opt (yz .neq 3 7 9 k l) λf=>zg f false (ze zz 33 b 3) a (Cx f e R b) a
theorem IH(hw:ML h t0 t1 R):DC zz 13 [t0,t1] h R:=zT (by kernel_rfl) hw
end Go.Am
namespace Go.Ai
open Go.Ai Go.Proofs
noncomputable def TP:Array Field:=match Program.underlying pu 80 with|some (.struct f)=>f|_ => #[]
noncomputable def TQ:Array Field:=match Program.underlying pu 85 with|some (.struct f)=>f|_ => #[]
theorem zfV:FcN 80 3:=Wq (by kernel_rfl) (by kernel_rfl)
theorem zfW:FcN 85 2:=Wq (by kernel_rfl) (by kernel_rfl)
theorem zgB:Mx 30 2:=λb o l c k i=>vA (e:=85) (by kernel_rfl) (by kernel_rfl)
theorem zgC:Mx 31 3:=λb o l c k i=>vA (e:=80) (by kernel_rfl) (by kernel_rfl)
theorem LR:Rz 30:=λr a n c h=>zG (by kernel_rfl)
theorem LU:Rz 31:=λr a n c h=>zG (by kernel_rfl)
theorem zeN(x y:Operand)(a0:Int)(a1:Int)(a2:Int)(b0:Int)(b1:Int)(b2:Int):zS pu .neq 80 x y (.agg #[(pm a0),(pm a1),(pm a2)]) (.agg #[(pm b0),(pm b1),(pm b2)])=some (.bool (!((a0 == b0)&&((a1 == b1)&&((a2 == b2)))))):=(WJ (fs:=TP) (r:=(a0 == b0)&&((a1 == b1)&&((a2 == b2)))) (by kernel_rfl) (by kernel_rfl) (by kernel_rfl) rfl rfl (Eq.trans (b:=(cond (a0 == b0) (cond (a1 == b1) (cond (a2 == b2) (some true) (some false)) (some false)) (some false))) (by kernel_rfl) (by cases (a0 == b0) <;> cases (a1 == b1) <;> cases (a2 == b2) <;> rfl))).2
theorem zeO(x y:Operand)(a0:Int)(a1:Int)(b0:Int)(b1:Int):zS pu .neq 85 x y (.agg #[(pm a0),(pm a1)]) (.agg #[(pm b0),(pm b1)])=some (.bool (!((a0 == b0)&&((a1 == b1))))):=(WJ (fs:=TQ) (r:=(a0 == b0)&&((a1 == b1))) (by kernel_rfl) (by kernel_rfl) (by kernel_rfl) rfl rfl (Eq.trans (b:=(cond (a0 == b0) (cond (a1 == b1) (some true) (some false)) (some false))) (by kernel_rfl) (by cases (a0 == b0) <;> cases (a1 == b1) <;> rfl))).2
end Go.Ai
namespace Go.Am
open Go.Ai Go.Proofs
open Go.Rtl (zl zE Old inc yB xr)
open Go.As (YC)
open Go.Rm (qG vQ uF Rd Rd.of Rd.at)
theorem zaR{P:Program}{f:FuncId}{args:List aaa}{h:za}(wf:eH h)(d:DC P f args h.lock (λv _=>∃B,v=.bool B)):∃B,xC P f args h (.bool B):=by
 obtain⟨v,h1,⟨B,rfl⟩,_,t⟩:=d wf.lock;exact⟨B,rfl,t.mono λv h1 e=>e.1⟩
section
variable {h:za}{av bv:aaa}
theorem zgF{h:za}{sv:aaa}{l:List (Int×Int)}(S:zE h sv 2 (l.map qG))(r:TypeId)(h':za):zP pu .len [30] r [sv] h'=some (pm l.length,h'):=by
 rcases S with⟨rfl,e⟩|⟨b,off,cp,rfl,_⟩
 ·have:l=[]:=by simpa using e
  subst this;simp only[LR,aaC]
 ·simp only[LR,aav]
theorem zgG{h:za}{sv:aaa}{l:List (Int×Int×Int)}(S:zE h sv 3 (l.map vQ))(r:TypeId)(h':za):zP pu .len [31] r [sv] h'=some (pm l.length,h'):=by
 rcases S with⟨rfl,e⟩|⟨b,off,cp,rfl,_⟩
 ·have:l=[]:=by simpa using e
  subst this;simp only[LU,aaC]
 ·simp only[LU,aav]
theorem On{α:Type}{a b:List α}(p:a <+: b):a.length<=b.length:=p.length_le
theorem zch{α:Type}{a b:List α}(p:a <+: b){i:Nat}{x:α}(h:a[i]? = some x):b[i]? = some x:=by
 obtain⟨c,rfl⟩:=p
 have hi:i<a.length:=by
  rcases aax i a.length with q|q
  ·exact q
  ·rw[aak q]at h;cases h
 rw[aa4 hi];exact h
theorem TF{a b:List (Int×Int)}{all:Bool}(A:zE h av 2 (a.map qG))(B:zE h bv 2 (b.map qG))(hl:a.length<4611686018427387904)(p:a <+: b)(e:all=true->a=b):xC pu 16 [av,bv,.bool all] h (.bool true):=by
 apply yB;replace A:=A.lock;replace B:=B.lock;generalize h.lock=L at A B;apply FO;unfold FM;have an:=A.kY;have bn:=B.kY;have al:=zgF A 3;have bl:=zgF B 3;have c1:¬(a.length:Int)>(b.length:Int):=by have:=On p;omega
 have rest:gI (.bool false) (λv _=>v=.bool true) av bv (.bool false) L:=by
  simp only[EE,nth,↓xg,gI];refine qQ (λm vs h'=>∃(i:Nat),i<=a.length/\m=a.length-i/\vs=[.bool false,pm (i:Nat)]/\h'=L) a.length ⟨0,aaX _,rfl,rfl,rfl⟩ ?_;rintro m vs h' ⟨i,hi,rfl,rfl,rfl⟩;unfold sD;by_cases hc:(i:Int)<(a.length:Int)
  ·obtain⟨x,hx⟩:∃x,a[i]? = some x:=⟨_,aac (by omega)⟩;have hy:=zch p hx;have h0:(0:Int)<=i:=by omega
   have hc2:(i:Int)<(b.length:Int):=by have:=On p;omega
   obtain⟨b1,o1,c1',t1,⟨off1,cp1,rfl,rfl⟩,hi1,hb1,hg1,hl1,ht1,_⟩:=A.spot (i:=i) (r:=qG x) (by rw[aau,hx];rfl) rfl;obtain⟨b2,o2,c2',t2,⟨off2,cp2,rfl,rfl⟩,hi2,hb2,hg2,hl2,ht2,_⟩:=B.spot (i:=i) (r:=qG x) (by rw[aau,hy];rfl) rfl;rw[aav]at *
   unfold qG at ht1 ht2;simp only[EE,nth,↓xg,zN,abt,zfW,zgB,LR,zeO,sB,sC,hc,hc2,h0,hg1,hl1,ht1,hg2,hl2,ht2,aaw,inc (show i<4611686018427387904 by omega),abt,Bool.and_self];exact⟨a.length-(i+1),by omega,i+1,by omega,rfl,rfl⟩
  ·simp only[EE,nth,hc,an,al]
 cases all with
 |false=>
  simp only[EE,gJ,gK,gL,an,bn,al,bl,c1];exact rest
 |true=>
  have e:=e rfl;subst e;simp only[EE,gJ,gK,gL,an,bn,al,bl,c1];exact rest
end
section
variable {h:za}{k1 e1 s1 k2 e2 s2:Int}{ev1 Ix ev2 lk2:aaa}
abbrev vz(k e:Int)(ev lk:aaa)(s:Int):wQ := .cells [pm k,pm e,ev,lk,pm s] 33
theorem Mj{a b:List (Int×Int)}(A:zE h ev1 2 (a.map qG))(B:zE h ev2 2 (b.map qG))(hl:a.length<4611686018427387904)(hk:k1=k2)(he:e1=e2)(ha:a=b)(n1:yu Ix=false)(n2:yu lk2=false):xC pu 12 [YC k1 e1 ev1 Ix s1,YC k2 e2 ev2 lk2 s2] h (.bool true):=by
 apply yB;replace A:=A.lock;replace B:=B.lock;generalize h.lock=L at A B;apply YG;intro wf;have s0:Sat (.of L) L []:=Sat.self wf.2;have RA:Rd (.of L) (zE · ev1 2 (a.map qG)):=Rd.of (yE.uf L) A λh' o=>A.old o;have RB:Rd (.of L) (zE · ev2 2 (b.map qG)):=Rd.of (yE.uf L) B λh' o=>B.old o;apply O9;unfold Se YC;subst hk he ha;have an:=A.kY;have bn:=B.kY;simp only[EE,Value.cells];refine w8 s0 λba h2 s2=>?_;refine w8 s2 λbb h3 s3=>?_;have g1:=(s3.p 1).get;have g2:=s3.get;simp only[EE,zo,Np,kx,EG,rT,Gd,Ge,Gf,Gg,Gh,g1,g2];refine iS (by simp only[yy,an,bn,aaI];rfl) (TF (RA.at s3) (RB.at s3) hl (abI _) λ_=>rfl) ?_;simp only[EE];rfl
theorem EY{a b:List (Int×Int×Int)}(A:zE h Ix 3 (a.map vQ))(B:zE h lk2 3 (b.map vQ))(hl:a.length<4611686018427387904)(hk:k1=k2)(ha:a=b)(n1:yu ev1=false)(n2:yu ev2=false):xC pu 13 [YC k1 e1 ev1 Ix s1,YC k2 e2 ev2 lk2 s2] h (.bool true):=by
 apply yB;replace A:=A.lock;replace B:=B.lock;generalize h.lock=L at A B;apply YG;intro wf;have s0:Sat (.of L) L []:=Sat.self wf.2;have RA:Rd (.of L) (zE · Ix 3 (a.map vQ)):=Rd.of (yE.uf L) A λh' o=>A.old o;have RB:Rd (.of L) (zE · lk2 3 (b.map vQ)):=Rd.of (yE.uf L) B λh' o=>B.old o;apply IH;unfold ML YC;subst hk ha;have an:=A.kY;have bn:=B.kY;simp only[EE,Value.cells];refine w8 s0 λba h2 s2=>?_;refine w8 s2 λbb h3 s3=>?_;have g1:=(s3.p 1).get;have g2:=s3.get;have al:=zgG (RA.at s3) 3;have bl:=zgG (RB.at s3) 3;have c1:¬ ¬(a.length:Int)=(a.length:Int):=by simp
 simp only[EE,nth,↓xg,zo,GQ,kx,mI,Cu,Cv,Cw,Cx,g1,g2,an,bn,al,bl];refine qQ (λm vs h'=>∃(i:Nat),i<=a.length/\m=a.length-i/\vs=[.bool false,pm (i:Nat)]/\h'=h3) a.length ⟨0,aaX _,rfl,rfl,rfl⟩ ?_;rintro m vs h' ⟨i,hi,rfl,rfl,rfl⟩;unfold Ct;by_cases hc:(i:Int)<(a.length:Int)
 ·obtain⟨x,hx⟩:∃x,a[i]? = some x:=⟨_,aac (by omega)⟩;have h0:(0:Int)<=i:=by omega
  obtain⟨b1,o1,c1',t1,⟨off1,cp1,rfl,rfl⟩,hi1,hb1,hg1,hl1,ht1,_⟩:=(RA.at s3).spot (i:=i) (r:=vQ x) (by rw[aau,hx];rfl) rfl;obtain⟨b2,o2,c2',t2,⟨off2,cp2,rfl,rfl⟩,hi2,hb2,hg2,hl2,ht2,_⟩:=(RB.at s3).spot (i:=i) (r:=vQ x) (by rw[aau,hx];rfl) rfl;rw[aav]at *
  unfold vQ at ht1 ht2;simp only[EE,nth,↓xg,zN,zo,abt,GQ,zfV,mI,zgC,LU,zeN,Cr,Cs,hc,h0,g1,g2,hg1,hl1,ht1,hg2,hl2,ht2,aaw,inc (show i<4611686018427387904 by omega),abt,Bool.and_self];exact⟨a.length-(i+1),by omega,i+1,by omega,rfl,rfl⟩
 ·simp only[EE,nth,zo,GQ,mI,hc,g1,an,al];rfl
end
section
variable {h:za}{p:Go.As.Pg}
open Go.As (Pg wR Z2 Ws Jo Ww Z6 kP)
theorem TM(P:wR h p)(wf:eH h):∃B,xC pu 7 [p.val] h (.bool B):=by
 refine zaR wf ?_;replace P:=P.lock;replace wf:=wf.lock;generalize h.lock=L at P wf;have s0:Sat (.of L) L []:=Sat.self wf.2;have RP:Rd (.of L) (wR · p):=Rd.of (yE.uf L) P λh' o=>P.old o;apply Gt;unfold Sm;have gvn:=P.globals.kY;have gvc:=P.globals.fC;have fvn:=P.funcs.kY;have fvc:=P.funcs.fC;simp only[EE,Value.cells];refine w8 s0 λb5 h2 s2=>?_;have g5:=s2.get;have fl:=Z6 (RP.at s2).funcs 3;have gl:=Ww (RP.at s2).globals 3;by_cases c1:(p.funcs.length:Int)>8
 ·simp only[EE,zo,vZ,yZ,cW,cX,g5,fvn,fl,c1];exact⟨_,rfl⟩
 by_cases c2:(p.globals.length:Int)>8
 ·simp only[EE,zo,w9,vZ,xZ,yZ,cW,cX,g5,gvn,fvn,fl,gl,c1,c2];exact⟨_,rfl⟩
 simp only[EE,nth,↓xg,zo,w9,vZ,xZ,yZ,Gs,cW,cX,g5,gvn,fvn,fl,gl,c1,c2];refine qQ (λm vs h'=>∃(i:Nat) (v0:aaa),i<=p.funcs.length/\m=p.funcs.length-i/\vs=[v0,pm (i:Nat)]/\h'=h2) p.funcs.length ⟨0,_,aaX _,rfl,rfl,rfl⟩ ?_;rintro m vs h' ⟨i,v0,hi,rfl,rfl,rfl⟩;unfold Gp;by_cases hc:(i:Int)<(p.funcs.length:Int)
 ·obtain⟨f,hf⟩:∃f,p.funcs[i]? = some f:=⟨_,aac (by omega)⟩;obtain⟨bf,o,cf,tf,hix,hbf,hgf,hof,htf,hkf⟩:=Ws (RP.at s2).funcs (i:=i) (r:=f.row) (by rw[aau,hf];rfl) rfl;have F:=(RP.at s2).fns f (aaA hf);have cn:=F.code.kY;have cl:=kP F.code 3;have k1:=hkf 1 (by decide);have k1:cf[o+1]? = some f.cv:=k1;have hin:=inc (show i<4611686018427387904 by omega);by_cases d1:(f.code.length:Int)>80
  ·simp only[EE,nth,↓xg,zo,vZ,Yd,yZ,uB,tO,hc,g5,fvn,fl,hix,hgf,k1,cn,cl,d1];exact⟨_,rfl⟩
  simp only[EE,nth,↓xg,zo,vZ,Yd,yZ,uB,tO,Gn,hc,g5,fvn,fl,hix,hgf,k1,cn,cl,d1];refine qQ (λm vs h9=>∃(j:Nat) (v0:aaa),j<=f.code.length/\m=f.code.length-j/\vs=[v0,pm (j:Nat)]/\h9=h') f.code.length ⟨0,_,aaX _,rfl,rfl,rfl⟩ ?_;rintro m vs h9 ⟨j,v1,hj,rfl,rfl,rfl⟩;unfold M8;by_cases hc2:(j:Int)<(f.code.length:Int)
  ·obtain⟨x,hx⟩:∃x,f.code[j]? = some x:=⟨_,aac (by omega)⟩;obtain⟨bi,oi,ci,ti,ha,hbi,hgi,hle,htk,hki⟩:=Z2 F.code (i:=j) (r:=x.row) (by rw[aau,hx];rfl) rfl;have q0:=hki 0 (by decide);have q0:ci[oi]? = some (pm x.op):=q0;have q6:=hki 6 (by decide);have q6:ci[oi+6]? = some (pm x.k):=q6;have hjn:=inc (show j<4611686018427387904 by omega);by_cases e1:x.op=23
   ·by_cases e2:x.k>1024
    ·simp only[EE,nth,↓xg,zo,vZ,Yd,yZ,uB,zf,zX,rK,rL,rM,rN,rO,rP,rQ,hc2,g5,hix,hgf,k1,cn,cl,ha,hgi,q0,q6,e1,e2];exact⟨_,rfl⟩
    ·simp only[EE,nth,↓xg,zo,vZ,Yd,yZ,uB,zf,zX,rK,rL,rM,rN,rO,rP,rQ,D8,hc2,g5,hix,hgf,k1,cn,cl,ha,hgi,q0,q6,e1,e2,hjn];exact⟨f.code.length-(j+1),by omega,j+1,_,by omega,rfl,rfl⟩
   ·simp only[EE,nth,↓xg,zo,vZ,Yd,yZ,uB,zf,rK,rL,rM,rN,rO,rP,rQ,D8,hc2,g5,hix,hgf,k1,cn,cl,ha,hgi,q0,e1,hjn];exact⟨f.code.length-(j+1),by omega,j+1,_,by omega,rfl,rfl⟩
  ·simp only[EE,nth,zo,vZ,Yd,yZ,uB,hc2,g5,hix,hgf,k1,cn,cl,hin];exact⟨p.funcs.length-(i+1),by omega,i+1,_,by omega,rfl,rfl⟩
 simp only[EE,nth,zo,vZ,yZ,hc,g5,fvn,fl];refine qQ (λm vs h9=>∃(i:Nat) (v0:aaa),i<=p.globals.length/\m=p.globals.length-i/\vs=[v0,pm (i:Nat)]/\h9=h') p.globals.length ⟨0,_,aaX _,rfl,rfl,rfl⟩ ?_;rintro m vs h9 ⟨i,v0,hi,rfl,rfl,rfl⟩;unfold Gr;by_cases hc:(i:Int)<(p.globals.length:Int)
 ·obtain⟨z,hz⟩:∃z,p.globals[i]? = some z:=⟨_,aac (by omega)⟩;obtain⟨b11,o11,c11,t11,ix11,lt11,g11,k11⟩:=Jo (RP.at s2).globals hz;have hin:=inc (show i<4611686018427387904 by omega);by_cases d1:z>1024
  ·simp only[EE,nth,↓xg,zo,w9,xZ,tP,hc,g5,gvn,gl,ix11,g11,k11,d1];exact⟨_,rfl⟩
  simp only[EE,nth,↓xg,zo,w9,xZ,tP,Gq,hc,g5,gvn,gl,ix11,g11,k11,d1,hin];exact⟨p.globals.length-(i+1),by omega,i+1,_,by omega,rfl,rfl⟩
 simp only[EE,nth,zo,w9,xZ,hc,g5,gvn,gl];exact⟨_,rfl⟩
end
end Go.Am
namespace Go.Ao
open Go.Ai Go.Proofs
open Go.Rtl (zl zE Old inc yB xr)
open Go.Rm (Rd Rd.of Rd.at)
open Go.As (xY Pg WB wR Ws Z2 Jo Z6 kP Ww)
theorem PC{h:za}{av bv:aaa}{code:List xY}(A:zE h av 7 (code.map xY.row))(B:zE h bv 7 (code.map xY.row))(hl:code.length*56<=140737488351232):xC pu 28 [av,bv] h (.bool true):=by
 apply yB;replace A:=A.lock;replace B:=B.lock;generalize h.lock=L at A B;apply BV;unfold sM;have an:=A.kY;have bn:=B.kY;have al:=kP A 3;have bl:=kP B 3;simp only[EE,nth,↓xg,an,bn,al,bl];refine qQ (λm vs h'=>∃(i:Nat) (v0:aaa),i<=code.length/\m=code.length-i/\vs=[v0,pm (i:Nat)]/\h'=L) code.length ⟨0,_,aaX _,rfl,rfl,rfl⟩ ?_;rintro m vs h' ⟨i,w,hi,rfl,rfl,rfl⟩;unfold lR;by_cases hc:(i:Int)<(code.length:Int)
 ·obtain⟨x,hx⟩:∃x,code[i]? = some x:=⟨_,aac (by omega)⟩;obtain⟨bi,oi,ci,ti,ha,hbi,hgi,hle,htk,hki⟩:=Z2 A (i:=i) (r:=x.row) (by rw[aau,hx];rfl) rfl;obtain⟨bj,oj,cj,tj,ha',hbj,hgj,hle',htk',hkj⟩:=Z2 B (i:=i) (r:=x.row) (by rw[aau,hx];rfl) rfl;have hin:=inc (show i<4611686018427387904 by omega);simp only[EE,nth,↓xg,zN,abt,xx,zeM,lP,lQ,hc,an,al,ha,hgi,hle,htk,ha',hgj,hle',htk',abt,Bool.and_self,hin];exact⟨code.length-(i+1),by omega,i+1,_,by omega,rfl,rfl⟩
 ·simp only[EE,nth,hc,an,al];rfl
theorem Ri{h:za}{p q:Pg}(P:wR h p)(Q:wR h q)(hal:Go.Ac.Alike p.funcs q.funcs)(e1:q.globals=p.globals)(e2:q.main=p.main)(e3:q.params=p.params):xC pu 14 [p.val,q.val] h (.bool true):=by
 apply yB;replace P:=P.lock;replace Q:=Q.lock;generalize h.lock=L at P Q;apply YG;intro wf;apply IL;unfold MX;have s0:Sat (.of L) L []:=Sat.self wf.2;have RP:Rd (.of L) (wR · p):=Rd.of (yE.uf L) P λh' o=>P.old o;have RQ:Rd (.of L) (wR · q):=Rd.of (yE.uf L) Q λh' o=>Q.old o;have gvn:=P.globals.kY;have gvc:=P.globals.fC;have fvn:=P.funcs.kY;have fvc:=P.funcs.fC;have gvn':=Q.globals.kY;have gvc':=Q.globals.fC;have fvn':=Q.funcs.kY;have fvc':=Q.funcs.fC;have hql:q.funcs.length=p.funcs.length:=by have:=congrArg List.length hal;simpa using this
 have hgl:q.globals.length=p.globals.length:=by rw[e1]
 have hp1:=P.PK;have hp2:=P.LJ;simp only[EE,Value.cells];refine w8 s0 λb2 h2 s2=>?_;simp only[EE,zo,jR];refine w8 s2 λb3 h3 s3=>?_;have g3:=s3.get;have g2:=(s3.p 1).get;have P3:=RP.at s3;have Q3:=RQ.at s3;have fl:=Z6 P3.funcs 3;have fl':=Z6 Q3.funcs 3;have gl:=Ww P3.globals 3;have gl':=Ww Q3.globals 3;rw[hql]at fl';rw[hgl]at gl';have hd:∀a:Int,decide (a=a)=true:=λa=>abE rfl;simp only[EE,zo,w9,vZ,xZ,yZ,jR,ku,sU,sV,sW,sX,sY,sZ,ta,td,th,g2,g3,e2,e3,fvn,fvn',gvn,gvn',fl,fl',gl,gl'];unfold sS;simp only[nth,↓xg];refine qQ (λm vs h'=>∃(i:Nat) (v0:aaa),i<=p.globals.length/\m=p.globals.length-i/\vs=[v0,pm (i:Nat)]/\h'=h3) p.globals.length ⟨0,_,aaX _,rfl,rfl,rfl⟩ ?_;rintro m vs h' ⟨i,w,hi,rfl,rfl,rfl⟩;unfold CG;by_cases hc:(i:Int)<(p.globals.length:Int)
 ·obtain⟨z,hz⟩:∃z,p.globals[i]? = some z:=⟨_,aac (by omega)⟩;obtain⟨b11,o11,c11,t11,ix11,lt11,g11,k11⟩:=Jo P3.globals hz;obtain⟨b12,o12,c12,t12,ix12,lt12,g12,k12⟩:=Jo Q3.globals (show q.globals[i]? = some z by rw[e1];exact hz);have hin:=inc (show i<4611686018427387904 by omega);simp only[EE,nth,↓xg,zo,w9,xZ,CE,CF,hc,g2,g3,gvn,gl,ix11,g11,k11,ix12,g12,k12,hin];exact⟨p.globals.length-(i+1),by omega,i+1,_,by omega,rfl,rfl⟩
 simp only[EE,nth,zo,w9,xZ,hc,g2,gvn,gl];refine qQ (λm vs h9=>∃(i:Nat) (v0:aaa),i<=p.funcs.length/\m=p.funcs.length-i/\vs=[v0,pm (i:Nat)]/\h9=h') p.funcs.length ⟨0,_,aaX _,rfl,rfl,rfl⟩ ?_;rintro m vs h9 ⟨i,w,hi,rfl,rfl,rfl⟩;unfold sR;by_cases hc:(i:Int)<(p.funcs.length:Int)
 ·obtain⟨f,hf⟩:∃f,p.funcs[i]? = some f:=⟨_,aac (by omega)⟩;obtain⟨f',hf'⟩:∃f',q.funcs[i]? = some f':=⟨_,aac (by omega)⟩;have ee:=congrArg (λl=>l[i]?) hal;simp only[aau,hf,hf',abn,aab,aag]at ee;obtain⟨en,ec⟩:=ee;obtain⟨bf,o,cf,tf,hix,hbf,hgf,hof,htf,hkf⟩:=Ws P3.funcs (i:=i) (r:=f.row) (by rw[aau,hf];rfl) rfl;obtain⟨bg,o',cg,tg,hix',hbg,hgg,hog,htg,hkg⟩:=Ws Q3.funcs (i:=i) (r:=f'.row) (by rw[aau,hf'];rfl) rfl;have F:=P3.fns f (aaA hf);have F':=Q3.fns f' (aaA hf');have k0:=hkf 0 (by decide);have k0:cf[o]? = some (.string f.nm):=k0;have k1:=hkf 1 (by decide);have k1:cf[o+1]? = some f.cv:=k1;have k0':=hkg 0 (by decide);have k0':cg[o']? = some (.string f'.nm):=k0';rw[en]at k0';have k1':=hkg 1 (by decide);have k1':cg[o'+1]? = some f'.cv:=k1';have cn:=F.code.kY;have cn':=F'.code.kY;have hin:=inc (show i<4611686018427387904 by omega);have hdn:decide (f.nm=f.nm)=true:=abE rfl;simp only[EE,nth,↓xg,zo,abt,vZ,Yd,zfX,yZ,NT,uB,zgW,CI,CJ,CK,CL,CM,sN,sO,hc,g2,g3,fvn,fl,hix,hgf,k0,k1,hix',hgg,k0',k1',abt];refine zhw (by simp only[yy,cn,cn',aaI]) (PC F.code (by rw[<- ec];exact F'.code) F.ru).dc ?_;rintro v h8 ⟨rfl,rfl⟩;simp only[EE,nth,CH,sQ,hin];exact⟨p.funcs.length-(i+1),by omega,i+1,_,by omega,rfl,rfl⟩
 ·simp only[EE,nth,zo,vZ,yZ,hc,g2,fvn,fl];rfl
end Go.Ao
namespace Go.As
open Go.Ai Go.Proofs Go.Mem Go.Rm
def aQ(g:Int->Int)(x:xY):xY:=if x.op=18\/x.op=19\/x.op=20 then {x with l:=g x.l} else x
theorem Fb(g:Int->Int)(x:xY):(aQ g x).op=x.op:=by unfold aQ;split <;> rfl
structure Iz (g:Int->Int) (p q:Pg):Prop where
 code:∀f,Y6 q f=(Y6 p f).map (aQ g)
 globals:q.globals=p.globals
 main:q.main=p.main
theorem Br{g:Int->Int}(hg:∀a b,g a=g b->a=b):∀(xs:List xY) (l n z:Int),Yt (xs.map (aQ g)) (g l) n z=Yt xs l n z
 |[],_,_,_=>rfl
 |x::xs,l,n,z=>by
  show Yt (xs.map (aQ g)) (g l) (n+1) (if (aQ g x).op=20/\(aQ g x).l=g l then n else z)=Yt xs l (n+1) (if x.op=20/\x.l=l then n else z);rw[Br hg]
  congr 1
  by_cases h:x.op=20
  ·have e:(aQ g x).l=g x.l:=by unfold aQ;rw[aai (.inr (.inr h))]
   rw[Fb,e];by_cases h2:x.l=l
   ·rw[aai ⟨h,by rw[h2]⟩,aai ⟨h,h2⟩]
   ·rw[aae (λq=>h2 (hg _ _ q.2)),aae (λq=>h2 q.2)]
  ·rw[aae (λq=>h (by rw[Fb]at q;exact q.1)),aae (λq=>h q.1)]
theorem DK(p:Pg)(f:Nat)(l:Int):ve p f l=Yt (Y6 p f) l 0 0:=by
 unfold ve Y6;cases p.funcs[f]? <;> rfl
section
variable {g:Int->Int}{p q:Pg}
theorem Bs(hg:∀a b,g a=g b->a=b)(h:Iz g p q)(f:Nat)(l:Int):ve q f (g l)=ve p f l:=by
 rw[DK,DK,h.code,Br hg]
theorem Rs(hg:∀a b,g a=g b->a=b)(h:Iz g p q)(lim:Int)(world:List Int)(S:St)(c:Fr)(i:xY):zi q lim world S c (aQ g i)=zi p lim world S c i:=by
 by_cases hj:i.op=18\/i.op=19\/i.op=20
 ·have e:aQ g i = {i with l:=g i.l}:=by unfold aQ;rw[aai hj]
  rw[e];unfold zi;rcases hj with hj|hj|hj
  ·simp only[hj,Bs hg h];rfl
  ·unfold Yh;simp only[hj,Bs hg h];rfl
  ·simp only[hj];simp
 ·have e:aQ g i=i:=by unfold aQ;rw[aae hj]
  have h1:¬i.op=18:=λq=>hj (.inl q);have h2:¬i.op=19:=λq=>hj (.inr (.inl q));rw[e];unfold zi;simp only[aae h1,aae h2]
theorem Mh(hg:∀a b,g a=g b->a=b)(h:Iz g p q)(lim:Int)(world:List Int)(lab:Bool)(fuel:Int)(S:St):aT q lim world lab fuel S=aT p lim world lab fuel S:=by
 unfold aT;cases S.calls.getLast? with
 |none=>rfl
 |some c=>
  simp only[h.code,aav,aau];cases (Y6 p c.f)[c.pt.toNat]? with
  |none=>rfl
  |some i=>simp only[abn,Fb,Rs hg h]
theorem oV(hg:∀a b,g a=g b->a=b)(h:Iz g p q)(lim:Int)(world:List Int)(lab:Bool)(fuel:Int):∀(n:Nat) (S:St),Yz q lim world lab fuel n S=Yz p lim world lab fuel n S
 |0,S=>rfl
 |n+1,S=>by
  have e:dW q lim world lab fuel S=dW p lim world lab fuel S:=by unfold dW;rw[Mh hg h]
  show Yz q lim world lab fuel n (dW q lim world lab fuel S)=Yz p lim world lab fuel n (dW p lim world lab fuel S);rw[e,oV hg h]
theorem Dn(hg:∀a b,g a=g b->a=b)(h:Iz g p q){lim:Int}{args world:List Int}{lab:Bool}{fuel:Int}{A B:St}(a:Ends p lim args world lab fuel A)(b:Ends q lim args world lab fuel B):B=A:=by
 obtain⟨a0,i,rfl⟩:=a;obtain⟨b0,j,rfl⟩:=b
 have es:WV q lim args=WV p lim args:=by
  unfold WV u9;rw[h.globals,h.main]
 rw[es,oV hg h]at b0;rw[es,oV hg h];exact zac _ _ _ _ _ b0 a0
end
end Go.As
namespace Go.Ao
open Go.Ai Go.Proofs
open Go.Mem (wH)
open Go.Rtl (zl zE Old inc yB xr)
open Go.Rm (qG vQ uF Rd Rd.of Rd.at w7 wL qV ua qB yA)
open Go.As (xY Pg St wR qz DY FD zg8 zdr E3 YC zcH RN Oy Iz aQ Dn Yx qO AN Z6 Ww)
open Go.An (PgN zdB zaS)
open Go.Ar (pgP Bp fnP)
open Go.Ac (Lp)
open Go.Am (Mj EY TM)
structure Res where
 k:Int
 x:Int
 ev:List (Int×Int)
 lk:List (Int×Int×Int)
 st:Int
 pk:Int
 e:Int
def ofT(T:St):Res:=⟨T.kind,T.exit,T.ev,T.lk,T.steps,T.jU,0⟩
def Oj:Res:=⟨0,0,[],[],0,0,1⟩
def Out(p:Pg)(lim:Int)(args world:List Int)(fuel:Int)(o:Res):Prop:=(qz p args fuel lim /\ ∃T,Go.As.Ends p lim args world true fuel T/\o=ofT T)\/(¬qz p args fuel lim/\o=Oj)
section
variable {p q:Pg}{lim fuel:Int}{args world:List Int}{o o':Res}
theorem LN(hal:Go.Ac.Alike p.funcs q.funcs)(e1:q.globals=p.globals)(e2:q.main=p.main)(e3:q.params=p.params):Yx q=Yx p:=by
 have hql:q.funcs.length=p.funcs.length:=by have:=congrArg List.length hal;simpa using this
 have hf:∀(r:Pg),r.funcs.all (AN r)=(r.funcs.map λf=>(f.nm,f.code)).all λc=>(!decide (100000<(c.2.length:Int))&&Go.As.m3 r.funcs.length c.2 (Go.As.Ze r.globals c.2 [] false)):=λr=>by
  rw[List.all_map];rfl
 unfold Yx qO;rw[hf q,hf p,hal,e1,e2,e3,hql]
theorem zco(x:xY):aQ id x=x:=by
 unfold aQ;split <;> rfl
theorem zb5(hal:Go.Ac.Alike p.funcs q.funcs)(e1:q.globals=p.globals)(e2:q.main=p.main):Iz id p q:=⟨λk=>by
 have hm:∀l:List xY,l.map (aQ id)=l:=λl=>by
  rw[show aQ id=id from funext zco,List.map_id]
 rw[hm];have ee:=congrArg (λl=>l[k]?) hal;simp only[aau]at ee;unfold Go.As.Y6;cases h1:q.funcs[k]? with
 |none=>
  rw[h1]at ee;cases h2:p.funcs[k]? with
  |none=>rfl
  |some f=>rw[h2]at ee;cases ee
 |some f'=>
  rw[h1]at ee;cases h2:p.funcs[k]? with
  |none=>rw[h2]at ee;cases ee
  |some f=>
   rw[h2]at ee;simp only[abn,aab,aag]at ee;exact ee.2,e1,e2⟩
theorem Ol(hal:Go.Ac.Alike p.funcs q.funcs)(e1:q.globals=p.globals)(e2:q.main=p.main)(e3:q.params=p.params)(a:Out p lim args world fuel o)(b:Out q lim args world fuel o'):o'=o:=by
 have hpl:qz q args fuel lim ↔ qz p args fuel lim:=by unfold qz;rw[LN hal e1 e2 e3,e3]
 rcases a with⟨pa,A,hA,rfl⟩|⟨pa,rfl⟩
 ·rcases b with⟨pb,B,hB,rfl⟩|⟨pb,rfl⟩
  ·rw[Dn (g:=id) (λa b h=>h) (zb5 hal e1 e2) hA hB]
  ·exact absurd (hpl.2 pa) pb
 ·rcases b with⟨pb,B,hB,rfl⟩|⟨pb,rfl⟩
  ·exact absurd (hpl.1 pb) pa
  ·rfl
theorem zce(a:Out p lim args world fuel o)(h:fuel<=1500):o.ev.length<=1000000/\o.lk.length<=1000000:=by
 rcases a with⟨pa,A,hA,rfl⟩|⟨pa,rfl⟩
 ·have:=pa.2.2.1;have fa:=Oy (by omega) hA;show A.ev.length<=_/\A.lk.length<=_;omega
 ·exact⟨by decide,by decide⟩
end
section
variable {h:za}{p:Pg}{av wv:aaa}{args world:List Int}{lim fuel:Int}
def rows(h h':za)(o:Res)(ev lk:aaa):Prop:=Sat (.of h) h' [w7 85 2 ev (o.ev.map qG),w7 80 3 lk (o.lk.map vQ)]
theorem zg9(P:wR h p)(ha:zl h av args)(hw:zl h wv world)(hwl:world.length*8<=2^47):DC pu 9 [p.val,av,wv,pm fuel,pm lim] h (λv h'=>∃o ev lk,Out p lim args world fuel o/\v=.tuple #[YC o.k o.x ev lk o.st,pm o.e]/\rows h h' o ev lk):=by
 refine(zcH P ha hw hwl).mono λv h' r=>?_;by_cases hb:qz p args fuel lim
 ·rw[aai hb]at r;obtain⟨T,ev,lk,hT,rfl,s⟩:=r;exact⟨ofT T,ev,lk,.inl ⟨hb,T,hT,rfl⟩,rfl,s⟩
 ·rw[aae hb]at r;obtain⟨rfl,s⟩:=r;exact⟨Oj,_,_,.inr ⟨hb,rfl⟩,rfl,qB 85 2 (qB 80 3 s)⟩
theorem ze2(P:wR h p)(ha:zl h av args)(hw:zl h wv world)(hwl:world.length*8<=2^47):DC pu 11 [p.val,av,wv,pm fuel] h (λv h'=>∃o,Out p 2147483647 args world fuel o/\v=.tuple #[pm o.pk,pm o.e]/\Sat (.of h) h' []):=by
 refine(RN P ha hw hwl).mono λv h' r=>?_;by_cases hb:qz p args fuel 2147483647
 ·rw[aai hb]at r;obtain⟨T,ev,lk,hT,rfl,s⟩:=r;exact⟨ofT T,.inl ⟨hb,T,hT,rfl⟩,rfl,s.drop.drop⟩
 ·rw[aae hb]at r;obtain⟨rfl,s⟩:=r;exact⟨Oj,.inr ⟨hb,rfl⟩,rfl,s⟩
theorem zdz(P:wR h p)(gn:PgN p)(ha:zl h av args)(hw:zl h wv world)(hwl:world.length*8<=2^47)(hw64:∀z,z∈world->wH z)(ha64:∀z,z∈args->wH z):DC pu 10 [p.val,av,wv,pm fuel,pm lim,.bool false] h (λv h'=>∃o ev lk,Out p lim args world fuel o/\v=.tuple #[YC o.k o.x ev lk o.st,pm o.pk,pm o.e]/\rows h h' o ev lk):=by
 refine(zdB P gn ha hw hwl hw64 ha64).mono λv h' r=>?_;by_cases hb:qz p args fuel lim
 ·rw[aai hb]at r;obtain⟨T,ev,lk,hT,rfl,s⟩:=r;exact⟨ofT T,ev,lk,.inl ⟨hb,T,hT,rfl⟩,rfl,s⟩
 ·rw[aae hb]at r;obtain⟨rfl,s⟩:=r;exact⟨Oj,_,_,.inr ⟨hb,rfl⟩,rfl,qB 85 2 (qB 80 3 s)⟩
theorem zem(P:wR h p)(hn:(p.funcs.length:Int)>8):xC pu 7 [p.val] h (.bool false):=by
 apply yB;replace P:=P.lock;generalize h.lock=L at P;apply YG;intro wf;apply Go.Am.Gt;unfold Go.Am.Sm;have s0:Sat (.of L) L []:=Sat.self wf.2;have RP:Rd (.of L) (wR · p):=Rd.of (yE.uf L) P λh' o=>P.old o;have gvn:=P.globals.kY;have gvc:=P.globals.fC;have fvn:=P.funcs.kY;have fvc:=P.funcs.fC;simp only[EE,Value.cells];refine w8 s0 λb5 h2 s2=>?_;have g5:=s2.get;have fl:=Z6 (RP.at s2).funcs 3;have gl:=Ww (RP.at s2).globals 3;simp only[EE,zo,vZ,yZ,Go.Am.cW,Go.Am.cX,g5,fvn,fl,hn];rfl
end
open Go.Ar (KG)
def yes(v:aaa)(_:za):Prop:=v=.bool true
section
variable {h:za}{p:Pg}{av wv:aaa}{args world:List Int}{lim fuel:Int}
theorem zcq(P:wR h p)(hN:PgN p)(ha:zl h av args)(hw:zl h wv world)(hwl:world.length*8<=2^47)(hw64:∀z,z∈world->wH z)(ha64:∀z,z∈args->wH z)(aw:∀h',Old h h'->xC pu 6 [] h' (.bool true)) :
  DC pu 3 [p.val,av,wv,pm fuel,pm lim] h yes:=by
 apply YG;intro wf;apply D0;unfold Ck;have s0:Sat (.of h) h []:=Sat.self wf.2;have RP:Rd (.of h) (wR · p):=Rd.of (yE.uf h) P λh' o=>P.old o;have RA:Rd (.of h) (zl · av args):=Rd.of (yE.uf h) ha λh' o=>ha.old o;have RW:Rd (.of h) (zl · wv world):=Rd.of (yE.uf h) hw λh' o=>hw.old o;have RQ:Rd (.of h) (λh'=>xC pu 6 [] h' (.bool true)):=λh' b=>aw h' (by obtain⟨a,c,d⟩:=(yE.uf h).old b;exact⟨a,c,d⟩);have gvn:=P.globals.kY;have gvc:=P.globals.fC;have fvn:=P.funcs.kY;have fvc:=P.funcs.fC;have avn:=ha.kY;have wvn:=hw.kY;simp only[EE,Value.cells];refine Ok s0 wf λb5 h2 wf2 s2=>?_;have g2:=s2.get;refine xU (RQ.at s2) ?_;simp only[EE,Nat.reduceAdd,zN,Um,lH,g2]
 have tr:∀(B:Bool),xC pu 7 [p.val] h2 (.bool B)->(B=true->p.funcs.length<=8)->zq pu (.func (.func 7) #[] #[]) [p.val] h2 (λt25 h7=>opt (Vx pu .not t25) λt26=>GD t26 false (λk8=>k8 (pm fuel) h7) (WE t26 yes [.bool false] (pi b5) av wv (pm fuel) (pm lim)) h7):=by
  intro B hB hfew;refine iS (by simp only[yy];rfl) hB ?_;cases B with
  |false=>
   simp only[EE,UM,WE];rfl
  |true=>
  have hfl:=hfew rfl;by_cases c2:fuel>1500
  ·simp only[EE,UM,WE,c2];rfl
  simp only[EE,Nat.reduceAdd,zN,Um,UM,WE,g2,c2];refine EC (by simp only[yy];rfl) (Lp (RP.at s2) (by omega)) ?_;rintro v h3 ⟨q,rfl,e1,e2,e3,hal,s3⟩;have s4:=s2.join s3;have hql:q.funcs.length=p.funcs.length:=by have:=congrArg List.length hal;simpa using this
  have hcode:∀(k:Nat) f',q.funcs[k]? = some f'->∃f,p.funcs[k]? = some f/\f'.code=f.code:=λk f' hf'=>by
   have:=congrArg (λl=>l[k]?) hal;simp only[aau,hf']at this;cases hp:p.funcs[k]? with
   |none=>rw[hp]at this;cases this
   |some f=>
    rw[hp]at this;simp only[abn,aab,aag]at this;exact⟨f,rfl,this.2⟩
  have hqN:PgN q:=λf' hf' x hx=>by
   obtain⟨k,hk,rfl⟩:=abS hf';obtain⟨f,h1,h2⟩:=hcode k _ (aac hk);exact hN f (aaA h1) x (by rw[<- h2];exact hx)
  have RD:∀{h'} {L:List HP},Sat (.of h) h' (pgP q::L)->wR h' q:=λt=>Bp t (by rw[e1];exact P.LJ) (by rw[hql];have:=P.PK;omega) λf' hf'=>by
   obtain⟨k,hk,rfl⟩:=abS hf';obtain⟨f,h1,h2⟩:=hcode k _ (aac hk);rw[h2];exact(P.fns f (aaA h1)).ru
  have s5:Sat (.of h) h3 ([w7 3 1 q.gv (q.globals.map yA),w7 47 2 q.fv (q.funcs.map Go.As.Fn.row),Q0 (q.funcs.map fnP)]++[pt b5 (.cells p.row 25)]):=Sat.open s4;have qgn:=wL s5;have qgc:=qV s5;have qfn:=wL (s5.p 1);have qfc:=qV (s5.p 1);simp only[EE,Value.cells,Tc,lG];refine w8 s4 λb11 h5 s6=>?_;simp only[EE,Nat.reduceAdd,S7];refine z9 s6 (by simp) (by simp[qgc,qfc];exact⟨rfl,rfl⟩) λh6 s7=>?_;have g5:=(s7.p 2).get;simp only[EE,Nat.reduceAdd,zN,Um,g5];refine EC (by simp only[yy,avn,wvn,aaI];rfl) (zg9 (fuel:=fuel) (lim:=lim) (RP.at s7) (RA.at s7) (RW.at s7) hwl) ?_;rintro v h7 ⟨o1,ev1,Ix,O1,rfl,s8⟩;have s9:=s7.join s8;have a1n:=wL s9;have a1c:=qV s9;have k1n:=wL (s9.p 1);have k1c:=qV (s9.p 1);unfold YC;simp only[EE,Value.cells,gi,lF];refine w8 s9 λb12 h8 s10=>?_;simp only[EE,Nat.reduceAdd,Jn];refine z9 s10 (by simp) (by simp[a1c,k1c];exact⟨rfl,rfl,rfl⟩) λh9 s11=>?_;have g11:=(s11.p 3).get;simp only[EE,zb,Nat.reduceAdd,zN,Um,g11];refine EC (by simp only[yy,avn,wvn,aaI];rfl) (zdz (fuel:=fuel) (lim:=lim) (RD (s11.p 4)) hqN (RA.at s11) (RW.at s11) hwl hw64 ha64) ?_;rintro v h10 ⟨o2,ev2,lk2,O2,rfl,s12⟩;have ee:=Ol hal e1 e2 e3 O1 O2;subst ee;have s13:=s11.join s12;have a2n:=wL s13;have a2c:=qV s13;have k2n:=wL (s13.p 1);have k2c:=qV (s13.p 1);unfold YC;simp only[EE,Value.cells,gi,lE,Go.As.dz,Go.As.dC,Go.As.dD];refine w8 s13 λb14 h11 s14=>?_;simp only[EE,Nat.reduceAdd,Jn];refine z9 s14 (by simp) (by simp[a2c,k2c];exact⟨rfl,rfl,rfl⟩) λh12 s15=>?_;have g5:=(s15.p 8).get;simp only[EE,Nat.reduceAdd,zN,Um,g5];refine EC (by simp only[yy,avn,wvn,aaI];rfl) (ze2 (fuel:=fuel) (RP.at s15) (RA.at s15) (RW.at s15) hwl) ?_;rintro v h13 ⟨o3,O3,rfl,s16⟩;have s17:=s15.join s16;have g11:=(s17.p 6).get;simp only[EE,zb,Nat.reduceAdd,zN,Um,lD,g11];refine EC (by simp only[yy,avn,wvn,aaI];rfl) (zdz (fuel:=fuel) (lim:=2147483647) (RD (s17.p 7)) hqN (RA.at s17) (RW.at s17) hwl hw64 ha64) ?_;rintro v h14 ⟨o4,ev4,lk4,O4,rfl,s18⟩;have ee:=Ol hal e1 e2 e3 O3 O4;subst ee;have s19:=s17.join s18;have a4n:=wL s19;have a4c:=qV s19;have k4n:=wL (s19.p 1);have k4c:=qV (s19.p 1);unfold YC;simp only[EE,Value.cells,gi,lC,Go.As.dz,Go.As.dC,Go.As.dD];refine w8 s19 λb19 h15 s20=>?_;simp only[EE,Nat.reduceAdd,Jn];refine z9 s20 (by simp) (by simp[a4c,k4c];exact⟨rfl,rfl,rfl⟩) λh16 s21=>?_;have g14:=(s21.p 3).get;have g12:=(s21.p 6).get;have fa:=zce O2 (by omega);have hd:∀a:Int,decide (a=a)=true:=λa=>abE rfl;have RE1:=ua (s21.p 7) (uF (f:=qG) (λ_=>rfl) _);have RL1:=ua (s21.p 8) (uF (f:=vQ) (λ_=>rfl) _);have RE2:=ua (s21.p 4) (uF (f:=qG) (λ_=>rfl) _);have RL2:=ua (s21.p 5) (uF (f:=vQ) (λ_=>rfl) _);simp only[EE,zb,Nat.reduceAdd,zN,bD,lB,g12,g14];refine iS (by simp only[yy];rfl) (Mj RE1 RE2 (by omega) rfl rfl rfl k1n k2n) ?_;simp only[EE,zb,Nat.reduceAdd,zN,bD,pN,lA,g12,g14];refine iS (by simp only[yy];rfl) (EY RL1 RL2 (by omega) rfl rfl a1n a2n) ?_;have g5:=(s21.p 11).get;have g11:=(s21.p 9).get;simp only[EE,zb,Nat.reduceAdd,zN,zo,Um,mJ,pF,pG,pH,pI,pJ,pK,pL,pM,g12,g14,g5,g11];refine iS (by simp only[yy];rfl) (Ri (RP.at s21) (RD (s21.p 10)) hal e1 e2 e3) ?_;simp only[EE];rfl
 by_cases h8:(p.funcs.length:Int)>8
 ·exact tr false (zem (RP.at s2) h8) (λq=>by cases q)
 ·obtain⟨B,hB⟩:=TM (RP.at s2) wf2;exact tr B hB (λ_=>by omega)
end
end Go.Ao
namespace Go.As
open Go.Ai Go.Proofs
open Go.Rtl (zl zE Old)
theorem absH_lt(w:World)(b:Nat)(o:wQ)(h:(absH pu w).get b=some o):b<(absH pu w).next:=(H7 pu w).bI b o h
theorem c2:Tryz.prog.cellsOf 2=1:=by kernel_rfl
theorem c3:Tryz.prog.cellsOf 3=1:=by kernel_rfl
theorem c9:Tryz.prog.cellsOf 9=1:=by kernel_rfl
theorem c22:Tryz.prog.cellsOf 22=1:=by kernel_rfl
theorem c23:Tryz.prog.cellsOf 23=1:=by kernel_rfl
theorem c25:Tryz.prog.cellsOf 25=4:=by kernel_rfl
theorem c43:Tryz.prog.cellsOf 45=1:=by kernel_rfl
theorem c45:Tryz.prog.cellsOf 47=2:=by kernel_rfl
theorem c50:Tryz.prog.cellsOf 50=7:=by kernel_rfl
theorem y2:Tryz.prog.bytesOf 2=8:=by kernel_rfl
theorem y3:Tryz.prog.bytesOf 3=8:=by kernel_rfl
theorem y45:Tryz.prog.bytesOf 47=40:=by kernel_rfl
theorem y50:Tryz.prog.bytesOf 50=56:=by kernel_rfl
theorem Bw:reachBytes=140737488351232:=rfl
theorem E2{α:Type}{n:Nat}{Q:Nat->α->Prop}(h:∀i,i<n->∃z,Q i z):∃l:List α,l.length=n /\ ∀i z,l[i]? = some z->Q i z:=by
 obtain⟨f,hf⟩:=Classical.axiomOfChoice (r:=λ(i:Fin n) z=>Q i.1 z) λi=>h i.1 i.2;refine⟨List.ofFn f,by simp,λi z hz=>?_⟩;rw[List.getElem?_ofFn]at hz;split at hz
 ·rename_i hi;simp only[aab]at hz;subst hz;exact hf ⟨i,hi⟩
 ·cases hz
theorem HZ{c:List aaa}{n:Nat}{v:aaa}(h:(c.drop n).take 1=[v]):c[n]? = some v:=by
 have:=congrArg (λl=>l[0]?) h;simpa [acE,aaW] using this
section
variable {h:za}(hw:∀b o,h.get b=some o->b<h.next)
include hw
theorem zcm{a:aaa}(r:gG pu h 22 [a]):∃zs,zl h a zs/\zs.length<=17592186043904:=by
 rcases BC Tryz.underlying22 c3 y3 (by decide) r with e|⟨b,off,len,e,hl,hc⟩
 ·simp only[abo,aba]at e;exact⟨[],.inl ⟨e,rfl⟩,aaX _⟩
 ·simp only[abo,aba]at e;subst e;rw[Bw]at hl;by_cases h0:0<len
  ·obtain⟨c,t,hg,hat⟩:=hc h0
   obtain⟨l,e1,e2⟩:=E2 (n:=len) (Q:=λi (z:Int)=>c[off+i]? = some (pm z)) λi hi=>by
    obtain⟨h1,h2⟩:=hat i hi;obtain⟨z,hz,_⟩:=rw_int Tryz.underlying3 h2;rw[abA]at hz;exact⟨z,HZ hz⟩
   refine⟨l,.inr ⟨b,off,0,by rw[e1],λ_=>⟨c,t,hw b _ hg,hg,e2⟩⟩,by omega⟩
  ·have:len=0:=by omega
   subst this;exact⟨[],.inr ⟨b,off,0,rfl,λq=>absurd rfl q⟩,aaX _⟩
omit hw in
theorem ze9{cs:List aaa}(r:gG pu h 50 cs):∃x:xY,cs=x.row/\True:=by
 obtain⟨hl,hf⟩:=fQ Tryz.underlying50 r;rw[c50]at hl
 match cs,hl with
 |[a0,a1,a2,a3,a4,a5,a6],_=>
  have f0:gG pu h 3 (([a0,a1,a2,a3,a4,a5,a6].drop 0).take (Tryz.prog.cellsOf 3)):=hf _ (abl (i:=0) rfl);have f1:gG pu h 3 (([a0,a1,a2,a3,a4,a5,a6].drop 1).take (Tryz.prog.cellsOf 3)):=hf _ (abl (i:=1) rfl);have f2:gG pu h 3 (([a0,a1,a2,a3,a4,a5,a6].drop 2).take (Tryz.prog.cellsOf 3)):=hf _ (abl (i:=2) rfl);have f3:gG pu h 3 (([a0,a1,a2,a3,a4,a5,a6].drop 3).take (Tryz.prog.cellsOf 3)):=hf _ (abl (i:=3) rfl);have f4:gG pu h 3 (([a0,a1,a2,a3,a4,a5,a6].drop 4).take (Tryz.prog.cellsOf 3)):=hf _ (abl (i:=4) rfl);have f5:gG pu h 3 (([a0,a1,a2,a3,a4,a5,a6].drop 5).take (Tryz.prog.cellsOf 3)):=hf _ (abl (i:=5) rfl);have f6:gG pu h 2 (([a0,a1,a2,a3,a4,a5,a6].drop 6).take (Tryz.prog.cellsOf 2)):=hf _ (abl (i:=6) rfl);simp only[c2,c3,aby,acj,aaT,List.take_zero]at f0 f1 f2 f3 f4 f5 f6;obtain⟨z0,e0,_⟩:=rw_int Tryz.underlying3 f0;obtain⟨z1,e1,_⟩:=rw_int Tryz.underlying3 f1;obtain⟨z2,e2,_⟩:=rw_int Tryz.underlying3 f2;obtain⟨z3,e3,_⟩:=rw_int Tryz.underlying3 f3;obtain⟨z4,e4,_⟩:=rw_int Tryz.underlying3 f4;obtain⟨z5,e5,_⟩:=rw_int Tryz.underlying3 f5;obtain⟨z6,e6,_⟩:=rw_int Tryz.underlying2 f6;simp only[abo,aba]at e0 e1 e2 e3 e4 e5 e6;subst e0 e1 e2 e3 e4 e5 e6;exact⟨⟨z0,z1,z2,z3,z4,z5,z6⟩,rfl,trivial⟩
theorem Ov{α:Type}{row:α->List aaa}{ok:α->Prop}{ts te:TypeId}{n bz:Nat}(hu:Tryz.prog.underlying ts=some (.slice te))(hs:Tryz.prog.cellsOf te=n)(hb:Tryz.prog.bytesOf te=bz)(h0n:0<n)(h8:8<=bz)
  (hrow:∀cs,gG pu h te cs->∃x,cs=row x/\ok x) {a:aaa} (r:gG pu h ts [a]):∃l:List α,zE h a n (l.map row)/\l.length*bz<=140737488351232 /\ ∀x,x∈l->ok x:=by
 rcases BC hu hs hb h0n r with e|⟨b,off,len,e,hl,hc⟩
 ·simp only[abo,aba]at e;exact⟨[],.inl ⟨e,rfl⟩,by simp,λx hx=>by cases hx⟩
 ·simp only[abo,aba]at e;subst e;rw[Bw]at hl;by_cases h0:0<len
  ·obtain⟨c,t,hg,hat⟩:=hc h0
   obtain⟨l,e1,e2⟩:=E2 (n:=len) (Q:=λi x=>off+i*n+n<=c.length/\(c.drop (off+i*n)).take n=row x/\ok x) λi hi=>by
    obtain⟨h1,h2⟩:=hat i hi;obtain⟨x,hx,hok⟩:=hrow _ h2;exact⟨x,h1,hx,hok⟩
   refine⟨l,.inr ⟨b,off,0,by rw[aav,e1],λ_=>⟨c,t,hw b _ hg,hg,λi r hr=>?_⟩⟩,?_,λx hx=>?_⟩
   ·rw[aau]at hr;cases hx:l[i]? with
    |none=>rw[hx]at hr;cases hr
    |some x=>
     rw[hx]at hr;simp only[abn,aab]at hr;subst hr;exact⟨(e2 i x hx).1,(e2 i x hx).2.1⟩
   ·rw[e1];exact hl
   ·obtain⟨k,hk,rfl⟩:=abS hx;exact(e2 k _ (aac hk)).2.2
  ·have:len=0:=by omega
   subst this;exact⟨[],.inr ⟨b,off,0,rfl,λq=>absurd rfl q⟩,by simp,λx hx=>by cases hx⟩
end
open Go.Mem (wH)
theorem zdd{z:Int}(h:(Lit.int .i64 z).wf=true):wH z:=by
 have : -9223372036854775808<=z/\z<=9223372036854775807:=by simpa [Lit.wf,IntKind.min,IntKind.max,IntKind.signed,IntKind.bits] using h
 unfold wH;omega
section
variable {h:za}(hw:∀b o,h.get b=some o->b<h.next)
theorem zcl{cs:List aaa}(r:gG pu h 50 cs):∃x:xY,cs=x.row/\wH x.k:=by
 obtain⟨x,e,_⟩:=ze9 r;refine⟨x,e,?_⟩;obtain⟨hl,hf⟩:=fQ Tryz.underlying50 r;have f6:=hf _ (abl (i:=6) rfl);rw[e]at f6;have f6:gG pu h 2 ((x.row.drop 6).take (Tryz.prog.cellsOf 2)):=f6;rw[c2]at f6;obtain⟨z,ez,kz⟩:=rw_int Tryz.underlying2 f6
 have:x.k=z:=by
  have ez:[Value.int .i64 x.k]=[pm z]:=ez;simpa using ez
 rw[this];exact zdd kz
include hw
theorem ze8{cs:List aaa}(r:gG pu h 47 cs):∃f:Fn,cs=f.row/\WB h f /\ ∀x,x∈f.code->wH x.k:=by
 obtain⟨hl,hf⟩:=fQ Tryz.underlying47 r;rw[c45]at hl
 match cs,hl with
 |[a0,a1],_=>
  have f0:gG pu h 9 (([a0,a1].drop 0).take (Tryz.prog.cellsOf 9)):=hf _ (abl (i:=0) rfl);have f1:gG pu h 45 (([a0,a1].drop 1).take (Tryz.prog.cellsOf 45)):=hf _ (abl (i:=1) rfl);simp only[c9,c43,aby,acj,aaT,List.take_zero]at f0 f1;obtain⟨s,e0,_⟩:=Ro Tryz.underlying9 f0;obtain⟨code,C,hc,hi⟩:=Ov hw Tryz.underlying45 c50 y50 (by decide) (by decide) (λcs r=>zcl r) f1;simp only[abo,aba]at e0;subst e0;exact⟨⟨s,a1,code⟩,rfl,⟨C,hc⟩,hi⟩
theorem rd_pg2{cs:List aaa}(r:gG pu h 25 cs):∃p:Pg,cs=p.row/\wR h p/\Go.An.PgN p:=by
 obtain⟨hl,hf⟩:=fQ Tryz.underlying25 r;rw[c25]at hl
 match cs,hl with
 |[a0,a1,a2,a3],_=>
  have f0:gG pu h 22 (([a0,a1,a2,a3].drop 0).take (Tryz.prog.cellsOf 22)):=hf _ (abl (i:=0) rfl);have f1:gG pu h 23 (([a0,a1,a2,a3].drop 1).take (Tryz.prog.cellsOf 23)):=hf _ (abl (i:=1) rfl);have f2:gG pu h 3 (([a0,a1,a2,a3].drop 2).take (Tryz.prog.cellsOf 3)):=hf _ (abl (i:=2) rfl);have f3:gG pu h 3 (([a0,a1,a2,a3].drop 3).take (Tryz.prog.cellsOf 3)):=hf _ (abl (i:=3) rfl);simp only[c3,c22,c23,aby,acj,aaT,List.take_zero]at f0 f1 f2 f3;obtain⟨l,S,hl⟩:=zcm hw f0;obtain⟨fs,C,hc,hi⟩:=Ov hw Tryz.underlying23 c45 y45 (by decide) (by decide) (λcs r=>ze8 hw r) f1;obtain⟨z2,e2,_⟩:=rw_int Tryz.underlying3 f2;obtain⟨z3,e3,_⟩:=rw_int Tryz.underlying3 f3;simp only[abo,aba]at e2 e3;subst e2 e3;exact⟨⟨a0,l,a1,fs,z2,z3⟩,rfl,⟨S,hl,C,by show fs.length*24<=140737488351232;omega,λf hf=>(hi f hf).1⟩,λf hf=>(hi f hf).2⟩
theorem rd_i64s2{a:aaa}(r:gG pu h 26 [a]):∃l:List Int,zl h a l/\l.length*8<=140737488351232 /\ ∀z,z∈l->wH z:=by
 rcases BC Tryz.underlying26 c2 y2 (by decide) r with e|⟨b,off,len,e,hl,hc⟩
 ·simp only[abo,aba]at e;exact⟨[],.inl ⟨e,rfl⟩,aaX _,λz hz=>(by cases hz)⟩
 ·simp only[abo,aba]at e;subst e;rw[Bw]at hl;by_cases h0:0<len
  ·obtain⟨c,t,hg,hat⟩:=hc h0
   obtain⟨l,e1,e2⟩:=E2 (n:=len) (Q:=λi (z:Int)=>c[off+i]? = some (pm z)/\wH z) λi hi=>by
    obtain⟨h1,h2⟩:=hat i hi;obtain⟨z,hz,kz⟩:=rw_int Tryz.underlying2 h2;rw[abA]at hz;exact⟨z,HZ hz,zdd kz⟩
   refine⟨l,.inr ⟨b,off,0,by rw[e1],λ_=>⟨c,t,hw b _ hg,hg,λi z hz=>(e2 i z hz).1⟩⟩,by omega,λz hz=>?_⟩;obtain⟨k,hk,rfl⟩:=abS hz;exact(e2 k _ (aac hk)).2
  ·have:len=0:=by omega
   subst this;exact⟨[],.inr ⟨b,off,0,rfl,λq=>absurd rfl q⟩,aaX _,λz hz=>(by cases hz)⟩
end
end Go.As
namespace Go.Am
open Go.Ai Go.Proofs
def cls:List Nat:=[0,0,1,1,1,1,1,1,1,1,1,1,1,1,1,1,1,1,1,1,1,1,1,1,1,1,1,1,1,1,1,1,1,1,1,1,1,1,1,1,1,1,1,1,1,1,1,1,1,1,1,1,1,1,1,1,1,1,1,1,1,1,1,1,1,1,1,1,1,1,1,1,1,1,1,1,1,1,0,1,1,1,1,1,1,1,1,1,1,1,1,1,1,1,1,1,1,1,1,1,1,1,1,1,1,1,1,1,1,1,1,1,1,1,1,1,1,1,1,1,1,1,1,1,1,1,1,1,1,1,1,1,1,0,0,0,0,0,0,0,0,0,0,0,0,0,0,0,0,0,0,0,0,0,0,0,0,0,0,0,0,0,0,0,0,1]
set_option maxRecDepth 100000 in
theorem fits:XD pu cls=true:=by decide +kernel
set_option maxRecDepth 100000 in
theorem Pr:zfc (run pu cls 4000 (.call 6 []) (Fp 100 []))=true:=by kernel_rfl
theorem zbw(h:za):xC pu 6 [] h (.bool true):=by
 refine⟨rfl,?_⟩;obtain⟨h',he⟩:=zcd Pr;have:=IB (P:=pu) (m:=100) (tabs:=[]) (v := .bool true) (f:=6) rfl (aaJ (by kernel_rfl)) (λx hx=>by cases hx) ((OS fits mixed he).mono (λv h1 q=>q.1)) (h:=h.lock) (λx hx=>by cases hx);exact this.mono (λv h1 q=>q.1)
end Go.Am
namespace Go.Ao
open Go.Ai Go.Proofs
open Go.Mem (wH)
open Go.Rtl (zl)
open Go.As (Pg wR)
theorem runs_law{h:za}{p:Pg}{av wv:aaa}{args world:List Int}{fuel lim:Int}(P:wR h p)(hN:Go.An.PgN p)(ha:zl h av args)(hw:zl h wv world)(hwl:world.length*8<=2^47)(hw64:∀z,z∈world->wH z)(ha64:∀z,z∈args->wH z) :
  DC pu 3 [p.val,av,wv,pm fuel,pm lim] h yes:=zcq P hN ha hw hwl hw64 ha64 λh' e=>Go.Am.zbw h'
end Go.Ao
