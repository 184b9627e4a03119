/- A part of the proof. -/
import Derived.Test.YtfhacoddmpbgnaaGreatDoorTL
import Derived.Test.YtfhacoddmpbgnaaGreatDoorTG
import Derived.Test.YtfhacoddmpbgnaaGreatDoorChecked
import Derived.KernelRfl
import Derived.Test.YtfhacoddmpbgnaaGreatDoorTH
import Derived.Test.YtfhacoddmpbgnaaGreatDoorTI
set_option linter.unusedVariables false
set_option linter.unusedSimpArgs false
set_option maxRecDepth 100000
namespace Go.Rtl
open Go.Ai Go.Proofs
theorem OJ {step:List Value->za->(List Value->za->Prop)->Prop} (Q:Nat->za->Prop) {v:Value} (n:Nat) {h:za} (h0:Q 0 h)
  (hs:∀ i h J,i<=n->Q i h->(∀ h',i < n->Q (i + 1) h'->J [v,.int .i64 ((i + 1:Nat):Int)] h')->step [v,.int .i64 (i:Nat)] h J):LP step [v,.int .i64 0] h:=by
 refine kj (fun m vs h => ∃ i,i<=n/\m=n - i/\vs = [v,.int .i64 (i:Nat)]/\Q i h) n ⟨0,aa0 _,rfl,rfl,h0⟩ ?_
 rintro m vs h ⟨i,hi,rfl,rfl,e⟩
 exact hs i h _ hi e fun h' hlt e'=>⟨n - (i + 1),by omega,i + 1,hlt,rfl,rfl,e'⟩
def Jw (m:List Bool):List Value:=m.map fun b => .bool b
theorem Dv (n:Nat):uJ [.bool false] n=Jw (List.replicate n false):=by
 unfold uJ Jw
 rw [List.map_replicate]
 apply abe
 intro i
 by_cases h:i < n
 ·simp [h,Nat.mod_one]
 ·rw [aaj (by simp;omega),aaj (by simp;omega)]
def nS (l:List Int) (i:Nat) (j:Nat):Bool:=(List.range i).any fun k=>decide (l.getD k 0=(j:Int))
structure SY (lo:za) (bm:Nat) (l:List Int) (regs:Int) (i:Nat) (h:za):Prop where
 old:Old lo h
 met:∃ m:List Bool,m.length=regs.toNat/\h.get bm=some (.cells (Jw m) 4) /\ ∀ j,j < regs.toNat->m[j]? = some (nS l i j)
 pre:∀ k,k < i->Ui l regs k=true
theorem Ho (l:List Int) (j:Nat):nS l 0 j=false:=rfl
theorem Hn (l:List Int) (i j:Nat):nS l (i + 1) j=(nS l i j || decide (l.getD i 0=(j:Int))):=by
 unfold nS
 rw [acr,List.any_append]
 simp
theorem NH (l:List Int) (i:Nat) {z:Int} (hz:l.getD i 0=z) (h0:0<=z):((List.range i).all fun k => !decide (l.getD k 0=l.getD i 0)) = !nS l i z.toNat:=by
 unfold nS
 rw [hz,show ((z.toNat:Nat):Int)=z by omega]
 induction (List.range i) with
 | nil=>rfl
 | cons a t ih=>simp only [aaX,List.any_cons,ih,Bool.not_or]
def vD (f:Fn):Bool:=Wv f && (Qw f.params f.regs && f.code.all (ju f))
section
variable {h:za} {b1:Nat} {f:Fn} {vs:List Value} {B:Bool}
theorem rr7 (F:v8 h f) (hb:b1 < h.next) (hg:h.get b1=some (YA f)) (hB:B=f.code.all (ju f)):dK (.pointer (some ⟨b1,0,none⟩)) (qO B) vs h:=by
 have cn:=F.code.vk
 simp -implicitDefEqProofs only [EE,zC,vK,y9,dK,hg,abA]
 refine zT (by kernel_rfl) (by simp -implicitDefEqProofs only [EE,cn]) (Dx F.code (by have:=F.nO;omega) (fun x hx=>(F.ins x hx).args.vk) rfl (bad:=fun x => !ju f x) fun x hx=>Mu f x F (F.ins x hx) hb hg) ?_
 rintro _ h1 ⟨rfl,rfl⟩
 simp -implicitDefEqProofs only [EE]
 rw [Nb,hB];rfl
theorem rr8 (F:v8 h f) (hro:h.ro<=h.next) (hb:b1 < h.next) (hg:h.get b1=some (YA f)) (h0:¬ f.regs < 0) (h5:¬ 5000 < f.regs) (hB:B=(Qw f.params f.regs && f.code.all (ju f))):dL (.pointer (some ⟨b1,0,none⟩)) (qO B) vs h:=by
 have pn:=F.params.vk
 have pl:=F.params.jM 3
 have mk:=Pv .i64 .i64 f.regs f.regs h (by omega) (Int.le_refl _) (by omega)
 have hne:¬ b1=h.next:=by omega
 simp -implicitDefEqProofs only [EE,↓BK,zC,xr,zj,uK,wF,dL,hg,mk,pn,pl,hb,aa6]
 rw [Dv]
 generalize hH:h.push (.cells (Jw (List.replicate f.regs.toNat false)) 4)=H
 have e:Old h H:=by subst hH;exact Old.push _ _
 have gm:H.get h.next=some (.cells (Jw (List.replicate f.regs.toNat false)) 4):=by subst hH;exact zo
 have nH:H.next=h.next + 1:=by subst hH;rfl
 have rH:H.ro=h.ro:=by subst hH;rfl
 clear hH
 refine OJ (fun i g=>SY h h.next f.params f.regs i g/\g.next=h.next + 1) f.params.length ⟨⟨e,⟨_,by simp,gm,fun j hj=>by rw [Ho];simp [hj]⟩,fun k hk=>absurd hk (acu _)⟩,nH⟩ ?_
 rintro i g J hi ⟨M,ng⟩ hJ
 obtain ⟨m,hm,gm',hmet⟩:=M.met
 have F2:=F.old M.old
 have g1:=M.old.Jl hb hg
 have rg:g.ro<=h.next:=by rw [M.old.ro];exact hro
 rcases aar i f.params.length with hlt | hge
 ·obtain ⟨z,hz,_⟩:=get_some hlt
  obtain ⟨b,o,c,t,ha,hbb,hgt,hco⟩:=F2.params.at hz
  have hlt':(i:Int) < (f.params.length:Int):=by omega
  have hinc:IntKind.wrap .i64 ((i:Int) + 1)=((i + 1:Nat):Int):=inc (by have:=F.tP;omega)
  have hgd:=cS hz
  simp -implicitDefEqProofs only [EE,nth,↓BK,zC,zj,wF,oE,dJ,hlt',ha,hgt,hco,g1]
  refine zi (by kernel_rfl) rfl (Xf z f.regs g) ?_
  by_cases z0:z < 0\/f.regs<=z
  ·rw [wH z0]
   simp -implicitDefEqProofs only [EE,KG,KH,KI]
   have:Qw f.params f.regs=false:=YJ hlt (by unfold Ui;rw [hgd,wH z0];rfl)
   rw [hB,this];rfl
  ·have z1:¬ z < 0:=fun q=>z0 (.inl q)
   have z2:¬ f.regs<=z:=fun q=>z0 (.inr q)
   rw [xD z1 z2]
   have hzl:z.toNat < m.length:=by omega
   have hix:0<=z/\z < ((f.regs.toNat:Nat):Int):=by omega
   have hmz:=hmet z.toNat (by omega)
   have hcell:(Jw m)[z.toNat]? = some (.bool (nS f.params i z.toNat)):=by unfold Jw;rw [aap,hmz];rfl
   have hpar:Ui f.params f.regs i = !nS f.params i z.toNat:=by
    unfold Ui
    rw [hgd,xD z1 z2,aa5]
    have:=NH f.params i hgd (by omega)
    rw [hgd] at this
    exact this
   cases hmb:nS f.params i z.toNat with
   | true=>
     rw [hmb] at hcell hpar
     simp -implicitDefEqProofs only [EE,if_true,zC,Yv,LX,KG,KH,KI,hix,gm',aa6,hcell]
     have:Qw f.params f.regs=false:=YJ hlt hpar
     rw [hB,this];rfl
   | false=>
     rw [hmb] at hcell hpar
     have hlen:z.toNat + 1<=(Jw m).length:=by unfold Jw;rw [aak];omega
     simp -implicitDefEqProofs only [EE,nth,zf,if_true,yU,zC,Yv,Yx,LX,KG,KH,KI,oF,hix,gm',aa6,hcell,hlen,rg,hinc]
     refine hJ _ hlt ⟨⟨?_,⟨m.set z.toNat true,by rw [aa3];exact hm,?_,fun j hj => ?_⟩,fun k hk => ?_⟩,ng⟩
     ·exact ⟨M.old.next,M.old.ro,fun b hb=>by rw [zE (by omega)];exact M.old.get b hb⟩
     ·rw [zM];unfold Jw;rw [acs]
     ·rw [Hn,hgd]
      by_cases hjz:j=z.toNat
      ·subst hjz
       rw [aaT (by omega),show ((z.toNat:Nat):Int)=z by omega]
       simp
      ·rw [abk (fun q=>hjz q.symm),hmet j hj,show decide (z=(j:Int))=false from decide_eq_false (by omega),Bool.or_false]
     ·rcases aar k i with q | q
      ·exact M.pre k q
      ·have:k=i:=by omega
       subst this;exact hpar
 ·have hlt':¬ (i:Int) < (f.params.length:Int):=by omega
  simp -implicitDefEqProofs only [EE,nth,dJ,hlt']
  have hp:Qw f.params f.regs=true:=Uj fun k hk=>M.pre k (by omega)
  exact rr7 F2 (aai hb M.old.next) g1 (by rw [hB,hp,aa5])
end
theorem NN (f:Fn) (h:za) (F:v8 h f):xx Tryz.prog 32 [f.val] h (.bool (vD f)):=by
 apply ki
 replace F:=F.lock
 generalize h.lock=L at F
 apply jO;intro hwf;have hro:=hwf.2
 apply CW
 unfold EC
 have pn:=F.params.vk
 have cn:=F.code.vk
 have F1:=F.old (Old.push L (.cells f.row 45))
 have cl:=F1.code.Qu 3 (L.push (.cells f.row 45))
 rw [aak] at cl
 unfold vD Wv
 by_cases c3:(5000:Int) < f.code.length
 ·simp -implicitDefEqProofs only [EE,↓nw,Value.cells,zC,vK,y9,Zl,kQ,kR,kS,XO,XP,XQ,XR,XS,XT,cn,cl,c3]
  first | rfl | simp [qO,c3]
 by_cases c1:f.regs < 0
 ·simp -implicitDefEqProofs only [EE,↓nw,Value.cells,zC,zj,vK,wF,y9,Zl,kQ,kR,kS,XO,XP,XQ,XR,XS,XT,cn,cl,c3,c1]
  rfl
 by_cases c2:5000 < f.regs
 ·simp -implicitDefEqProofs only [EE,↓nw,Value.cells,zC,zj,vK,wF,y9,Zl,kQ,kR,kS,XO,XP,XQ,XR,XS,XT,cn,cl,c3,c1,c2]
  rfl
 simp -implicitDefEqProofs only [EE,↓nw,Value.cells,zC,zj,vK,wF,ZK,y9,XO,XP,XQ,XR,XS,XT,cn,cl,c3,c1,c2]
 refine zi (by kernel_rfl) rfl (Xf f.entry f.code.length _) ?_
 by_cases O3:f.entry < 0\/(f.code.length:Int)<=f.entry
 ·rw [wH O3]
  simp -implicitDefEqProofs only [EE,Zl,kQ,kR,kS]
  rcases O3 with c4 | c5
  ·simp [qO,c4]
  ·simp [qO,c5]
 have c4:¬ f.entry < 0:=fun q=>O3 (.inl q)
 have c5:¬ (f.code.length:Int)<=f.entry:=fun q=>O3 (.inr q)
 rw [xD c4 c5]
 by_cases c6:f.frame < 0
 ·simp -implicitDefEqProofs only [EE,zC,zj,kH,Zl,kQ,kR,kS,c6]
  simp [qO]
 by_cases c7:65536 < f.frame
 ·simp -implicitDefEqProofs only [EE,zC,zj,kH,Zl,kQ,kR,kS,c6,c7]
  simp [qO]
 simp -implicitDefEqProofs only [EE,zC,zj,kH,Zl,kQ,kR,kS,c6,c7]
 refine rr8 F1 (abd hro) (aaD _) zo c1 c2 ?_
 simp only [c1,c2,c3,c4,c5,decide_false,aaO,aa5]
def uH (p:Pg):Bool:=Qm p && (p.globals.all ZM && p.funcs.all fun f=>vD f && f.code.all (kD p))
section
variable {h:za} {b1:Nat} {p:Pg} {f:Fn} {x:yM} {vs:List Value} {B:Bool}
theorem Tq (P:wQ h p) (F:v8 h f) (hro:h.ro<=h.next) (hb:b1 < h.next) (hg:h.get b1=some (YI p)) {i:Nat} (hx:f.code[i]? = some x) {v0:Value} {J:List Value->za->Prop}
  (hB:kD p x=false->B=false) (hJ:∀ h',kD p x=true->Old h h'->J [v0] h'):JR f.cv [v0,.int .i64 (i:Nat)] h (.pointer (some ⟨b1,0,none⟩)) (qO B) J:=by
 have hm:=mem_of hx
 have I:=F.ins x hm
 have an:=I.args.vk
 have ac:=I.args.gO
 obtain ⟨b,o,c,t,ha,hbb,hgt,hle,htk,_⟩:=F.code.th (i:=i) (r:=x.row) (by rw [aap,hx];rfl) rfl
 have bad:kD p x=false->∀ h',qO B (.bool false) h':=fun q _=>by rw [hB q];rfl
 simp -implicitDefEqProofs only [EE,nth,↓nw,Value.cells,↓BK,zf,if_true,Nat.reduceAdd,yU,zZ,ka,gH,cE,JR,ha,hgt,hle,htk,ac,cE,hro]
 generalize hH:(za.push h _).set h.next _=H
 have e:Old h H:=by subst hH;exact (Old.push h _).set (aah _) _
 have g7:H.get h.next=some (xJ x):=by subst hH;exact zM
 have g1:=e.Jl hb hg
 clear hH
 have PH:=P.old e
 have fn:=PH.funcs.vk
 have fl:=PH.funcs.Jy 3
 rw [aak] at fl
 have gn:=PH.globals.vk
 have gl:=PH.globals.jM 3
 have al:=(I.args.old e).jM 3
 have fin:kD p x=true->J [v0] H:=fun q=>hJ H q e
 have bad':kD p x=false->qO B (.bool false) H:=fun q=>bad q H
 unfold kD eP He at fin bad'
 by_cases c10:x.op=10
 ·have c8:¬ x.op=8:=by omega
  simp -implicitDefEqProofs only [EE,zC,vA,zj,y8,zq,zW,US,UT,UU,g1,g7,fn,fl,c10]
  simp -implicitDefEqProofs only [EE,UR]
  refine qm (by kernel_rfl) rfl (Xf x.sub p.funcs.length H).dc ?_
  rintro _ _ ⟨rfl,rfl⟩
  by_cases s01:x.sub < 0\/(p.funcs.length:Int)<=x.sub
  ·rw [wH s01]
   simp -implicitDefEqProofs only [EE,Yf,Yg,Yh,Yi,Yj,Yk,Yl,Ym]
   exact bad' (by rw [wH s01];simp [c10])
  have s0:¬ x.sub < 0:=fun q=>s01 (.inl q)
  have s1:¬ (p.funcs.length:Int)<=x.sub:=fun q=>s01 (.inr q)
  rw [xD s0 s1]
  obtain ⟨g,hgf,hgm⟩:=get_some (l:=p.funcs) (k:=x.sub.toNat) (by omega)
  obtain ⟨b',o',c',t',ha',hbb',hgt',hle',htk',hk'⟩:=PH.funcs.cC (i:=x.sub.toNat) (r:=g.row) (by rw [aap,hgf];rfl) rfl
  rw [tL s0] at ha'
  have hk1:c'[o' + 1]? = some g.pv:=hk' 1 (by omega)
  have pn:=(PH.fns g hgm).params.vk
  have pl:=(PH.fns g hgm).params.jM 3
  have hpa:Wr p x.sub=g.params.length:=by simp only [Wr,hgf]
  by_cases s2:(g.params.length:Int)=x.args.length
  ·simp -implicitDefEqProofs only [EE,nth,Int.reduceEq,zC,xr,vA,zj,y8,uK,zq,zW,uL,Yn,Yo,Yp,Yq,j8,j9,Za,Zb,Zc,Zd,UO,UP,UQ,Yf,Yg,Yh,Yi,Yj,Yk,Yl,Ym,g1,g7,an,al,ha',hgt',hk1,pn,pl,c10,s2]
   exact fin (by rw [xD s0 s1,hpa];simp [c10,s2])
  ·simp -implicitDefEqProofs only [EE,zC,xr,vA,zj,y8,uK,zW,uL,Yf,Yg,Yh,Yi,Yj,Yk,Yl,Ym,g1,g7,an,al,ha',hgt',hk1,pn,pl,c10,s2]
   exact bad' (by rw [xD s0 s1,hpa];simp [c10,s2])
 by_cases c8:x.op=8
 ·simp -implicitDefEqProofs only [EE,Int.reduceEq,zC,xr,zj,xM,zq,zW,UO,UP,UQ,Yf,Yg,Yh,Yi,Yj,Yk,Yl,Ym,UR,US,UT,UU,g1,g7,gn,gl,c8]
  refine qm (by kernel_rfl) rfl (Xf x.sub p.globals.length H).dc ?_
  rintro _ _ ⟨rfl,rfl⟩
  by_cases s01:x.sub < 0\/(p.globals.length:Int)<=x.sub
  ·rw [wH s01]
   simp -implicitDefEqProofs only [EE,Yn,Yo,Yp,Yq,j8,j9,Za,Zb,Zc,Zd]
   exact bad' (by rw [wH (m:=p.globals.length) s01];simp [c8])
  have s0:¬ x.sub < 0:=fun q=>s01 (.inl q)
  have s1:¬ (p.globals.length:Int)<=x.sub:=fun q=>s01 (.inr q)
  rw [xD s0 s1]
  by_cases s2:x.k < 0
  ·simp -implicitDefEqProofs only [EE,zC,wj,vo,Yn,Yo,Yp,Yq,j8,j9,Za,Zb,Zc,Zd,g7,c8,s2]
   exact bad' (by rw [xD s0 s1];simp [c8,s2])
  obtain ⟨z,hz,_⟩:=get_some (l:=p.globals) (k:=x.sub.toNat) (by omega)
  obtain ⟨b',o',c',t',ha',hbb',hgt',hco'⟩:=PH.globals.at hz
  rw [tL s0] at ha'
  have hgd:=cS hz
  by_cases s3:z < x.k
  ·simp -implicitDefEqProofs only [EE,zC,wj,xr,zj,xM,zW,vo,Yn,Yo,Yp,Yq,j8,j9,Za,Zb,Zc,Zd,g1,g7,ha',hgt',hco',c8,s2,s3]
   exact bad' (by rw [xD s0 s1,hgd];simp [c8,s3])
  ·simp -implicitDefEqProofs only [EE,nth,zC,wj,xr,zj,xM,zW,vo,Yn,Yo,Yp,Yq,j8,j9,Za,Zb,Zc,Zd,g1,g7,ha',hgt',hco',c8,s2,s3]
   exact fin (by rw [xD s0 s1,hgd];simp [c8,s2,s3])
 simp -implicitDefEqProofs only [EE,nth,zC,zj,zq,Yn,Yo,Yp,Yq,j8,j9,Za,Zb,Zc,Zd,UO,UP,UQ,Yf,Yg,Yh,Yi,Yj,Yk,Yl,Ym,UR,US,UT,UU,g7,c10,c8]
 exact fin (by simp [c10,c8])
theorem Tt (P:wQ h p) (hro:h.ro<=h.next) (hb:b1 < h.next) (hg:h.get b1=some (YI p)) (hB:B=p.funcs.all fun f=>vD f && f.code.all (kD p)) :
  JU (.pointer (some ⟨b1,0,none⟩)) (qO B) vs h:=by
 have fn:=P.funcs.vk
 have fl:=P.funcs.Jy 3
 rw [aak] at fl
 simp -implicitDefEqProofs only [EE,↓BK,zC,vA,y8,JU,hg,fn,fl]
 refine XM (lo:=h) p.funcs.length (Dp p.funcs fun f=>vD f && f.code.all (kD p)) (.refl h) ?_
 intro i h2 J hi e2 hq hJ
 have g2:=e2.Jl hb hg
 have P2:=P.old e2
 have hro2:h2.ro<=h2.next:=by rw [e2.ro];exact aaH hro e2.next
 rcases aar i p.funcs.length with hlt | hge
 ·obtain ⟨f,hf,hm⟩:=get_some hlt
  obtain ⟨b,o,c,t,ha,hbb,hgt,hle,htk,_⟩:=P2.funcs.cC (i:=i) (r:=f.row) (by rw [aap,hf];rfl) rfl
  have hlt':(i:Int) < (p.funcs.length:Int):=by omega
  have hinc:IntKind.wrap .i64 ((i:Int) + 1)=((i + 1:Nat):Int):=inc (by have:=P.BQ;omega)
  have F2:=P2.fns f hm
  have pn:=F2.params.vk
  have pc:=F2.params.gO
  have cn:=F2.code.vk
  have cc:=F2.code.gO
  simp -implicitDefEqProofs only [EE,nth,↓nw,Value.cells,↓BK,zf,if_true,Nat.reduceAdd,yU,zZ,Qq,lZ,gJ,ly,JT,hlt',ha,hgt,hle,htk,pc,cc,gJ,hro2]
  generalize hH:(za.push h2 _).set h2.next _=H
  have e3:Old h2 H:=by subst hH;exact (Old.push h2 _).set (aah _) _
  have g5:H.get h2.next=some (YA f):=by subst hH;exact zM
  have n5:h2.next < H.next:=by subst hH;exact aaD _
  have roH:H.ro<=H.next:=by rw [e3.ro];exact aaH hro2 e3.next
  clear hH
  have FH:=F2.old e3
  simp -implicitDefEqProofs only []
  refine zi (by kernel_rfl) (by simp -implicitDefEqProofs only [EE]) (NN f H FH) ?_
  cases hR:vD f with
  | false=>
    simp -implicitDefEqProofs only [EE]
    rw [hB,qR (B:=fun f=>vD f && f.code.all (kD p)) hf (by rw [hR];rfl)];rfl
  | true=>
    have cl:=FH.code.Qu 3
    rw [aak] at cl
    simp -implicitDefEqProofs only [EE,nth,↓BK,zC,vK,y9,lx,g5,cn,cl]
    refine XM (lo:=H) f.code.length (Dp f.code (kD p)) (.refl H) ?_
    intro k h3 J3 hk e4 hq3 hJ3
    have F3:=FH.old e4
    have P3:=P2.old (e3.trans e4)
    have g3:=(e2.trans (e3.trans e4)).Jl hb hg
    have hro3:h3.ro<=h3.next:=by rw [e4.ro];exact aaH roH e4.next
    rcases aar k f.code.length with hlk | hgk
    ·obtain ⟨x,hx,hmx⟩:=get_some hlk
     have hlk':(k:Int) < (f.code.length:Int):=by omega
     have hinc3:IntKind.wrap .i64 ((k:Int) + 1)=((k + 1:Nat):Int):=inc (by have:=F2.nO;omega)
     simp -implicitDefEqProofs only [EE,nth,↓BK,JS,hlk']
     refine Tq P3 F3 hro3 (aai hb (e2.trans (e3.trans e4)).next) g3 hx (fun q => ?_) fun h' q e5 => ?_
     ·rw [hB,qR (B:=fun f=>vD f && f.code.all (kD p)) hf (by rw [qR hx q,acz])]
     ·simp -implicitDefEqProofs only [EE,nth,lu,hinc3]
      exact hJ3 _ hlk (by rw [Wd hx];exact q) (e4.trans e5)
    ·have hlk':¬ (k:Int) < (f.code.length:Int):=by omega
     simp -implicitDefEqProofs only [EE,nth,JS,lz,hlk',hinc]
     refine hJ _ hlt ?_ (e2.trans (e3.trans e4))
     rw [Wd hf,hR,aa5]
     exact qV fun k' hk'=>hq3 k' (by omega)
 ·have hlt':¬ (i:Int) < (p.funcs.length:Int):=by omega
  simp -implicitDefEqProofs only [EE,nth,JT,hlt']
  have:(p.funcs.all fun f=>vD f && f.code.all (kD p))=true:=qV fun k hk=>hq k (by omega)
  rw [hB,this];rfl
theorem Tv (P:wQ h p) (hro:h.ro<=h.next) (hb:b1 < h.next) (hg:h.get b1=some (YI p)) (hB:B=(p.globals.all ZM && p.funcs.all fun f=>vD f && f.code.all (kD p))) :
  JV (.pointer (some ⟨b1,0,none⟩)) (qO B) vs h:=by
 have gn:=P.globals.vk
 have gl:=P.globals.jM 3
 simp -implicitDefEqProofs only [EE,↓BK,zC,xr,xM,JV,hg,gn,gl]
 refine XM (lo:=h) p.globals.length (Dp p.globals ZM) (.refl h) ?_
 intro i h2 J hi e2 hq hJ
 have g2:=e2.Jl hb hg
 have P2:=P.old e2
 rcases aar i p.globals.length with hlt | hge
 ·obtain ⟨z,hz,_⟩:=get_some hlt
  obtain ⟨b,o,c,t,ha,hbb,hgt,hco⟩:=P2.globals.at hz
  have hlt':(i:Int) < (p.globals.length:Int):=by omega
  have hinc:IntKind.wrap .i64 ((i:Int) + 1)=((i + 1:Nat):Int):=inc (by have:=P.tB;omega)
  by_cases z0:z < 0
  ·simp -implicitDefEqProofs only [EE,nth,↓BK,zC,zj,K0,K1,K3,V0,hlt',ha,hgt,hco,z0]
   rw [hB,qR (B:=ZM) hz (by simp [ZM,z0])];rfl
  by_cases z1:65536 < z
  ·simp -implicitDefEqProofs only [EE,nth,↓BK,zC,zj,K0,K1,K3,V0,hlt',ha,hgt,hco,z0,z1]
   rw [hB,qR (B:=ZM) hz (by simp [ZM,z1])];rfl
  simp -implicitDefEqProofs only [EE,nth,↓BK,zC,zj,K0,K1,K3,pB,V0,hlt',ha,hgt,hco,z0,z1,hinc]
  exact hJ _ hlt (by rw [Wd hz];simp only [ZM,z0,z1,decide_false,aaO,acF]) e2
 ·have hlt':¬ (i:Int) < (p.globals.length:Int):=by omega
  simp -implicitDefEqProofs only [EE,nth,V0,hlt']
  have hp:p.globals.all ZM=true:=qV fun k hk=>hq k (by omega)
  exact Tt P2 (by rw [e2.ro];exact aaH hro e2.next) (aai hb e2.next) g2 (by rw [hB,hp,aa5])
end
theorem dr (p:Pg) (h:za) (P:wQ h p):xx Tryz.prog 14 [p.val] h (.bool (uH p)):=by
 apply ki
 replace P:=P.lock
 generalize h.lock=L at P
 apply jO;intro hwf;have hro:=hwf.2
 apply C9
 unfold EU
 have gn:=P.globals.vk
 have fn:=P.funcs.vk
 have P1:=P.old (Old.push L (.cells p.row 25))
 have gl:=P1.globals.jM 3
 have fl:=P1.funcs.Jy 3
 rw [aak] at fl
 simp -implicitDefEqProofs only [EE,↓nw,Value.cells,zC,vA,zj,y8,Xw,fn,fl]
 refine zi (by kernel_rfl) rfl (Xf p.main p.funcs.length _) ?_
 unfold uH Qm
 by_cases c34:p.main < 0\/(p.funcs.length:Int)<=p.main
 ·rw [wH c34]
  simp -implicitDefEqProofs only [EE,X5,X6,X7,X8]
  rcases c34 with c | c
  ·simp [qO,c]
  ·simp [qO,c]
 have c3:¬ p.main < 0:=fun q=>c34 (.inl q)
 have c4:¬ (p.funcs.length:Int)<=p.main:=fun q=>c34 (.inr q)
 rw [xD c3 c4]
 by_cases c2:(100:Int) < p.funcs.length
 ·simp -implicitDefEqProofs only [EE,zC,vA,y8,X5,X6,X7,X8,fn,fl,c2]
  simp [qO]
 by_cases c1:(200:Int) < p.globals.length
 ·simp -implicitDefEqProofs only [EE,zC,xr,vA,xM,y8,X5,X6,X7,X8,gn,fn,gl,fl,c1,c2]
  simp [qO]
 simp -implicitDefEqProofs only [EE,zC,xr,vA,xM,y8,X5,X6,X7,X8,gn,fn,gl,fl,c1,c2]
 refine Tv P1 (abd hro) (aaD _) zo ?_
 simp only [c3,c4,decide_false,aaO,aa5]
theorem NY {x:yM} (h10:¬ x.op=10):Kv x.op=wr x.op:=by
 unfold Kv wr
 simp [h10]
theorem D6 {f:Fn} {x:yM} (h:Zi f x=true):1<=x.op/\x.op<=14:=by
 unfold Zi at h
 repeat' split at h
 all_goals first | omega | (cases h)
theorem Pk {f:Fn} (h0:0<=f.regs) (x:yM):ju f x=Ua f x:=by
 unfold ju Ua Wo sa Vj
 cases hU:(wP x).all fun u=>yp u f.regs with
 | false=>simp
 | true=>
 cases hS:(wu x).all fun s=>yp s f.code.length with
 | false=>simp
 | true=>
 cases hO:Zi f x with
 | false=>
   have:¬ x.op=10:=by intro q;simp [Zi,q] at hO
   simp [this]
 | true=>
 obtain ⟨o1,o2⟩:=D6 hO
 cases h1:Jk x with
 | true=>simp
 | false=>
 cases h2:J5 x with
 | true=>simp
 | false=>
 simp only [o1,o2,decide_true,aaO,aa5,aaZ]
 unfold XB GV Dr
 by_cases h10:x.op=10
 ·have hw:wr x.op=true:=by simp [wr,h10]
  have hn:Kv x.op=false:=by simp [Kv,h10]
  have hwi:zA x=x.d:=by simp [zA,hw]
  rw [hn,hwi,hw]
  by_cases hd:x.d = -1
  ·have a:¬ f.regs <= -1:=by omega
   simp [h10,hd,a]
  ·unfold yp
   by_cases a:x.d < -1
   ·have b:¬ 0<=x.d:=by omega
    simp [h10,hd,a,b]
   ·have b:0<=x.d:=by omega
    by_cases c:x.d < f.regs
    ·have c':¬ f.regs<=x.d:=by omega
     simp [h10,hd,a,b,c,c']
    ·have c':f.regs<=x.d:=by omega
     simp [h10,hd,a,b,c,c']
 ·rw [NY h10]
  cases hw:wr x.op with
  | false=>
    have hwi:zA x = -1:=by simp [zA,hw]
    have a:¬ f.regs <= -1:=by omega
    rw [hwi]
    simp [h10,a]
  | true=>
    have hwi:zA x=x.d:=by simp [zA,hw]
    rw [hwi]
    unfold yp
    by_cases b:0<=x.d
    ·have a:¬ x.d < -1:=by omega
     have a2:¬ x.d = -1:=by omega
     by_cases c:x.d < f.regs
     ·have c':¬ f.regs<=x.d:=by omega
      simp [h10,a,a2,b,c,c']
     ·have c':f.regs<=x.d:=by omega
      simp [h10,a,a2,b,c,c']
    ·by_cases a2:x.d = -1
     ·simp [h10,a2]
     ·have a:x.d < -1:=by omega
      simp [h10,a,a2,b]
theorem Mw (f:Fn):vD f=kG f:=by
 unfold vD kG
 cases hs:Wv f with
 | false=>rfl
 | true=>
   have h0:0<=f.regs:=by
    unfold Wv at hs
    simp only [aac,aat,decide_eq_false_iff_not] at hs
    omega
   rw [show ju f=Ua f from funext fun x=>Pk h0 x]
theorem Ck (p:Pg):uH p=eS p:=by
 unfold uH eS
 rw [show (fun f=>vD f && f.code.all (kD p))=(fun f=>kG f && f.code.all (kD p)) from funext fun f=>by rw [Mw]]
end Go.Rtl
namespace Go.Rm
open Go.Ai Go.Proofs Go.Mem
open Go.Rtl (yM Pg zA)
def isInt (a:V):Bool:=decide (a.k=1) && Kp a
def wZ (a:V):Bool:=decide (a.k=2) && Kp a
def j1 (n:Int):V:=⟨1,n,0⟩
def Xq (b:Bool):V:=if b=true then j1 1 else j1 0
abbrev ZV (n:Int):Int:=IntKind.wrap .i64 n
def rm (f:BitVec 64->BitVec 64->BitVec 64) (a b:Int):Int:=ZV (f (BitVec.ofInt 64 a) (BitVec.ofInt 64 b)).toNat
def ks (op a b:Int):Option V :=
 if op=11 then some (j1 (ZV (a + b))) else if op=12 then some (j1 (ZV (a - b))) else if op=13 then some (j1 (ZV (a * b)))
 else if op=14\/op=15 then (if b=0\/(a = -9223372036854775808/\b = -1) then none else if op=14 then some (j1 (ZV (a.tdiv b))) else some (j1 (a.tmod b)))
 else if op=16 then some (j1 (rm (· &&& ·) a b)) else if op=17 then some (j1 (rm (· ||| ·) a b)) else if op=18 then some (j1 (rm (· ^^^ ·) a b))
 else if op=19\/op=20 then (if b < 0\/63 < b then none else if op=19 then some (j1 (ZV (a * 2 ^ b.toNat))) else some (j1 (a.fdiv (2 ^ b.toNat))))
 else if op=21 then some (Xq (decide (a=b))) else if op=22 then some (Xq (!decide (a=b))) else if op=23 then some (Xq (decide (a < b)))
 else if op=24 then some (Xq (decide (a<=b))) else if op=25 then some (Xq (decide (b < a))) else if op=26 then some (Xq (decide (b<=a))) else none
def vV (op:Int) (a b:V):Option V :=
 if (wZ a && wZ b) || ((wZ a && decide (b=j1 0)) || (decide (a=j1 0) && wZ b)) then some (Xq (decide (a=b) == decide (op=21))) else none
def xp (op:Int) (a b:V):Option V :=
 if isInt a && isInt b then ks op a.n b.n
 else if decide (op=11) && (wZ a && isInt b) then some (CN a.b (ZV (a.n + b.n)))
 else if decide (op=11) && (isInt a && wZ b) then some (CN b.b (ZV (a.n + b.n)))
 else if decide (op=12) && (wZ a && isInt b) then some (CN a.b (ZV (a.n - b.n)))
 else if op=21\/op=22 then vV op a b else none
def notM (a:Int):Int:=ZV (BitVec.ofInt 64 (-1) ^^^ BitVec.ofInt 64 a).toNat
def nY (op:Int) (a:V):Option V :=
 if isInt a=true then (if op=1 then some (j1 (ZV (0 - a.n))) else if op=2 then some (j1 (notM a.n)) else if op=3 then some (j1 (ZV (IntKind.wrap .i8 a.n))) else if op=4 then some (j1 (ZV (IntKind.wrap .i32 a.n))) else none) else none
structure Fr where
 f:Nat
 regs:List V
 kM:Int
 pt:Int
structure St where
 mem:MM
 used:Int
 kind:Int
 exit:Int
 ev:List (Int × Int)
 lk:List (Int × Int × Int)
 steps:Int
 gl:List Int
 calls:List Fr
def ye (l:List V) (r:Int):V:=if r < 0 then v0 else l.getD r.toNat v0
def v7 (l:List V) (r:Int) (v:V):List V:=if r < 0 then l else (l ++ List.replicate (r.toNat + 1 - l.length) v0).set r.toNat v
def xC (S:St) (k a b:Int):St:={ S with lk:=S.lk ++ [(k,a,b)] }
def qM (S:St) (k v:Int):St:={ S with ev:=S.ev ++ [(k,v)] }
def Ei (S:St) (c:Fr):St:={ S with calls:=S.calls.dropLast ++ [c] }
def zY (c:Fr) (i:yM):V:=if i.b = -1 then j1 i.k else ye c.regs i.b
def yB (c:Fr) (i:yM):Option V:=match xp 11 (ye c.regs i.a) (j1 i.k) with
 | some p=>if p.k=2 then some p else none
 | none=>none
def ug (S:St) (c:Fr) (i:yM) (v:V):St:=Ei S { c with regs:=v7 c.regs (zA i) v,pt:=i.s }
def ZO (p:Pg) (c:Fr):Option yM:=(p.funcs[c.f]?).bind fun f=>if c.pt < 0 then none else f.code[c.pt.toNat]?
def vX:List Int->List V->List V->List V
 | r :: rs,a :: l2,l=>vX rs l2 (v7 l r a)
 | _,_,l=>l
def wh (p:Pg) (S:St) (n:Int) (args:List V):St × Bool :=
 if 20000<=S.calls.length then (S,false) else match p.funcs[n.toNat]? with
 | none=>(S,false)
 | some f=>(if (y1 S.mem f.frame).2.2=0 then ({ S with mem:=(y1 S.mem f.frame).1,calls:=S.calls ++ [⟨n.toNat,vX f.params args [],(y1 S.mem f.frame).2.1,f.entry⟩] },true) else ({ S with mem:=(y1 S.mem f.frame).1 },false))
def Xa (kept:Option (Int->Bool)) (l:List V):List V:=match kept with
 | none=>l
 | some K=>(List.range l.length).map fun (k:Nat)=>if K (k:Int)=true then l.getD k v0 else v0
def uQ (p:Pg) (kept:Option (Int->Bool)) (S:St) (v:V):St × Bool:=match S.calls.getLast? with
 | none=>(S,false)
 | some c=>(match S.calls.dropLast.getLast? with
   | none=>(if v.k=1 then ({ S with mem:=(jL S.mem c.kM).getD S.mem,calls:=[],kind:=1,exit:=v.n },true) else ({ S with mem:=(jL S.mem c.kM).getD S.mem,calls:=[] },false))
   | some b=>(match ZO p b with
     | none=>(S,false)
     | some i=>({ S with mem:=(jL S.mem c.kM).getD S.mem,calls:=S.calls.dropLast.dropLast ++ [{ b with regs:=v7 (Xa kept b.regs) i.d v,pt:=i.s }] },true)))
def cI (S:St) (c:Fr) (i:yM):St × Bool:=match xp i.sub (ye c.regs i.a) (zY c i) with
 | none=>(S,false)
 | some v=>(Ei (xC S 1 v.n 0) { c with pt:=if v.n=0 then i.t else i.s },true)
def Xc (world:List Int) (used:Int):Int:=if used < 0 then 0 else world.getD used.toNat 0
def w4 (p:Pg) (world:List Int) (kept:Option (Int->Bool)) (S:St) (c:Fr) (i:yM):St × Bool :=
 if i.op=2 then (ug S c i (j1 i.k),true)
 else if i.op=3 then (ug S c i (ye c.regs i.a),true)
 else if i.op=4 then (match nY i.sub (ye c.regs i.a) with
  | none=>(S,false)
  | some v=>(ug S c i v,true))
 else if i.op=5 then
  (let S1:=if (i.sub=14\/i.sub=15)/\(ye c.regs i.a).k=1/\(zY c i).k=1 then xC S 3 (ye c.regs i.a).n (zY c i).n else S
  match xp i.sub (ye c.regs i.a) (zY c i) with
  | none=>(S1,false)
  | some v=>(ug S1 c i v,true))
 else if i.op=6 then (match yB c i with
  | none=>(S,false)
  | some q=>(match ZP S.mem i.sub q with
    | none=>(xC S 2 q.b q.n,false)
    | some v=>(ug (xC S 2 q.b q.n) c i v,true)))
 else if i.op=7 then (match yB c i with
  | none=>(S,false)
  | some q=>(match jw S.mem i.sub q (ye c.regs i.b) with
    | none=>(xC S 2 q.b q.n,false)
    | some M=>(ug { xC S 2 q.b q.n with mem:=M } c i v0,true)))
 else if i.op=8 then (ug S c i (CN (S.gl.getD i.sub.toNat 0) i.k),true)
 else if i.op=9 then (ug S c i (CN c.kM i.k),true)
 else if i.op=10 then wh p (xC S 4 i.sub 0) i.sub (i.args.map (ye c.regs))
 else if i.op=11 then cI S c i
 else if i.op=12 then uQ p kept S (ye c.regs i.a)
 else if i.op=13 then (ug { qM S 1 (Xc world S.used) with used:=S.used + 1 } c i (j1 (Xc world S.used)),true)
 else if i.op=14 then (if (ye c.regs i.a).k=1 then (ug (qM S 2 (ye c.regs i.a).n) c i v0,true) else (S,false))
 else (ug S c i v0,true)
def qY (p:Pg) (world:List Int) (kept:Option (Int->Bool)) (S:St):St × Bool:=match S.calls.getLast? with
 | none=>(S,false)
 | some c=>(match ZO p c with
   | none=>(S,false)
   | some i=>w4 p world kept S c i)
def Vm (p:Pg) (world:List Int) (kept:Option (Int->Bool)):Nat->St × Bool->St × Bool
 | 0,(S,ok)=>if ok=true/\S.kind=0 then ({ S with kind:=2 },ok) else (S,ok)
 | n + 1,(S,ok)=>if ok=true/\S.kind=0 then Vm p world kept n (qY p world kept { S with steps:=S.steps + 1 }) else (S,ok)
def wR:List Int->MM->List Int->MM × List Int
 | [],M,l=>(M,l)
 | n :: ns,M,l=>wR ns ((Ur (y1 M n).1 (y1 M n).2.1).getD (y1 M n).1) (l ++ [(y1 M n).2.1])
def vm (p:Pg) (args:List Int):St × Bool:=wh p ⟨(wR p.globals [] []).1,0,0,0,[],[],0,(wR p.globals [] []).2,[]⟩ p.main (args.map j1)
def G8 (r:St × Bool):St:=if r.2=true then r.1 else { r.1 with kind:=3 }
def runM (p:Pg) (args world:List Int) (kept:Option (Int->Bool)) (fuel:Nat):St:=G8 (Vm p world kept fuel (vm p args))
open Go.Proofs.Tryz
noncomputable abbrev zz:=prog
abbrev VK:=Value->za->Prop
abbrev LK:=List Value->za->Prop
abbrev ci (n:Int):Operand := .const (.int .i64 n)
abbrev fn (n:Nat):Value := .func (.func n) #[] #[]
variable {h:za} {t0 t1 t2 t3 t4 t5 t6:Value} {R:VK}
def qs:FuncId->Nat:=fun g=>[0,0,0,0,0,0,0,0,0,0,0,0,0,0,0,0,0,0,0,0,0,0,0,0,0,0,0,0,0,0,0,0,0,0,0,0,0,0,0,0,0,0,0,0,0,3,3,0,0,2,0,0,0,0,0,0,0,0,0,0,0,0,0,0,0,0,0,0,0,0,0,0,0,0,0,0,0,0,2,2,2,0,2,0,0,0,2,0,0,0,0,2].getD g 0
theorem mixed:prog.follows .mixedOrders=true:=Checked.mixed Tryz.checked
def ED:=fun a (d:za) (R:VK) (f:LK)=>
 opt (nb [] (yg zz 33 [])) fun b=>opt (nb [b] (zh zz 33 a b d)) fun c=>opt (zd zz 33 a c) fun e=>rv [e,.int .i64 1] c R
def sA:=fun a (R:VK) b (e:za)=>
 opt (Wf b 0) fun c=>opt (Wf b 1) fun f=>opt (nb [c] (zh zz 33 a c e)) fun d=>opt (zd zz 33 a d) fun g=>rv [g,f] d R
def sB:=fun a (R:VK) d e f g h (b:za)=>
 opt (Wz zz .not h) fun i=>CD i (ED a b R)
 (fun j=>j [.int .i64 0] b)
 (fun l c=>opt (zd zz 25 d c) fun k=>zH zz (fn 22) [k,e,f,g,.nilFunc] c (sA a R))
def N9:=fun (h:za) a d e f (R:VK)=>
 opt (nb [a] (some (Value.cells a).toList)) fun g=>nw h g 25 fun b i=>opt (yV zz 33) fun j=>nw i (Value.cells j).toList 33 fun k c=>opt (zd zz 25 b c) fun l=>zH zz (fn 14) [l] c (sB k R b d e f)
theorem Ie (hw:N9 h t0 t1 t2 t3 R):DC zz 9 [t0,t1,t2,t3] h R:=zL mixed (q:=qs) (n:=200) (Eq.mpr (by kernel_rfl) hw)
def iV:=fun a (d:za) (R:VK) (f:LK)=>
 opt (nb [] (yg zz 33 [])) fun b=>opt (nb [b] (zh zz 33 a b d)) fun c=>opt (zd zz 33 a c) fun e=>rv [e,.int .i64 1] c R
def As:=fun a b (g:LK) (o:Value) (c:za)=>
 opt (uk a) fun h=>opt (zb zz 106 h 4) fun i=>opt (zd zz 22 i c) fun d=>zV (nb [b] (zO zz 22 1 [(0,b)] c)) fun e j=>zV (nb [d,e] (zg zz .append [22,22] 22 [d,e] j)) fun f k=>opt (uk a) fun l=>opt (zb zz 106 l 4) fun m=>opt (nb [f] (zh zz 22 m f k)) fun n=>g [] n
def At:=fun a (e:LK) b (c:za)=>
 opt (Wf b 0) fun d=>opt (Wf b 1) fun i=>opt (uk a) fun f=>opt (zb zz 106 f 1) fun g=>opt (zd zz 100 g c) fun h=>zH zz (fn 48) [h,d] c (As a d e)
def Au:=fun c d (a:za) b (e:LK)=>
 opt (zw zz 22 c (nth d 0)) fun f=>opt (zd zz 3 f a) fun g=>opt (uk b) fun h=>opt (zb zz 106 h 1) fun i=>opt (zd zz 100 i a) fun j=>zH zz (fn 47) [j,g] a (At b e)
def Av:=fun b a c (d:LK) (h:List Value) (e:za)=>
 BK (Au b a e c)
 (fun i f=>opt (nb [nth a 0,.int .i64 1] (ze zz .add 3 (.tmp 51) (ci 1) (nth a 0) (.int .i64 1))) fun g=>d [g] f)
def Aw:=fun b (e:LK) f g a (c:za) (h:LK)=>
 opt (nb [nth a 0,b] (ze zz .lss 3 (.tmp 51) (.tmp 50) (nth a 0) b)) fun i=>CD i (fun d=>d [] c)
 (fun d=>e [] c)
 (Av f a g h)
def Ax:=fun a (d:LK) b (e:za)=>
 zV (nb [b] (zO zz 59 1 [(0,b)] e)) fun c f=>zV (nb [nth a 0,c] (zg zz .append [59,59] 59 [nth a 0,c] f)) fun g h=>d [g] h
def Ay:=fun c a (b:za) (d:LK)=>
 opt (zw zz 26 c (nth a 1)) fun e=>opt (zd zz 2 e b) fun f=>zH zz (fn 49) [f] b (Ax a d)
def Az:=fun a (b:LK) c (d:za)=>
 opt (nb [nth a 1,.int .i64 1] (ze zz .add 3 (.tmp 83) (ci 1) (nth a 1) (.int .i64 1))) fun e=>b [nth c 0,e] d
def ov:=fun b (e:LK) f a (c:za) (g:LK)=>
 opt (nb [nth a 1,b] (ze zz .lss 3 (.tmp 83) (.tmp 82) (nth a 1) b)) fun h=>CD h (fun d=>d [] c)
 (fun d=>e [nth a 0] c)
 (fun j i=>BK (Ay f a i)
 (Az a g))
def ow:=fun a (b:za) (c:LK) d (i:LK)=>
 opt (uk a) fun e=>opt (zb zz 106 e 3) fun f=>opt (zb zz 33 f 0) fun g=>opt (nb [.int .i64 2] (zh zz 3 g (.int .i64 2) b)) fun h=>c [nth d 0] h
def oz:=fun a (e:LK) (o:List Value) (b:za)=>
 opt (uk a) fun f=>opt (zb zz 106 f 3) fun g=>opt (zb zz 33 g 4) fun h=>opt (zd zz 3 h b) fun c=>opt (nb [c,.int .i64 1] (ze zz .add 3 (.tmp 122) (ci 1) c (.int .i64 1))) fun d=>opt (uk a) fun i=>opt (zb zz 106 i 3) fun j=>opt (zb zz 33 j 4) fun k=>opt (nb [d] (zh zz 3 k d b)) fun l=>zH zz (fn 51) [a] l (fun m n=>e [m] n)
def dG:=fun a (b:za) c (e:LK) f (g:LK)=>
 opt (uk a) fun h=>opt (zb zz 106 h 3) fun i=>opt (zb zz 33 i 4) fun j=>opt (zd zz 3 j b) fun d=>opt (nb [d,c] (ze zz .eql 3 (.tmp 111) (.tmp 112) d c)) fun k=>CD k (ow a b e f)
 (fun l=>l [] b)
 (oz a g)
def VN:=fun a (b:LK) e f (g:LK) h (c:za)=>
 opt (pk (nth a 0) h (.bool false)) fun i=>CD i (fun d=>d [] c)
 (fun d=>b [nth a 0] c)
 (fun m j=>BK (dG e j f b a)
 (fun k l=>g [nth k 0] l))
def VO:=fun a (d:LK) e f (g:LK) b (c:za)=>
 GD (nth a 0) true (fun h=>opt (nb [b,.int .i64 0] (ze zz .eql 3 (.tmp 104) (ci 0) b (.int .i64 0))) fun i=>h i c) (VN a d e f g) c
def VP:=fun a (e:LK) f g (h:LK) i (d:za)=>
 GD (nth a 0) true (fun j=>opt (zb zz 33 i 0) fun b=>j b d) (fun b c=>GD (nth a 0) true (fun k=>opt (zd zz 3 b c) fun l=>k l c) (VO a e f g h) c) d
def XC:=fun a (e:LK) f g (h:LK) i (c:za)=>
 GD (nth a 0) true (fun j=>opt (uk i) fun b=>j b c) (fun b d=>GD (nth a 0) true (fun k=>opt (zb zz 106 b 3) fun l=>k l d) (VP a e f g h) d) c
def oA:=fun a (b:za) (c:LK)=>
 opt (uk a) fun d=>opt (zb zz 106 d 3) fun e=>opt (zb zz 33 e 0) fun f=>opt (nb [.int .i64 3] (zh zz 3 f (.int .i64 3) b)) fun g=>c [] g
def dH:=fun e a (R:VK) (i:List Value) (b:za)=>
 opt (uk e) fun f=>opt (zb zz 106 f 3) fun g=>opt (zd zz 33 g b) fun c=>opt (nb [c] (zh zz 33 a c b)) fun d=>opt (zd zz 33 a d) fun h=>rv [h,.int .i64 0] d R
def oB:=fun a e f (R:VK) g (h:za)=>
 BK (fun i=>LP (fun b c j=>GD (nth b 0) true (fun k=>k a c) (XC b i a e j) c)
 [g] h)
 (fun l d=>opt (Wz zz .not (nth l 0)) fun m=>CD m (oA a d)
 (fun n=>n [] d)
 (dH a f R))
def oC:=fun c a d e (R:VK) f (b:za)=>
 opt (zb zz 25 c 2) fun g=>opt (zd zz 3 g b) fun h=>zH zz (fn 50) [a,h,nth f 0] b (oB a d e R)
def oD:=fun a b c d e (R:VK) (j:List Value) (f:za)=>
 zV (nb [a] (zg zz .len [26] 3 [a] f)) fun g h=>BK (fun i=>LP (ov g i a)
 [.slice none 0 0,.int .i64 0] h)
 (oC b c d e R)
def dI:=fun b c d e j k l (R:VK) f (m:za)=>
 opt (nb [b,c,f,d] (yg zz 106 [(0,b),(1,c),(2,f),(6,d)])) fun g=>opt (nb [g] (some (Value.cells g).toList)) fun n=>nw m n 106 fun h i=>opt (zb zz 25 e 0) fun o=>opt (zd zz 22 o i) fun a=>zV (nb [a] (zg zz .len [22] 3 [a] i)) fun p q=>BK (fun r=>LP (Aw p r a h)
 [.int .i64 0] q)
 (oD j e h k l R)
def VQ:=fun e a (R:VK) b f g h i j (c:za)=>
 opt (pk e (.bool true) j) fun k=>CD k (iV a c R)
 (fun l=>l [.int .i64 0] c)
 (fun p d=>opt (zd zz 25 b d) fun m=>cG zz 45 [] d (fun n o=>cG zz 46 [f] o (dI m n g b h i a R)))
def VR:=fun a d (R:VK) e f g h i b (c:za)=>
 GD a false (fun j=>opt (nb [b,.int .i64 10000000] (ze zz .gtr 3 (.tmp 37) (.const (.int .i64 10000000)) b (.int .i64 10000000))) fun k=>j k c) (VQ a d R e f g h i) c
def VS:=fun b c h (R:VK) i j k l d (e:za)=>
 GD b false (fun m=>opt (nb [d,.int .i64 0] (ze zz .lss 3 (.tmp 33) (ci 0) d (.int .i64 0))) fun a=>m a e) (fun a f=>opt (pk b (.bool true) a) fun g=>GD g false (fun n=>n c f) (VR g h R i j k l c) f) e
def Ic:=fun (h:za) d b l e m (R:VK)=>
 opt (nb [d] (some (Value.cells d).toList)) fun n=>nw h n 25 fun c o=>opt (yV zz 33) fun p=>nw o (Value.cells p).toList 33 fun q r=>zV (nb [b] (zg zz .len [26] 3 [b] r)) fun f a=>opt (zb zz 25 c 1) fun s=>opt (zd zz 23 s a) fun t=>opt (zb zz 25 c 2) fun u=>opt (zd zz 3 u a) fun v=>opt (zw zz 23 t v) fun w=>opt (zb zz 45 w 1) fun x=>opt (zd zz 22 x a) fun g=>zV (nb [g] (zg zz .len [22] 3 [g] a)) fun i j=>opt (nb [f,i] (ze zz .neq 3 (.tmp 22) (.tmp 30) f i)) fun k=>GD k false (fun y=>y e j) (VS k e q R c l m b) j
theorem Gh (hw:Ic h t0 t1 t2 t3 t4 R):DC zz 22 [t0,t1,t2,t3,t4] h R:=zL mixed (q:=qs) (n:=200) (Eq.mpr (by kernel_rfl) hw)
def oN:=fun c b (a:za) d e (f:LK)=>
 opt (zw zz 22 c (nth b 0)) fun g=>opt (zd zz 3 g a) fun h=>opt (zw zz 59 d (nth b 0)) fun i=>opt (zd zz 69 i a) fun j=>zH zz (fn 77) [e,h,j] a (fun l k=>f [] k)
def oO:=fun b a c d (e:LK) (i:List Value) (f:za)=>
 BK (oN b a f c d)
 (fun j g=>opt (nb [nth a 0,.int .i64 1] (ze zz .add 3 (.tmp 53) (ci 1) (nth a 0) (.int .i64 1))) fun h=>e [h] g)
def oP:=fun b (e:LK) f g h a (c:za) (i:LK)=>
 opt (nb [nth a 0,b] (ze zz .lss 3 (.tmp 53) (.tmp 52) (nth a 0) b)) fun j=>CD j (fun d=>d [] c)
 (fun d=>e [] c)
 (oO f a g h i)
def oQ:=fun a b (R:VK) (n:List Value) (c:za)=>
 opt (uk a) fun g=>opt (zb zz 106 g 5) fun h=>opt (zd zz 104 h c) fun d=>zV (nb [b] (zO zz 104 1 [(0,b)] c)) fun e i=>zV (nb [d,e] (zg zz .append [104,104] 104 [d,e] i)) fun f j=>opt (uk a) fun k=>opt (zb zz 106 k 5) fun l=>opt (nb [f] (zh zz 104 l f j)) fun m=>rv [.bool true] m R
def oR:=fun a c i j (R:VK) (s:List Value) (d:za)=>
 opt (uk a) fun k=>opt (zb zz 45 k 4) fun l=>opt (zd zz 3 l d) fun e=>opt (nb [a,c,e] (yg zz 154 [(0,a),(2,c),(3,e)])) fun f=>opt (nb [f] (some (Value.cells f).toList)) fun m=>nw d m 154 fun g h=>opt (uk a) fun n=>opt (zb zz 45 n 1) fun o=>opt (zd zz 22 o h) fun b=>zV (nb [b] (zg zz .len [22] 3 [b] h)) fun p q=>BK (fun r=>LP (oP p r b i g)
 [.int .i64 0] q)
 (oQ j g R)
def dV:=fun (R:VK) e f g h a (b:za)=>
 opt (Wf a 0) fun i=>opt (Wf a 1) fun c=>opt (nb [c,.int .i64 0] (ze zz .neq 34 (.tmp 38) (ci 0) c (.int .i64 0))) fun j=>CD j (fun d=>rv [.bool false] b R)
 (fun d=>d [nth e 0] b)
 (oR f i g h R)
def oS:=fun b c (R:VK) d e (a:za)=>
 opt (uk b) fun f=>opt (zb zz 106 f 1) fun g=>opt (zd zz 100 g a) fun h=>opt (uk c) fun i=>opt (zb zz 45 i 3) fun j=>opt (zd zz 3 j a) fun k=>Y8 zz 47 [h,k] a (dV R e c d b)
def EN:=fun (h:za) a f g (R:VK)=>
 opt (uk a) fun i=>opt (zb zz 106 i 0) fun j=>opt (zb zz 25 j 1) fun k=>opt (zd zz 23 k h) fun l=>opt (zw zz 23 l f) fun m=>opt (uk a) fun n=>opt (zb zz 106 n 5) fun o=>opt (zd zz 104 o h) fun b=>zV (nb [b] (zg zz .len [104] 3 [b] h)) fun c d=>opt (nb [c,.int .i64 20000] (ze zz .geq 3 (.tmp 24) (.const (.int .i64 20000)) c (.int .i64 20000))) fun p=>CD p (fun e=>rv [.bool false] d R)
 (fun e=>e [.bool false] d)
 (oS a m R g)
theorem C4 (hw:EN h t0 t1 t2 R):DC zz 50 [t0,t1,t2] h R:=zL mixed (q:=qs) (n:=200) (Eq.mpr (by kernel_rfl) hw)
def A5:=fun d (a:za) e (f:LK) g=>
 qN zz 79 [d,g] a (fun b=>opt (Wf b 0) fun c=>opt (Wf b 1) fun h=>opt (nb [c] (zh zz 69 e c a)) fun i=>f [.bool false,h] i)
def lJ:=fun b (a:za) c d (e:LK)=>
 opt (zb zz 69 b 1) fun f=>opt (zd zz 2 f a) fun g=>opt (zb zz 69 c 1) fun h=>opt (zd zz 2 h a) fun i=>zH zz (fn 81) [d,.int .i64 3,g,i] a (fun k j=>e [] j)
def Q7:=fun d e f g (h:LK) (p:List Value) (a:za)=>
 opt (zb zz 53 d 1) fun i=>opt (zd zz 3 i a) fun j=>opt (zd zz 69 e a) fun k=>opt (zd zz 69 f a) fun l=>zH zz (fn 82) [j,k,l] a (fun b m=>opt (Wf b 0) fun c=>opt (Wf b 1) fun n=>opt (nb [c] (zh zz 69 g c m)) fun o=>h [.bool false,n] o)
def jQ:=fun b c d h i j (k:LK) e (f:za)=>
 GD b true (fun l=>opt (nb [e,.int .i64 1] (ze zz .eql 3 (.tmp 92) (ci 1) e (.int .i64 1))) fun a=>l a f) (fun a g=>opt (pk b a (.bool false)) fun m=>CD m (lJ c g d h)
 (fun n=>n [] g)
 (Q7 i c d j k)) f
def jR:=fun f d g h i j (k:LK) l (e:za)=>
 opt (pk f l (.bool false)) fun a=>GD a true (fun m=>opt (zb zz 69 d 0) fun b=>m b e) (fun b c=>GD a true (fun n=>opt (zd zz 3 b c) fun o=>n o c) (jQ a g d h i j k) c) e
def jS:=fun a d e f g h (i:LK) b (c:za)=>
 GD a true (fun j=>opt (nb [b,.int .i64 1] (ze zz .eql 3 (.tmp 87) (ci 1) b (.int .i64 1))) fun k=>j k c) (jR a d e f g h i) c
def jT:=fun f d g h i j (k:LK) l (e:za)=>
 opt (pk f (.bool true) l) fun a=>GD a true (fun m=>opt (zb zz 69 d 0) fun b=>m b e) (fun b c=>GD a true (fun n=>opt (zd zz 3 b c) fun o=>n o c) (jS a g d h i j k) c) e
def jU:=fun a d e f g h (i:LK) b (c:za)=>
 GD a false (fun j=>opt (nb [b,.int .i64 15] (ze zz .eql 3 (.tmp 82) (.const (.int .i64 15)) b (.int .i64 15))) fun k=>j k c) (jT a d e f g h i) c
def A6:=fun (k:za) f a l m (n:LK) g=>
 opt (yV zz 69) fun o=>nw k (Value.cells o).toList 69 fun h p=>opt (yV zz 69) fun q=>nw p (Value.cells q).toList 69 fun i r=>opt (nb [f] (zh zz 69 h f r)) fun s=>opt (nb [g] (zh zz 69 i g s)) fun b=>opt (zb zz 53 a 1) fun t=>opt (zd zz 3 t b) fun j=>opt (nb [j,.int .i64 14] (ze zz .eql 3 (.tmp 78) (.const (.int .i64 14)) j (.int .i64 14))) fun c=>GD c false (fun u=>opt (zb zz 53 a 1) fun d=>u d b) (fun d e=>GD c false (fun v=>opt (zd zz 3 d e) fun w=>v w e) (jU c h i l a m n) e) b
def pC:=fun d e f g (h:LK) i (a:za)=>
 opt (uk d) fun j=>opt (zb zz 106 j 1) fun k=>opt (zd zz 100 k a) fun l=>opt (zb zz 53 e 1) fun m=>opt (zd zz 3 m a) fun n=>opt (zd zz 69 f a) fun o=>Y8 zz 84 [l,n,o] a (fun b p=>opt (Wf b 0) fun c=>opt (Wf b 1) fun q=>opt (nb [c] (zh zz 69 g c p)) fun r=>h [nth i 0,q] r)
def eh:=fun (R:VK) f g h (i:LK) a (j:za)=>
 opt (Wf a 0) fun b=>opt (Wf a 1) fun k=>opt (yV zz 69) fun l=>nw j (Value.cells l).toList 69 fun c m=>opt (nb [b] (zh zz 69 c b m)) fun d=>opt (Wz zz .not k) fun n=>CD n (fun e=>rv [.bool false] d R)
 (fun e=>e [.bool false] d)
 (pC f g c h i)
def K4:=fun c (R:VK) (d:LK) e (a:za)=>
 opt (pk c (.bool true) e) fun f=>CD f (fun b=>rv [.bool false] a R)
 (fun b=>b [.bool false] a)
 (fun g h=>d [nth g 0] h)
def ep:=fun a e f g (R:VK) (h:LK) i (c:za)=>
 GD a false (fun j=>Y8 zz 85 [e,f,g,i] c (fun b k=>j b k)) (fun b d=>GD a false (fun l=>opt (Wz zz .not b) fun m=>l m d) (K4 a R h) d) c
def eu:=fun a e f g h (R:VK) (i:LK) j (b:za)=>
 GD a false (fun k=>opt (zd zz 3 j b) fun c=>k c b) (fun c d=>GD a false (fun l=>qN zz 78 [e,c] d (fun m=>l m d)) (ep a f g h R i) d) b
def ew:=fun a d e f g (R:VK) (h:LK) i (b:za)=>
 GD a false (fun j=>j d b) (fun k c=>GD a false (fun l=>opt (zb zz 53 e 3) fun m=>l m c) (eu a k f g i R h) c) b
def ey:=fun a e f g h (R:VK) (i:LK) j (b:za)=>
 GD a false (fun k=>opt (zd zz 3 j b) fun c=>k c b) (fun c d=>GD a false (fun l=>opt (zd zz 69 e d) fun m=>l m d) (ew a f g h c R i) d) b
def eC:=fun a d f g (R:VK) (h:LK) i (b:za)=>
 GD a false (fun j=>opt (zd zz 100 i b) fun c=>j c b) (fun c e=>GD a false (fun k=>opt (zb zz 53 d 1) fun l=>k l e) (ey a f g d c R h) e) b
def eD:=fun a e f g (R:VK) (h:LK) i (c:za)=>
 GD a false (fun j=>opt (uk i) fun b=>j b c) (fun b d=>GD a false (fun k=>opt (zb zz 106 b 1) fun l=>k l d) (eC a e f g R h) d) c
def eE:=fun f g h (R:VK) (i:LK) a (j:za)=>
 opt (Wf a 0) fun b=>opt (Wf a 1) fun k=>opt (yV zz 69) fun l=>nw j (Value.cells l).toList 69 fun c m=>opt (nb [b] (zh zz 69 c b m)) fun d=>opt (Wz zz .not k) fun e=>GD e false (fun n=>n f d) (eD e g c h R i) d
def pD:=fun a (d:LK) b (e:za)=>
 zV (nb [b] (zO zz 59 1 [(0,b)] e)) fun c f=>zV (nb [nth a 0,c] (zg zz .append [59,59] 59 [nth a 0,c] f)) fun g h=>d [g] h
def pE:=fun c a (b:za) d (e:LK)=>
 opt (zw zz 22 c (nth a 1)) fun f=>opt (zd zz 3 f b) fun g=>zH zz (fn 78) [d,g] b (pD a e)
def pF:=fun a (b:LK) c (d:za)=>
 opt (nb [nth a 1,.int .i64 1] (ze zz .add 3 (.tmp 184) (ci 1) (nth a 1) (.int .i64 1))) fun e=>b [nth c 0,e] d
def pG:=fun b (e:LK) f g a (c:za) (h:LK)=>
 opt (nb [nth a 1,b] (ze zz .lss 3 (.tmp 184) (.tmp 183) (nth a 1) b)) fun i=>CD i (fun d=>d [] c)
 (fun d=>e [nth a 0] c)
 (fun k j=>BK (pE f a j g)
 (pF a h))
def pH:=fun b c d (R:VK) (i:Value) (a:za)=>
 opt (zb zz 53 b 1) fun e=>opt (zd zz 3 e a) fun f=>zH zz (fn 50) [c,f,nth d 0] a (fun g h=>rv [g] h R)
def pI:=fun a b (R:VK) d (c:za)=>
 opt (zb zz 53 a 1) fun e=>opt (zd zz 3 e c) fun f=>zH zz (fn 81) [b,.int .i64 4,f,.int .i64 0] c (pH a b d R)
def pJ:=fun c d (e:LK) a (f:za)=>
 zH zz (fn 90) [c,.int .i64 1,a] f (fun j g=>zH zz (fn 49) [a] g (fun b h=>opt (nb [b] (zh zz 69 d b h)) fun i=>e [.bool false] i))
def pK:=fun b c (d:LK) e (a:za)=>
 opt (zb zz 69 b 1) fun f=>opt (zd zz 2 f a) fun g=>zH zz (fn 90) [c,.int .i64 2,g] a (fun i h=>d [nth e 0] h)
def pL:=fun (R:VK) f (g:LK) c (h:za)=>
 opt (yV zz 69) fun i=>nw h (Value.cells i).toList 69 fun a j=>opt (nb [c] (zh zz 69 a c j)) fun b=>opt (zb zz 69 a 0) fun k=>opt (zd zz 3 k b) fun d=>opt (nb [d,.int .i64 1] (ze zz .neq 3 (.tmp 237) (ci 1) d (.int .i64 1))) fun l=>CD l (fun e=>rv [.bool false] b R)
 (fun e=>e [.bool false] b)
 (pK a f g)
def pM:=fun b (a:za) c (R:VK) d (e:LK)=>
 opt (zb zz 53 b 2) fun f=>opt (zd zz 3 f a) fun g=>zH zz (fn 78) [c,g] a (pL R d e)
def pN:=fun a (b:za) c (d:LK)=>
 opt (uk a) fun e=>opt (zb zz 106 e 2) fun f=>opt (zd zz 102 f b) fun g=>zH zz (fn 89) [g] b (pJ a c d)
def eG:=fun a c (b:za) d (R:VK) e (f:LK)=>
 opt (nb [a,.int .i64 14] (ze zz .eql 3 (.tmp 44) (.const (.int .i64 14)) a (.int .i64 14))) fun g=>CD g (pM c b d R e)
 (fun h=>h [.bool false] b)
 (fun i j=>f [nth i 0] j)
def pO:=fun b (a:za) c d (R:VK) (k:LK)=>
 opt (zb zz 53 b 2) fun e=>opt (zd zz 3 e a) fun f=>zH zz (fn 78) [c,f] a (fun g h=>zH zz (fn 88) [d,g] h (fun i j=>rv [i] j R))
def K5:=fun a b (c:za) d e f (R:VK) (g:LK)=>
 opt (nb [a,.int .i64 13] (ze zz .eql 3 (.tmp 44) (.const (.int .i64 13)) a (.int .i64 13))) fun h=>CD h (pN b c d)
 (eG a e c f R b)
 (fun i j=>g [nth i 0] j)
def V1:=fun a b (c:za) d e (R:VK) f (g:LK)=>
 opt (nb [a,.int .i64 12] (ze zz .eql 3 (.tmp 44) (.const (.int .i64 12)) a (.int .i64 12))) fun h=>CD h (pO b c d e R)
 (K5 a e c f b d R)
 (fun i j=>g [nth i 0] j)
def pP:=fun b (c:za) d e (R:VK) (j:LK)=>
 opt (zb zz 53 b 6) fun f=>opt (zd zz 22 f c) fun a=>zV (nb [a] (zg zz .len [22] 3 [a] c)) fun g h=>BK (fun i=>LP (pG g i a d)
 [.slice none 0 0,.int .i64 0] h)
 (pI b e R)
def XH:=fun a c (b:za) d e (R:VK) f (g:LK)=>
 opt (nb [a,.int .i64 11] (ze zz .eql 3 (.tmp 44) (.const (.int .i64 11)) a (.int .i64 11))) fun h=>CD h (fun n=>opt (zd zz 53 c b) fun i=>zH zz (fn 87) [d,e,i] b (fun j k=>rv [j] k R))
 (V1 a c b e d R f)
 (fun l m=>g [nth l 0] m)
def pQ:=fun c (a:za) d e (f:LK)=>
 opt (uk c) fun g=>opt (zb zz 154 g 2) fun h=>opt (zd zz 3 h a) fun i=>opt (zb zz 53 d 5) fun j=>opt (zd zz 2 j a) fun k=>qN zz 86 [i,k] a (fun b=>opt (nb [b] (zh zz 69 e b a)) fun l=>f [.bool false] l)
def Yr:=fun a b (c:za) d e (R:VK) f (g:LK)=>
 opt (nb [a,.int .i64 10] (ze zz .eql 3 (.tmp 44) (.const (.int .i64 10)) a (.int .i64 10))) fun h=>CD h (pP b c d e R)
 (XH a b c e d R f)
 (fun i j=>g [nth i 0] j)
def pR:=fun d (a:za) b e (f:LK)=>
 opt (uk d) fun g=>opt (zb zz 106 g 4) fun h=>opt (zd zz 22 h a) fun i=>opt (zb zz 53 b 1) fun j=>opt (zd zz 3 j a) fun k=>opt (zw zz 22 i k) fun l=>opt (zd zz 3 l a) fun m=>opt (zb zz 53 b 5) fun n=>opt (zd zz 2 n a) fun o=>qN zz 86 [m,o] a (fun c=>opt (nb [c] (zh zz 69 e c a)) fun p=>f [.bool false] p)
def Zx:=fun a b (c:za) d e f (R:VK) (g:LK)=>
 opt (nb [a,.int .i64 9] (ze zz .eql 3 (.tmp 44) (.const (.int .i64 9)) a (.int .i64 9))) fun h=>CD h (pQ b c d e)
 (Yr a d c b f R e)
 (fun i j=>g [nth i 0] j)
def jE:=fun a b (c:za) d e f (R:VK) (g:LK)=>
 opt (nb [a,.int .i64 8] (ze zz .eql 3 (.tmp 44) (.const (.int .i64 8)) a (.int .i64 8))) fun h=>CD h (pR b c d e)
 (Zx a f c d e b R)
 (fun i j=>g [nth i 0] j)
def kz:=fun a b (c:za) d e (R:VK) f (g:LK)=>
 opt (nb [a,.int .i64 7] (ze zz .eql 3 (.tmp 44) (.const (.int .i64 7)) a (.int .i64 7))) fun h=>CD h (fun i=>opt (zd zz 53 b c) fun j=>zH zz (fn 83) [d,e,j] c (eE d b e R i))
 (jE a d c b f e R)
 (fun k l=>g [nth k 0,.bool true] l)
def pS:=fun b (a:za) c d e (f:LK)=>
 opt (zb zz 53 b 2) fun g=>opt (zd zz 3 g a) fun h=>qN zz 78 [c,h] a (fun i=>opt (zd zz 53 b a) fun j=>qN zz 80 [c,j] a (A6 a i b d e f))
def qU:=fun a b (c:za) d e (R:VK) f (h:LK)=>
 opt (nb [a,.int .i64 6] (ze zz .eql 3 (.tmp 44) (.const (.int .i64 6)) a (.int .i64 6))) fun i=>CD i (fun j=>opt (zd zz 53 b c) fun k=>zH zz (fn 83) [d,e,k] c (eh R d b f j))
 (kz a b c d e R f)
 (fun g l=>h [nth g 0,nth g 1] l)
def pT:=fun b (a:za) c d (e:LK)=>
 opt (zb zz 53 b 1) fun f=>opt (zd zz 3 f a) fun g=>opt (zb zz 53 b 2) fun h=>opt (zd zz 3 h a) fun i=>qN zz 78 [c,i] a (A5 g a d e)
def uX:=fun a b (c:za) d e f (R:VK) (h:LK)=>
 opt (nb [a,.int .i64 5] (ze zz .eql 3 (.tmp 44) (.const (.int .i64 5)) a (.int .i64 5))) fun i=>CD i (pS b c d e f)
 (qU a b c e d R f)
 (fun g j=>h [nth g 0,nth g 1] j)
def pU:=fun c (a:za) d e (f:LK)=>
 opt (zb zz 53 c 2) fun g=>opt (zd zz 3 g a) fun h=>zH zz (fn 78) [d,h] a (fun b i=>opt (nb [b] (zh zz 69 e b i)) fun j=>f [.bool false,.bool true] j)
def uj:=fun a b (c:za) d e g (R:VK) (h:LK)=>
 opt (nb [a,.int .i64 4] (ze zz .eql 3 (.tmp 44) (.const (.int .i64 4)) a (.int .i64 4))) fun i=>CD i (pT b c d e)
 (uX a b c d g e R)
 (fun f j=>h [nth f 0,nth f 1] j)
def pV:=fun c (a:za) d (e:LK)=>
 opt (zb zz 53 c 5) fun f=>opt (zd zz 2 f a) fun g=>zH zz (fn 49) [g] a (fun b h=>opt (nb [b] (zh zz 69 d b h)) fun i=>e [.bool false,.bool true] i)
def vQ:=fun a b (c:za) d e g (R:VK) (h:LK)=>
 opt (nb [a,.int .i64 3] (ze zz .eql 3 (.tmp 44) (.const (.int .i64 3)) a (.int .i64 3))) fun i=>CD i (pU b c d e)
 (uj a b c d e g R)
 (fun f j=>h [nth f 0,nth f 1] j)
def yG:=fun a b (c:za) d f g (R:VK) (h:LK)=>
 opt (nb [a,.int .i64 2] (ze zz .eql 3 (.tmp 44) (.const (.int .i64 2)) a (.int .i64 2))) fun i=>CD i (pV b c d)
 (vQ a b c f d g R)
 (fun e j=>h [nth e 0,nth e 1] j)
def pW:=fun c d (R:VK) (i:Value) (a:za)=>
 opt (zb zz 53 c 7) fun e=>opt (zd zz 3 e a) fun b=>opt (uk d) fun f=>opt (zb zz 154 f 3) fun g=>opt (nb [b] (zh zz 3 g b a)) fun h=>rv [.bool true] h R
def V2:=fun b d c (R:VK) (h:List Value) (a:za)=>
 opt (zd zz 53 b a) fun e=>qN zz 91 [e] a (fun f=>opt (zd zz 69 d a) fun g=>Y8 zz 77 [c,f,g] a (pW b c R))
def Da:=fun (h:za) c (R:VK)=>
 opt (uk c) fun m=>opt (zb zz 106 m 5) fun n=>opt (zd zz 104 n h) fun o=>opt (uk c) fun p=>opt (zb zz 106 p 5) fun q=>opt (zd zz 104 q h) fun d=>zV (nb [d] (zg zz .len [104] 3 [d] h)) fun e _=>opt (nb [e,.int .i64 1] (ze zz .sub 3 (.tmp 26) (ci 1) e (.int .i64 1))) fun r=>opt (zw zz 104 o r) fun s=>opt (zd zz 152 s h) fun a=>opt (uk a) fun t=>opt (zb zz 154 t 0) fun u=>opt (zd zz 151 u h) fun v=>opt (uk v) fun w=>opt (zb zz 45 w 5) fun x=>opt (zd zz 43 x h) fun y=>opt (uk a) fun z=>opt (zb zz 154 z 3) fun A=>opt (zd zz 3 A h) fun B=>opt (zw zz 43 y B) fun C=>opt (zd zz 53 C h) fun f=>opt (yV zz 53) fun D=>nw h (Value.cells D).toList 53 fun b E=>opt (nb [f] (zh zz 53 b f E)) fun F=>opt (yV zz 69) fun G=>nw F (Value.cells G).toList 69 fun g i=>opt (zb zz 53 b 0) fun H=>opt (zd zz 3 H i) fun I=>BK (yG I b i g a c R)
 (fun j k=>opt (Wz zz .not (nth j 1)) fun J=>CD J (fun l=>rv [.bool false] k R)
 (fun l=>l [nth j 0] k)
 (V2 b g a R))
theorem GA (hw:Da h t0 R):DC zz 51 [t0] h R:=FZ mixed (q:=qs) (n:=200) (Eq.mpr (by kernel_rfl) hw)
def EV:=fun a (b:za) (g:LK)=>
 opt (uk a) fun h=>opt (zb zz 154 h 1) fun i=>opt (zd zz 59 i b) fun c=>opt (nb [] (yg zz 69 [])) fun d=>zV (nb [d] (zO zz 59 1 [(0,d)] b)) fun e j=>zV (nb [c,e] (zg zz .append [59,59] 59 [c,e] j)) fun f k=>opt (uk a) fun l=>opt (zb zz 154 l 1) fun m=>opt (nb [f] (zh zz 59 m f k)) fun n=>g [] n
def EW:=fun a b (h:LK) (o:List Value) (c:za) (i:LK)=>
 opt (uk a) fun j=>opt (zb zz 154 j 1) fun k=>opt (zd zz 59 k c) fun d=>zV (nb [d] (zg zz .len [59] 3 [d] c)) fun e f=>opt (nb [b,e] (ze zz .geq 3 (.tmp 8) (.tmp 13) b e)) fun l=>CD l (fun g=>g [] f)
 (fun g=>h [] f)
 (fun p m=>BK (EV a m)
 (fun q n=>i [] n))
def EX:=fun c d e (R:VK) (k:List Value) (a:za)=>
 opt (uk c) fun f=>opt (zb zz 154 f 1) fun g=>opt (zd zz 59 g a) fun h=>opt (zd zz 69 d a) fun b=>opt (zw zz 59 h e) fun i=>opt (nb [b] (zh zz 69 i b a)) fun j=>rv [] j R
def Oc:=fun (h:za) b a c (R:VK)=>
 opt (nb [c] (some (Value.cells c).toList)) fun f=>nw h f 69 fun g d=>opt (nb [a,.int .i64 0] (ze zz .lss 3 (.tmp 6) (ci 0) a (.int .i64 0))) fun i=>CD i (fun e=>rv [] d R)
 (fun e=>e [] d)
 (fun l j=>BK (fun k=>LP (EW b a k)
 [] j)
 (EX b g a R))
theorem Iu (hw:Oc h t0 t1 t2 R):DC zz 77 [t0,t1,t2] h R:=zL mixed (q:=qs) (n:=200) (Eq.mpr (by kernel_rfl) hw)
def EP:=fun e f b (R:VK) (l:List Value) (a:za)=>
 opt (uk e) fun g=>opt (zb zz 154 g 1) fun h=>opt (zd zz 59 h a) fun i=>opt (zw zz 59 i f) fun j=>opt (zd zz 69 j a) fun c=>opt (nb [c] (zh zz 69 b c a)) fun d=>opt (zd zz 69 b d) fun k=>rv [k] d R
def iu:=fun f a (R:VK) g h i (b:za)=>
 opt (pk f (.bool true) i) fun j=>CD j (fun c=>opt (nb [] (yg zz 69 [])) fun d=>opt (nb [d] (zh zz 69 a d b)) fun e=>opt (zd zz 69 a e) fun k=>rv [k] e R)
 (fun c=>c [] b)
 (EP g h a R)
def iw:=fun b c g (R:VK) h i d (e:za)=>
 GD b false (fun j=>zV (nb [d] (zg zz .len [59] 3 [d] e)) fun a k=>j a k) (fun a f=>GD b false (fun l=>opt (nb [c,a] (ze zz .geq 3 (.tmp 8) (.tmp 13) c a)) fun m=>l m f) (iu b g R h i) f) e
def iy:=fun a e f (R:VK) g h i (d:za)=>
 GD a false (fun j=>opt (zb zz 154 i 1) fun b=>j b d) (fun b c=>GD a false (fun k=>opt (zd zz 59 b c) fun l=>k l c) (iw a e f R g h) c) d
def Ob:=fun (h:za) c a (R:VK)=>
 opt (yV zz 69) fun g=>nw h (Value.cells g).toList 69 fun i d=>opt (nb [a,.int .i64 0] (ze zz .lss 3 (.tmp 5) (ci 0) a (.int .i64 0))) fun b=>GD b false (fun j=>j a d) (fun k e=>GD b false (fun l=>l c e) (fun m f=>GD b false (fun n=>opt (uk m) fun o=>n o f) (iy b k i R c a) f) e) d
theorem Ir (hw:Ob h t0 t1 R):DC zz 78 [t0,t1] h R:=zL mixed (q:=qs) (n:=200) (Eq.mpr (by kernel_rfl) hw)
def Ii:=fun a (d:za) (R:VK) (f:LK)=>
 opt (nb [] (yg zz 69 [])) fun b=>opt (nb [b] (zh zz 69 a b d)) fun c=>opt (zd zz 69 a c) fun e=>rv [e,.bool false] c R
def Ij:=fun g (a:za) b (R:VK) (n:LK)=>
 opt (zb zz 69 g 1) fun h=>opt (zd zz 2 h a) fun c=>zV (nb [c] (uf zz 2 21 c a)) fun d i=>zV (nb [d] (uf zz 21 2 d i)) fun j k=>zH zz (fn 49) [j] k (fun e l=>opt (nb [e] (zh zz 69 b e l)) fun f=>opt (zd zz 69 b f) fun m=>rv [m,.bool true] f R)
def Ik:=fun g (a:za) b (R:VK) (n:LK)=>
 opt (zb zz 69 g 1) fun h=>opt (zd zz 2 h a) fun c=>zV (nb [c] (uf zz 2 186 c a)) fun d i=>zV (nb [d] (uf zz 186 2 d i)) fun j k=>zH zz (fn 49) [j] k (fun e l=>opt (nb [e] (zh zz 69 b e l)) fun f=>opt (zd zz 69 b f) fun m=>rv [m,.bool true] f R)
def CY:=fun a c (b:za) d (R:VK) e (f:LK)=>
 opt (nb [a,.int .i64 4] (ze zz .eql 3 (.tmp 10) (.const (.int .i64 4)) a (.int .i64 4))) fun g=>CD g (Ij c b d R)
 (fun h=>h [nth e 0] b)
 (fun i j=>f [nth i 0] j)
def Il:=fun e (a:za) b (R:VK) (k:LK)=>
 opt (zb zz 69 e 1) fun f=>opt (zd zz 2 f a) fun g=>opt (Wz zz .xor g) fun h=>zH zz (fn 49) [h] a (fun c i=>opt (nb [c] (zh zz 69 b c i)) fun d=>opt (zd zz 69 b d) fun j=>rv [j,.bool true] d R)
def sD:=fun a b (c:za) d (R:VK) e (f:LK)=>
 opt (nb [a,.int .i64 3] (ze zz .eql 3 (.tmp 10) (.const (.int .i64 3)) a (.int .i64 3))) fun g=>CD g (Ik b c d R)
 (CY a b c d R e)
 (fun h i=>f [nth h 0] i)
def Im:=fun e (a:za) b (R:VK) (k:LK)=>
 opt (zb zz 69 e 1) fun f=>opt (zd zz 2 f a) fun g=>opt (Wz zz .neg g) fun h=>zH zz (fn 49) [h] a (fun c i=>opt (nb [c] (zh zz 69 b c i)) fun d=>opt (zd zz 69 b d) fun j=>rv [j,.bool true] d R)
def iX:=fun a b (c:za) d (R:VK) e (f:LK)=>
 opt (nb [a,.int .i64 2] (ze zz .eql 3 (.tmp 10) (.const (.int .i64 2)) a (.int .i64 2))) fun g=>CD g (Il b c d R)
 (sD a b c d R e)
 (fun h i=>f [nth h 0] i)
def dM:=fun a b (c:za) d (R:VK) e (f:LK)=>
 opt (nb [a,.int .i64 1] (ze zz .eql 3 (.tmp 10) (ci 1) a (.int .i64 1))) fun g=>CD g (Im b c d R)
 (iX a b c d R e)
 (fun h i=>f [nth h 0] i)
def EG:=fun a (R:VK) (f:List Value) (d:za)=>
 opt (nb [] (yg zz 69 [])) fun b=>opt (nb [b] (zh zz 69 a b d)) fun c=>opt (zd zz 69 a c) fun e=>rv [e,.bool false] c R
def Ry:=fun (h:za) f b (R:VK)=>
 opt (nb [b] (some (Value.cells b).toList)) fun g=>nw h g 69 fun c i=>opt (yV zz 69) fun j=>nw i (Value.cells j).toList 69 fun a d=>opt (zd zz 69 c d) fun k=>zH zz (fn 114) [k] d (fun l e=>opt (Wz zz .not l) fun m=>CD m (Ii a e R)
 (fun n=>n [.bool false] e)
 (fun o p=>BK (dM f c p a R o)
 (EG a R)))
theorem M8 (hw:Ry h t0 t1 R):DC zz 79 [t0,t1] h R:=zL mixed (q:=qs) (n:=200) (Eq.mpr (by kernel_rfl) hw)
def fR:=fun e (a:za) b (R:VK) (j:LK)=>
 opt (zb zz 53 e 5) fun f=>opt (zd zz 2 f a) fun g=>zH zz (fn 49) [g] a (fun c h=>opt (nb [c] (zh zz 69 b c h)) fun d=>opt (zd zz 69 b d) fun i=>rv [i] d R)
def fS:=fun e f a (R:VK) (k:List Value) (b:za)=>
 opt (zb zz 53 e 3) fun g=>opt (zd zz 3 g b) fun h=>zH zz (fn 78) [f,h] b (fun c i=>opt (nb [c] (zh zz 69 a c i)) fun d=>opt (zd zz 69 a d) fun j=>rv [j] d R)
def pA:=fun (h:za) f c (R:VK)=>
 opt (nb [c] (some (Value.cells c).toList)) fun g=>nw h g 53 fun a i=>opt (yV zz 69) fun j=>nw i (Value.cells j).toList 69 fun d b=>opt (zb zz 53 a 3) fun k=>opt (zd zz 3 k b) fun e=>opt (nb [e,.int .i64 (-1)] (ze zz .eql 3 (.tmp 6) (.const (.int .i64 (-1))) e (.int .i64 (-1)))) fun l=>CD l (fR a b d R)
 (fun m=>m [] b)
 (fS a f d R)
theorem sG (hw:pA h t0 t1 R):DC zz 80 [t0,t1] h R:=zL mixed (q:=qs) (n:=200) (Eq.mpr (by kernel_rfl) hw)
def It:=fun (h:za) a b c d (R:VK)=>
 opt (uk a) fun j=>opt (zb zz 106 j 3) fun k=>opt (zb zz 33 k 3) fun l=>opt (zd zz 31 l h) fun e=>opt (nb [b,c,d] (yg zz 74 [(0,b),(1,c),(2,d)])) fun f=>zV (nb [f] (zO zz 31 1 [(0,f)] h)) fun g m=>zV (nb [e,g] (zg zz .append [31,31] 31 [e,g] m)) fun i n=>opt (uk a) fun o=>opt (zb zz 106 o 3) fun p=>opt (zb zz 33 p 3) fun q=>opt (nb [i] (zh zz 31 q i n)) fun r=>rv [] r R
theorem Gz (hw:It h t0 t1 t2 t3 R):DC zz 81 [t0,t1,t2,t3] h R:=zL mixed (q:=qs) (n:=200) (Eq.mpr (by kernel_rfl) hw)
def EO:=fun (h:za) a b c (R:VK)=>
 opt (uk a) fun i=>opt (zb zz 106 i 3) fun j=>opt (zb zz 33 j 2) fun k=>opt (zd zz 30 k h) fun d=>opt (nb [b,c] (yg zz 97 [(0,b),(1,c)])) fun e=>zV (nb [e] (zO zz 30 1 [(0,e)] h)) fun f l=>zV (nb [d,f] (zg zz .append [30,30] 30 [d,f] l)) fun g m=>opt (uk a) fun n=>opt (zb zz 106 n 3) fun o=>opt (zb zz 33 o 2) fun p=>opt (nb [g] (zh zz 30 p g m)) fun q=>rv [] q R
theorem C5 (hw:EO h t0 t1 t2 R):DC zz 90 [t0,t1,t2] h R:=zL mixed (q:=qs) (n:=200) (Eq.mpr (by kernel_rfl) hw)
def KF:=fun a (R:VK) b (e:za)=>
 opt (Wf b 0) fun c=>opt (Wf b 1) fun f=>opt (nb [c] (zh zz 69 a c e)) fun d=>opt (zd zz 69 a d) fun g=>rv [g,f] d R
def uZ:=fun a (R:VK) b (e:za)=>
 opt (Wf b 0) fun c=>opt (Wf b 1) fun f=>opt (nb [c] (zh zz 69 a c e)) fun d=>opt (zd zz 69 a d) fun g=>rv [g,f] d R
def yX:=fun c d e f g (R:VK) (h:LK) i (a:za)=>
 opt (pk c (.bool true) i) fun j=>CD j (fun b=>opt (zd zz 69 d a) fun k=>opt (zd zz 69 e a) fun l=>zH zz (fn 117) [f,k,l] a (uZ g R))
 (fun b=>b [.bool false] a)
 (fun m n=>h [nth m 0] n)
def yY:=fun a d e f g (R:VK) (h:LK) b (c:za)=>
 GD a false (fun i=>opt (nb [b,.int .i64 22] (ze zz .eql 3 (.tmp 84) (.const (.int .i64 22)) b (.int .i64 22))) fun j=>i j c) (yX a d e f g R h) c
def Ez:=fun b (a:za) h c (R:VK) (p:LK)=>
 opt (zb zz 69 b 2) fun i=>opt (zd zz 3 i a) fun j=>opt (zb zz 69 b 1) fun k=>opt (zd zz 2 k a) fun d=>opt (zb zz 69 h 1) fun l=>opt (zd zz 2 l a) fun e=>opt (nb [d,e] (ze zz .sub 2 (.tmp 75) (.tmp 77) d e)) fun m=>zH zz (fn 86) [j,m] a (fun f n=>opt (nb [f] (zh zz 69 c f n)) fun g=>opt (zd zz 69 c g) fun o=>rv [o,.bool true] g R)
def yZ:=fun a (b:za) d e f (R:VK) (g:LK)=>
 opt (nb [a,.int .i64 21] (ze zz .eql 3 (.tmp 81) (.const (.int .i64 21)) a (.int .i64 21))) fun c=>GD c false (fun h=>h a b) (yY c d e a f R g) b
def yR:=fun b c d e (R:VK) h (i:LK) j (f:za)=>
 GD b true (fun k=>zH zz (fn 114) [j] f (fun a l=>k a l)) (fun a g=>opt (pk b a (.bool false)) fun m=>CD m (Ez c g d e R)
 (yZ h g c d e R)
 (fun n o=>i [nth n 0] o)) f
def yS:=fun c d g h (R:VK) i (j:LK) k (e:za)=>
 GD c true (fun l=>zH zz (fn 116) [k] e (fun a m=>l a m)) (fun a b=>opt (pk c a (.bool false)) fun f=>GD f true (fun n=>opt (zd zz 69 d b) fun o=>n o b) (yR f g d h R i j) b) e
def EA:=fun b (a:za) h c (R:VK) (p:LK)=>
 opt (zb zz 69 b 2) fun i=>opt (zd zz 3 i a) fun j=>opt (zb zz 69 h 1) fun k=>opt (zd zz 2 k a) fun d=>opt (zb zz 69 b 1) fun l=>opt (zd zz 2 l a) fun e=>opt (nb [d,e] (ze zz .add 2 (.tmp 56) (.tmp 58) d e)) fun m=>zH zz (fn 86) [j,m] a (fun f n=>opt (nb [f] (zh zz 69 c f n)) fun g=>opt (zd zz 69 c g) fun o=>rv [o,.bool true] g R)
def yy:=fun a c (b:za) e f (R:VK) (g:LK)=>
 opt (nb [a,.int .i64 12] (ze zz .eql 3 (.tmp 62) (.const (.int .i64 12)) a (.int .i64 12))) fun d=>GD d true (fun h=>opt (zd zz 69 c b) fun i=>h i b) (yS d e c f R a g) b
def yq:=fun b c d e (R:VK) h (i:LK) j (f:za)=>
 GD b true (fun k=>zH zz (fn 116) [j] f (fun a l=>k a l)) (fun a g=>opt (pk b a (.bool false)) fun m=>CD m (EA c g d e R)
 (yy h d g c e R)
 (fun n o=>i [nth n 0] o)) f
def yr:=fun c d g h (R:VK) i (j:LK) k (e:za)=>
 GD c true (fun l=>zH zz (fn 114) [k] e (fun a m=>l a m)) (fun a b=>opt (pk c a (.bool false)) fun f=>GD f true (fun n=>opt (zd zz 69 d b) fun o=>n o b) (yq f d g h R i j) b) e
def Ag:=fun b (a:za) h c (R:VK) (p:LK)=>
 opt (zb zz 69 b 2) fun i=>opt (zd zz 3 i a) fun j=>opt (zb zz 69 b 1) fun k=>opt (zd zz 2 k a) fun d=>opt (zb zz 69 h 1) fun l=>opt (zd zz 2 l a) fun e=>opt (nb [d,e] (ze zz .add 2 (.tmp 37) (.tmp 39) d e)) fun m=>zH zz (fn 86) [j,m] a (fun f n=>opt (nb [f] (zh zz 69 c f n)) fun g=>opt (zd zz 69 c g) fun o=>rv [o,.bool true] g R)
def yu:=fun a c (b:za) e f (R:VK) (g:LK)=>
 opt (nb [a,.int .i64 11] (ze zz .eql 3 (.tmp 43) (.const (.int .i64 11)) a (.int .i64 11))) fun d=>GD d true (fun h=>opt (zd zz 69 c b) fun i=>h i b) (yr d e c f R a g) b
def yj:=fun b c d e (R:VK) h (i:LK) j (f:za)=>
 GD b true (fun k=>zH zz (fn 114) [j] f (fun a l=>k a l)) (fun a g=>opt (pk b a (.bool false)) fun m=>CD m (Ag c g d e R)
 (yu h c g d e R)
 (fun n o=>i [nth n 0] o)) f
def yk:=fun c d g h (R:VK) i (j:LK) k (e:za)=>
 GD c true (fun l=>zH zz (fn 116) [k] e (fun a m=>l a m)) (fun a b=>opt (pk c a (.bool false)) fun f=>GD f true (fun n=>opt (zd zz 69 d b) fun o=>n o b) (yj f g d h R i j) b) e
def VL:=fun b (a:za) c d e (R:VK) (j:LK)=>
 opt (zb zz 69 b 1) fun f=>opt (zd zz 2 f a) fun g=>opt (zb zz 69 c 1) fun h=>opt (zd zz 2 h a) fun i=>zH zz (fn 115) [d,g,i] a (KF e R)
def ym:=fun a c (b:za) e f (R:VK) (g:LK)=>
 opt (nb [a,.int .i64 11] (ze zz .eql 3 (.tmp 24) (.const (.int .i64 11)) a (.int .i64 11))) fun d=>GD d true (fun h=>opt (zd zz 69 c b) fun i=>h i b) (yk d e c f R a g) b
def zX:=fun b c d e f (R:VK) (i:LK) j (g:za)=>
 GD b true (fun k=>zH zz (fn 114) [j] g (fun a l=>k a l)) (fun a h=>opt (pk b a (.bool false)) fun m=>CD m (VL c h d e f R)
 (ym e c h d f R)
 (fun n o=>i [nth n 0] o)) g
def Ah:=fun b (c:za) d f g (R:VK) (h:LK)=>
 opt (zd zz 69 b c) fun i=>zH zz (fn 114) [i] c (fun e a=>GD e true (fun j=>opt (zd zz 69 d a) fun k=>j k a) (zX e b d f g R h) a)
def wk:=fun a (R:VK) (f:List Value) (d:za)=>
 opt (nb [] (yg zz 69 [])) fun b=>opt (nb [b] (zh zz 69 a b d)) fun c=>opt (zd zz 69 a c) fun e=>rv [e,.bool false] c R
def N8:=fun (h:za) d a b (R:VK)=>
 opt (nb [a] (some (Value.cells a).toList)) fun e=>nw h e 69 fun f g=>opt (nb [b] (some (Value.cells b).toList)) fun i=>nw g i 69 fun j k=>opt (yV zz 69) fun l=>nw k (Value.cells l).toList 69 fun c m=>BK (Ah f m j d c R)
 (wk c R)
theorem H8 (hw:N8 h t0 t1 t2 R):DC zz 82 [t0,t1,t2] h R:=zL mixed (q:=qs) (n:=200) (Eq.mpr (by kernel_rfl) hw)
def QE:=fun a (d:za) (R:VK) (f:LK)=>
 opt (nb [] (yg zz 69 [])) fun b=>opt (nb [b] (zh zz 69 a b d)) fun c=>opt (zd zz 69 a c) fun e=>rv [e,.bool false] c R
def fL:=fun e a (R:VK) (g:Value) (b:za)=>
 opt (zd zz 69 e b) fun c=>opt (nb [c] (zh zz 69 a c b)) fun d=>opt (zd zz 69 a d) fun f=>rv [f,.bool true] d R
def fM:=fun a c d (R:VK) (i:List Value) (b:za)=>
 opt (zb zz 69 a 2) fun e=>opt (zd zz 3 e b) fun f=>opt (zb zz 69 a 1) fun g=>opt (zd zz 2 g b) fun h=>zH zz (fn 81) [c,.int .i64 2,f,h] b (fL a d R)
def QF:=fun b c (R:VK) g h d (e:za)=>
 GD b false (fun i=>opt (nb [d,.int .i64 2] (ze zz .neq 3 (.tmp 25) (.const (.int .i64 2)) d (.int .i64 2))) fun a=>i a e) (fun a f=>opt (pk b (.bool true) a) fun j=>CD j (QE c f R)
 (fun k=>k [.bool false] f)
 (fM g h c R)) e
def QG:=fun (h:za) i (R:VK) j e=>
 opt (Wf e 0) fun f=>opt (Wf e 1) fun k=>opt (yV zz 69) fun l=>nw h (Value.cells l).toList 69 fun a m=>opt (nb [f] (zh zz 69 a f m)) fun g=>opt (Wz zz .not k) fun b=>GD b false (fun n=>opt (zb zz 69 a 0) fun c=>n c g) (fun c d=>GD b false (fun o=>opt (zd zz 3 c d) fun p=>o p d) (QF b i R a j) d) g
def fN:=fun b (a:za) c (R:VK) d e=>
 opt (zb zz 53 b 5) fun f=>opt (zd zz 2 f a) fun g=>qN zz 49 [g] a (fun h=>qN zz 82 [.int .i64 11,e,h] a (QG a c R d))
def oI:=fun (h:za) d e b (R:VK)=>
 opt (nb [b] (some (Value.cells b).toList)) fun f=>nw h f 53 fun c g=>opt (yV zz 69) fun i=>nw g (Value.cells i).toList 69 fun j a=>opt (zb zz 53 c 2) fun k=>opt (zd zz 3 k a) fun l=>qN zz 78 [e,l] a (fN c a j R d)
theorem sE (hw:oI h t0 t1 t2 R):DC zz 83 [t0,t1,t2] h R:=zL mixed (q:=qs) (n:=200) (Eq.mpr (by kernel_rfl) hw)
def E0:=fun a b c (R:VK) (h:List Value) (f:za)=>
 opt (nb [.int .i64 2,a,b] (yg zz 69 [(0,(.int .i64 2)),(1,a),(2,b)])) fun d=>opt (nb [d] (zh zz 69 c d f)) fun e=>opt (zd zz 69 c e) fun g=>rv [g] e R
def Oe:=fun (h:za) a g (R:VK)=>
 opt (yV zz 69) fun i=>nw h (Value.cells i).toList 69 fun b c=>opt (nb [a,.int .i64 1] (ze zz .lss 3 (.tmp 5) (ci 1) a (.int .i64 1))) fun j=>CD j (fun d=>opt (nb [] (yg zz 69 [])) fun e=>opt (nb [e] (zh zz 69 b e c)) fun f=>opt (zd zz 69 b f) fun k=>rv [k] f R)
 (fun d=>d [] c)
 (E0 g a b R)
theorem Ix (hw:Oe h t0 t1 R):DC zz 86 [t0,t1] h R:=zL mixed (q:=qs) (n:=200) (Eq.mpr (by kernel_rfl) hw)
def AJ:=fun c (a:za) d (e:LK)=>
 opt (zb zz 53 c 8) fun f=>opt (zd zz 3 f a) fun b=>opt (uk d) fun g=>opt (zb zz 154 g 3) fun h=>opt (nb [b] (zh zz 3 h b a)) fun i=>e [] i
def AK:=fun b c g (R:VK) (o:Value) (d:za)=>
 opt (zb zz 53 b 7) fun h=>opt (zd zz 3 h d) fun e=>opt (uk c) fun i=>opt (zb zz 154 i 3) fun j=>opt (nb [e] (zh zz 3 j e d)) fun a=>opt (zb zz 69 g 1) fun k=>opt (zd zz 2 k a) fun f=>opt (nb [f,.int .i64 0] (ze zz .eql 2 (.tmp 34) (ci 0) f (.int .i64 0))) fun l=>CD l (AJ b a c)
 (fun m=>m [] a)
 (fun p n=>rv [.bool true] n R)
def AL:=fun a c d e (R:VK) (h:List Value) (b:za)=>
 opt (zb zz 69 a 1) fun f=>opt (zd zz 2 f b) fun g=>zH zz (fn 81) [c,.int .i64 1,g,.int .i64 0] b (AK d e a R)
def i3:=fun (f:za) (R:VK) g h i a=>
 opt (Wf a 0) fun b=>opt (Wf a 1) fun j=>opt (yV zz 69) fun k=>nw f (Value.cells k).toList 69 fun c l=>opt (nb [b] (zh zz 69 c b l)) fun d=>opt (Wz zz .not j) fun m=>CD m (fun e=>rv [.bool false] d R)
 (fun e=>e [.bool false] d)
 (AL c g h i R)
def Ip:=fun (h:za) e c d (R:VK)=>
 opt (nb [d] (some (Value.cells d).toList)) fun f=>nw h f 53 fun b a=>opt (zb zz 53 b 1) fun g=>opt (zd zz 3 g a) fun i=>opt (zb zz 53 b 2) fun j=>opt (zd zz 3 j a) fun k=>qN zz 78 [c,k] a (fun l=>opt (zd zz 53 b a) fun m=>qN zz 80 [c,m] a (fun n=>qN zz 82 [i,l,n] a (i3 a R e b c)))
theorem Gx (hw:Ip h t0 t1 t2 R):DC zz 87 [t0,t1,t2] h R:=zL mixed (q:=qs) (n:=200) (Eq.mpr (by kernel_rfl) hw)
def pj:=fun f a (R:VK) (n:List Value) (b:za)=>
 opt (zb zz 69 f 1) fun c=>opt (zd zz 2 c b) fun d=>opt (uk a) fun g=>opt (zb zz 106 g 3) fun h=>opt (zb zz 33 h 0) fun e=>(MX 1 e 1 c/\opt (nb [.int .i64 1] (zh zz 3 e (.int .i64 1) b)) fun i=>opt (uk a) fun j=>opt (zb zz 106 j 3) fun k=>opt (zb zz 33 k 1) fun l=>opt (nb [d] (zh zz 2 l d i)) fun m=>rv [.bool true] m R)
def ee:=fun b (a:za) (R:VK) e (h:LK)=>
 opt (zb zz 69 b 0) fun f=>opt (zd zz 3 f a) fun c=>opt (nb [c,.int .i64 1] (ze zz .neq 3 (.tmp 51) (ci 1) c (.int .i64 1))) fun g=>CD g (fun d=>rv [.bool false] a R)
 (fun d=>d [.bool false] a)
 (pj b e R)
def po:=fun c (a:za) d (e:LK)=>
 opt (uk c) fun f=>opt (zb zz 154 f 1) fun g=>opt (zd zz 59 g a) fun h=>opt (nb [] (yg zz 69 [])) fun b=>opt (zw zz 59 h (nth d 0)) fun i=>opt (nb [b] (zh zz 69 i b a)) fun j=>e [] j
def pr:=fun d (a:za) b e (f:LK)=>
 opt (uk d) fun g=>opt (zb zz 106 g 6) fun h=>opt (zd zz 95 h a) fun i=>zH zz i [nth b 0] a (fun j c=>opt (Wz zz .not j) fun k=>CD k (po e c b)
 (fun l=>l [] c)
 (fun n m=>f [] m))
def pw:=fun b a c (d:LK) (h:List Value) (e:za)=>
 BK (pr b e a c)
 (fun i f=>opt (nb [nth a 0,.int .i64 1] (ze zz .add 3 (.tmp 98) (ci 1) (nth a 0) (.int .i64 1))) fun g=>d [g] f)
def px:=fun b (e:LK) f g a (c:za) (h:LK)=>
 opt (nb [nth a 0,b] (ze zz .lss 3 (.tmp 98) (.tmp 97) (nth a 0) b)) fun i=>CD i (fun d=>d [] c)
 (fun d=>e [] c)
 (pw f a g h)
def py:=fun a (b:za) d (e:LK)=>
 opt (uk a) fun f=>opt (zb zz 154 f 1) fun g=>opt (zd zz 59 g b) fun c=>zV (nb [c] (zg zz .len [59] 3 [c] b)) fun h i=>BK (fun j=>LP (px h j d a)
 [.int .i64 0] i)
 (fun l k=>e [] k)
def pz:=fun c d (R:VK) (i:Value) (a:za)=>
 opt (zb zz 53 c 7) fun e=>opt (zd zz 3 e a) fun b=>opt (uk d) fun f=>opt (zb zz 154 f 3) fun g=>opt (nb [b] (zh zz 3 g b a)) fun h=>rv [.bool true] h R
def eg:=fun b d c (R:VK) (h:List Value) (a:za)=>
 opt (zb zz 53 b 4) fun e=>opt (zd zz 3 e a) fun f=>opt (zd zz 69 d a) fun g=>zH zz (fn 77) [c,f,g] a (pz b c R)
def ll:=fun b j (R:VK) (H:List Value) (a:za)=>
 opt (uk b) fun k=>opt (zb zz 106 k 5) fun l=>opt (zd zz 104 l a) fun m=>opt (uk b) fun n=>opt (zb zz 106 n 5) fun o=>opt (zd zz 104 o a) fun e=>zV (nb [e] (zg zz .len [104] 3 [e] a)) fun f _=>opt (nb [f,.int .i64 1] (ze zz .sub 3 (.tmp 71) (ci 1) f (.int .i64 1))) fun p=>opt (zw zz 104 m p) fun q=>opt (zd zz 152 q a) fun c=>opt (uk c) fun r=>opt (zb zz 154 r 0) fun s=>opt (zd zz 151 s a) fun t=>opt (uk t) fun u=>opt (zb zz 45 u 5) fun v=>opt (zd zz 43 v a) fun w=>opt (uk c) fun x=>opt (zb zz 154 x 3) fun y=>opt (zd zz 3 y a) fun z=>opt (zw zz 43 w z) fun A=>opt (zd zz 53 A a) fun g=>opt (yV zz 53) fun B=>nw a (Value.cells B).toList 53 fun h C=>opt (nb [g] (zh zz 53 h g C)) fun d=>opt (uk b) fun D=>opt (zb zz 106 D 6) fun E=>opt (zd zz 95 E d) fun i=>opt (nb [i,.nilFunc] (ze zz .neq 95 (.tmp 91) (.const .nilFunc) i .nilFunc)) fun F=>CD F (py c d b)
 (fun G=>G [] d)
 (eg h j c R)
def JQ:=fun a c (R:VK) (w:Value) (b:za)=>
 opt (uk a) fun m=>opt (zb zz 106 m 5) fun n=>opt (zd zz 104 n b) fun d=>opt (uk a) fun o=>opt (zb zz 106 o 5) fun p=>opt (zd zz 104 p b) fun e=>zV (nb [e] (zg zz .len [104] 3 [e] b)) fun f _=>opt (nb [f,.int .i64 1] (ze zz .sub 3 (.tmp 39) (ci 1) f (.int .i64 1))) fun g=>opt (nb [d] (cond (Mh none && Mh (some g)) (MY zz 104 d none (some g) b) none)) fun h=>opt (uk a) fun q=>opt (zb zz 106 q 5) fun r=>opt (nb [h] (zh zz 104 r h b)) fun i=>opt (uk a) fun s=>opt (zb zz 106 s 5) fun t=>opt (zd zz 104 t i) fun j=>zV (nb [j] (zg zz .len [104] 3 [j] i)) fun k l=>opt (nb [k,.int .i64 0] (ze zz .eql 3 (.tmp 48) (ci 0) k (.int .i64 0))) fun u=>CD u (ee c l R a)
 (fun v=>v [.bool false] l)
 (ll a c R)
def sF:=fun (h:za) b c (R:VK)=>
 opt (nb [c] (some (Value.cells c).toList)) fun f=>nw h f 69 fun g a=>opt (uk b) fun i=>opt (zb zz 106 i 5) fun j=>opt (zd zz 104 j a) fun k=>opt (uk b) fun l=>opt (zb zz 106 l 5) fun m=>opt (zd zz 104 m a) fun d=>zV (nb [d] (zg zz .len [104] 3 [d] a)) fun e _=>opt (nb [e,.int .i64 1] (ze zz .sub 3 (.tmp 17) (ci 1) e (.int .i64 1))) fun n=>opt (zw zz 104 k n) fun o=>opt (zd zz 152 o a) fun p=>opt (uk b) fun q=>opt (zb zz 106 q 1) fun r=>opt (zd zz 100 r a) fun s=>opt (uk p) fun t=>opt (zb zz 154 t 2) fun u=>opt (zd zz 3 u a) fun v=>Y8 zz 120 [s,v] a (JQ b g R)
theorem lp (hw:sF h t0 t1 R):DC zz 88 [t0,t1] h R:=F4 mixed (q:=qs) (n:=200) (Eq.mpr (by kernel_rfl) hw)
def Ar:=fun b (R:VK) (l:List Value) (a:za)=>
 opt (uk b) fun d=>opt (zb zz 141 d 0) fun e=>opt (zd zz 26 e a) fun f=>opt (uk b) fun g=>opt (zb zz 141 g 1) fun h=>opt (zd zz 3 h a) fun c=>opt (nb [c,.int .i64 1] (ze zz .sub 3 (.tmp 27) (ci 1) c (.int .i64 1))) fun i=>opt (zw zz 26 f i) fun j=>opt (zd zz 2 j a) fun k=>rv [k] a R
def Ib:=fun (h:za) a (R:VK)=>
 opt (uk a) fun j=>opt (zb zz 141 j 1) fun k=>opt (zd zz 3 k h) fun c=>opt (nb [c,.int .i64 1] (ze zz .add 3 (.tmp 6) (ci 1) c (.int .i64 1))) fun d=>opt (uk a) fun l=>opt (zb zz 141 l 1) fun m=>opt (nb [d] (zh zz 3 m d h)) fun b=>opt (uk a) fun n=>opt (zb zz 141 n 1) fun o=>opt (zd zz 3 o b) fun e=>opt (uk a) fun p=>opt (zb zz 141 p 0) fun q=>opt (zd zz 26 q b) fun f=>zV (nb [f] (zg zz .len [26] 3 [f] b)) fun g _=>opt (nb [e,g] (ze zz .gtr 3 (.tmp 13) (.tmp 18) e g)) fun r=>CD r (fun i=>rv [.int .i64 0] b R)
 (fun i=>i [.int .i64 0] b)
 (Ar a R)
theorem Gg (hw:Ib h t0 R):DC zz 89 [t0] h R:=zL mixed (q:=qs) (n:=200) (Eq.mpr (by kernel_rfl) hw)
def dY:=fun b (R:VK) d (c:za)=>
 GD b true (fun e=>zH zz (fn 119) [d] c (fun a f=>e a f)) (fun a g=>opt (pk b a (.bool false)) fun h=>rv [h] g R) c
def ER:=fun (h:za) b (R:VK)=>
 opt (nb [b] (some (Value.cells b).toList)) fun f=>nw h f 69 fun c a=>opt (zb zz 69 c 0) fun g=>opt (zd zz 3 g a) fun d=>opt (nb [d,.int .i64 1] (ze zz .eql 3 (.tmp 4) (ci 1) d (.int .i64 1))) fun e=>GD e true (fun i=>opt (zd zz 69 c a) fun j=>i j a) (dY e R) a
theorem C6 (hw:ER h t0 R):DC zz 114 [t0] h R:=zL mixed (q:=qs) (n:=200) (Eq.mpr (by kernel_rfl) hw)
def dZ:=fun b (R:VK) d (c:za)=>
 GD b true (fun e=>zH zz (fn 119) [d] c (fun a f=>e a f)) (fun a g=>opt (pk b a (.bool false)) fun h=>rv [h] g R) c
def ES:=fun (h:za) b (R:VK)=>
 opt (nb [b] (some (Value.cells b).toList)) fun f=>nw h f 69 fun c a=>opt (zb zz 69 c 0) fun g=>opt (zd zz 3 g a) fun d=>opt (nb [d,.int .i64 2] (ze zz .eql 3 (.tmp 4) (.const (.int .i64 2)) d (.int .i64 2))) fun e=>GD e true (fun i=>opt (zd zz 69 c a) fun j=>i j a) (dZ e R) a
theorem C7 (hw:ES h t0 R):DC zz 116 [t0] h R:=zL mixed (q:=qs) (n:=200) (Eq.mpr (by kernel_rfl) hw)
def QV:=fun a (d:za) (R:VK) (f:LK)=>
 opt (nb [] (yg zz 69 [])) fun b=>opt (nb [b] (zh zz 69 a b d)) fun c=>opt (zd zz 69 a c) fun e=>rv [e,.bool false] c R
def lh:=fun a b (f:za) c (R:VK) (j:LK)=>
 opt (nb [a,b] (ze zz .quo 2 (.tmp 43) (.tmp 44) a b)) fun g=>zH zz (fn 49) [g] f (fun d h=>opt (nb [d] (zh zz 69 c d h)) fun e=>opt (zd zz 69 c e) fun i=>rv [i,.bool true] e R)
def lj:=fun a b c (R:VK) (j:List Value) (f:za)=>
 opt (nb [a,b] (ze zz .rem 2 (.tmp 47) (.tmp 48) a b)) fun g=>zH zz (fn 49) [g] f (fun d h=>opt (nb [d] (zh zz 69 c d h)) fun e=>opt (zd zz 69 c e) fun i=>rv [i,.bool true] e R)
def QW:=fun a b c d (R:VK) f (e:za)=>
 opt (nb [a,.int .i64 14] (ze zz .eql 3 (.tmp 41) (.const (.int .i64 14)) a (.int .i64 14))) fun g=>CD g (lh b c e d R)
 (fun h=>h [nth f 0] e)
 (lj b c d R)
def ZF:=fun b f c (R:VK) g h i j (d:za)=>
 GD b false (fun k=>opt (pk f j (.bool false)) fun a=>k a d) (fun a e=>opt (pk b (.bool true) a) fun l=>CD l (QV c e R)
 (fun m=>m [.bool false] e)
 (QW g h i c R)) d
def ZG:=fun a d e (R:VK) f g h b (c:za)=>
 GD a true (fun i=>opt (nb [b,.int .i64 (-1)] (ze zz .eql 2 (.tmp 36) (.const (.int .i64 (-1))) b (.int .i64 (-1)))) fun j=>i j c) (ZF d a e R f g h) c
def ZH:=fun a c i (R:VK) j k d (e:za)=>
 GD a false (fun l=>opt (nb [d,.int .i64 (-9223372036854775808)] (ze zz .eql 2 (.tmp 33) (.const (.int .i64 (-9223372036854775808))) d (.int .i64 (-9223372036854775808)))) fun b=>l b e) (fun b f=>GD a false (fun m=>m b f) (fun g h=>GD g true (fun n=>n c h) (ZG g a i R j k c) h) f) e
def QX:=fun a (d:za) (R:VK) (f:LK)=>
 opt (nb [] (yg zz 69 [])) fun b=>opt (nb [b] (zh zz 69 a b d)) fun c=>opt (zd zz 69 a c) fun e=>rv [e,.bool false] c R
def AX:=fun a b (f:za) c (R:VK) (j:LK)=>
 opt (nb [a,b] (ze zz .shl 2 (.tmp 81) (.tmp 82) a b)) fun g=>zH zz (fn 49) [g] f (fun d h=>opt (nb [d] (zh zz 69 c d h)) fun e=>opt (zd zz 69 c e) fun i=>rv [i,.bool true] e R)
def oT:=fun a b c (R:VK) (j:List Value) (f:za)=>
 opt (nb [a,b] (ze zz .shr 2 (.tmp 85) (.tmp 86) a b)) fun g=>zH zz (fn 49) [g] f (fun d h=>opt (nb [d] (zh zz 69 c d h)) fun e=>opt (zd zz 69 c e) fun i=>rv [i,.bool true] e R)
def dW:=fun a b c d (R:VK) f (e:za)=>
 opt (nb [a,.int .i64 19] (ze zz .eql 3 (.tmp 79) (.const (.int .i64 19)) a (.int .i64 19))) fun g=>CD g (AX b c e d R)
 (fun h=>h [nth f 0] e)
 (oT b c d R)
def Yb:=fun b c (R:VK) g h i d (e:za)=>
 GD b false (fun j=>opt (nb [d,.int .i64 63] (ze zz .gtr 2 (.tmp 75) (.const (.int .i64 63)) d (.int .i64 63))) fun a=>j a e) (fun a f=>opt (pk b (.bool true) a) fun k=>CD k (QX c f R)
 (fun l=>l [.bool false] f)
 (dW g h i c R)) e
def oU:=fun a b (f:za) c (R:VK) (j:LK)=>
 opt (nb [a,b] (ze zz .geq 2 (.tmp 121) (.tmp 122) a b)) fun g=>zH zz (fn 131) [g] f (fun d h=>opt (nb [d] (zh zz 69 c d h)) fun e=>opt (zd zz 69 c e) fun i=>rv [i,.bool true] e R)
def oV:=fun a b (f:za) c (R:VK) (j:LK)=>
 opt (nb [a,b] (ze zz .gtr 2 (.tmp 115) (.tmp 116) a b)) fun g=>zH zz (fn 131) [g] f (fun d h=>opt (nb [d] (zh zz 69 c d h)) fun e=>opt (zd zz 69 c e) fun i=>rv [i,.bool true] e R)
def dX:=fun a c d (b:za) e (R:VK) (f:LK)=>
 opt (nb [a,.int .i64 26] (ze zz .eql 3 (.tmp 8) (.const (.int .i64 26)) a (.int .i64 26))) fun g=>CD g (oU c d b e R)
 (fun h=>h [.bool false] b)
 (fun i j=>f [nth i 0] j)
def oW:=fun a b (f:za) c (R:VK) (j:LK)=>
 opt (nb [a,b] (ze zz .leq 2 (.tmp 109) (.tmp 110) a b)) fun g=>zH zz (fn 131) [g] f (fun d h=>opt (nb [d] (zh zz 69 c d h)) fun e=>opt (zd zz 69 c e) fun i=>rv [i,.bool true] e R)
def KY:=fun a b c (d:za) e (R:VK) (f:LK)=>
 opt (nb [a,.int .i64 25] (ze zz .eql 3 (.tmp 8) (.const (.int .i64 25)) a (.int .i64 25))) fun g=>CD g (oV b c d e R)
 (dX a b c d e R)
 (fun h i=>f [nth h 0] i)
def oX:=fun a b (f:za) c (R:VK) (j:LK)=>
 opt (nb [a,b] (ze zz .lss 2 (.tmp 103) (.tmp 104) a b)) fun g=>zH zz (fn 131) [g] f (fun d h=>opt (nb [d] (zh zz 69 c d h)) fun e=>opt (zd zz 69 c e) fun i=>rv [i,.bool true] e R)
def VY:=fun a b c (d:za) e (R:VK) (f:LK)=>
 opt (nb [a,.int .i64 24] (ze zz .eql 3 (.tmp 8) (.const (.int .i64 24)) a (.int .i64 24))) fun g=>CD g (oW b c d e R)
 (KY a b c d e R)
 (fun h i=>f [nth h 0] i)
def oY:=fun a b (f:za) c (R:VK) (j:LK)=>
 opt (nb [a,b] (ze zz .neq 2 (.tmp 97) (.tmp 98) a b)) fun g=>zH zz (fn 131) [g] f (fun d h=>opt (nb [d] (zh zz 69 c d h)) fun e=>opt (zd zz 69 c e) fun i=>rv [i,.bool true] e R)
def XE:=fun a b c (d:za) e (R:VK) (f:LK)=>
 opt (nb [a,.int .i64 23] (ze zz .eql 3 (.tmp 8) (.const (.int .i64 23)) a (.int .i64 23))) fun g=>CD g (oX b c d e R)
 (VY a b c d e R)
 (fun h i=>f [nth h 0] i)
def oZ:=fun a b (f:za) c (R:VK) (j:LK)=>
 opt (nb [a,b] (ze zz .eql 2 (.tmp 91) (.tmp 92) a b)) fun g=>zH zz (fn 131) [g] f (fun d h=>opt (nb [d] (zh zz 69 c d h)) fun e=>opt (zd zz 69 c e) fun i=>rv [i,.bool true] e R)
def Yd:=fun a b c (d:za) e (R:VK) (f:LK)=>
 opt (nb [a,.int .i64 22] (ze zz .eql 3 (.tmp 8) (.const (.int .i64 22)) a (.int .i64 22))) fun g=>CD g (oY b c d e R)
 (XE a b c d e R)
 (fun h i=>f [nth h 0] i)
def Ye:=fun a (b:za) d (R:VK) e f (h:LK)=>
 opt (nb [a,.int .i64 0] (ze zz .lss 2 (.tmp 72) (ci 0) a (.int .i64 0))) fun c=>GD c false (fun g=>g a b) (Yb c d R e f a) b
def Zt:=fun a b c (d:za) e (R:VK) (f:LK)=>
 opt (nb [a,.int .i64 21] (ze zz .eql 3 (.tmp 8) (.const (.int .i64 21)) a (.int .i64 21))) fun g=>CD g (oZ b c d e R)
 (Yd a b c d e R)
 (fun h i=>f [nth h 0] i)
def o7:=fun a b (f:za) c (R:VK) (j:LK)=>
 opt (nb [a,b] (ze zz .xor 2 (.tmp 65) (.tmp 66) a b)) fun g=>zH zz (fn 49) [g] f (fun d h=>opt (nb [d] (zh zz 69 c d h)) fun e=>opt (zd zz 69 c e) fun i=>rv [i,.bool true] e R)
def vP:=fun a (c:za) d e (R:VK) f (i:LK)=>
 opt (nb [a,.int .i64 19] (ze zz .eql 3 (.tmp 8) (.const (.int .i64 19)) a (.int .i64 19))) fun g=>CD g (fun b=>b [g] c)
 (fun b=>opt (nb [a,.int .i64 20] (ze zz .eql 3 (.tmp 8) (.const (.int .i64 20)) a (.int .i64 20))) fun j=>b [j] c)
 (fun k h=>CD (nth k 0) (Ye d h e R a f)
 (Zt a f d h e R)
 (fun l m=>i [nth l 0] m))
def o8:=fun a b (f:za) c (R:VK) (j:LK)=>
 opt (nb [a,b] (ze zz .or 2 (.tmp 59) (.tmp 60) a b)) fun g=>zH zz (fn 49) [g] f (fun d h=>opt (nb [d] (zh zz 69 c d h)) fun e=>opt (zd zz 69 c e) fun i=>rv [i,.bool true] e R)
def vr:=fun a b c (d:za) e (R:VK) (f:LK)=>
 opt (nb [a,.int .i64 18] (ze zz .eql 3 (.tmp 8) (.const (.int .i64 18)) a (.int .i64 18))) fun g=>CD g (o7 b c d e R)
 (vP a d c e R b)
 (fun h i=>f [nth h 0] i)
def o9:=fun a b (f:za) c (R:VK) (j:LK)=>
 opt (nb [a,b] (ze zz .and 2 (.tmp 53) (.tmp 54) a b)) fun g=>zH zz (fn 49) [g] f (fun d h=>opt (nb [d] (zh zz 69 c d h)) fun e=>opt (zd zz 69 c e) fun i=>rv [i,.bool true] e R)
def vg:=fun a b c (d:za) e (R:VK) (f:LK)=>
 opt (nb [a,.int .i64 17] (ze zz .eql 3 (.tmp 8) (.const (.int .i64 17)) a (.int .i64 17))) fun g=>CD g (o8 b c d e R)
 (vr a b c d e R)
 (fun h i=>f [nth h 0] i)
def jC:=fun a b (c:za) e (R:VK) f (h:LK)=>
 opt (nb [a,.int .i64 0] (ze zz .eql 2 (.tmp 30) (ci 0) a (.int .i64 0))) fun d=>GD d false (fun g=>g b c) (ZH d a e R f b) c
def wT:=fun a b c (d:za) e (R:VK) (f:LK)=>
 opt (nb [a,.int .i64 16] (ze zz .eql 3 (.tmp 8) (.const (.int .i64 16)) a (.int .i64 16))) fun g=>CD g (o9 b c d e R)
 (vg a b c d e R)
 (fun h i=>f [nth h 0] i)
def pd:=fun a b (f:za) c (R:VK) (j:LK)=>
 opt (nb [a,b] (ze zz .mul 2 (.tmp 23) (.tmp 24) a b)) fun g=>zH zz (fn 49) [g] f (fun d h=>opt (nb [d] (zh zz 69 c d h)) fun e=>opt (zd zz 69 c e) fun i=>rv [i,.bool true] e R)
def xg:=fun a (c:za) d e f (R:VK) (i:LK)=>
 opt (nb [a,.int .i64 14] (ze zz .eql 3 (.tmp 8) (.const (.int .i64 14)) a (.int .i64 14))) fun g=>CD g (fun b=>b [g] c)
 (fun b=>opt (nb [a,.int .i64 15] (ze zz .eql 3 (.tmp 8) (.const (.int .i64 15)) a (.int .i64 15))) fun j=>b [j] c)
 (fun k h=>CD (nth k 0) (jC d e h f R a)
 (wT a e d h f R)
 (fun l m=>i [nth l 0] m))
def pf:=fun a b (f:za) c (R:VK) (j:LK)=>
 opt (nb [a,b] (ze zz .sub 2 (.tmp 17) (.tmp 18) a b)) fun g=>zH zz (fn 49) [g] f (fun d h=>opt (nb [d] (zh zz 69 c d h)) fun e=>opt (zd zz 69 c e) fun i=>rv [i,.bool true] e R)
def y5:=fun a b c (d:za) e (R:VK) (f:LK)=>
 opt (nb [a,.int .i64 13] (ze zz .eql 3 (.tmp 8) (.const (.int .i64 13)) a (.int .i64 13))) fun g=>CD g (pd b c d e R)
 (xg a d c b e R)
 (fun h i=>f [nth h 0] i)
def ph:=fun a b (f:za) c (R:VK) (j:LK)=>
 opt (nb [a,b] (ze zz .add 2 (.tmp 11) (.tmp 12) a b)) fun g=>zH zz (fn 49) [g] f (fun d h=>opt (nb [d] (zh zz 69 c d h)) fun e=>opt (zd zz 69 c e) fun i=>rv [i,.bool true] e R)
def yW:=fun a b c (d:za) e (R:VK) (f:LK)=>
 opt (nb [a,.int .i64 12] (ze zz .eql 3 (.tmp 8) (.const (.int .i64 12)) a (.int .i64 12))) fun g=>CD g (pf b c d e R)
 (y5 a b c d e R)
 (fun h i=>f [nth h 0] i)
def yQ:=fun a b c (d:za) e (R:VK) (f:LK)=>
 opt (nb [a,.int .i64 11] (ze zz .eql 3 (.tmp 8) (.const (.int .i64 11)) a (.int .i64 11))) fun g=>CD g (ph b c d e R)
 (yW a b c d e R)
 (fun h i=>f [nth h 0] i)
def xh:=fun a (R:VK) (f:List Value) (d:za)=>
 opt (nb [] (yg zz 69 [])) fun b=>opt (nb [b] (zh zz 69 a b d)) fun c=>opt (zd zz 69 a c) fun e=>rv [e,.bool false] c R
def Is:=fun (h:za) b c d (R:VK)=>
 opt (yV zz 69) fun e=>nw h (Value.cells e).toList 69 fun a f=>BK (yQ b c d f a R)
 (xh a R)
theorem Gy (hw:Is h t0 t1 t2 R):DC zz 115 [t0,t1,t2] h R:=zL mixed (q:=qs) (n:=200) (Eq.mpr (by kernel_rfl) hw)
def dO:=fun e h (a:za) (i:LK) f=>
 opt (nb [e,f] (ze zz .eql 69 (.tmp 22) (.tmp 23) e f)) fun b=>GD b true (fun j=>opt (zd zz 69 h a) fun c=>j c a) (fun c g=>GD b true (fun k=>Y8 zz 116 [c] g (fun d l=>k d l)) (fun d m=>opt (pk b d (.bool false)) fun n=>i [n] m) g) a
def KM:=fun d e f (g:LK) h (a:za)=>
 opt (pk d h (.bool false)) fun c=>CD c (fun b=>b [c] a)
 (fun b=>opt (zd zz 69 e a) fun i=>qN zz 49 [.int .i64 0] a (dO i f a b))
 (fun j k=>g [nth j 0] k)
def dP:=fun b f g (h:LK) d (c:za)=>
 GD b true (fun i=>qN zz 49 [.int .i64 0] c (fun a=>i a c)) (fun a e=>GD b true (fun j=>opt (nb [d,a] (ze zz .eql 69 (.tmp 18) (.tmp 19) d a)) fun k=>j k e) (KM b f g h) e) c
def dQ:=fun b (c:za) d (f:LK)=>
 opt (zd zz 69 b c) fun g=>Y8 zz 116 [g] c (fun e a=>GD e true (fun h=>opt (zd zz 69 d a) fun i=>h i a) (dP e b d f) a)
def dR:=fun j (a:za) k b c (R:VK) (o:LK)=>
 opt (zd zz 69 j a) fun d=>opt (zd zz 69 k a) fun e=>opt (nb [d,e] (ze zz .eql 69 (.tmp 29) (.tmp 30) d e)) fun f=>opt (nb [b,.int .i64 21] (ze zz .eql 3 (.tmp 32) (.const (.int .i64 21)) b (.int .i64 21))) fun g=>opt (nb [f,g] (ze zz .eql 4 (.tmp 31) (.tmp 33) f g)) fun l=>zH zz (fn 131) [l] a (fun h m=>opt (nb [h] (zh zz 69 c h m)) fun i=>opt (zd zz 69 c i) fun n=>rv [n,.bool true] i R)
def KN:=fun f a b g h (R:VK) (i:LK) j (c:za)=>
 opt (pk f j (.bool false)) fun d=>CD d (fun k=>k [d] c)
 (dQ a c b)
 (fun l e=>CD (nth l 0) (dR a e b g h R)
 (fun m=>m [.bool false] e)
 (fun n o=>i [nth n 0] o))
def dS:=fun d f g h (R:VK) (i:LK) a (b:za)=>
 GD a true (fun j=>opt (zd zz 69 d b) fun c=>j c b) (fun c e=>GD a true (fun k=>zH zz (fn 116) [c] e (fun l m=>k l m)) (KN a f d g h R i) e) b
def dU:=fun a (R:VK) (f:List Value) (d:za)=>
 opt (nb [] (yg zz 69 [])) fun b=>opt (nb [b] (zh zz 69 a b d)) fun c=>opt (zd zz 69 a c) fun e=>rv [e,.bool false] c R
def EI:=fun (h:za) f a b (R:VK)=>
 opt (nb [a] (some (Value.cells a).toList)) fun g=>nw h g 69 fun c i=>opt (nb [b] (some (Value.cells b).toList)) fun j=>nw i j 69 fun k l=>opt (yV zz 69) fun m=>nw l (Value.cells m).toList 69 fun d e=>BK (fun n=>opt (zd zz 69 c e) fun o=>zH zz (fn 116) [o] e (dS k c f d R n))
 (dU d R)
theorem C0 (hw:EI h t0 t1 t2 R):DC zz 117 [t0,t1,t2] h R:=zL mixed (q:=qs) (n:=200) (Eq.mpr (by kernel_rfl) hw)
def pX:=fun (d:za) a (R:VK) (g:LK)=>
 zH zz (fn 49) [.int .i64 1] d (fun b e=>opt (nb [b] (zh zz 69 a b e)) fun c=>opt (zd zz 69 a c) fun f=>rv [f] c R)
def pY:=fun a (R:VK) (g:List Value) (d:za)=>
 zH zz (fn 49) [.int .i64 0] d (fun b e=>opt (nb [b] (zh zz 69 a b e)) fun c=>opt (zd zz 69 a c) fun f=>rv [f] c R)
def EZ:=fun (h:za) c (R:VK)=>
 opt (yV zz 69) fun d=>nw h (Value.cells d).toList 69 fun a b=>CD c (pX b a R)
 (fun e=>e [] b)
 (pY a R)
theorem Db (hw:EZ h t0 R):DC zz 131 [t0] h R:=zL mixed (q:=qs) (n:=200) (Eq.mpr (by kernel_rfl) hw)
def Iv:=fun (h:za) c (R:VK)=>
 zH zz (fn 74) [c] h (fun a d=>opt (nb [a] (yg zz 141 [(0,a)])) fun b=>opt (nb [b] (some (Value.cells b).toList)) fun e=>nw d e 141 fun f g=>rv [f] g R)
theorem GB (hw:Iv h t0 R):DC zz 46 [t0] h R:=zL mixed (q:=qs) (n:=200) (Eq.mpr (by kernel_rfl) hw)
def oc:=fun (h:za) a (R:VK)=>
 opt (nb [a,.slice none 0 0] (ze zz .eql 26 (.tmp 3) (.const (.slice none 0 0)) a (.slice none 0 0))) fun d=>CD d (fun b=>rv [.slice none 0 0] h R)
 (fun b=>b [.slice none 0 0] h)
 (fun j e=>zV (nb [] (zO zz 26 0 [] e)) fun c f=>zV (nb [c,a] (zg zz .append [26,26] 26 [c,a] f)) fun g i=>rv [g] i R)
theorem sw (hw:oc h t0 R):DC zz 74 [t0] h R:=zL mixed (q:=qs) (n:=200) (Eq.mpr (by kernel_rfl) hw)
noncomputable def mA:Array Field:=match Program.underlying Tryz.prog 69 with | some (.struct f)=>f | _ => #[]
theorem J1 (b off:Nat) (h:za):zd Tryz.prog 100 (.pointer (some ⟨b,off,none⟩)) h=zC h b off:=yd (by kernel_rfl) b off h
theorem OO (b off:Nat) (h:za):zd Tryz.prog 102 (.pointer (some ⟨b,off,none⟩)) h=zC h b off:=yd (by kernel_rfl) b off h
theorem Vw (b off:Nat) (h:za):zd Tryz.prog 104 (.pointer (some ⟨b,off,none⟩)) h=zC h b off:=yd (by kernel_rfl) b off h
theorem IM (b off:Nat) (h:za):zd Tryz.prog 151 (.pointer (some ⟨b,off,none⟩)) h=zC h b off:=yd (by kernel_rfl) b off h
theorem sY (b off:Nat) (h:za):zd Tryz.prog 152 (.pointer (some ⟨b,off,none⟩)) h=zC h b off:=yd (by kernel_rfl) b off h
theorem wj (b off:Nat) (h:za):zd Tryz.prog 2 (.pointer (some ⟨b,off,none⟩)) h=zC h b off:=yd (by kernel_rfl) b off h
theorem xr (b off:Nat) (h:za):zd Tryz.prog 22 (.pointer (some ⟨b,off,none⟩)) h=zC h b off:=yd (by kernel_rfl) b off h
theorem vA (b off:Nat) (h:za):zd Tryz.prog 23 (.pointer (some ⟨b,off,none⟩)) h=zC h b off:=yd (by kernel_rfl) b off h
theorem ZX (b off:Nat) (h:za):zd Tryz.prog 25 (.pointer (some ⟨b,off,none⟩)) h=zZ h b off 3:=vh (by kernel_rfl) (by kernel_rfl) b off h
theorem Of (b off:Nat) (h:za):zd Tryz.prog 26 (.pointer (some ⟨b,off,none⟩)) h=zC h b off:=yd (by kernel_rfl) b off h
theorem zj (b off:Nat) (h:za):zd Tryz.prog 3 (.pointer (some ⟨b,off,none⟩)) h=zC h b off:=yd (by kernel_rfl) b off h
theorem IN (b off:Nat) (h:za):zd Tryz.prog 30 (.pointer (some ⟨b,off,none⟩)) h=zC h b off:=yd (by kernel_rfl) b off h
theorem Bj (b off:Nat) (h:za):zd Tryz.prog 31 (.pointer (some ⟨b,off,none⟩)) h=zC h b off:=yd (by kernel_rfl) b off h
theorem Kb (b off:Nat) (h:za):zd Tryz.prog 33 (.pointer (some ⟨b,off,none⟩)) h=zZ h b off 5:=vh (by kernel_rfl) (by kernel_rfl) b off h
theorem vK (b off:Nat) (h:za):zd Tryz.prog 43 (.pointer (some ⟨b,off,none⟩)) h=zC h b off:=yd (by kernel_rfl) b off h
theorem ka (b off:Nat) (h:za):zd Tryz.prog 53 (.pointer (some ⟨b,off,none⟩)) h=zZ h b off 9:=vh (by kernel_rfl) (by kernel_rfl) b off h
theorem p0 (b off:Nat) (h:za):zd Tryz.prog 59 (.pointer (some ⟨b,off,none⟩)) h=zC h b off:=yd (by kernel_rfl) b off h
theorem zn (b off:Nat) (h:za):zd Tryz.prog 69 (.pointer (some ⟨b,off,none⟩)) h=zZ h b off 3:=vh (by kernel_rfl) (by kernel_rfl) b off h
theorem IP (b off:Nat) (h:za):zd Tryz.prog 95 (.pointer (some ⟨b,off,none⟩)) h=zC h b off:=yd (by kernel_rfl) b off h
theorem OQ (r:TypeId) (v x:Value) (n:Nat) (new:List Value) (h:za) (h1:Zy x=some n) (h2:xA h n 1 x=some new) (h3:new.all cellOk=true) (h4:new.length=n * 1):zg Tryz.prog .append [104,104] r [v,x] h=Ze h 152 1 8 n new v:=kA (e:=152) (e2:=152) (by kernel_rfl) (by kernel_rfl) (by kernel_rfl) (by kernel_rfl) (by decide) h1 h2 h3 h4
theorem IV (r:TypeId) (v x:Value) (n:Nat) (new:List Value) (h:za) (h1:Zy x=some n) (h2:xA h n 1 x=some new) (h3:new.all cellOk=true) (h4:new.length=n * 1):zg Tryz.prog .append [22,22] r [v,x] h=Ze h 3 1 8 n new v:=kA (e:=3) (e2:=3) (by kernel_rfl) (by kernel_rfl) (by kernel_rfl) (by kernel_rfl) (by decide) h1 h2 h3 h4
theorem RI (r:TypeId) (v x:Value) (n:Nat) (new:List Value) (h:za) (h1:Zy x=some n) (h2:xA h n 1 x=some new) (h3:new.all cellOk=true) (h4:new.length=n * 1):zg Tryz.prog .append [26,26] r [v,x] h=Ze h 2 1 8 n new v:=kA (e:=2) (e2:=2) (by kernel_rfl) (by kernel_rfl) (by kernel_rfl) (by kernel_rfl) (by decide) h1 h2 h3 h4
theorem RJ (r:TypeId) (v x:Value) (n:Nat) (new:List Value) (h:za) (h1:Zy x=some n) (h2:xA h n 2 x=some new) (h3:new.all cellOk=true) (h4:new.length=n * 2):zg Tryz.prog .append [30,30] r [v,x] h=Ze h 97 2 16 n new v:=kA (e:=97) (e2:=97) (by kernel_rfl) (by kernel_rfl) (by kernel_rfl) (by kernel_rfl) (by decide) h1 h2 h3 h4
theorem RM (r:TypeId) (v x:Value) (n:Nat) (new:List Value) (h:za) (h1:Zy x=some n) (h2:xA h n 3 x=some new) (h3:new.all cellOk=true) (h4:new.length=n * 3):zg Tryz.prog .append [31,31] r [v,x] h=Ze h 74 3 24 n new v:=kA (e:=74) (e2:=74) (by kernel_rfl) (by kernel_rfl) (by kernel_rfl) (by kernel_rfl) (by decide) h1 h2 h3 h4
theorem IW (r:TypeId) (v x:Value) (n:Nat) (new:List Value) (h:za) (h1:Zy x=some n) (h2:xA h n 3 x=some new) (h3:new.all cellOk=true) (h4:new.length=n * 3):zg Tryz.prog .append [59,59] r [v,x] h=Ze h 69 3 24 n new v:=kA (e:=69) (e2:=69) (by kernel_rfl) (by kernel_rfl) (by kernel_rfl) (by kernel_rfl) (by decide) h1 h2 h3 h4
theorem Dl (b off:Nat) (v:Option Addr) (vl vc:Nat) (h:za):zh Tryz.prog 104 (.pointer (some ⟨b,off,none⟩)) (.slice v vl vc) h=yU h b off [(.slice v vl vc)]:=xI (by kernel_rfl) b off _ h rfl
theorem S3 (b off:Nat) (v:Int) (h:za):zh Tryz.prog 2 (.pointer (some ⟨b,off,none⟩)) (.int .i64 v) h=yU h b off [(.int .i64 v)]:=xI (by kernel_rfl) b off _ h rfl
theorem E7 (b off:Nat) (v:Option Addr) (vl vc:Nat) (h:za):zh Tryz.prog 22 (.pointer (some ⟨b,off,none⟩)) (.slice v vl vc) h=yU h b off [(.slice v vl vc)]:=xI (by kernel_rfl) b off _ h rfl
theorem Wy (b off:Nat) (v:Int) (h:za):zh Tryz.prog 3 (.pointer (some ⟨b,off,none⟩)) (.int .i64 v) h=yU h b off [(.int .i64 v)]:=xI (by kernel_rfl) b off _ h rfl
theorem RT (b off:Nat) (v:Option Addr) (vl vc:Nat) (h:za):zh Tryz.prog 30 (.pointer (some ⟨b,off,none⟩)) (.slice v vl vc) h=yU h b off [(.slice v vl vc)]:=xI (by kernel_rfl) b off _ h rfl
theorem RU (b off:Nat) (v:Option Addr) (vl vc:Nat) (h:za):zh Tryz.prog 31 (.pointer (some ⟨b,off,none⟩)) (.slice v vl vc) h=yU h b off [(.slice v vl vc)]:=xI (by kernel_rfl) b off _ h rfl
theorem Ju (b off:Nat) (l:List Value) (h:za) (hv:l.length=5):zh Tryz.prog 33 (.pointer (some ⟨b,off,none⟩)) (.agg l.toArray) h=yU h b off l:=vw (by kernel_rfl) b off l h hv
theorem gH (b off:Nat) (l:List Value) (h:za) (hv:l.length=9):zh Tryz.prog 53 (.pointer (some ⟨b,off,none⟩)) (.agg l.toArray) h=yU h b off l:=vw (by kernel_rfl) b off l h hv
theorem RX (b off:Nat) (v:Option Addr) (vl vc:Nat) (h:za):zh Tryz.prog 59 (.pointer (some ⟨b,off,none⟩)) (.slice v vl vc) h=yU h b off [(.slice v vl vc)]:=xI (by kernel_rfl) b off _ h rfl
theorem zI (b off:Nat) (l:List Value) (h:za) (hv:l.length=3):zh Tryz.prog 69 (.pointer (some ⟨b,off,none⟩)) (.agg l.toArray) h=yU h b off l:=vw (by kernel_rfl) b off l h hv
theorem l9:yV Tryz.prog 33=some (.agg #[(.int .i64 0),(.int .i64 0),(.slice none 0 0),(.slice none 0 0),(.int .i64 0)]):=zB (by kernel_rfl)
theorem cE:yV Tryz.prog 53=some (.agg #[(.int .i64 0),(.int .i64 0),(.int .i64 0),(.int .i64 0),(.int .i64 0),(.int .i64 0),(.slice none 0 0),(.int .i64 0),(.int .i64 0)]):=zB (by kernel_rfl)
theorem xz:yV Tryz.prog 69=some (.agg #[(.int .i64 0),(.int .i64 0),(.int .i64 0)]):=zB (by kernel_rfl)
theorem ma (v00:Option Addr) (v00l v00c:Nat) (v01:Option Addr) (v01l v01c:Nat) (v02:Int) (v1:Option Addr) (v2:Option Addr) (v6:Nat) (v6a v6b:Array Value):yg Tryz.prog 106 [(0,(.agg #[(.slice v00 v00l v00c),(.slice v01 v01l v01c),(.int .i64 v02)])),(1,(.pointer v1)),(2,(.pointer v2)),(6,(.func (.func v6) v6a v6b))]=some (.agg #[(.slice v00 v00l v00c),(.slice v01 v01l v01c),(.int .i64 v02),(.pointer v1),(.pointer v2),(.int .i64 0),(.int .i64 0),(.slice none 0 0),(.slice none 0 0),(.int .i64 0),(.slice none 0 0),(.slice none 0 0),(.func (.func v6) v6a v6b)]):=zB (by kernel_rfl)
theorem Lb (v0:Option Addr) (v0l v0c:Nat):yg Tryz.prog 141 [(0,(.slice v0 v0l v0c))]=some (.agg #[(.slice v0 v0l v0c),(.int .i64 0)]):=zB (by kernel_rfl)
theorem tj (v0:Option Addr) (v2:Int) (v3:Int):yg Tryz.prog 154 [(0,(.pointer v0)),(2,(.int .i64 v2)),(3,(.int .i64 v3))]=some (.agg #[(.pointer v0),(.slice none 0 0),(.int .i64 v2),(.int .i64 v3)]):=zB (by kernel_rfl)
theorem Ld:yg Tryz.prog 33 []=some (.agg #[(.int .i64 0),(.int .i64 0),(.slice none 0 0),(.slice none 0 0),(.int .i64 0)]):=zB (by kernel_rfl)
theorem yo:yg Tryz.prog 69 []=some (.agg #[(.int .i64 0),(.int .i64 0),(.int .i64 0)]):=zB (by kernel_rfl)
theorem Bt (v0:Int) (v1:Int) (v2:Int):yg Tryz.prog 69 [(0,(.int .i64 v0)),(1,(.int .i64 v1)),(2,(.int .i64 v2))]=some (.agg #[(.int .i64 v0),(.int .i64 v1),(.int .i64 v2)]):=zB (by kernel_rfl)
theorem Bu (v0:Int) (v1:Int) (v2:Int):yg Tryz.prog 74 [(0,(.int .i64 v0)),(1,(.int .i64 v1)),(2,(.int .i64 v2))]=some (.agg #[(.int .i64 v0),(.int .i64 v1),(.int .i64 v2)]):=zB (by kernel_rfl)
theorem GZ (v0:Int) (v1:Int):yg Tryz.prog 97 [(0,(.int .i64 v0)),(1,(.int .i64 v1))]=some (.agg #[(.int .i64 v0),(.int .i64 v1)]):=zB (by kernel_rfl)
theorem Dw (v0:Option Addr) (h:za):zO Tryz.prog 104 1 [(0,(.pointer v0))] h=some (.slice (some ⟨h.next,0,none⟩) 1 3,h.push (.cells [(.pointer v0)] 152)):=zB (by kernel_rfl)
theorem V8 (v0:Int) (h:za):zO Tryz.prog 22 1 [(0,(.int .i64 v0))] h=some (.slice (some ⟨h.next,0,none⟩) 1 3,h.push (.cells [(.int .i64 v0)] 3)):=zB (by kernel_rfl)
theorem Lg (h:za):zO Tryz.prog 26 0 [] h=some (.slice (some ⟨h.next,0,none⟩) 0 2,h.push (.cells [] 2)):=zB (by kernel_rfl)
theorem G1 (v00:Int) (v01:Int) (h:za):zO Tryz.prog 30 1 [(0,(.agg #[(.int .i64 v00),(.int .i64 v01)]))] h=some (.slice (some ⟨h.next,0,none⟩) 1 3,h.push (.cells [(.int .i64 v00),(.int .i64 v01)] 97)):=zB (by kernel_rfl)
theorem G2 (v00:Int) (v01:Int) (v02:Int) (h:za):zO Tryz.prog 31 1 [(0,(.agg #[(.int .i64 v00),(.int .i64 v01),(.int .i64 v02)]))] h=some (.slice (some ⟨h.next,0,none⟩) 1 3,h.push (.cells [(.int .i64 v00),(.int .i64 v01),(.int .i64 v02)] 74)):=zB (by kernel_rfl)
theorem eO (v00:Int) (v01:Int) (v02:Int) (h:za):zO Tryz.prog 59 1 [(0,(.agg #[(.int .i64 v00),(.int .i64 v01),(.int .i64 v02)]))] h=some (.slice (some ⟨h.next,0,none⟩) 1 3,h.push (.cells [(.int .i64 v00),(.int .i64 v01),(.int .i64 v02)] 69)):=zB (by kernel_rfl)
theorem ZJ (n:Int) (h:za):uf Tryz.prog 186 2 (.int .i8 n) h=some (.int .i64 (IntKind.wrap .i64 n),h):=zB (by kernel_rfl)
theorem Xv (n:Int) (h:za):uf Tryz.prog 21 2 (.int .i32 n) h=some (.int .i64 (IntKind.wrap .i64 n),h):=zB (by kernel_rfl)
theorem Ln (n:Int) (h:za):uf Tryz.prog 2 186 (.int .i64 n) h=some (.int .i8 (IntKind.wrap .i8 n),h):=zB (by kernel_rfl)
theorem Nm (n:Int) (h:za):uf Tryz.prog 2 21 (.int .i64 n) h=some (.int .i32 (IntKind.wrap .i32 n),h):=zB (by kernel_rfl)
theorem Np (x y:Operand):ze Tryz.prog .eql 26 x y (.slice none 0 0) (.slice none 0 0)=some (.bool true):=zB (by kernel_rfl)
theorem Pe (x y:Operand) (a:Addr) (n c:Nat):ze Tryz.prog .eql 26 x y (.slice (some a) n c) (.slice none 0 0)=some (.bool false):=PL (e:=2) (by kernel_rfl) a n c
theorem R6 (x y:Operand) (a b:Bool):ze Tryz.prog .eql 4 x y (.bool a) (.bool b)=some (.bool (a == b)):=zB (by kernel_rfl)
theorem Vy (x y:Operand) (a0:Int) (a1:Int) (a2:Int) (b0:Int) (b1:Int) (b2:Int):ze Tryz.prog .eql 69 x y (.agg #[(.int .i64 a0),(.int .i64 a1),(.int .i64 a2)]) (.agg #[(.int .i64 b0),(.int .i64 b1),(.int .i64 b2)])=some (.bool ((a0 == b0) && ((a1 == b1) && ((a2 == b2))))):=(Xt (fs:=mA) (r:=(a0 == b0) && ((a1 == b1) && ((a2 == b2)))) (by kernel_rfl) (by kernel_rfl) (by kernel_rfl) rfl rfl (Eq.trans (b:=(cond (a0 == b0) (cond (a1 == b1) (cond (a2 == b2) (some true) (some false)) (some false)) (some false))) (by kernel_rfl) (by cases (a0 == b0) <;> cases (a1 == b1) <;> cases (a2 == b2) <;> rfl))).1
theorem BI (b off:Nat):zb Tryz.prog 106 (.pointer (some ⟨b,off,none⟩)) 0=some (.pointer (some ⟨b,off,none⟩)):=zB (by kernel_rfl)
theorem Wj (b off:Nat):zb Tryz.prog 106 (.pointer (some ⟨b,off,none⟩)) 1=some (.pointer (some ⟨b,off + 3,none⟩)):=zB (by kernel_rfl)
theorem LB (b off:Nat):zb Tryz.prog 106 (.pointer (some ⟨b,off,none⟩)) 2=some (.pointer (some ⟨b,off + 4,none⟩)):=zB (by kernel_rfl)
theorem jo (b off:Nat):zb Tryz.prog 106 (.pointer (some ⟨b,off,none⟩)) 3=some (.pointer (some ⟨b,off + 5,none⟩)):=zB (by kernel_rfl)
theorem BJ (b off:Nat):zb Tryz.prog 106 (.pointer (some ⟨b,off,none⟩)) 4=some (.pointer (some ⟨b,off + 10,none⟩)):=zB (by kernel_rfl)
theorem jW (b off:Nat):zb Tryz.prog 106 (.pointer (some ⟨b,off,none⟩)) 5=some (.pointer (some ⟨b,off + 11,none⟩)):=zB (by kernel_rfl)
theorem mq (b off:Nat):zb Tryz.prog 106 (.pointer (some ⟨b,off,none⟩)) 6=some (.pointer (some ⟨b,off + 12,none⟩)):=zB (by kernel_rfl)
theorem BL (b off:Nat):zb Tryz.prog 141 (.pointer (some ⟨b,off,none⟩)) 0=some (.pointer (some ⟨b,off,none⟩)):=zB (by kernel_rfl)
theorem mr (b off:Nat):zb Tryz.prog 141 (.pointer (some ⟨b,off,none⟩)) 1=some (.pointer (some ⟨b,off + 1,none⟩)):=zB (by kernel_rfl)
theorem BN (b off:Nat):zb Tryz.prog 154 (.pointer (some ⟨b,off,none⟩)) 0=some (.pointer (some ⟨b,off,none⟩)):=zB (by kernel_rfl)
theorem Ue (b off:Nat):zb Tryz.prog 154 (.pointer (some ⟨b,off,none⟩)) 1=some (.pointer (some ⟨b,off + 1,none⟩)):=zB (by kernel_rfl)
theorem mw (b off:Nat):zb Tryz.prog 154 (.pointer (some ⟨b,off,none⟩)) 2=some (.pointer (some ⟨b,off + 2,none⟩)):=zB (by kernel_rfl)
theorem Uf (b off:Nat):zb Tryz.prog 154 (.pointer (some ⟨b,off,none⟩)) 3=some (.pointer (some ⟨b,off + 3,none⟩)):=zB (by kernel_rfl)
theorem xM (b off:Nat):zb Tryz.prog 25 (.pointer (some ⟨b,off,none⟩)) 0=some (.pointer (some ⟨b,off,none⟩)):=zB (by kernel_rfl)
theorem y8 (b off:Nat):zb Tryz.prog 25 (.pointer (some ⟨b,off,none⟩)) 1=some (.pointer (some ⟨b,off + 1,none⟩)):=zB (by kernel_rfl)
theorem Xw (b off:Nat):zb Tryz.prog 25 (.pointer (some ⟨b,off,none⟩)) 2=some (.pointer (some ⟨b,off + 2,none⟩)):=zB (by kernel_rfl)
theorem Xx (b off:Nat):zb Tryz.prog 33 (.pointer (some ⟨b,off,none⟩)) 0=some (.pointer (some ⟨b,off,none⟩)):=zB (by kernel_rfl)
theorem tn (b off:Nat):zb Tryz.prog 33 (.pointer (some ⟨b,off,none⟩)) 1=some (.pointer (some ⟨b,off + 1,none⟩)):=zB (by kernel_rfl)
theorem tq (b off:Nat):zb Tryz.prog 33 (.pointer (some ⟨b,off,none⟩)) 2=some (.pointer (some ⟨b,off + 2,none⟩)):=zB (by kernel_rfl)
theorem cP (b off:Nat):zb Tryz.prog 33 (.pointer (some ⟨b,off,none⟩)) 3=some (.pointer (some ⟨b,off + 3,none⟩)):=zB (by kernel_rfl)
theorem Jb (b off:Nat):zb Tryz.prog 33 (.pointer (some ⟨b,off,none⟩)) 4=some (.pointer (some ⟨b,off + 4,none⟩)):=zB (by kernel_rfl)
theorem uK (b off:Nat):zb Tryz.prog 45 (.pointer (some ⟨b,off,none⟩)) 1=some (.pointer (some ⟨b,off + 1,none⟩)):=zB (by kernel_rfl)
theorem kH (b off:Nat):zb Tryz.prog 45 (.pointer (some ⟨b,off,none⟩)) 3=some (.pointer (some ⟨b,off + 3,none⟩)):=zB (by kernel_rfl)
theorem ZK (b off:Nat):zb Tryz.prog 45 (.pointer (some ⟨b,off,none⟩)) 4=some (.pointer (some ⟨b,off + 4,none⟩)):=zB (by kernel_rfl)
theorem y9 (b off:Nat):zb Tryz.prog 45 (.pointer (some ⟨b,off,none⟩)) 5=some (.pointer (some ⟨b,off + 5,none⟩)):=zB (by kernel_rfl)
theorem zq (b off:Nat):zb Tryz.prog 53 (.pointer (some ⟨b,off,none⟩)) 0=some (.pointer (some ⟨b,off,none⟩)):=zB (by kernel_rfl)
theorem zW (b off:Nat):zb Tryz.prog 53 (.pointer (some ⟨b,off,none⟩)) 1=some (.pointer (some ⟨b,off + 1,none⟩)):=zB (by kernel_rfl)
theorem xe (b off:Nat):zb Tryz.prog 53 (.pointer (some ⟨b,off,none⟩)) 2=some (.pointer (some ⟨b,off + 2,none⟩)):=zB (by kernel_rfl)
theorem vC (b off:Nat):zb Tryz.prog 53 (.pointer (some ⟨b,off,none⟩)) 3=some (.pointer (some ⟨b,off + 3,none⟩)):=zB (by kernel_rfl)
theorem xj (b off:Nat):zb Tryz.prog 53 (.pointer (some ⟨b,off,none⟩)) 4=some (.pointer (some ⟨b,off + 4,none⟩)):=zB (by kernel_rfl)
theorem vo (b off:Nat):zb Tryz.prog 53 (.pointer (some ⟨b,off,none⟩)) 5=some (.pointer (some ⟨b,off + 5,none⟩)):=zB (by kernel_rfl)
theorem uL (b off:Nat):zb Tryz.prog 53 (.pointer (some ⟨b,off,none⟩)) 6=some (.pointer (some ⟨b,off + 6,none⟩)):=zB (by kernel_rfl)
theorem kI (b off:Nat):zb Tryz.prog 53 (.pointer (some ⟨b,off,none⟩)) 7=some (.pointer (some ⟨b,off + 7,none⟩)):=zB (by kernel_rfl)
theorem YM (b off:Nat):zb Tryz.prog 53 (.pointer (some ⟨b,off,none⟩)) 8=some (.pointer (some ⟨b,off + 8,none⟩)):=zB (by kernel_rfl)
theorem xk (b off:Nat):zb Tryz.prog 69 (.pointer (some ⟨b,off,none⟩)) 0=some (.pointer (some ⟨b,off,none⟩)):=zB (by kernel_rfl)
theorem xo (b off:Nat):zb Tryz.prog 69 (.pointer (some ⟨b,off,none⟩)) 1=some (.pointer (some ⟨b,off + 1,none⟩)):=zB (by kernel_rfl)
theorem w9 (b off:Nat):zb Tryz.prog 69 (.pointer (some ⟨b,off,none⟩)) 2=some (.pointer (some ⟨b,off + 2,none⟩)):=zB (by kernel_rfl)
theorem tD (b off len c:Nat) (k:IntKind) (i:Int):zw Tryz.prog 104 (.slice (some ⟨b,off,none⟩) len c) (.int k i)=if 0<=i/\i < len then some (.pointer (some ⟨b,off + i.toNat * 1,none⟩)) else none:=y4 (e:=152) (by kernel_rfl) (by kernel_rfl)
theorem mP (b off len c:Nat) (k:IntKind) (i:Int):zw Tryz.prog 22 (.slice (some ⟨b,off,none⟩) len c) (.int k i)=if 0<=i/\i < len then some (.pointer (some ⟨b,off + i.toNat * 1,none⟩)) else none:=y4 (e:=3) (by kernel_rfl) (by kernel_rfl)
theorem Fs (b off len c:Nat) (k:IntKind) (i:Int):zw Tryz.prog 23 (.slice (some ⟨b,off,none⟩) len c) (.int k i)=if 0<=i/\i < len then some (.pointer (some ⟨b,off + i.toNat * 6,none⟩)) else none:=y4 (e:=45) (by kernel_rfl) (by kernel_rfl)
theorem Ov (b off len c:Nat) (k:IntKind) (i:Int):zw Tryz.prog 26 (.slice (some ⟨b,off,none⟩) len c) (.int k i)=if 0<=i/\i < len then some (.pointer (some ⟨b,off + i.toNat * 1,none⟩)) else none:=y4 (e:=2) (by kernel_rfl) (by kernel_rfl)
theorem rM (b off len c:Nat) (k:IntKind) (i:Int):zw Tryz.prog 43 (.slice (some ⟨b,off,none⟩) len c) (.int k i)=if 0<=i/\i < len then some (.pointer (some ⟨b,off + i.toNat * 9,none⟩)) else none:=y4 (e:=53) (by kernel_rfl) (by kernel_rfl)
theorem Ft (b off len c:Nat) (k:IntKind) (i:Int):zw Tryz.prog 59 (.slice (some ⟨b,off,none⟩) len c) (.int k i)=if 0<=i/\i < len then some (.pointer (some ⟨b,off + i.toNat * 3,none⟩)) else none:=y4 (e:=69) (by kernel_rfl) (by kernel_rfl)
theorem Xy (r:TypeId) (a:Option Addr) (n c:Nat) (h:za):zg Tryz.prog .len [104] r [.slice a n c] h=some (.int .i64 n,h):=zB (by kernel_rfl)
theorem Kr (r:TypeId) (a:Option Addr) (n c:Nat) (h:za):zg Tryz.prog .len [22] r [.slice a n c] h=some (.int .i64 n,h):=zB (by kernel_rfl)
theorem tI (r:TypeId) (a:Option Addr) (n c:Nat) (h:za):zg Tryz.prog .len [26] r [.slice a n c] h=some (.int .i64 n,h):=zB (by kernel_rfl)
theorem DV (r:TypeId) (a:Option Addr) (n c:Nat) (h:za):zg Tryz.prog .len [59] r [.slice a n c] h=some (.int .i64 n,h):=zB (by kernel_rfl)
theorem MC (b off len c:Nat) (lo hi:Option Value) (h:za):MY Tryz.prog 104 (.slice (some ⟨b,off,none⟩) len c) lo hi h=(v9 hi len len).bind fun hh=>(v9 lo 0 hh).bind fun l=>some (.slice (some ⟨b,off + l * 1,none⟩) (hh - l) (cond (wide Tryz.prog h b 1) (J7 c l) 0)):=GO (e:=152) (by kernel_rfl) (by kernel_rfl)
end Go.Rm
