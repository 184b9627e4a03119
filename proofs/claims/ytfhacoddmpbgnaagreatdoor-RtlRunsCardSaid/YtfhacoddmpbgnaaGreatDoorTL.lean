/- A part of the proof. -/
import Derived.Test.YtfhacoddmpbgnaaGreatDoorTK
import Derived.Test.YtfhacoddmpbgnaaGreatDoorTG
set_option linter.unusedVariables false
set_option linter.unusedSimpArgs false
set_option maxRecDepth 100000
namespace Go.Rtl
open Go.Ai Go.Proofs
def Wp(f:Fn)(x:xG):Bool :=
 if x.op=1\/x.op=2\/x.op=3\/x.op=12\/x.op=13\/x.op=14\/x.op=8\/x.op=10 then true
 else if x.op=4 then decide (1<=x.sub)&&decide (x.sub<=4)
 else if x.op=5 then EG x.sub
 else if x.op=11 then sy x.sub
 else if x.op=6\/x.op=7 then fj x.sub
 else if x.op=9 then decide (0<=x.k)&&decide (x.k<=f.frame)
 else false
structure Bx (h:za) (b1 b2:Nat) (f:Fn) (x:xG):Prop where
 l1:b1<h.next
 l2:b2<h.next
 g1:h.get b1=some (.cells [.string f.nm,f.pv,pm f.zf,pm f.frame,pm f.entry,f.cv] 45)
 g2:h.get b2=some (.cells [pm x.op,pm x.sub,pm x.a,pm x.b,pm x.d,pm x.k,x.av,pm x.s,pm x.t] 53)
theorem Bx.old{h h':za}{b1 b2:Nat}{f:Fn}{x:xG}(B:Bx h b1 b2 f x)(e:Old h h'):Bx h' b1 b2 f x :=
 ⟨aao B.l1 e.next,aao B.l2 e.next,by rw[e.get _ B.l1];exact B.g1,by rw[e.get _ B.l2];exact B.g2⟩
section
variable {h:za}{b1 b2:Nat}{f:Fn}{x:xG}{vs:List aaa}{B:Bool}
theorem d41(W:Bx h b1 b2 f x)(hB:B=Wp f x):vk (pi b2) (qZ B) (pi b1) vs h:=by
 have g1:=W.g1;have g2:=W.g2;clear W;obtain⟨op,sub,a,b,d,k,av,args,s,t⟩:=x;unfold Wp at hB;simp only at hB g2;by_cases p:op=1\/op=2\/op=3\/op=12\/op=13\/op=14\/op=8\/op=10
 ·rw[aai p]at hB;rcases p with rfl|rfl|rfl|rfl|rfl|rfl|rfl|rfl
  all_goals
   simp only[EE,nth,↓BK,Int.reduceEq,zw,zj,zA,vA,vB,vC,vD,vE,vF,vG,vk,g2];rw[hB];rfl
 rw[aac p]at hB;have p1:¬op=1:=λq=>p (.inl q);have p2:¬op=2:=λq=>p (.inr (.inl q));have p3:¬op=3:=λq=>p (.inr (.inr (.inl q)));have p12:¬op=12:=λq=>p (.inr (.inr (.inr (.inl q))));have p13:¬op=13:=λq=>p (.inr (.inr (.inr (.inr (.inl q)))));have p14:¬op=14:=λq=>p (.inr (.inr (.inr (.inr (.inr (.inl q))))));have p8:¬op=8:=λq=>p (.inr (.inr (.inr (.inr (.inr (.inr (.inl q)))))));have p10:¬op=10:=λq=>p (.inr (.inr (.inr (.inr (.inr (.inr (.inr q)))))));clear p;by_cases h4:op=4
 ·subst h4;rw[aai rfl]at hB;by_cases c:1<=sub
  ·simp only[EE,nth,↓BK,Int.reduceEq,zw,zj,zA,yi,vA,vB,vC,vD,vE,vF,dO,dX,ug,vG,vk,g2,c];simp[qZ,hB,c]
  ·simp only[EE,nth,↓BK,Int.reduceEq,zw,zj,zA,yi,vA,vB,vC,vD,vE,vF,dO,dX,ug,vG,vk,g2,c];simp[qZ,hB,c]
 rw[aac h4]at hB;by_cases h5:op=5
 ·subst h5;rw[aai rfl]at hB;unfold EG at hB;by_cases c:11<=sub
  ·simp only[EE,nth,↓BK,Int.reduceEq,zw,zj,zA,yi,vA,vB,vC,vD,vE,vF,dP,dW,qj,ug,vG,vk,g2,c];simp[qZ,hB,c]
  ·simp only[EE,nth,↓BK,Int.reduceEq,zw,zj,zA,yi,vA,vB,vC,vD,vE,vF,dP,dW,qj,ug,vG,vk,g2,c];simp[qZ,hB,c]
 rw[aac h5]at hB;by_cases h11:op=11
 ·subst h11;rw[aai rfl]at hB;unfold sy at hB;by_cases c:21<=sub
  ·simp only[EE,nth,↓BK,Int.reduceEq,zw,zj,zA,yi,vA,vB,vC,vD,vE,vF,dQ,dV,ja,qj,ug,vG,vk,g2,c];simp[qZ,hB,c]
  ·simp only[EE,nth,↓BK,Int.reduceEq,zw,zj,zA,yi,vA,vB,vC,vD,vE,vF,dQ,dV,ja,qj,ug,vG,vk,g2,c];simp[qZ,hB,c]
 rw[aac h11]at hB;by_cases h67:op=6\/op=7
 ·rw[aai h67]at hB;unfold fj at hB;by_cases c1:sub=1
  ·rcases h67 with rfl|rfl
   all_goals
    simp only[EE,nth,↓BK,Int.reduceEq,zw,zj,zA,yi,vA,vB,vC,vD,vE,vF,QJ,QK,QL,QM,Yk,ja,qj,ug,vG,vk,g2,c1];simp[qZ,hB,c1]
  by_cases c4:sub=4
  ·rcases h67 with rfl|rfl
   all_goals
    simp only[EE,nth,↓BK,Int.reduceEq,zw,zj,zA,yi,vA,vB,vC,vD,vE,vF,QJ,QK,QL,QM,Yk,ja,qj,ug,vG,vk,g2,c4];simp[qZ,hB,c4]
  rcases h67 with rfl|rfl
  all_goals
   simp only[EE,nth,↓BK,Int.reduceEq,zw,zj,zA,yi,vA,vB,vC,vD,vE,vF,QJ,QK,QL,QM,Yk,ja,qj,ug,vG,vk,g2,c1,c4];simp[qZ,hB,c1,c4]
 rw[aac h67]at hB;have p6:¬op=6:=λq=>h67 (.inl q);have p7:¬op=7:=λq=>h67 (.inr q);by_cases h9:op=9
 ·subst h9;rw[aai rfl]at hB;by_cases c:0<=k
  ·simp only[EE,nth,↓BK,Int.reduceEq,zw,xi,zj,kJ,zA,vI,vA,vB,vC,vD,vE,vF,dR,dS,dU,QN,Yk,ja,qj,ug,vG,vk,g1,g2,c];simp[qZ,hB,c]
  ·simp only[EE,nth,↓BK,Int.reduceEq,zw,xi,zj,zA,vI,vA,vB,vC,vD,vE,vF,dR,dS,dU,QN,Yk,ja,qj,ug,vG,vk,g2,c];simp[qZ,hB,c]
 rw[aac h9]at hB;simp only[EE,nth,↓BK,zw,zj,zA,vA,vB,vC,vD,vE,vF,QN,Yk,ja,qj,ug,vG,vk,g2,p1,p2,p3,p12,p13,p14,p8,p10,h4,h5,h11,p6,p7,h9];rw[hB];rfl
end
theorem vO{n m:Int}(h:n<0\/m<=n):xA n m=false:=by
 unfold xA;by_cases a:0<=n
 ·have:¬n<m:=by omega
  simp[this]
 ·simp[a]
theorem wE{n m:Int}(h:¬n<0)(h2:¬m<=n):xA n m=true:=by
 have a:0<=n:=by omega
 have b:n<m:=by omega
 simp[xA,a,b]
theorem Sv(x:xG):(u9 x).length<=2:=by
 unfold u9;split
 ·exact aa8 _
 ·split
  ·exact aam _
  ·exact abr _
section
variable {h:za}{b1 b2:Nat}{f:Fn}{x:xG}{vs:List aaa}{B:Bool}
theorem d42(W:Bx h b1 b2 f x)(hn:zU x.av=false)(hc:zE h f.cv 9 (f.code.map xG.row))(hB:B=((u9 x).all (λs=>xA s f.code.length)&&Wp f x)) :
  dY (pi b2) (pi b1) (qZ B) vs h:=by
 have g2:=W.g2;simp only[EE,aad,Nat.reduceAdd,ya,jr,dY,g2];refine xX (by kernel_rfl) (by simp only[EE]) (Rs x hn h) ?_;rintro v h1 ⟨S,e⟩;simp only[↓BK];have hcode:(f.code.map xG.row).length=f.code.length:=aaf _;refine UQ (lo:=h1) (u9 x).length (Mu (u9 x) λs=>xA s f.code.length) (.refl h1) ?_;intro i h2 J hi e2 hg hJ;have W2:=W.old (e.trans e2);have S2:=S.old e2;have c2:=hc.old (e.trans e2);have nl:=S2.wO;have hl:=S2.Zr 3 h2;rcases aas i (u9 x).length with hlt|hge
 ·obtain⟨z,hz,_⟩:=get_some hlt;obtain⟨b,o,c,t,ha,hb,hgt,hco⟩:=S2.at hz;have hlt':(i:Int)<((u9 x).length:Int):=by omega
  have g1':=W2.g1;have cn:=c2.wO;have cl:=c2.JQ 3 h2;rw[hcode]at cl;have hinc:IntKind.wrap .i64 ((i:Int)+1)=((i+1:Nat):Int):=inc (by have:=Sv x;omega);by_cases z0:z<0
  ·simp only[EE,nth,↓BK,zw,zj,aN,aO,QF,QG,QH,QI,VM,hl,hlt',nl,ha,hgt,hco,z0];rw[hB,j0 (B:=λs=>xA s f.code.length) hz (vO (.inl z0))];rfl
  by_cases z1:(f.code.length:Int)<=z
  ·simp only[EE,nth,↓BK,zw,zj,qz,x0,aN,aO,QF,QG,QH,QI,VM,hl,hlt',nl,ha,hgt,hco,z0,g1',cn,cl,z1];rw[hB,j0 (B:=λs=>xA s f.code.length) hz (vO (.inr z1))];rfl
  ·simp only[EE,nth,↓BK,zw,zj,qz,x0,aN,aO,QF,QG,QH,QI,rU,VM,hl,hlt',nl,ha,hgt,hco,z0,g1',cn,cl,z1,hinc];exact hJ _ hlt (by rw[Qa hz];exact wE z0 z1) e2
 ·have hlt':¬(i:Int)<((u9 x).length:Int):=by omega
  simp only[EE,nth,VM,hl,hlt',nl];refine d41 W2 ?_;rw[hB,Zi λk hk=>hg k (by omega),abl]
theorem d43(W:Bx h b1 b2 f x)(hn:zU x.av=false)(hc:zE h f.cv 9 (f.code.map xG.row))(hB:B=(!(decide (f.zf<=zB x))&&(!decide (zB x < -1)&&((u9 x).all (λs=>xA s f.code.length)&&Wp f x)))) :
  qd pu 54 [x.val] h (QP (pi b1) h (pi b2) (qZ B) vs):=by
 refine tj (by kernel_rfl) (by simp only[EE]) (Qv x hn h) ?_;have g1:=W.g1;have g2:=W.g2;by_cases c1:f.zf<=zB x
 ·simp only[EE,zw,zj,wi,QO,QP,g1,c1];rw[hB];simp[qZ,c1]
 ·simp only[EE,aad,Nat.reduceAdd,ya,zw,zj,jr,wi,QP,g1,g2,c1];refine tj (by kernel_rfl) (by simp only[EE]) (Qv x hn h) ?_;by_cases c2:zB x < -1
  ·simp only[EE,Int.reduceNeg,QO,c2];rw[hB];simp[qZ,c2]
  ·simp only[EE,Int.reduceNeg,QO,c2];refine d42 W hn hc ?_;rw[hB];simp[c1,c2]
theorem d45(W:Bx h b1 b2 f x)(I:wF h x)(hc:zE h f.cv 9 (f.code.map xG.row)){v:aaa}(S:zL h v (uF x))(hB:B=((uF x).all (λu=>xA u f.zf)&&(!(decide (f.zf<=zB x))&&(!decide (zB x < -1)&&((u9 x).all (λs=>xA s f.code.length)&&Wp f x))))) :
  dZ (pi b1) (qZ B) vs (pi b2) v h:=by
 have hn:=I.args.wO;simp only[↓BK,dZ]
 have tn:(uF x).length<=17592186043906:=by
  have:=I.tn;unfold uF lA lB lC;simp only[abS];split <;> split <;> split <;> simp <;> omega
 refine UQ (lo:=h) (uF x).length (Mu (uF x) λs=>xA s f.zf) (.refl h) ?_;intro i h2 J hi e2 hg hJ;have W2:=W.old e2;have S2:=S.old e2;have nl:=S2.wO;have hl:=S2.Zr 3 h2;rcases aas i (uF x).length with hlt|hge
 ·obtain⟨z,hz,_⟩:=get_some hlt;obtain⟨b,o,c,t,ha,hb,hgt,hco⟩:=S2.at hz;have hlt':(i:Int)<((uF x).length:Int):=by omega
  have g1':=W2.g1;have hinc:IntKind.wrap .i64 ((i:Int)+1)=((i+1:Nat):Int):=inc (by omega);by_cases z0:z<0
  ·simp only[EE,nth,↓BK,zw,zj,aI,aJ,aK,aL,aM,UY,hl,hlt',nl,ha,hgt,hco,z0];rw[hB,j0 (B:=λs=>xA s f.zf) hz (vO (.inl z0))];rfl
  by_cases z1:f.zf<=z
  ·simp only[EE,nth,↓BK,zw,zj,wi,aI,aJ,aK,aL,aM,UY,hl,hlt',nl,ha,hgt,hco,z0,g1',z1];rw[hB,j0 (B:=λs=>xA s f.zf) hz (vO (.inr z1))];rfl
  ·simp only[EE,nth,↓BK,zw,zj,wi,aI,aJ,aK,aL,aM,AB,UY,hl,hlt',nl,ha,hgt,hco,z0,g1',z1,hinc];exact hJ _ hlt (by rw[Qa hz];exact wE z0 z1) e2
 ·have hlt':¬(i:Int)<((uF x).length:Int):=by omega
  have g2':=W2.g2;simp only[EE,nth,aad,Nat.reduceAdd,ya,jr,UY,hl,hlt',nl,g2'];refine d43 W2 hn (hc.old e2) ?_;rw[hB,Zi λk hk=>hg k (by omega),abl]
end
def Cq(f:Fn)(x:xG):Bool:=(uF x).all (λu=>xA u f.zf)&&(!(decide (f.zf<=zB x))&&(!decide (zB x < -1)&&((u9 x).all (λs=>xA s f.code.length)&&Wp f x)))
def lN(x:xG):Bool:=V0 x.op&&decide (x.a = -1)
def ni(x:xG):Bool:=fK x.op&&decide (x.b = -1)
def Rk(x:xG):Bool:=fL x.op&&decide (zB x = -1)
def Mx(x:xG):Bool:=decide (x.op=10)&&decide (x.d < -1)
def Ub(f:Fn)(x:xG):Bool := !lN x&&(!ni x&&(!Rk x&&(!Mx x&&Cq f x)))
section
variable {h:za}{b1 b2:Nat}{f:Fn}{x:xG}{vs:List aaa}{B:Bool}
theorem e46(W:Bx h b1 b2 f x)(I:wF h x)(hc:zE h f.cv 9 (f.code.map xG.row))(c:Bool)(hB:B=(!c&&Cq f x)) :
  Yl (.bool false) (qZ B) (pi b2) (pi b1) (.bool c) h:=by
 have g2:=W.g2;cases c with
 |true=>
  simp only[EE,Yl];rw[hB];rfl
 |false=>
  simp only[EE,aad,Nat.reduceAdd,ya,jr,Yl,g2];refine xX (by kernel_rfl) (by simp only[EE]) (zay x h I.args I.tn) ?_;intro v h1 hF;obtain⟨S,e⟩:=hF.read;refine d45 (W.old e) (I.old e) (hc.old e) S ?_;rw[hB];rfl
theorem e50(W:Bx h b1 b2 f x)(I:wF h x)(hc:zE h f.cv 9 (f.code.map xG.row))(c:Bool)(hB:B=(!c&&(!Mx x&&Cq f x))) :
  Ym (.bool false) (pi b2) (qZ B) (pi b1) (.bool c) h:=by
 have g2:=W.g2;cases c with
 |true=>
  simp only[EE,Yl,XP,XQ,XR,Ym];rw[hB];rfl
 |false=>
  by_cases h10:x.op=10
  ·simp only[EE,Int.reduceNeg,zw,zj,zA,wj,XP,XQ,XR,Ym,g2,h10];refine e46 W I hc (decide (x.d < -1)) ?_;rw[hB];simp[Mx,h10]
  ·simp only[EE,zw,zj,zA,XP,XQ,XR,Ym,g2,h10];refine e46 W I hc false ?_;rw[hB];simp[Mx,h10]
theorem e53(W:Bx h b1 b2 f x)(I:wF h x)(hc:zE h f.cv 9 (f.code.map xG.row))(c:Bool)(hB:B=(!c&&(!Rk x&&(!Mx x&&Cq f x)))) :
  XS (.bool false) (.bool (fL x.op)) (pi b2) (qZ B) (pi b1) (.bool c) h:=by
 have g2:=W.g2;have hn:=I.args.wO;cases c with
 |true=>
  simp only[EE,Yl,XP,XQ,XR,Ym,VN,VO,XS];rw[hB];rfl
 |false=>
  cases hD:fL x.op with
  |true=>
   simp only[EE,aad,Nat.reduceAdd,ya,jr,VO,XS,g2];refine Kd (by kernel_rfl) (by simp only[EE]) (Qv x hn h) ?_;simp only[EE,Int.reduceNeg,VN];refine e50 W I hc (decide (zB x = -1)) ?_;rw[hB];simp[Rk,hD]
  |false=>
   simp only[EE,VN,VO,XS];refine e50 W I hc false ?_;rw[hB];simp[Rk,hD]
theorem e56(W:Bx h b1 b2 f x)(I:wF h x)(hc:zE h f.cv 9 (f.code.map xG.row))(c:Bool){t15 t22:aaa}(hp:pk t15 t22 (.bool false)=some (.bool c))(hB:B=(!c&&(!ni x&&(!Rk x&&(!Mx x&&Cq f x))))) :
  VP t15 (.bool (fK x.op)) (pi b2) (.bool (fL x.op)) (qZ B) (pi b1) t22 h:=by
 have g2:=W.g2;cases c with
 |true=>
  simp only[EE,Yl,XP,XQ,XR,Ym,VN,VO,XS,QQ,QR,VP,hp];rw[hB];rfl
 |false=>
  cases hD:fK x.op with
  |true=>
   simp only[EE,Int.reduceNeg,zw,zj,qD,QQ,QR,VP,g2,hp];refine e53 W I hc (decide (x.b = -1)) ?_;rw[hB];simp[ni,hD]
  |false=>
   simp only[EE,QQ,QR,VP,hp];refine e53 W I hc false ?_;rw[hB];simp[ni,hD]
end
theorem zfT(a b c:Bool):Yt (.tuple #[.bool a,.bool b,.bool c]) 0=some (.bool a):=by rw[eZ rfl];rfl
theorem zfU(a b c:Bool):Yt (.tuple #[.bool a,.bool b,.bool c]) 1=some (.bool b):=by rw[eZ rfl];rfl
theorem zfV(a b c:Bool):Yt (.tuple #[.bool a,.bool b,.bool c]) 2=some (.bool c):=by rw[eZ rfl];rfl
theorem zaw(f:Fn)(x:xG)(h:za)(hpv:cellOk f.pv=true/\zU f.pv=false)(I:wF h x)(hc:zE h f.cv 9 (f.code.map xG.row)):yX pu 73 [f.val,x.val] h (.bool (Ub f x)):=by
 apply jx;replace I:=I.lock;replace hc:=hc.lock;generalize hL:h.lock=L at I hc;clear hL h;apply HC;unfold HB;have hn:=I.args.wO;have hcn:=hc.wO;obtain⟨hpc,hpn⟩:=hpv;simp only[EE,↓nw,Value.cells,aad,Nat.reduceAdd,ya,jr];have o1:=Old.push L (.cells f.row 45);have o2:=Old.push (L.push (.cells f.row 45)) (.cells x.row 53);refine xX (by kernel_rfl) (by simp only[EE]) (zbr x hn _) ?_;rintro v h1 ⟨rfl,e⟩
 have W:Bx h1 L.next (L.next+1) f x:=by
  refine Bx.old (h:=(L.push (.cells f.row 45)).push (.cells x.row 53)) ⟨?_,?_,?_,?_⟩ e
  ·show L.next<L.next+1+1;omega
  ·show L.next+1<L.next+1+1;omega
  ·rw[zt (by show L.next<L.next+1;omega),zk]
  ·exact zM rfl
 have oe:=(o1.trans o2).trans e;replace I:=I.old oe;replace hc:=hc.old oe;have g2:=W.g2;cases hA:V0 x.op with
 |true=>
  simp only[EE,Int.reduceNeg,zw,zj,xC,eg,eh,g2,zfT,zfU,zfV];refine e56 W I hc (decide (x.a = -1)) (xF rfl) ?_;simp[Ub,lN,hA]
 |false=>
  simp only[EE,eg,eh,zfT,zfU,zfV];refine e56 W I hc false (yK rfl) ?_;simp[Ub,lN,hA]
theorem X8{n:Nat}{G:Nat->Bool}(h:∀k,k<n->G k=true):(List.range n).all G=true:=by
 rw[aaF];intro k hk;exact h k (abz.1 hk)
theorem Vr{n k:Nat}{G:Nat->Bool}(hk:k<n)(h:G k=false):(List.range n).all G=false:=by
 rw[List.all_eq_false];exact⟨k,abz.2 hk,by simp[h]⟩
theorem nQ{l:List Int}{i:Nat}{z:Int}(h:l[i]? = some z):l.getD i 0=z:=by
 rw[aaA,h];rfl
def fO(l:List Int)(zf:Int)(i:Nat):Bool:=xA (l.getD i 0) zf&&(List.range i).all λk => !decide (l.getD k 0=l.getD i 0)
def iJ(l:List Int)(zf:Int):Bool:=(List.range l.length).all (fO l zf)
def KK(f:Fn):Bool := !decide (f.zf<0)&&(!decide (5000<f.zf)&&(!decide ((5000:Int)<f.code.length)&&(!decide (f.entry<0)&&(!decide ((f.code.length:Int)<=f.entry)&&(!decide (f.frame<0) && !decide (65536<f.frame))))))
def kI(f:Fn):Bool:=KK f&&(iJ f.params f.zf&&f.code.all (Ub f))
theorem Old.iI{h h':za}(e:Old h h'){b:Nat}{o:wm}(hb:b<h.next)(hg:h.get b=some o):h'.get b=some o:=by rw[e.get b hb];exact hg
section
variable {L h:za}{b1:Nat}{f:Fn}{vs:List aaa}{B:Bool}
theorem zgK(F:qP h f)(hb:b1<h.next)(hg:h.get b1=some (.cells [.string f.nm,f.pv,pm f.zf,pm f.frame,pm f.entry,f.cv] 45))(hB:B=f.code.all (Ub f)) :
  LP (QS (pi b1) (λ_ h101=>qZ B (.bool true) h101) (qZ B)) [(nth vs 0),(pm 0)] h:=by
 refine UQ (lo:=h) f.code.length (Mu f.code (Ub f)) (.refl h) ?_;intro i h2 J hi e2 hq hJ;have g2:=e2.iI hb hg;have F2:=F.old e2;have cn:=F2.code.wO;have pn:=F2.params.wO;have cl:=F2.code.JQ 3 h2;rw[aaf]at cl;rcases aas i f.code.length with hlt|hge
 ·obtain⟨x,hx,hm⟩:=get_some hlt;obtain⟨b,o,c,t,ha,hbb,hgt,hle,htk,_⟩:=F2.code.FB (i:=i) (r:=x.row) (by rw[aaq,hx];rfl) rfl;have hlt':(i:Int)<(f.code.length:Int):=by omega
  have hinc:IntKind.wrap .i64 ((i:Int)+1)=((i+1:Nat):Int):=inc (by have:=F.Br;omega);simp only[EE,nth,↓BK,aad,Nat.reduceAdd,ya,zw,qz,sd,jr,x0,rV,QS,g2,cn,cl,hlt',ha,hgt,hle,htk];refine nk (by kernel_rfl) (by simp only[EE]) (zaw f x h2 ⟨F2.params.iH,pn⟩ (F2.ins x hm) F2.code).dc ?_;rintro v h3 ⟨rfl,rfl⟩;cases hI:Ub f x with
  |true=>
   simp only[EE,nth,eu,rW,hinc];exact hJ _ hlt (by rw[Qa hx];exact hI) e2
  |false=>
   simp only[EE,eu];rw[hB,j0 hx hI];rfl
 ·have hlt':¬(i:Int)<(f.code.length:Int):=by omega
  simp only[EE,nth,zw,qz,x0,QS,g2,cn,cl,hlt'];have:f.code.all (Ub f)=true:=Zi λk hk=>hq k (by omega);rw[hB,this];rfl
theorem zgJ(F:qP h f)(hb:b1<h.next)(hg:h.get b1=some (.cells [.string f.nm,f.pv,pm f.zf,pm f.frame,pm f.entry,f.cv] 45))(hB:B=(iJ f.params f.zf&&f.code.all (Ub f))) :
  QT (pi b1) (qZ B) vs h:=by
 simp only[↓BK,QT];refine UQ (lo:=h) f.params.length (fO f.params f.zf) (.refl h) ?_;intro i h2 J hi e2 hq hJ;have g2:=e2.iI hb hg;have F2:=F.old e2;have pn:=F2.params.wO;have pl:=F2.params.Zr 3 h2;rcases aas i f.params.length with hlt|hge
 ·obtain⟨z,hz,hm⟩:=get_some hlt;obtain⟨b,o,c,t,ha,hbb,hgt,hco⟩:=F2.params.at hz;have hlt':(i:Int)<(f.params.length:Int):=by omega
  have hinc:IntKind.wrap .i64 ((i:Int)+1)=((i+1:Nat):Int):=inc (by have:=F.Gb;omega);have hgd:=nQ hz;by_cases z0:z<0
  ·simp only[EE,nth,↓BK,zw,yV,zj,uP,aQ,aR,aS,aT,aU,VQ,g2,pn,pl,hlt',ha,hgt,hco,z0];have:iJ f.params f.zf=false:=Vr hlt (by unfold fO;rw[hgd,vO (.inl z0)];rfl);rw[hB,this];rfl
  by_cases z1:f.zf<=z
  ·simp only[EE,nth,↓BK,zw,yV,zj,uP,wi,aQ,aR,aS,aT,aU,VQ,g2,pn,pl,hlt',ha,hgt,hco,z0,z1];have:iJ f.params f.zf=false:=Vr hlt (by unfold fO;rw[hgd,vO (.inr z1)];rfl);rw[hB,this];rfl
  simp only[EE,nth,↓BK,zw,yV,zj,uP,wi,aQ,aR,aS,aT,aU,AE,VQ,g2,pn,pl,hlt',ha,hgt,hco,z0,z1];refine UQ (lo:=h2) i (λk => !decide (f.params.getD k 0=f.params.getD i 0)) (.refl h2) ?_;intro k h3 J2 hk e3 hq3 hJ3;have g3:=(e2.trans e3).iI hb hg;have F3:=F2.old e3;rcases aas k i with hlk|hgk
  ·obtain⟨y,hy,_⟩:=get_some (l:=f.params) (k:=k) (by omega);obtain⟨b3,o3,c3,t3,ha3,hbb3,hgt3,hco3⟩:=F3.params.at hy;obtain⟨b4,o4,c4,t4,ha4,hbb4,hgt4,hco4⟩:=F3.params.at hz;have hlk':(k:Int)<(i:Int):=by omega
   have hinc3:IntKind.wrap .i64 ((k:Int)+1)=((k+1:Nat):Int):=inc (by have:=F.Gb;omega);have hgk3:=nQ hy;by_cases yz:y=z
   ·simp only[EE,nth,↓BK,zw,yV,zj,uP,lx,aP,g3,hlk',ha3,hgt3,hco3,ha4,hgt4,hco4,yz];have:iJ f.params f.zf=false:=Vr hlt (by unfold fO;rw[Vr hlk (by rw[hgk3,hgd,yz];simp),acJ]);rw[hB,this];rfl
   ·simp only[EE,nth,↓BK,zw,yV,zj,uP,lx,AD,aP,g3,hlk',ha3,hgt3,hco3,ha4,hgt4,hco4,yz,hinc3];exact hJ3 _ hlk (by rw[hgk3,hgd];simp[yz]) e3
  ·have hlk':¬(k:Int)<(i:Int):=by omega
   simp only[EE,nth,aP,hlk',hinc];refine hJ _ hlt ?_ (e2.trans e3);unfold fO;rw[hgd,wE z0 z1,abl];have:=X8 (n:=i) (G:=λk => !decide (f.params.getD k 0=f.params.getD i 0)) (λk' hk'=>hq3 k' (by omega));rw[hgd]at this;exact this
 ·have hlt':¬(i:Int)<(f.params.length:Int):=by omega
  simp only[EE,nth,↓BK,zw,yV,uP,VQ,g2,pn,pl,hlt'];have hp:iJ f.params f.zf=true:=X8 λk hk=>hq k (by omega);exact zgK (B:=B) F2 (aao hb e2.next) g2 (by rw[hB,hp,abl])
end
theorem zax(f:Fn)(h:za)(F:qP h f):yX pu 39 [f.val] h (.bool (kI f)):=by
 apply jx;replace F:=F.lock;generalize h.lock=L at F;apply HE;unfold HD;have pn:=F.params.wO;have cn:=F.code.wO;have F1:=F.old (Old.push L (.cells f.row 45));have cl:=F1.code.JQ 3 (L.push (.cells f.row 45));rw[aaf]at cl;have fin:∀vs,QT (pi L.next) (qZ (iJ f.params f.zf&&f.code.all (Ub f))) vs (L.push (.cells f.row 45)):=λvs=>zgJ F1 (aaH _) zk rfl;unfold kI KK;by_cases c1:f.zf<0
 ·simp only[EE,↓nw,Value.cells,zw,zj,wi,jb,jc,jd,jf,jg,jh,ji,jj,jk,jl,jm,jn,c1];rfl
 by_cases c2:5000<f.zf
 ·simp only[EE,↓nw,Value.cells,zw,zj,wi,jb,jc,jd,jf,jg,jh,ji,jj,jk,jl,jm,jn,c1,c2];rfl
 by_cases c3:(5000:Int)<f.code.length
 ·simp only[EE,↓nw,Value.cells,zw,zj,qz,wi,x0,jb,jc,jd,jf,jg,jh,ji,jj,jk,jl,jm,jn,cn,cl,c1,c2,c3];rfl
 by_cases c4:f.entry<0
 ·simp only[EE,↓nw,Value.cells,zw,zj,qz,wi,Xf,x0,jb,jc,jd,jf,jg,jh,ji,jj,jk,jl,jm,jn,cn,cl,c1,c2,c3,c4];rfl
 by_cases c5:(f.code.length:Int)<=f.entry
 ·simp only[EE,↓nw,Value.cells,zw,zj,qz,wi,Xf,x0,jb,jc,jd,jf,jg,jh,ji,jj,jk,jl,jm,jn,cn,cl,c1,c2,c3,c4,c5];rfl
 by_cases c6:f.frame<0
 ·simp only[EE,↓nw,Value.cells,zw,zj,qz,wi,kJ,Xf,x0,jb,jc,jd,jf,jg,jh,ji,jj,jk,jl,jm,jn,cn,cl,c1,c2,c3,c4,c5,c6];rfl
 by_cases c7:65536<f.frame
 ·simp only[EE,↓nw,Value.cells,zw,zj,qz,wi,kJ,Xf,x0,jb,jc,jd,jf,jg,jh,ji,jj,jk,jl,jm,jn,cn,cl,c1,c2,c3,c4,c5,c6,c7];rfl
 simp only[EE,↓nw,Value.cells,zw,zj,qz,wi,kJ,Xf,x0,jb,jc,jd,jf,jg,jh,ji,jj,jk,jl,jm,jn,cn,cl,c1,c2,c3,c4,c5,c6,c7];exact fin _
def Wk(g:Int):Bool := !decide (g<0) && !decide (65536<g)
def fP(p:Pg)(k:Int):Int:=match p.funcs[k.toNat]? with
 |some f=>f.params.length
 |none=>0
def Bp(p:Pg)(c:xG):Bool := !decide (c.op=10)||(xA c.sub p.funcs.length&&decide (fP p c.sub=c.args.length))
def za4(p:Pg)(c:xG):Bool := !decide (c.op=8)||(xA c.sub p.globals.length&&(!decide (c.k<0) && !decide (p.globals.getD c.sub.toNat 0<c.k)))
def ZA(p:Pg)(c:xG):Bool:=Bp p c&&za4 p c
def me(p:Pg):Bool := !decide ((200:Int)<p.globals.length)&&(!decide ((100:Int)<p.funcs.length)&&(!decide (p.main<0) && !decide ((p.funcs.length:Int)<=p.main)))
def Vg(p:Pg):Bool:=me p&&(p.globals.all Wk&&p.funcs.all λf=>kI f&&f.code.all (ZA p))
abbrev uy(f:Fn):wm := .cells [.string f.nm,f.pv,pm f.zf,pm f.frame,pm f.entry,f.cv] 45
abbrev wM(x:xG):wm := .cells [pm x.op,pm x.sub,pm x.a,pm x.b,pm x.d,pm x.k,x.av,pm x.s,pm x.t] 53
abbrev uc(p:Pg):wm := .cells [p.gv,p.fv,pm p.main] 25
theorem mem_of{α:Type}{l:List α}{k:Nat}{x:α}(h:l[k]? = some x):x∈l:=aau h
theorem F8{n:Int}(h:¬n<0):((n.toNat:Nat):Int)=n:=by omega
section
variable {h:za}{b1 b5:Nat}{p:Pg}{f:Fn}{x:xG}{vs:List aaa}{B:Bool}
theorem zgG(P:wG h p)(F:qP h f)(hro:h.ro<=h.next)(hb:b1<h.next)(hg:h.get b1=some (uc p))(hb5:b5<h.next)(hg5:h.get b5=some (uy f)){i:Nat}(hx:f.code[i]? = some x){v0:aaa}{J:List aaa->za->Prop}
  (hB:ZA p x=false->B=false) (hJ:∀h',ZA p x=true->Old h h'->J [v0] h'):lp (pi b5) h [v0,pm (i:Nat)] (pi b1) (qZ B) J:=by
 have hm:=mem_of hx;have cn:=F.code.wO;have I:=F.ins x hm;have an:=I.args.wO;have ac:=I.args.iH;obtain⟨b,o,c,t,ha,hbb,hgt,hle,htk,_⟩:=F.code.FB (i:=i) (r:=x.row) (by rw[aaq,hx];rfl) rfl;have bad:ZA p x=false->qZ B (.bool false) h:=λq=>by rw[hB q];rfl
 simp only[EE,nth,↓nw,Value.cells,zb,aad,Nat.reduceAdd,yM,ya,zw,zj,qz,jr,Ib,Bj,x0,zA,lp,hg5,ha,hgt,hle,htk,ac,Bj,hro];generalize hH:(za.push h _).set h.next _=H;have e:Old h H:=by subst hH;exact(Old.push h _).set (aam _) _
 have g7:H.get h.next=some (wM x):=by subst hH;exact zW
 have g1:=e.iI hb hg;clear hH;have PH:=P.old e;have fn:=PH.funcs.wO;have fl:=PH.funcs.cQ 3 H;rw[aaf]at fl;have gn:=PH.globals.wO;have gl:=PH.globals.Zr 3 H;have al:=(I.args.old e).Zr 3 H;have fin:ZA p x=true->J [v0] H:=λq=>hJ H q e;have bad':ZA p x=false->qZ B (.bool false) H:=bad;unfold ZA Bp za4 at fin bad';by_cases c10:x.op=10
 ·have c8:¬x.op=8:=by omega
  by_cases s0:x.sub<0
  ·simp only[EE,zw,zj,yi,kh,ki,kj,km,ko,kp,kr,ks,kt,ku,kx,kA,kB,kC,g7,c10,s0];exact bad' (by rw[vO (.inl s0)];simp[c10])
  by_cases s1:(p.funcs.length:Int)<=x.sub
  ·simp only[EE,zw,ur,zj,xB,yi,kh,ki,kj,km,ko,kp,kr,ks,kt,ku,kx,kA,kB,kC,g1,g7,fn,fl,c10,s0,s1];exact bad' (by rw[vO (.inr s1)];simp[c10])
  obtain⟨g,hgf,hgm⟩:=get_some (l:=p.funcs) (k:=x.sub.toNat) (by omega);obtain⟨b',o',c',t',ha',hbb',hgt',hle',htk',hk'⟩:=PH.funcs.eY (i:=x.sub.toNat) (r:=g.row) (by rw[aaq,hgf];rfl) rfl;rw[F8 s0]at ha';have hk1:c'[o'+1]? = some g.pv:=hk' 1 (by omega);have pn:=(PH.fns g hgm).params.wO;have pl:=(PH.fns g hgm).params.Zr 3 H;have hpa:fP p x.sub=g.params.length:=by simp only[fP,hgf]
  by_cases s2:(g.params.length:Int)=x.args.length
  ·simp only[EE,nth,Int.reduceEq,zw,yV,ur,zj,xB,uP,zA,yi,jZ,XN,XO,Z5,Z6,Z7,Z8,Z9,Ya,Yb,Yd,Ye,Yf,Yg,Yh,Yi,Yj,kh,ki,kj,km,ko,kp,kr,ks,kt,ku,kx,kA,kB,kC,g1,g7,fn,fl,an,al,ha',hgt',hk1,pn,pl,c10,s0,s1,s2];exact fin (by rw[wE s0 s1,hpa];simp[c10,s2])
  ·simp only[EE,zw,yV,ur,zj,xB,uP,yi,jZ,kh,ki,kj,km,ko,kp,kr,ks,kt,ku,kx,kA,kB,kC,g1,g7,fn,fl,an,al,ha',hgt',hk1,pn,pl,c10,s0,s1,s2];exact bad' (by rw[wE s0 s1,hpa];simp[c10,s2])
 by_cases c8:x.op=8
 ·by_cases s0:x.sub<0
  ·simp only[EE,Int.reduceEq,zw,zj,zA,yi,XN,XO,Z5,Z6,Z7,Z8,Z9,Ya,Yb,Yd,Ye,Yf,Yg,Yh,Yi,Yj,kh,ki,kj,km,ko,kp,kr,ks,kt,ku,kx,kA,kB,kC,g7,c8,s0];exact bad' (by rw[vO (m:=p.globals.length) (.inl s0)];simp[c8])
  by_cases s1:(p.globals.length:Int)<=x.sub
  ·simp only[EE,Int.reduceEq,zw,yV,zj,x9,zA,yi,XN,XO,Z5,Z6,Z7,Z8,Z9,Ya,Yb,Yd,Ye,Yf,Yg,Yh,Yi,Yj,kh,ki,kj,km,ko,kp,kr,ks,kt,ku,kx,kA,kB,kC,g1,g7,gn,gl,c8,s0,s1];exact bad' (by rw[vO (.inr s1)];simp[c8])
  by_cases s2:x.k<0
  ·simp only[EE,Int.reduceEq,zw,xi,yV,zj,x9,zA,yi,vI,XN,XO,Z5,Z6,Z7,Z8,Z9,Ya,Yb,Yd,Ye,Yf,Yg,Yh,Yi,Yj,kh,ki,kj,km,ko,kp,kr,ks,kt,ku,kx,kA,kB,kC,g1,g7,gn,gl,c8,s0,s1,s2];exact bad' (by rw[wE s0 s1];simp[c8,s2])
  obtain⟨z,hz,_⟩:=get_some (l:=p.globals) (k:=x.sub.toNat) (by omega);obtain⟨b',o',c',t',ha',hbb',hgt',hco'⟩:=PH.globals.at hz;rw[F8 s0]at ha';have hgd:=nQ hz;by_cases s3:z<x.k
  ·simp only[EE,Int.reduceEq,zw,xi,yV,zj,x9,zA,yi,vI,XN,XO,Z5,Z6,Z7,Z8,Z9,Ya,Yb,Yd,Ye,Yf,Yg,Yh,Yi,Yj,kh,ki,kj,km,ko,kp,kr,ks,kt,ku,kx,kA,kB,kC,g1,g7,gn,gl,ha',hgt',hco',c8,s0,s1,s2,s3];exact bad' (by rw[wE s0 s1,hgd];simp[c8,s3])
  ·simp only[EE,nth,Int.reduceEq,zw,xi,yV,zj,x9,zA,yi,vI,XN,XO,Z5,Z6,Z7,Z8,Z9,Ya,Yb,Yd,Ye,Yf,Yg,Yh,Yi,Yj,kh,ki,kj,km,ko,kp,kr,ks,kt,ku,kx,kA,kB,kC,g1,g7,gn,gl,ha',hgt',hco',c8,s0,s1,s2,s3];exact fin (by rw[wE s0 s1,hgd];simp[c8,s2,s3])
 simp only[EE,nth,zw,zj,zA,XN,XO,Z5,Z6,Z7,Z8,Z9,Ya,Yb,Yd,Ye,Yf,Yg,Yh,Yi,Yj,kh,ki,kj,km,ko,kp,kr,ks,kt,ku,kx,kA,kB,kC,g7,c10,c8];exact fin (by simp[c10,c8])
theorem zgH(P:wG h p)(hro:h.ro<=h.next)(hb:b1<h.next)(hg:h.get b1=some (uc p))(hB:B=p.funcs.all λf=>kI f&&f.code.all (ZA p)) :
  LP (aG (pi b1) (λ_ h65=>qZ B (.bool true) h65) (qZ B)) [(nth vs 0),(pm 0)] h:=by
 refine UQ (lo:=h) p.funcs.length (Mu p.funcs λf=>kI f&&f.code.all (ZA p)) (.refl h) ?_;intro i h2 J hi e2 hq hJ;have g2:=e2.iI hb hg;have P2:=P.old e2;have fn:=P2.funcs.wO;have fl:=P2.funcs.cQ 3 h2;rw[aaf]at fl;have hro2:h2.ro<=h2.next:=by rw[e2.ro];exact aaS hro e2.next
 rcases aas i p.funcs.length with hlt|hge
 ·obtain⟨f,hf,hm⟩:=get_some hlt;obtain⟨b,o,c,t,ha,hbb,hgt,hle,htk,_⟩:=P2.funcs.eY (i:=i) (r:=f.row) (by rw[aaq,hf];rfl) rfl;have hlt':(i:Int)<(p.funcs.length:Int):=by omega
  have hinc:IntKind.wrap .i64 ((i:Int)+1)=((i+1:Nat):Int):=inc (by have:=P.FN;omega);have F2:=P2.fns f hm;have pn:=F2.params.wO;have pc:=F2.params.iH;have cn:=F2.code.wO;have cc:=F2.code.iH;simp only[EE,nth,↓nw,Value.cells,↓BK,zb,aad,Nat.reduceAdd,yM,ya,zw,ur,sd,OF,Eb,xB,Az,aG,g2,fn,fl,hlt',ha,hgt,hle,htk,pc,cc,Eb,hro2];generalize hH:(za.push h2 _).set h2.next _=H;have e3:Old h2 H:=by subst hH;exact(Old.push h2 _).set (aam _) _
  have g5:H.get h2.next=some (uy f):=by subst hH;exact zW
  have n5:h2.next<H.next:=by subst hH;exact aaH _
  have roH:H.ro<=H.next:=by rw[e3.ro];exact aaS hro2 e3.next
  clear hH;have FH:=F2.old e3;simp only[];refine Kd (by kernel_rfl) (by simp only[EE]) (zax f H FH) ?_;cases hR:kI f with
  |false=>
   simp only[EE,lu];rw[hB,j0 (B:=λf=>kI f&&f.code.all (ZA p)) hf (by rw[hR];rfl)];rfl
  |true=>
   simp only[EE,nth,↓BK,lu];refine UQ (lo:=H) f.code.length (Mu f.code (ZA p)) (.refl H) ?_;intro k h3 J3 hk e4 hq3 hJ3;have g53:=e4.iI n5 g5;have F3:=FH.old e4;have P3:=P2.old (e3.trans e4);have g3:=(e2.trans (e3.trans e4)).iI hb hg;have cn3:=F3.code.wO;have cl3:=F3.code.JQ 3 h3;rw[aaf]at cl3;have hro3:h3.ro<=h3.next:=by rw[e4.ro];exact aaS roH e4.next
   rcases aas k f.code.length with hlk|hgk
   ·obtain⟨x,hx,hmx⟩:=get_some hlk;have hlk':(k:Int)<(f.code.length:Int):=by omega
    have hinc3:IntKind.wrap .i64 ((k:Int)+1)=((k+1:Nat):Int):=inc (by have:=F2.Br;omega);simp only[EE,nth,↓BK,zw,qz,x0,lr,g53,cn3,cl3,hlk'];refine zgG P3 F3 hro3 (aao hb (e2.trans (e3.trans e4)).next) g3 (aao n5 e4.next) g53 hx (λq=>?_) λh' q e5=>?_
    ·rw[hB,j0 (B:=λf=>kI f&&f.code.all (ZA p)) hf (by rw[j0 hx q,acJ])]
    ·simp only[EE,nth,Ay,hinc3];exact hJ3 _ hlk (by rw[Qa hx];exact q) (e4.trans e5)
   ·have hlk':¬(k:Int)<(f.code.length:Int):=(by omega);simp only[EE,nth,zw,qz,x0,lr,AA,g53,cn3,cl3,hlk',hinc];refine hJ _ hlt ?_ (e2.trans (e3.trans e4));rw[Qa hf,hR,abl];exact Zi λk' hk'=>hq3 k' (by omega)
 ·have hlt':¬(i:Int)<(p.funcs.length:Int):=by omega
  simp only[EE,nth,zw,ur,xB,aG,g2,fn,fl,hlt'];have:(p.funcs.all λf=>kI f&&f.code.all (ZA p))=true:=Zi λk hk=>hq k (by omega);rw[hB,this];rfl
theorem zgI(P:wG h p)(hro:h.ro<=h.next)(hb:b1<h.next)(hg:h.get b1=some (uc p))(hB:B=(p.globals.all Wk&&p.funcs.all λf=>kI f&&f.code.all (ZA p))) :
  aH (pi b1) (qZ B) vs h:=by
 simp only[↓BK,aH];refine UQ (lo:=h) p.globals.length (Mu p.globals Wk) (.refl h) ?_;intro i h2 J hi e2 hq hJ;have g2:=e2.iI hb hg;have P2:=P.old e2;have gn:=P2.globals.wO;have gl:=P2.globals.Zr 3 h2;rcases aas i p.globals.length with hlt|hge
 ·obtain⟨z,hz,_⟩:=get_some hlt;obtain⟨b,o,c,t,ha,hbb,hgt,hco⟩:=P2.globals.at hz;have hlt':(i:Int)<(p.globals.length:Int):=by omega
  have hinc:IntKind.wrap .i64 ((i:Int)+1)=((i+1:Nat):Int):=inc (by have:=P.IQ;omega);by_cases z0:z<0
  ·simp only[EE,nth,↓BK,zw,yV,zj,x9,gK,gL,gN,gO,gP,Jf,g2,gn,gl,hlt',ha,hgt,hco,z0];rw[hB,j0 (B:=Wk) hz (by simp[Wk,z0])];rfl
  by_cases z1:65536<z
  ·simp only[EE,nth,↓BK,zw,yV,zj,x9,gK,gL,gN,gO,gP,Jf,g2,gn,gl,hlt',ha,hgt,hco,z0,z1];rw[hB,j0 (B:=Wk) hz (by simp[Wk,z1])];rfl
  simp only[EE,nth,↓BK,zw,yV,zj,x9,gK,gL,gN,gO,gP,DN,Jf,g2,gn,gl,hlt',ha,hgt,hco,z0,z1,hinc];exact hJ _ hlt (by rw[Qa hz];simp only[Wk,z0,z1,decide_false,aa1,ac0]) e2
 ·have hlt':¬(i:Int)<(p.globals.length:Int):=by omega
  simp only[EE,nth,↓BK,zw,yV,x9,Jf,g2,gn,gl,hlt'];have hp:p.globals.all Wk=true:=Zi λk hk=>hq k (by omega);exact zgH (B:=B) P2 (by rw[e2.ro];exact aaS hro e2.next) (aao hb e2.next) g2 (by rw[hB,hp,abl])
end
theorem OS(p:Pg)(h:za)(P:wG h p):yX pu 16 [p.val] h (.bool (Vg p)):=by
 apply jx;replace P:=P.lock;generalize h.lock=L at P;apply Wc;intro hwf;have hro:=hwf.2;apply Ma;unfold Of;have gn:=P.globals.wO;have fn:=P.funcs.wO;have P1:=P.old (Old.push L (.cells p.row 25));have gl:=P1.globals.Zr 3 (L.push (.cells p.row 25));have fl:=P1.funcs.cQ 3 (L.push (.cells p.row 25));rw[aaf]at fl;have fin:∀vs,aH (pi L.next) (qZ (p.globals.all Wk&&p.funcs.all λf=>kI f&&f.code.all (ZA p))) vs (L.push (.cells p.row 25)):=λvs=>zgI P1 (aby hro) (aaH _) zk rfl;unfold Vg me;by_cases c1:(200:Int)<p.globals.length
 ·simp only[EE,↓nw,Value.cells,zw,yV,x9,WD,WE,WG,WH,WI,WJ,WK,gn,gl,c1];rfl
 by_cases c2:(100:Int)<p.funcs.length
 ·simp only[EE,↓nw,Value.cells,zw,yV,ur,x9,xB,WD,WE,WG,WH,WI,WJ,WK,gn,fn,gl,fl,c1,c2];rfl
 by_cases c3:p.main<0
 ·simp only[EE,↓nw,Value.cells,zw,yV,ur,zj,x9,xB,Xe,WD,WE,WG,WH,WI,WJ,WK,gn,fn,gl,fl,c1,c2,c3];rfl
 by_cases c4:(p.funcs.length:Int)<=p.main
 ·simp only[EE,↓nw,Value.cells,zw,yV,ur,zj,x9,xB,Xe,WD,WE,WG,WH,WI,WJ,WK,gn,fn,gl,fl,c1,c2,c3,c4];rfl
 simp only[EE,↓nw,Value.cells,zw,yV,ur,zj,x9,xB,Xe,WD,WE,WG,WH,WI,WJ,WK,gn,fn,gl,fl,c1,c2,c3,c4];exact fin _
theorem EV(n:Nat)(l:List (Nat×aaa)):(bT n l).size=n:=by
 induction l with
 |nil=>simp[bT,Env.BA]
 |cons p l ih=>obtain⟨k,v⟩:=p;exact ih
theorem za0(n t:Nat)(z:aaa)(l:List (Nat×aaa))(hl:∀p,p∈l->p.1≠t)(i:Nat):(bT n (l++[(t,z)])).get i=if i=t then z else (bT n l).get i:=by
 induction l with
 |nil=>simp only[abR,bT,Env.yI]
 |cons p l ih=>
  obtain⟨k,v⟩:=p;have hk:k≠t:=hl _ acx;have:=ih λp hp=>hl p (acA _ hp);simp only[abJ,bT,Env.yI,this];by_cases h1:i=k
  ·subst h1;simp[hk]
  ·simp[h1]
theorem IX{n t:Nat}{l:List (Nat×aaa)}{s1:Env}(z:aaa)(h:Le (bT n l) s1)(ht:t<n)(hl':(l.all λp => !Nat.beq p.1 t)=true):∃s0,YB [t] [z] s1=some s0/\Le (bT n (l++[(t,z)])) s0:=by
 have hs:s1.size=n:=by rw[<- h.size,EV]
 have hl:∀p,p∈l->p.1≠t:=λp hp e=>by
  rw[aaF]at hl';have:=hl' p hp;rw[e]at this;simp at this
 refine⟨s1.set t z,?_,⟨by rw[EV,Env.size_set,hs],λi=>?_⟩⟩
 ·have:s1.put (some t) z=some (s1.set t z):=by
   simp only[Env.put];have:Nat.blt t s1.size=true:=by rw[hs];simpa [aa5] using ht
   simp[this]
  simp only[YB,this]
 ·rw[za0 n t z l hl,Env.yI];by_cases h1:i=t
  ·simp[h1]
  ·simp only[h1,abj];exact h.get i
structure mq (h0:za) (A0:Z1) (h:za):Prop where
 next:h0.next<h.next
 ro:h.ro=h0.ro
 loop:h.get h0.next=some (.loop A0)
 ready:A0.state=.ready/\A0.pending=none
 old:∀b,b<h0.next->h.get b=h0.get b
structure SO (h0:za) (A0:Z1) (br:Nat) (h:za):Prop where
 next:h0.next<h.next
 ro:h.ro=h0.ro
 loop:h.get h0.next=some (.loop {A0 with state := .done,pending:=some .ret})
 old:∀b,b<h0.next->b≠br->h.get b=h0.get b
 res:h.get br=some (.cells [.bool false] 4)
theorem mq.Wo{h0 h:za}{A0:Z1}(r:mq h0 A0 h):Old h0 h:=⟨Nat.le_of_lt r.next,r.ro,r.old⟩
def Yc(h0:za)(br:Nat)(A0:Z1)(test:Int->Bool):Prop := ∀(z:Int) (h:za) (K:aaa->za->Prop),mq h0 A0 h ->
 (test z=true->∀h',mq h0 A0 h'->K (.bool true) h')->(test z=false->∀h',SO h0 A0 br h'->K (.bool false) h')->zdh pu h0.next [pm z] h K
def mm(h0:za)(br:Nat)(A0:Z1)(test:Int->Bool)(zs:List Int)(_:aaa)(h1:za):Prop:=(zs.all test=true/\mq h0 A0 h1)\/(zs.all test=false/\SO h0 A0 br h1)
def Iter(g:FuncId)(ptr:aaa)(zs:List Int)(h0:za):Prop := ∀(br:Nat) (A0:Z1) (h:za) (test:Int->Bool),mq h0 A0 h->Yc h0 br A0 test ->
 DC pu g [.func (.yield h0.next) #[] #[],ptr] h (mm h0 br A0 test zs)
theorem nq{L:Nat}{args:List aaa}{h:za}{K:aaa->za->Prop}(hy:zdh pu L args h K):zu pu (.func (.yield L) #[] #[]) args h K:=⟨rfl,rfl,hy⟩
theorem Lg{g:FuncId}{ptr:aaa}{zs:List Int}{h0:za}{br:Nat}{test:Int->Bool}{n:Nat}{l:List (Nat×aaa)}{ps:Array Tmp}{asn bd:Code}{C4 ret:za->Prop}{ext:Nat->za->Prop}
  (hc:xM pu g=true) (hro:h0.ro<=h0.next) (hbr:br<h0.next) (it:Iter g ptr zs h0)
  (hy:∀s1,Le (bT n l) s1->Yc h0 br {state := .ready,pending:=none,s:=s1,params:=ps,assign:=asn,body:=bd} test)
  (hn:∀h',zs.all test=true->Old h0 h'->C4 h') (hr:∀h',zs.all test=false->h0.next<=h'.next->h'.ro=h0.ro->h'.get br=some (.cells [.bool false] 4)->ret h') :
  RF pu (.func (.func g) #[] #[ptr]) ps asn bd (bT n l) h0 C4 ret ext:=by
 refine⟨hc,λs1 hl=>?_⟩
 have r0:mq h0 {state := .ready,pending:=none,s:=s1,params:=ps,assign:=asn,body:=bd} (h0.push (.loop {state := .ready,pending:=none,s:=s1,params:=ps,assign:=asn,body:=bd})) :=
  ⟨aaH _,rfl,zk,⟨rfl,rfl⟩,λb hb=>zt hb⟩
 refine(it br _ _ test r0 (hy s1 hl)).mono ?_;rintro _ h1 (⟨ha,r⟩|⟨ha,r⟩)
 ·refine⟨_,r.loop,rfl,by rw[r.ro];exact hro,.normal,rfl,hn _ ha ⟨Nat.le_of_lt r.next,r.ro,λb hb=>?_⟩⟩;rw[zJ (by omega)];exact r.old b hb
 ·refine⟨_,r.loop,rfl,by rw[r.ro];exact hro,.ret,rfl,hr _ ha (Nat.le_of_lt r.next) r.ro ?_⟩;rw[zJ (by omega)];exact r.res
theorem Vy{h:za}{R:aaa->za->Prop}:rv [] h R=R (.tuple #[]) h:=by
 apply propext;simp only[rv,yD,Zx,abP]
theorem zdN{x:xG}(ha:Qw x.op=true)(h1:¬x.a = -1):lA x=[x.a]:=by simp[lA,ha,h1]
theorem zdO{x:xG}(ha:KL x.op=true)(h1:¬x.b = -1):lB x=[x.b]:=by simp[lB,ha,h1]
section
variable {h0 h:za}{A0:Z1}{br b:Nat}{test:Int->Bool}{x:xG}{vs:List aaa}
theorem u20(I:zL h0 x.av x.args)(tn:x.args.length<=17592186043904)(hb:b<h0.next)(hg:h0.get b=some (wM x))(y:Yc h0 br A0 test)(r:mq h0 A0 h)(hpre:(lA x++lB x).all test=true) :
  Xi (pi b) (mm h0 br A0 test (uF x)) (.func (.yield h0.next) #[] #[]) vs h:=by
 have gh:=r.Wo.iI hb hg;have an:=I.wO;by_cases h10:x.op=10
 ·have hC:lC x=x.args:=by simp[lC,h10]
  have hl:=(I.old r.Wo).Zr 3 h;simp only[EE,↓BK,zw,yV,zj,zA,jZ,Ar,Xi,gh,h10,an,hl];refine zcc (mq h0 A0) x.args.length (Mu x.args test) r ?_;intro i h2 J hi r2 hq hJ;have S2:=I.old r2.Wo;rcases aas i x.args.length with hlt|hge
  ·obtain⟨z,hz,hm⟩:=get_some hlt;obtain⟨b',o',c',t',ha',hbb',hgt',hco'⟩:=S2.at hz;have hlt':(i:Int)<(x.args.length:Int):=by omega
   have hinc:IntKind.wrap .i64 ((i:Int)+1)=((i+1:Nat):Int):=inc (by omega);simp only[EE,nth,↓BK,zw,zj,Ap,Aq,lf,hlt',ha',hgt',hco'];refine nq (y z h2 _ r2 (λht h3 r3=>?_) (λht h3 r3=>?_))
   ·simp only[EE,nth,hinc];exact hJ _ hlt (by rw[Qa hz];exact ht) r3
   ·simp only[EE,Vy];refine .inr ⟨?_,r3⟩;unfold uF;rw[hC,acD,j0 (B:=test) hz ht,acJ]
  ·have hlt':¬(i:Int)<(x.args.length:Int):=by omega
   simp only[EE,nth,lf,hlt',Vy];refine .inl ⟨?_,r2⟩;unfold uF;rw[hC,acD,hpre,abl];exact Zi λk hk=>hq k (by omega)
 ·simp only[EE,zw,zj,zA,Xi,gh,h10,Vy];refine .inl ⟨?_,r⟩;have hC:lC x=[]:=by simp[lC,h10]
  unfold uF;rw[hC,ab5];exact hpre
theorem u15(I:zL h0 x.av x.args)(tn:x.args.length<=17592186043904)(hb:b<h0.next)(hg:h0.get b=some (wM x))(y:Yc h0 br A0 test)(r:mq h0 A0 h)(hpre:(lA x).all test=true) :
  Xh (pm x.op) h (pi b) (.func (.yield h0.next) #[] #[]) (mm h0 br A0 test (uF x)) (Xi (pi b) (mm h0 br A0 test (uF x)) (.func (.yield h0.next) #[] #[])):=by
 have gh:=r.Wo.iI hb hg;cases hU:KL x.op with
 |false=>
  have hB:lB x=[]:=by simp[lB,hU]
  have h5:¬x.op=5:=by intro q;simp[KL,q]at hU
  have h7:¬x.op=7:=by intro q;simp[KL,q]at hU
  have h11:¬x.op=11:=by intro q;simp[KL,q]at hU
  simp only[EE,nth,aB,Xh,h5,h7,h11];exact u20 I tn hb hg y r (by rw[hB,ab5];exact hpre)
 |true=>
  have key:aD (pi b) h (.func (.yield h0.next) #[] #[]) (mm h0 br A0 test (uF x)) (Xi (pi b) (mm h0 br A0 test (uF x)) (.func (.yield h0.next) #[] #[])):=by
   by_cases hb1:x.b = -1
   ·simp only[EE,Int.reduceNeg,zw,zj,qD,aC,ld,aD,gh,hb1];exact u20 I tn hb hg y r (by simp only[lB,hb1,not_true_eq_false,and_false,abj,ab5];exact hpre)
   ·simp only[EE,Int.reduceNeg,zw,zj,qD,ld,aD,gh,hb1];refine nq (y x.b h _ r (λht h3 r3=>?_) (λht h3 r3=>?_))
    ·simp only[EE,aC];exact u20 I tn hb hg y r3 (by rw[zdO hU hb1,acD,hpre];simp[ht])
    ·simp only[EE,aC,Vy];refine .inr ⟨?_,r3⟩;unfold uF;rw[zdO hU hb1,acD,acD];simp[ht]
  by_cases h5:x.op=5
  ·simp only[EE,nth,Xh,h5];rw[h5]at *;exact key
  by_cases h11:x.op=11
  ·simp only[EE,nth,Int.reduceEq,aB,Xh,h11];exact key
  by_cases h7:x.op=7
  ·simp only[EE,nth,Int.reduceEq,aB,Xh,h7];exact key
  simp[KL,h5,h7,h11]at hU
end
section
variable {h0 h:za}{b:Nat}{x:xG}
theorem Sy(I:zL h0 x.av x.args)(tn:x.args.length<=17592186043904)(hb:b<h0.next)(hg:h0.get b=some (wM x)):Iter 43 (pi b) (uF x) h0:=by
 intro br A0 h test r y;apply L6;unfold Oa;have gh:=r.Wo.iI hb hg;have tail:∀h,mq h0 A0 h->(lA x).all test=true->Xh (pm x.op) h (pi b) (.func (.yield h0.next) #[] #[]) (mm h0 br A0 test (uF x)) (Xi (pi b) (mm h0 br A0 test (uF x)) (.func (.yield h0.next) #[] #[])):=λh r hp=>u15 I tn hb hg y r hp;cases hU:Qw x.op with
 |false=>
  have hA:lA x=[]:=by simp[lA,hU]
  have n3:¬x.op=3:=by intro q;simp[Qw,q]at hU
  have n4:¬x.op=4:=by intro q;simp[Qw,q]at hU
  have n5:¬x.op=5:=by intro q;simp[Qw,q]at hU
  have n6:¬x.op=6:=by intro q;simp[Qw,q]at hU
  have n7:¬x.op=7:=by intro q;simp[Qw,q]at hU
  have n11:¬x.op=11:=by intro q;simp[Qw,q]at hU
  have n12:¬x.op=12:=by intro q;simp[Qw,q]at hU
  have n14:¬x.op=14:=by intro q;simp[Qw,q]at hU
  simp only[EE,nth,↓BK,zw,zj,zA,gD,Je,Us,WB,XM,YG,jA,gh,n3,n4,n5,n6,n7,n11,n12,n14];exact tail h r (by rw[hA];rfl)
 |true=>
  have key:∀J:List aaa->za->Prop,(∀h',mq h0 A0 h'->(lA x).all test=true->J [] h')->gF (pi b) h (.func (.yield h0.next) #[] #[]) (mm h0 br A0 test (uF x)) J:=by
   intro J hJ;by_cases ha1:x.a = -1
   ·simp only[EE,Int.reduceNeg,zw,zj,xC,gE,oZ,gF,gh,ha1];exact hJ h r (by simp only[lA,ha1,not_true_eq_false,and_false,abj];rfl)
   ·simp only[EE,Int.reduceNeg,zw,zj,xC,oZ,gF,gh,ha1];refine nq (y x.a h _ r (λht h3 r3=>?_) (λht h3 r3=>?_))
    ·simp only[EE,gE];exact hJ h3 r3 (by rw[zdN hU ha1];simp[ht])
    ·simp only[EE,gE,Vy];refine .inr ⟨?_,r3⟩;unfold uF;rw[zdN hU ha1,acD,acD];simp[ht]
  by_cases h3:x.op=3
  ·simp only[EE,nth,↓BK,zw,zj,zA,jA,gh,h3];exact key _ λh' r' hp=>(by have g':=r'.Wo.iI hb hg;simp only[EE,g'];exact tail h' r' hp)
  by_cases h4:x.op=4
  ·simp only[EE,nth,↓BK,Int.reduceEq,zw,zj,zA,YG,jA,gh,h4];exact key _ λh' r' hp=>(by have g':=r'.Wo.iI hb hg;simp only[EE,g'];exact tail h' r' hp)
  by_cases h6:x.op=6
  ·simp only[EE,nth,↓BK,Int.reduceEq,zw,zj,zA,XM,YG,jA,gh,h6];exact key _ λh' r' hp=>(by have g':=r'.Wo.iI hb hg;simp only[EE,g'];exact tail h' r' hp)
  by_cases h12:x.op=12
  ·simp only[EE,nth,↓BK,Int.reduceEq,zw,zj,zA,WB,XM,YG,jA,gh,h12];exact key _ λh' r' hp=>(by have g':=r'.Wo.iI hb hg;simp only[EE,g'];exact tail h' r' hp)
  by_cases h14:x.op=14
  ·simp only[EE,nth,↓BK,Int.reduceEq,zw,zj,zA,Us,WB,XM,YG,jA,gh,h14];exact key _ λh' r' hp=>(by have g':=r'.Wo.iI hb hg;simp only[EE,g'];exact tail h' r' hp)
  by_cases h5:x.op=5
  ·simp only[EE,nth,↓BK,Int.reduceEq,zw,zj,zA,Je,Us,WB,XM,YG,jA,gh,h5];exact key _ λh' r' hp=>(by have g':=r'.Wo.iI hb hg;simp only[EE,g'];exact tail h' r' hp)
  by_cases h11:x.op=11
  ·simp only[EE,nth,↓BK,Int.reduceEq,zw,zj,zA,gD,Je,Us,WB,XM,YG,jA,gh,h11];exact key _ λh' r' hp=>(by have g':=r'.Wo.iI hb hg;simp only[EE,g'];exact tail h' r' hp)
  by_cases h7:x.op=7
  ·simp only[EE,nth,↓BK,Int.reduceEq,zw,zj,zA,gD,Je,Us,WB,XM,YG,jA,gh,h7];exact key _ λh' r' hp=>(by have g':=r'.Wo.iI hb hg;simp only[EE,g'];exact tail h' r' hp)
  simp[Qw,h3,h4,h5,h6,h7,h11,h12,h14]at hU
theorem NC(hb:b<h0.next)(hg:h0.get b=some (wM x)):Iter 42 (pi b) (u9 x) h0:=by
 intro br A0 h test r y;apply Hl;unfold Hk;have gh:=r.Wo.iI hb hg;by_cases h12:x.op=12
 ·have h11:¬x.op=11:=by omega
  simp only[EE,Int.reduceEq,zw,zj,zA,J9,UW,la,gh,h12,Vy];exact .inl ⟨by simp[u9,h12],r⟩
 ·simp only[EE,zw,zj,zA,YM,la,gh,h12];refine nq (y x.s h _ r (λht h3 r3=>?_) (λht h3 r3=>?_))
  ·have g3:=r3.Wo.iI hb hg;by_cases h11:x.op=11
   ·simp only[EE,zw,zj,zA,bW,J9,UW,g3,h11];refine nq (y x.t h3 _ r3 (λht2 h4 r4=>?_) (λht2 h4 r4=>?_))
    ·simp only[Vy];exact .inl ⟨by simp[u9,h11,ht,ht2],r4⟩
    ·simp only[Vy];exact .inr ⟨by simp[u9,h11,ht,ht2],r4⟩
   ·simp only[EE,zw,zj,zA,J9,UW,g3,h11,Vy];exact .inl ⟨by simp[u9,h12,h11,ht],r3⟩
  ·simp only[EE,UW,Vy];refine .inr ⟨?_,r3⟩;by_cases h11:x.op=11
   ·simp[u9,h11,ht]
   ·simp[u9,h12,h11,ht]
end
structure SE (h0:za) (A0:Z1) (h:za):Prop where
 next:h0.next<h.next
 ro:h.ro=h0.ro
 loop:h.get h0.next=some (.loop {A0 with state := .busy})
 ready:A0.state=.ready/\A0.pending=none
 old:∀b,b<h0.next->h.get b=h0.get b
theorem SE.Wo{h0 h:za}{A0:Z1}(r:SE h0 A0 h):Old h0 h:=⟨Nat.le_of_lt r.next,r.ro,r.old⟩
theorem zdS{h0 h:za}{A0:Z1}(r:mq h0 A0 h)(hro:h0.ro<=h0.next){K:za->Prop}(hk:∀hb,SE h0 A0 hb->K hb):RA h0.next h K :=
 ⟨A0,r.loop,r.ready.1,by rw[r.ro];exact hro,hk _ ⟨r.next,r.ro,zW,r.ready,λb hb=>by rw[zJ (by omega)];exact r.old b hb⟩⟩
theorem zaV{h0 hb:za}{A0:Z1}(r:SE h0 A0 hb)(hro:h0.ro<=h0.next){K:aaa->za->Prop}(hk:∀h',mq h0 A0 h'->K (.bool true) h'):Fin h0.next K .normal hb:=by
 refine⟨_,r.loop,by rw[r.ro];exact hro,hk _ ⟨r.next,r.ro,?_,r.ready,λb hb=>by rw[zJ (by omega)];exact r.old b hb⟩⟩;rw[zW];obtain⟨st,pe,s,ps,asn,bd⟩:=A0;obtain⟨r1,r2⟩:=r.ready;simp only at r1 r2;subst r1 r2;rfl
theorem O4{h0 hb h2:za}{A0:Z1}{br:Nat}(r:SE h0 A0 hb)(hro:h0.ro<=h0.next)(hbr:br<h0.next)(he:h2=hb.set br (some (.cells [.bool false] 4))){K:aaa->za->Prop}(hk:∀h',SO h0 A0 br h'->K (.bool false) h'):Fin h0.next K .ret h2:=by
 subst he;refine⟨{A0 with state := .busy},by rw[zJ (by omega)];exact r.loop,by show hb.ro<=_;rw[r.ro];exact hro,hk _ ⟨r.next,r.ro,zW,λb h1 h3=>?_,?_⟩⟩
 ·rw[zJ (by omega),zJ h3];exact r.old b h1
 ·rw[zJ (by omega),zW]
theorem zfa(x:xG)(h:za)(hn:zU x.av=false):DC pu 20 [x.val] h (λv h1=>v=.func (.func 43) #[] #[pi h.next]/\h1=h.push (wM x)):=by
 apply PV;unfold Ti;simp only[EE,↓nw,Value.cells,abR]
theorem zc8(x:xG)(h:za)(hn:zU x.av=false):DC pu 19 [x.val] h (λv h1=>v=.func (.func 42) #[] #[pi h.next]/\h1=h.push (wM x)):=by
 apply L5;unfold N8;simp only[EE,↓nw,Value.cells,abR]
theorem zgX:(uR pu 67 0).1 = #[19]:=by kernel_rfl
theorem zgY:(uR pu 67 1).1 = #[28]:=by kernel_rfl
section
variable {h0:za}{b1 br:Nat}{f:Fn}{t0 t1 t3 t9 t10 t11 t12 t13 t14 t15 t16 t17 t18 t26 t27:aaa}
theorem zbF(hro:h0.ro<=h0.next)(hbr:br<h0.next)(hg:h0.get br=some (.cells [.bool false] 4))(hrb:h0.ro<=br)(hb1:b1<h0.next)(hf:h0.get b1=some (uy f))(hc:zE h0 f.cv 9 (f.code.map xG.row))
  {s1:Env} (hl:Le (bT 125 [(0,t0),(1,t1),(2,pi b1),(3,t3),(4,pi br),(9,t9),(10,t10),(11,t11),(12,t12),(13,t13),(14,t14),(15,t15),(16,t16),(17,t17),(18,t18)]) s1) :
  Yc h0 br {state := .ready,pending:=none,s:=s1,params:=(uR pu 67 0).1,assign:=(uR pu 67 0).2.1,body:=(uR pu 67 0).2.2} (λs=>xA s f.code.length):=by
 intro z h K r hgo hst;obtain⟨s0,e0,l0⟩:=IX (pm z) hl (t:=19) (by decide) rfl;refine PB (fu (q:=qs) mixed) (n:=150) (lv:=52) (lv':=0) (h:=h) r.loop (s0:=s0) (by rw[zgX];exact e0) l0 rfl ?_;show SN pu (nE pu qs) 150 52 0 h0.next (uR pu 67 0).2.1 (uR pu 67 0).2.2 (bT 125 [(0,t0),(1,t1),(2,pi b1),(3,t3),(4,pi br),(9,t9),(10,t10),(11,t11),(12,t12),(13,t13),(14,t14),(15,t15),(16,t16),(17,t17),(18,t18),(19,pm z)]) h K;rw[AX];unfold r8;refine zdS r hro λhb B=>?_;have gf:=B.Wo.iI hb1 hf;have c2:=hc.old B.Wo;have cn:=c2.wO;have cl:=c2.JQ 3 hb;rw[aaf]at cl;simp only[EE,↓BK,zw,qz,x0,AT,gf,cn,cl];refine yp (V2 z _ hb) ?_;cases ht:xA z f.code.length with
 |true=>
  simp only[EE,lJ];exact zaV B hro (hgo ht)
 |false=>
  have g2:hb.get br=some (.cells [.bool false] 4):=by rw[B.old br hbr];exact hg
  have rb:hb.ro<=br:=by rw[B.ro];exact hrb
  simp only[EE,zb,aad,yM,Wt,lJ,g2,rb];exact O4 B hro hbr rfl (hst ht)
theorem zbG(hro:h0.ro<=h0.next)(hbr:br<h0.next)(hg:h0.get br=some (.cells [.bool false] 4))(hrb:h0.ro<=br)(hb1:b1<h0.next)(hf:h0.get b1=some (uy f))
  {s1:Env} (hl:Le (bT 125 [(0,t0),(1,t1),(2,pi b1),(3,t3),(4,pi br),(9,t9),(10,t10),(11,t11),(12,t12),(13,t13),(14,t14),(15,t15),(16,t16),(17,t17),(18,t18),(26,t26),(27,t27)]) s1) :
  Yc h0 br {state := .ready,pending:=none,s:=s1,params:=(uR pu 67 1).1,assign:=(uR pu 67 1).2.1,body:=(uR pu 67 1).2.2} (λu=>xA u f.zf):=by
 intro z h K r hgo hst;obtain⟨s0,e0,l0⟩:=IX (pm z) hl (t:=28) (by decide) rfl;refine PB (fu (q:=qs) mixed) (n:=150) (lv:=84) (lv':=0) (h:=h) r.loop (s0:=s0) (by rw[zgY];exact e0) l0 rfl ?_;show SN pu (nE pu qs) 150 84 0 h0.next (uR pu 67 1).2.1 (uR pu 67 1).2.2 (bT 125 [(0,t0),(1,t1),(2,pi b1),(3,t3),(4,pi br),(9,t9),(10,t10),(11,t11),(12,t12),(13,t13),(14,t14),(15,t15),(16,t16),(17,t17),(18,t18),(26,t26),(27,t27),(28,pm z)]) h K;rw[AY];unfold r9;refine zdS r hro λhb B=>?_;have gf:=B.Wo.iI hb1 hf;simp only[EE,↓BK,zw,zj,wi,AV,gf];refine yp (V2 z _ hb) ?_;cases ht:xA z f.zf with
 |true=>
  simp only[EE,lK];exact zaV B hro (hgo ht)
 |false=>
  have g2:hb.get br=some (.cells [.bool false] 4):=by rw[B.old br hbr];exact hg
  have rb:hb.ro<=br:=by rw[B.ro];exact hrb
  simp only[EE,zb,aad,yM,Wt,lK,g2,rb];exact O4 B hro hbr rfl (hst ht)
end
def Ku(f:Fn)(x:xG):Bool := !wr x.op||xA x.d f.zf
def Kl(f:Fn)(x:xG):Bool:=Wp f x&&Ku f x
def V7(f:Fn)(x:xG):Bool := !lN x&&(!ni x&&(decide (x.op=10)&&decide (x.d = -1)||Kl f x))
def X7(f:Fn)(x:xG):Bool:=decide (1<=x.op)&&(decide (x.op<=14)&&((u9 x).all (λs=>xA s f.code.length)&&((uF x).all (λu=>xA u f.zf)&&V7 f x)))
section
variable {h:za}{b1 b2 br:Nat}{f:Fn}{x:xG}{vs:List aaa}{B:Bool}
theorem r46(W:Bx h b1 b2 f x)(hg:h.get br=some (.cells [.bool false] 4))(hrb:h.ro<=br)(hB:B=Ku f x):wL (pi b2) (pi b1) (pi br) (qZ B) vs h:=by
 have g1:=W.g1;have g2:=W.g2;unfold Ku at hB;cases hw:wr x.op with
 |false=>
  have n2:¬x.op=2:=by intro q;simp[wr,q]at hw
  have n3:¬x.op=3:=by intro q;simp[wr,q]at hw
  have n4:¬x.op=4:=by intro q;simp[wr,q]at hw
  have n5:¬x.op=5:=by intro q;simp[wr,q]at hw
  have n6:¬x.op=6:=by intro q;simp[wr,q]at hw
  have n8:¬x.op=8:=by intro q;simp[wr,q]at hw
  have n9:¬x.op=9:=by intro q;simp[wr,q]at hw
  have n10:¬x.op=10:=by intro q;simp[wr,q]at hw
  have n13:¬x.op=13:=by intro q;simp[wr,q]at hw
  simp only[EE,nth,↓BK,zb,aad,yM,zw,zj,Vc,Wt,zA,Q7,VT,XX,Yr,Zq,jq,qY,ql,wL,g2,hg,hrb,n2,n3,n4,n5,n6,n8,n9,n10,n13];rw[hB,hw];rfl
 |true=>
  have key:∀J,eI (pi b2) h (pi b1) (pi br) (qZ B) J:=by
   intro J;simp only[EE,zw,zj,wi,wj,eI,g1,g2];refine yp (V2 x.d f.zf h) ?_;simp only[EE,zb,aad,yM,zw,Vc,Wt,hg,hrb];rw[hB,hw];rfl
  by_cases h2:x.op=2
  ·simp only[EE,nth,↓BK,zb,yM,zw,zj,Wt,zA,ql,wL,g2,h2];exact key _
  by_cases h3:x.op=3
  ·simp only[EE,nth,↓BK,zb,Int.reduceEq,yM,zw,zj,Wt,zA,qY,ql,wL,g2,h3];exact key _
  by_cases h4:x.op=4
  ·simp only[EE,nth,↓BK,zb,Int.reduceEq,yM,zw,zj,Wt,zA,jq,qY,ql,wL,g2,h4];exact key _
  by_cases h5:x.op=5
  ·simp only[EE,nth,↓BK,zb,Int.reduceEq,yM,zw,zj,Wt,zA,Zq,jq,qY,ql,wL,g2,h5];exact key _
  by_cases h6:x.op=6
  ·simp only[EE,nth,↓BK,zb,Int.reduceEq,yM,zw,zj,Wt,zA,Yr,Zq,jq,qY,ql,wL,g2,h6];exact key _
  by_cases h8:x.op=8
  ·simp only[EE,nth,↓BK,zb,Int.reduceEq,yM,zw,zj,Wt,zA,XX,Yr,Zq,jq,qY,ql,wL,g2,h8];exact key _
  by_cases h9:x.op=9
  ·simp only[EE,nth,↓BK,zb,Int.reduceEq,yM,zw,zj,Wt,zA,VT,XX,Yr,Zq,jq,qY,ql,wL,g2,h9];exact key _
  by_cases h13:x.op=13
  ·simp only[EE,nth,↓BK,zb,Int.reduceEq,yM,zw,zj,Wt,zA,Q7,VT,XX,Yr,Zq,jq,qY,ql,wL,g2,h13];exact key _
  by_cases h10:x.op=10
  ·simp only[EE,nth,↓BK,zb,Int.reduceEq,yM,zw,zj,Wt,zA,Q7,VT,XX,Yr,Zq,jq,qY,ql,wL,g2,h10];exact key _
  simp[wr,h2,h3,h4,h5,h6,h8,h9,h10,h13]at hw
theorem r36(W:Bx h b1 b2 f x)(hg:h.get br=some (.cells [.bool false] 4))(hrb:h.ro<=br)(ho:1<=x.op/\x.op<=14)(hB:B=Kl f x):vH (pm x.op) (pi b2) h (pi br) (qZ B) (pi b1) (wL (pi b2) (pi b1) (pi br) (qZ B)):=by
 have g1:=W.g1;have g2:=W.g2;have go:∀vs,Wp f x=true->wL (pi b2) (pi b1) (pi br) (qZ B) vs h:=λvs q=>r46 W hg hrb (by rw[hB,Kl,q,abl]);have no:∀h',Wp f x=false->qZ B (.bool false) h':=λh' q=>by rw[hB,Kl,q,acU];rfl
 by_cases h4:x.op=4
 ·have e:Wp f x=(decide (1<=x.sub)&&decide (x.sub<=4)):=by simp[Wp,h4]
  rw[e]at go no;by_cases c1:x.sub<1
  ·have c1':¬1<=x.sub:=by omega
   simp only[EE,zb,aad,yM,zw,zj,Vc,Wt,yi,QY,QZ,Q6,vH,g2,hg,hrb,h4,c1];exact no _ (by simp[c1'])
  by_cases c4:4<x.sub
  ·have c4':¬x.sub<=4:=by omega
   simp only[EE,zb,aad,yM,zw,zj,Vc,Wt,yi,QY,QZ,Q6,vH,g2,hg,hrb,h4,c1,c4];exact no _ (by simp[c4'])
  ·have c1':1<=x.sub:=by omega
   have c4':x.sub<=4:=by omega
   simp only[EE,zw,zj,yi,QY,QZ,Q6,vH,g2,h4,c1,c4];exact go _ (by simp[c1',c4'])
 by_cases h5:x.op=5
 ·have e:Wp f x=EG x.sub:=by simp[Wp,h5]
  rw[e]at go no;simp only[EE,Int.reduceEq,zw,zj,yi,jo,vH,g2,h5];refine yp (zeQ x.sub h) ?_;cases hc:EG x.sub with
  |true=>simp only[EE,eC];exact go _ hc
  |false=>simp only[EE,zb,aad,yM,zw,Vc,Wt,eC,hg,hrb];exact no _ hc
 by_cases h11:x.op=11
 ·have e:Wp f x=sy x.sub:=by simp[Wp,h11]
  rw[e]at go no;simp only[EE,Int.reduceEq,zw,zj,yi,Zp,jo,vH,g2,h11];refine CK (zcE x.sub h) ?_;rintro _ h' ⟨⟨a,rfl⟩,rfl⟩;cases hc:sy x.sub with
  |true=>simp only[EE,eD];exact go _ hc
  |false=>simp only[EE,zb,aad,yM,zw,Vc,Wt,eD,hg,hrb];exact no _ hc
 by_cases h67:x.op=6\/x.op=7
 ·have e:Wp f x=fj x.sub:=by rcases h67 with q|q <;> simp[Wp,q]
  rw[e]at go no
  have key:∀J:List aaa->za->Prop,(∀vs,J vs h=wL (pi b2) (pi b1) (pi br) (qZ B) [] h)->eH (pi b2) h (pi br) (qZ B) J:=by
   intro J hJ;simp only[EE,zw,zj,yi,eH,g2];refine yp (zcu x.sub h) ?_;cases hc:fj x.sub with
   |true=>simp only[EE,eE];rw[hJ];exact go _ hc
   |false=>simp only[EE,zb,aad,yM,zw,Vc,Wt,eE,hg,hrb];exact no _ hc
  by_cases h6:x.op=6
  ·simp only[EE,nth,Int.reduceEq,Yq,Zp,jo,vH,h6];exact key _ λ_=>rfl
  ·have h7:x.op=7:=by omega
   simp only[EE,nth,Int.reduceEq,Yq,Zp,jo,vH,h7];exact key _ λ_=>rfl
 have h6:¬x.op=6:=λq=>h67 (.inl q);have h7:¬x.op=7:=λq=>h67 (.inr q);by_cases h9:x.op=9
 ·have e:Wp f x=(decide (0<=x.k)&&decide (x.k<=f.frame)):=by simp[Wp,h9]
  rw[e]at go no;by_cases c0:x.k<0
  ·have c0':¬0<=x.k:=by omega
   simp only[EE,nth,zb,aad,Int.reduceEq,yM,zw,xi,Vc,Wt,vI,Q0,Q1,Q3,Q5,VS,Yq,Zp,jo,vH,g2,hg,hrb,h9,c0];exact no _ (by simp[c0'])
  by_cases c1:f.frame<x.k
  ·have c1':¬x.k<=f.frame:=by omega
   simp only[EE,nth,zb,aad,Int.reduceEq,yM,zw,xi,zj,Vc,Wt,kJ,vI,Q0,Q1,Q3,Q5,VS,Yq,Zp,jo,vH,g1,g2,hg,hrb,h9,c0,c1];exact no _ (by simp[c1'])
  ·have c0':0<=x.k:=by omega
   have c1':x.k<=f.frame:=by omega
   simp only[EE,nth,Int.reduceEq,zw,xi,zj,kJ,vI,Q0,Q1,Q3,Q5,VS,Yq,Zp,jo,vH,g1,g2,h9,c0,c1];exact go _ (by simp[c0',c1'])
 have e:Wp f x=true:=by
  unfold Wp;rw[aai];omega
 simp only[EE,nth,VS,Yq,Zp,jo,vH,h4,h5,h11,h6,h7,h9];exact go _ e
theorem r47(W:Bx h b1 b2 f x)(hg:h.get br=some (.cells [.bool false] 4))(hrb:h.ro<=br)(ho:1<=x.op/\x.op<=14)(hB:B=V7 f x):eJ (pi b2) (pi br) (qZ B) (pi b1) vs h:=by
 have g1:=W.g1;have g2:=W.g2;have no:∀h',V7 f x=false->qZ B (.bool false) h':=λh' q=>by rw[hB,q];rfl
 have go:V7 f x=Kl f x->vH (pm x.op) (pi b2) h (pi br) (qZ B) (pi b1) (wL (pi b2) (pi b1) (pi br) (qZ B)):=λq=>r36 W hg hrb ho (by rw[hB,q]);simp only[EE,↓BK,zw,zj,zA,eJ,g2];by_cases h7:x.op=7
 ·by_cases ca:x.a = -1
  ·simp only[EE,nth,zb,aad,Int.reduceEq,Int.reduceNeg,yM,zw,zj,Vc,Wt,xC,Zv,qX,qk,uM,QU,QV,QW,Yp,uj,g2,hg,hrb,h7,ca];exact no _ (by simp[V7,lN,V0,h7,ca])
  by_cases cb:x.b = -1
  ·simp only[EE,nth,zb,aad,Int.reduceEq,Int.reduceNeg,yM,zw,zj,Vc,Wt,xC,qD,Zv,qX,qk,uM,QU,QV,QW,Yp,uj,g2,hg,hrb,h7,ca,cb];exact no _ (by simp[V7,ni,fK,h7,cb])
  ·simp only[EE,nth,Int.reduceEq,Int.reduceNeg,zw,zj,xC,qD,Zv,qX,qk,uM,QU,QV,QW,Yp,uj,g2,h7,ca,cb];rw[h7]at go;exact go (by simp[V7,lN,ni,h7,ca,cb])
 by_cases h10:x.op=10
 ·have n1:lN x=false:=by simp[lN,V0,h10]
  have n2:ni x=false:=by simp[ni,fK,h10]
  by_cases cd:x.d = -1
  ·simp only[EE,nth,zb,aad,Int.reduceEq,Int.reduceNeg,yM,zw,zj,Vc,Wt,wj,Zv,qX,qk,uM,ey,QX,Yp,uj,g2,hg,hrb,h10,cd];rw[hB];simp[qZ,V7,n1,n2,h10,cd]
  ·simp only[EE,nth,Int.reduceEq,Int.reduceNeg,zw,zj,wj,Zv,qX,qk,uM,ey,QX,Yp,uj,g2,h10,cd];rw[h10]at go;exact go (by simp[V7,n1,n2,h10,cd])
 have n2:ni x=false:=by simp[ni,fK,h7]
 cases hA:V0 x.op with
 |false=>
  have n1:lN x=false:=by simp[lN,hA]
  have h3:¬x.op=3:=by intro q;simp[V0,q]at hA
  have h4:¬x.op=4:=by intro q;simp[V0,q]at hA
  have h5:¬x.op=5:=by intro q;simp[V0,q]at hA
  have h6:¬x.op=6:=by intro q;simp[V0,q]at hA
  have h11:¬x.op=11:=by intro q;simp[V0,q]at hA
  have h14:¬x.op=14:=by intro q;simp[V0,q]at hA
  simp only[EE,nth,Zv,qX,qk,uM,QX,Yp,uj,g2,h3,h4,h5,h6,h11,h14,h7,h10];exact go (by simp[V7,n1,n2,h10])
 |true=>
  have key:∀J:List aaa->za->Prop,(x.a ≠ -1->J [] h)->VR (pi b2) h (pi br) (qZ B) J:=by
   intro J hJ;by_cases ca:x.a = -1
   ·simp only[EE,zb,aad,Int.reduceNeg,yM,zw,zj,Vc,Wt,xC,VR,g2,hg,hrb,ca];exact no _ (by simp[V7,lN,hA,ca])
   ·simp only[EE,Int.reduceNeg,zw,zj,xC,VR,g2,ca];exact hJ ca
  have fin:x.a ≠ -1->V7 f x=Kl f x:=λca=>by simp[V7,lN,n2,h10,ca]
  have step:∀J:List aaa->za->Prop,(V7 f x=Kl f x->J [] h)->VR (pi b2) h (pi br) (qZ B) J:=λJ hJ=>key J λca=>hJ (fin ca);by_cases h3:x.op=3
  ·simp only[EE,nth,uj,h3];rw[h3]at go;refine step _ λq=>?_;simp only[EE,g2,h3];exact go q
  by_cases h4:x.op=4
  ·simp only[EE,nth,Int.reduceEq,uM,uj,h4];rw[h4]at go;refine step _ λq=>?_;simp only[EE,g2,h4];exact go q
  by_cases h6:x.op=6
  ·simp only[EE,nth,Int.reduceEq,qk,uM,uj,h6];rw[h6]at go;refine step _ λq=>?_;simp only[EE,g2,h6];exact go q
  by_cases h14:x.op=14
  ·simp only[EE,nth,Int.reduceEq,qX,qk,uM,uj,h14];rw[h14]at go;refine step _ λq=>?_;simp only[EE,g2,h14];exact go q
  by_cases h5:x.op=5
  ·simp only[EE,nth,Int.reduceEq,Zv,qX,qk,uM,uj,h5];rw[h5]at go;refine step _ λq=>?_;simp only[EE,g2,h5];exact go q
  by_cases h11:x.op=11
  ·simp only[EE,nth,Int.reduceEq,Zv,qX,qk,uM,uj,h11];rw[h11]at go;refine step _ λq=>?_;simp only[EE,g2,h11];exact go q
  simp[V0,h3,h4,h5,h6,h7,h11,h14]at hA
end
section
variable {h:za}{b1 b2 br:Nat}{f:Fn}{x:xG}{vs:List aaa}{B:Bool}
theorem r48(W:Bx h b1 b2 f x)(I:wF h x)(hro:h.ro<=h.next)(hl:br<h.next)(hg:h.get br=some (.cells [.bool false] 4))(hrb:h.ro<=br)(ho:1<=x.op/\x.op<=14){t0 t1 t9 t10 t11 t13 t14 t15 t16 t17 t18:aaa}(hB:B=((uF x).all (λu=>xA u f.zf)&&V7 f x)) :
  eK (pi b2) t0 t1 (pi b1) (pi br) t9 t10 t11 t13 t14 t15 t16 t17 t18 (qZ B) vs h:=by
 have g2:=W.g2;have an:=I.args.wO;simp only[EE,aad,Nat.reduceAdd,ya,jr,eK,g2];refine xX (by kernel_rfl) (by simp only[EE]) (zfa x h an) ?_;rintro _ _ ⟨rfl,rfl⟩;have e:Old h (h.push (wM x)):=Old.push _ _;have g3:(h.push (wM x)).get h.next=some (wM x):=zk;have nx:(h.push (wM x)).next=h.next+1:=rfl;have rx:(h.push (wM x)).ro=h.ro:=rfl;generalize h.push (wM x)=H at e g3 nx rx;have W2:=W.old e;have I2:=I.old e;have g4:=e.iI hl hg;have b1l:=W.l1;simp only[↓BK,zw,Vc,AW];refine Lg (br:=br) (test:=λu=>xA u f.zf) (by kernel_rfl) (by omega) (by omega) (Sy (b:=h.next) I2.args I2.tn (by omega) g3) (λs1 hl=>zbG (by omega) (by omega) g4 (by omega) (by omega) W2.g1 hl) (λh' hall e'=>?_) (λh' hno _ _ hres=>?_)
 ·exact r47 (W2.old e') (e'.iI (by omega) g4) (by rw[e'.ro];omega) ho (by rw[hB,hall,abl])
 ·simp only[EE,hres];rw[hB,hno];rfl
theorem r49(W:Bx h b1 b2 f x)(I:wF h x)(hc:zE h f.cv 9 (f.code.map xG.row))(hro:h.ro<=h.next)(hl:br<h.next)(hg:h.get br=some (.cells [.bool false] 4))(hrb:h.ro<=br)(ho:1<=x.op/\x.op<=14){t0 t1 t9 t10 t11 t13 t14 t15 t16:aaa}(hB:B=((u9 x).all (λs=>xA s f.code.length)&&((uF x).all (λu=>xA u f.zf)&&V7 f x))) :
  eN (pi b2) t0 t1 (pi b1) (pi br) t9 t10 t11 t13 t14 t15 t16 (qZ B) vs h:=by
 have g2:=W.g2;have an:=I.args.wO;simp only[EE,aad,Nat.reduceAdd,ya,jr,eN,g2];refine xX (by kernel_rfl) (by simp only[EE]) (zc8 x h an) ?_;rintro _ _ ⟨rfl,rfl⟩;have e:Old h (h.push (wM x)):=Old.push _ _;have g3:(h.push (wM x)).get h.next=some (wM x):=zk;have nx:(h.push (wM x)).next=h.next+1:=rfl;have rx:(h.push (wM x)).ro=h.ro:=rfl;generalize h.push (wM x)=H at e g3 nx rx;have W2:=W.old e;have g4:=e.iI hl hg;have b1l:=W.l1;simp only[↓BK,zw,Vc,AU];refine Lg (br:=br) (test:=λs=>xA s f.code.length) (by kernel_rfl) (by omega) (by omega) (NC (b:=h.next) (by omega) g3) (λs1 hl=>zbF (by omega) (by omega) g4 (by omega) (by omega) W2.g1 (hc.old e) hl) (λh' hall e'=>?_) (λh' hno _ _ hres=>?_)
 ·have e2:=e.trans e';exact r48 (W2.old e') (I.old e2) (by rw[e'.ro];have:=e'.next;omega) (by have:=e'.next;omega) (e'.iI (by omega) g4) (by rw[e'.ro];omega) ho (by rw[hB,hall,abl])
 ·simp only[EE,hres];rw[hB,hno];rfl
end
theorem zbE(f:Fn)(x:xG)(h:za)(hpv:cellOk f.pv=true/\zU f.pv=false)(I:wF h x)(hc:zE h f.cv 9 (f.code.map xG.row)):yX pu 67 [f.val,x.val] h (.bool (X7 f x)):=by
 apply jx;replace I:=I.lock;replace hc:=hc.lock;generalize h.lock=L at I hc;apply Wc;intro hwf;have hro:=hwf.2;apply HN;unfold HM;have an:=I.args.wO;have cn:=hc.wO;obtain⟨hpc,hpn⟩:=hpv;have roL:L.ro<=L.next+1+1:=by omega
 by_cases c1:x.op<1
 ·have c1':¬1<=x.op:=by omega
  have hB:X7 f x=false:=by simp[X7,c1']
  simp only[EE,↓nw,Value.cells,zb,aad,yM,zw,zj,Vc,Wt,Rg,zA,Q8,Q9,Rg,roL,c1];rw[hB];rfl
 by_cases c2:14<x.op
 ·have c2':¬x.op<=14:=by omega
  have hB:X7 f x=false:=by simp[X7,c2']
  simp only[EE,↓nw,Value.cells,zb,aad,yM,zw,zj,Vc,Wt,Rg,zA,Q8,Q9,Rg,roL,c1,c2];rw[hB];rfl
 have c1':1<=x.op:=by omega
 have c2':x.op<=14:=by omega
 simp only[EE,↓nw,Value.cells,zw,zj,Rg,zA,Q8,Q9,Rg,c1,c2];generalize hH:((L.push (uy f)).push (wM x)).push (.cells [.bool false] 4)=H;have e:Old L H:=by subst hH;exact((Old.push _ _).trans (Old.push _ _)).trans (Old.push _ _)
 have nH:H.next=L.next+3:=by subst hH;rfl
 have rH:H.ro=L.ro:=by subst hH;rfl
 have g1:H.get L.next=some (uy f):=by subst hH;rw[zt (by simp only[yG];omega),zt (by simp only[yG];omega),zk]
 have g2:H.get (L.next+1)=some (wM x):=by subst hH;rw[zt (by simp only[yG];omega)];exact zM rfl
 have g3:H.get (L.next+1+1)=some (.cells [.bool false] 4):=by subst hH;exact zM rfl
 clear hH;have W:Bx H L.next (L.next+1) f x:=⟨by omega,by omega,g1,g2⟩;exact r49 W (I.old e) (hc.old e) (by omega) (by omega) g3 (by omega) ⟨c1',c2'⟩ (by simp[X7,c1',c2'])
def FnQ(fv:aaa)(h:za)(x:xG)(b:Bool):Prop := ∀K:aaa->za->Prop,K (.bool b) h->zu pu fv [x.val] h K
theorem zct{g:FuncId}{c:aaa}{args:List aaa}{h:za}{K R:aaa->za->Prop}(hc:xM pu g=true)(hn:yD args=true)(hn2:yD (args++[c])=true)(hT:DC pu g (args++[c]) h R)(hk:∀v h1,R v h1->K v h1):zu pu (.func (.func g) #[] #[c]) args h K :=
 ⟨hn,by simpa using hn2,.inl ⟨hc,by simpa using hT.mono hk⟩⟩
section
variable {h:za}{cv fv:aaa}{code:List xG}{bad:xG->Bool}
theorem zcM(S:zE h cv 9 (code.map xG.row))(tn:code.length<=17592186043904)(hn:∀x,x∈code->zU x.av=false)(hfv:zU fv=false)(hq:∀x,x∈code->FnQ fv h x (bad x)):DC pu 101 [cv,fv] h (λv h1=>(∃n:Int,v=.int .i64 n/\decide (0<=n)=code.any bad)/\h1=h):=by
 apply tW;unfold rP;have cn:=S.wO;have cl:=S.JQ 3 h;rw[aaf]at cl;simp only[EE,↓BK,cn,cl];refine oC (λg=>g=h) code.length (Mu code λx => !bad x) rfl ?_;intro i h2 J hi hh hg hJ;subst hh;rcases aas i code.length with hlt|hge
 ·obtain⟨x,hx,hm⟩:=get_some hlt;obtain⟨b,o,c,t,ha,hbb,hgt,hle,htk,_⟩:=S.FB (i:=i) (r:=x.row) (by rw[aaq,hx];rfl) rfl;have hlt':(i:Int)<(code.length:Int):=by omega
  have hinc:IntKind.wrap .i64 ((i:Int)+1)=((i+1:Nat):Int):=inc (by omega);simp only[EE,nth,↓BK,aad,ya,jr,iO,iP,Kw,hlt',ha,hgt,hle,htk];refine hq x hm _ ?_;cases hb:bad x with
  |true=>
   simp only[EE,nth];refine⟨_,rfl,?_⟩;rw[List.any_eq_true.2 ⟨x,hm,hb⟩];simp
  |false=>
   simp only[EE,nth,hinc];exact hJ _ hlt (by rw[Qa hx,hb];rfl) rfl
 ·have hlt':¬(i:Int)<(code.length:Int):=by omega
  simp only[EE,nth,Int.reduceNeg,Kw,hlt'];refine⟨_,rfl,?_⟩;have:code.all (λx => !bad x)=true:=Zi λk hk=>hg k (by omega);rw[aaF]at this
  symm
  rw[List.any_eq_false.2 λx hx=>by have:=this x hx;simpa using this];rfl
theorem MG(S:zE h cv 9 (code.map xG.row))(tn:code.length<=17592186043904)(hn:∀x,x∈code->zU x.av=false)(hfv:zU fv=false)(hq:∀x,x∈code->FnQ fv h x (bad x)):DC pu 65 [cv,fv] h (λv h1=>v=.bool (code.any bad)/\h1=h):=by
 apply mz;unfold cU;have cn:=S.wO;refine xX (by kernel_rfl) (by simp only[EE,cn,hfv]) (zcM S tn hn hfv hq) ?_;rintro _ h1 ⟨⟨n,rfl,hn2⟩,rfl⟩;simp only[EE];rw[hn2]
end
theorem zcm(l:List xG)(B:xG->Bool):(!(l.any λx => !B x))=l.all B:=by
 induction l with
 |nil=>rfl
 |cons a l ih=>simp only[List.any_cons,abe,<- ih,Bool.not_or,Bool.not_not]
theorem zbI(f:Fn)(x:xG){h:za}{b1:Nat}(F:qP h f)(I:wF h x)(hb:b1<h.next)(hg:h.get b1=some (uy f)):FnQ (.func (.func 66) #[] #[pi b1]) h x (!X7 f x):=by
 intro K hK;have an:=I.args.wO
 have q:yX pu 66 [x.val,pi b1] h (.bool (!X7 f x)):=by
  apply jx;replace F:=F.lock;replace I:=I.lock;have hg':h.lock.get b1=some (uy f):=by rw[fC];exact hg
  have hb':b1<h.lock.next:=hb;generalize h.lock=L at F I hg' hb';apply Ha;unfold G9;have pn:=F.params.wO;have cn:=F.code.wO;have e:Old L (L.push (wM x)):=Old.push _ _;have g1:=e.iI hb' hg';have g2:(L.push (wM x)).get L.next=some (wM x):=zk;have hne:¬b1=L.next:=by omega
  simp only[EE,↓nw,Value.cells,aad,Nat.reduceAdd,ya,sd,jr,hb',hg'];refine Kd (by kernel_rfl) (by simp only[EE]) (zbE f x _ ⟨F.params.iH,pn⟩ (I.old e) (F.code.old e)) ?_;simp only[EE];rfl
 exact zct (by kernel_rfl) (by simp only[EE]) (by simp only[abJ,abR,EE]) q.dc (by rintro _ _ ⟨rfl,rfl⟩;exact hK)
theorem zd0{step:List aaa->za->(List aaa->za->Prop)->Prop}(Q:Nat->za->Prop){v:aaa}(n:Nat){h:za}(h0:Q 0 h)
  (hs:∀i h J,i<=n->Q i h->(∀h',i<n->Q (i+1) h'->J [v,pm ((i+1:Nat):Int)] h')->step [v,pm (i:Nat)] h J):LP step [v,pm 0] h:=by
 refine qQ (λm vs h=>∃i,i<=n/\m=n-i/\vs=[v,pm (i:Nat)]/\Q i h) n ⟨0,aa8 _,rfl,rfl,h0⟩ ?_;rintro m vs h ⟨i,hi,rfl,rfl,e⟩;exact hs i h _ hi e λh' hlt e'=>⟨n-(i+1),by omega,i+1,hlt,rfl,rfl,e'⟩
def iU(m:List Bool):List aaa:=m.map λb => .bool b
theorem ME(n:Nat):qO [.bool false] n=iU (List.replicate n false):=by
 unfold qO iU;rw[List.map_replicate];apply aa9;intro i;by_cases h:i<n
 ·simp[h,Nat.mod_one]
 ·rw[aal (by simp;omega),aal (by simp;omega)]
def C2(l:List Int)(i:Nat)(j:Nat):Bool:=(List.range i).any λk=>decide (l.getD k 0=(j:Int))
structure zgF (lo:za) (bm:Nat) (l:List Int) (zf:Int) (i:Nat) (h:za):Prop where
 old:Old lo h
 met:∃m:List Bool,m.length=zf.toNat/\h.get bm=some (.cells (iU m) 4) /\ ∀j,j<zf.toNat->m[j]? = some (C2 l i j)
 pre:∀k,k<i->fO l zf k=true
theorem R8(l:List Int)(j:Nat):C2 l 0 j=false:=rfl
theorem R7(l:List Int)(i j:Nat):C2 l (i+1) j=(C2 l i j||decide (l.getD i 0=(j:Int))):=by
 unfold C2;rw[List.range_succ,List.any_append];simp
theorem zcU(l:List Int)(i:Nat){z:Int}(hz:l.getD i 0=z)(h0:0<=z):((List.range i).all λk => !decide (l.getD k 0=l.getD i 0)) = !C2 l i z.toNat:=by
 unfold C2;rw[hz,show((z.toNat:Nat):Int)=z by omega]
 induction (List.range i) with
 |nil=>rfl
 |cons a t ih=>simp only[abe,List.any_cons,ih,Bool.not_or]
def jy(f:Fn):Bool:=KK f&&(iJ f.params f.zf&&f.code.all (X7 f))
section
variable {h:za}{b1:Nat}{f:Fn}{vs:List aaa}{B:Bool}
theorem rr7(F:qP h f)(hb:b1<h.next)(hg:h.get b1=some (uy f))(hB:B=f.code.all (X7 f)):j5 (pi b1) (qZ B) vs h:=by
 have cn:=F.code.wO;simp only[EE,zw,qz,x0,j5,hg,abR];refine xX (by kernel_rfl) (by simp only[EE,cn]) (MG F.code (by have:=F.Br;omega) (λx hx=>(F.ins x hx).args.wO) rfl (bad:=λx => !X7 f x) λx hx=>zbI f x F (F.ins x hx) hb hg) ?_;rintro _ h1 ⟨rfl,rfl⟩;simp only[EE];rw[zcm,hB];rfl
theorem rr8(F:qP h f)(hro:h.ro<=h.next)(hb:b1<h.next)(hg:h.get b1=some (uy f))(h0:¬f.zf<0)(h5:¬5000<f.zf)(hB:B=(iJ f.params f.zf&&f.code.all (X7 f))):j6 (pi b1) (qZ B) vs h:=by
 have pn:=F.params.wO;have pl:=F.params.Zr 3;have mk:=zeI .i64 .i64 f.zf f.zf h (by omega) (Int.le_refl _) (by omega);have hne:¬b1=h.next:=by omega
 simp only[EE,↓BK,zw,yV,zj,uP,wi,j6,hg,mk,pn,pl,hb,abh];rw[ME];generalize hH:h.push (.cells (iU (List.replicate f.zf.toNat false)) 4)=H;have e:Old h H:=by subst hH;exact Old.push _ _
 have gm:H.get h.next=some (.cells (iU (List.replicate f.zf.toNat false)) 4):=by subst hH;exact zk
 have nH:H.next=h.next+1:=by subst hH;rfl
 have rH:H.ro=h.ro:=by subst hH;rfl
 clear hH;refine zd0 (λi g=>zgF h h.next f.params f.zf i g/\g.next=h.next+1) f.params.length ⟨⟨e,⟨_,by simp,gm,λj hj=>by rw[R8];simp[hj]⟩,λk hk=>absurd hk (Nat.not_lt_zero _)⟩,nH⟩ ?_;rintro i g J hi ⟨M,ng⟩ hJ;obtain⟨m,hm,gm',hmet⟩:=M.met;have F2:=F.old M.old;have g1:=M.old.iI hb hg;have rg:g.ro<=h.next:=by rw[M.old.ro];exact hro
 rcases aas i f.params.length with hlt|hge
 ·obtain⟨z,hz,_⟩:=get_some hlt;obtain⟨b,o,c,t,ha,hbb,hgt,hco⟩:=F2.params.at hz;have hlt':(i:Int)<(f.params.length:Int):=by omega
  have hinc:IntKind.wrap .i64 ((i:Int)+1)=((i+1:Nat):Int):=inc (by have:=F.Gb;omega);have hgd:=nQ hz;simp only[EE,nth,↓BK,zw,zj,wi,ZI,j4,hlt',ha,hgt,hco,g1];refine yp (V2 z f.zf g) ?_;by_cases z0:z<0\/f.zf<=z
  ·rw[vO z0];simp only[EE,kV,kW,kX];have:iJ f.params f.zf=false:=Vr hlt (by unfold fO;rw[hgd,vO z0];rfl);rw[hB,this];rfl
  ·have z1:¬z<0:=λq=>z0 (.inl q);have z2:¬f.zf<=z:=λq=>z0 (.inr q);rw[wE z1 z2];have hzl:z.toNat<m.length:=by omega
   have hix:0<=z/\z<((f.zf.toNat:Nat):Int):=by omega
   have hmz:=hmet z.toNat (by omega);have hcell:(iU m)[z.toNat]? = some (.bool (C2 f.params i z.toNat)):=by unfold iU;rw[aaq,hmz];rfl
   have hpar:fO f.params f.zf i = !C2 f.params i z.toNat:=by
    unfold fO;rw[hgd,wE z1 z2,abl];have:=zcU f.params i hgd (by omega);rw[hgd]at this;exact this
   cases hmb:C2 f.params i z.toNat with
   |true=>
    rw[hmb]at hcell hpar;simp only[EE,aad,zw,Vc,za9,kV,kW,kX,hix,gm',abh,hcell];have:iJ f.params f.zf=false:=Vr hlt hpar;rw[hB,this];rfl
   |false=>
    rw[hmb]at hcell hpar;have hlen:z.toNat+1<=(iU m).length:=by unfold iU;rw[aaf];omega
    simp only[EE,nth,zb,aad,yM,zw,Vc,Wt,za9,kV,kW,kX,ZJ,hix,gm',abh,hcell,hlen,rg,hinc];refine hJ _ hlt ⟨⟨?_,⟨m.set z.toNat true,by rw[aaW];exact hm,?_,λj hj=>?_⟩,λk hk=>?_⟩,ng⟩
    ·exact⟨M.old.next,M.old.ro,λb hb=>by rw[zJ (by omega)];exact M.old.get b hb⟩
    ·rw[zW];unfold iU;rw[ab4]
    ·rw[R7,hgd];by_cases hjz:j=z.toNat
     ·subst hjz;rw[aaM (by omega),show((z.toNat:Nat):Int)=z by omega];simp
     ·rw[aa3 (λq=>hjz q.symm),hmet j hj,show decide (z=(j:Int))=false from decide_eq_false (by omega),Bool.or_false]
    ·rcases aas k i with q|q
     ·exact M.pre k q
     ·have:k=i:=(by omega);subst this;exact hpar
 ·have hlt':¬(i:Int)<(f.params.length:Int):=by omega
  simp only[EE,nth,j4,hlt'];have hp:iJ f.params f.zf=true:=X8 λk hk=>M.pre k (by omega);exact rr7 F2 (aao hb M.old.next) g1 (by rw[hB,hp,abl])
end
theorem tF(f:Fn)(h:za)(F:qP h f):yX pu 32 [f.val] h (.bool (jy f)):=by
 apply jx;replace F:=F.lock;generalize h.lock=L at F;apply Wc;intro hwf;have hro:=hwf.2;apply i9;unfold mF;have pn:=F.params.wO;have cn:=F.code.wO;have F1:=F.old (Old.push L (.cells f.row 45));have cl:=F1.code.JQ 3 (L.push (.cells f.row 45));rw[aaf]at cl;unfold jy KK;by_cases c3:(5000:Int)<f.code.length
 ·simp only[EE,↓nw,Value.cells,zw,qz,x0,uG,vx,vy,wh,uU,uV,uW,uX,qJ,uY,cn,cl,c3]
  first|rfl|simp[qZ,c3]
 by_cases c1:f.zf<0
 ·simp only[EE,↓nw,Value.cells,zw,zj,qz,wi,x0,uG,vx,vy,wh,uU,uV,uW,uX,qJ,uY,cn,cl,c3,c1];rfl
 by_cases c2:5000<f.zf
 ·simp only[EE,↓nw,Value.cells,zw,zj,qz,wi,x0,uG,vx,vy,wh,uU,uV,uW,uX,qJ,uY,cn,cl,c3,c1,c2];rfl
 simp only[EE,↓nw,Value.cells,zw,zj,qz,wi,Xf,x0,uU,uV,uW,uX,qJ,uY,cn,cl,c3,c1,c2];refine yp (V2 f.entry f.code.length _) ?_;by_cases c45:f.entry<0\/(f.code.length:Int)<=f.entry
 ·rw[vO c45];simp only[EE,uG,vx,vy,wh];rcases c45 with c4|c5
  ·simp[qZ,c4]
  ·simp[qZ,c5]
 have c4:¬f.entry<0:=λq=>c45 (.inl q);have c5:¬(f.code.length:Int)<=f.entry:=λq=>c45 (.inr q);rw[wE c4 c5];by_cases c6:f.frame<0
 ·simp only[EE,zw,zj,kJ,uG,vx,vy,wh,c6];simp[qZ]
 by_cases c7:65536<f.frame
 ·simp only[EE,zw,zj,kJ,uG,vx,vy,wh,c6,c7];simp[qZ]
 simp only[EE,zw,zj,kJ,uG,vx,vy,wh,c6,c7];refine rr8 F1 (aby hro) (aaH _) zk c1 c2 ?_;simp only[c1,c2,c3,c4,c5,decide_false,aa1,abl]
def Xw(p:Pg):Bool:=me p&&(p.globals.all Wk&&p.funcs.all λf=>jy f&&f.code.all (ZA p))
section
variable {h:za}{b1:Nat}{p:Pg}{f:Fn}{x:xG}{vs:List aaa}{B:Bool}
theorem zgU(P:wG h p)(F:qP h f)(hro:h.ro<=h.next)(hb:b1<h.next)(hg:h.get b1=some (uc p)){i:Nat}(hx:f.code[i]? = some x){v0:aaa}{J:List aaa->za->Prop}
  (hB:ZA p x=false->B=false) (hJ:∀h',ZA p x=true->Old h h'->J [v0] h'):lE f.cv [v0,pm (i:Nat)] h (pi b1) (qZ B) J:=by
 have hm:=mem_of hx;have I:=F.ins x hm;have an:=I.args.wO;have ac:=I.args.iH;obtain⟨b,o,c,t,ha,hbb,hgt,hle,htk,_⟩:=F.code.FB (i:=i) (r:=x.row) (by rw[aaq,hx];rfl) rfl;have bad:ZA p x=false->∀h',qZ B (.bool false) h':=λq _=>by rw[hB q];rfl
 simp only[EE,nth,↓nw,Value.cells,↓BK,zb,aad,Nat.reduceAdd,yM,ya,jr,Ib,Bj,lE,ha,hgt,hle,htk,ac,Bj,hro];generalize hH:(za.push h _).set h.next _=H;have e:Old h H:=by subst hH;exact(Old.push h _).set (aam _) _
 have g7:H.get h.next=some (wM x):=by subst hH;exact zW
 have g1:=e.iI hb hg;clear hH;have PH:=P.old e;have fn:=PH.funcs.wO;have fl:=PH.funcs.cQ 3;rw[aaf]at fl;have gn:=PH.globals.wO;have gl:=PH.globals.Zr 3;have al:=(I.args.old e).Zr 3;have fin:ZA p x=true->J [v0] H:=λq=>hJ H q e;have bad':ZA p x=false->qZ B (.bool false) H:=λq=>bad q H;unfold ZA Bp za4 at fin bad';by_cases c10:x.op=10
 ·have c8:¬x.op=8:=by omega
  simp only[EE,zw,ur,zj,xB,zA,yi,bC,bD,bE,g1,g7,fn,fl,c10];simp only[EE,bB];refine Iu (V2 x.sub p.funcs.length H).dc ?_;rintro _ _ ⟨rfl,rfl⟩;by_cases s01:x.sub<0\/(p.funcs.length:Int)<=x.sub
  ·rw[vO s01];simp only[EE,WO,WQ,WR,WS,WT,WU,WW,WX];exact bad' (by rw[vO s01];simp[c10])
  have s0:¬x.sub<0:=λq=>s01 (.inl q);have s1:¬(p.funcs.length:Int)<=x.sub:=λq=>s01 (.inr q);rw[wE s0 s1];obtain⟨g,hgf,hgm⟩:=get_some (l:=p.funcs) (k:=x.sub.toNat) (by omega);obtain⟨b',o',c',t',ha',hbb',hgt',hle',htk',hk'⟩:=PH.funcs.eY (i:=x.sub.toNat) (r:=g.row) (by rw[aaq,hgf];rfl) rfl;rw[F8 s0]at ha';have hk1:c'[o'+1]? = some g.pv:=hk' 1 (by omega);have pn:=(PH.fns g hgm).params.wO;have pl:=(PH.fns g hgm).params.Zr 3;have hpa:fP p x.sub=g.params.length:=by simp only[fP,hgf]
  by_cases s2:(g.params.length:Int)=x.args.length
  ·simp only[EE,nth,Int.reduceEq,zw,yV,ur,zj,xB,uP,zA,yi,jZ,WY,WZ,W0,W4,Xk,Xl,Xm,Xn,Xo,Xp,aX,aY,aZ,WO,WQ,WR,WS,WT,WU,WW,WX,g1,g7,an,al,ha',hgt',hk1,pn,pl,c10,s2];exact fin (by rw[wE s0 s1,hpa];simp[c10,s2])
  ·simp only[EE,zw,yV,ur,zj,xB,uP,yi,jZ,WO,WQ,WR,WS,WT,WU,WW,WX,g1,g7,an,al,ha',hgt',hk1,pn,pl,c10,s2];exact bad' (by rw[wE s0 s1,hpa];simp[c10,s2])
 by_cases c8:x.op=8
 ·simp only[EE,Int.reduceEq,zw,yV,zj,x9,zA,yi,aX,aY,aZ,WO,WQ,WR,WS,WT,WU,WW,WX,bB,bC,bD,bE,g1,g7,gn,gl,c8];refine Iu (V2 x.sub p.globals.length H).dc ?_;rintro _ _ ⟨rfl,rfl⟩;by_cases s01:x.sub<0\/(p.globals.length:Int)<=x.sub
  ·rw[vO s01];simp only[EE,WY,WZ,W0,W4,Xk,Xl,Xm,Xn,Xo,Xp];exact bad' (by rw[vO (m:=p.globals.length) s01];simp[c8])
  have s0:¬x.sub<0:=λq=>s01 (.inl q);have s1:¬(p.globals.length:Int)<=x.sub:=λq=>s01 (.inr q);rw[wE s0 s1];by_cases s2:x.k<0
  ·simp only[EE,zw,xi,vI,WY,WZ,W0,W4,Xk,Xl,Xm,Xn,Xo,Xp,g7,c8,s2];exact bad' (by rw[wE s0 s1];simp[c8,s2])
  obtain⟨z,hz,_⟩:=get_some (l:=p.globals) (k:=x.sub.toNat) (by omega);obtain⟨b',o',c',t',ha',hbb',hgt',hco'⟩:=PH.globals.at hz;rw[F8 s0]at ha';have hgd:=nQ hz;by_cases s3:z<x.k
  ·simp only[EE,zw,xi,yV,zj,x9,yi,vI,WY,WZ,W0,W4,Xk,Xl,Xm,Xn,Xo,Xp,g1,g7,ha',hgt',hco',c8,s2,s3];exact bad' (by rw[wE s0 s1,hgd];simp[c8,s3])
  ·simp only[EE,nth,zw,xi,yV,zj,x9,yi,vI,WY,WZ,W0,W4,Xk,Xl,Xm,Xn,Xo,Xp,g1,g7,ha',hgt',hco',c8,s2,s3];exact fin (by rw[wE s0 s1,hgd];simp[c8,s2,s3])
 simp only[EE,nth,zw,zj,zA,WY,WZ,W0,W4,Xk,Xl,Xm,Xn,Xo,Xp,aX,aY,aZ,WO,WQ,WR,WS,WT,WU,WW,WX,bB,bC,bD,bE,g7,c10,c8];exact fin (by simp[c10,c8])
theorem zgV(P:wG h p)(hro:h.ro<=h.next)(hb:b1<h.next)(hg:h.get b1=some (uc p))(hB:B=p.funcs.all λf=>jy f&&f.code.all (ZA p)) :
  lH (pi b1) (qZ B) vs h:=by
 have fn:=P.funcs.wO;have fl:=P.funcs.cQ 3;rw[aaf]at fl;simp only[EE,↓BK,zw,ur,xB,lH,hg,fn,fl];refine UQ (lo:=h) p.funcs.length (Mu p.funcs λf=>jy f&&f.code.all (ZA p)) (.refl h) ?_;intro i h2 J hi e2 hq hJ;have g2:=e2.iI hb hg;have P2:=P.old e2;have hro2:h2.ro<=h2.next:=by rw[e2.ro];exact aaS hro e2.next
 rcases aas i p.funcs.length with hlt|hge
 ·obtain⟨f,hf,hm⟩:=get_some hlt;obtain⟨b,o,c,t,ha,hbb,hgt,hle,htk,_⟩:=P2.funcs.eY (i:=i) (r:=f.row) (by rw[aaq,hf];rfl) rfl;have hlt':(i:Int)<(p.funcs.length:Int):=by omega
  have hinc:IntKind.wrap .i64 ((i:Int)+1)=((i+1:Nat):Int):=inc (by have:=P.FN;omega);have F2:=P2.fns f hm;have pn:=F2.params.wO;have pc:=F2.params.iH;have cn:=F2.code.wO;have cc:=F2.code.iH;simp only[EE,nth,↓nw,Value.cells,↓BK,zb,aad,Nat.reduceAdd,yM,ya,sd,OF,Eb,AQ,lG,hlt',ha,hgt,hle,htk,pc,cc,Eb,hro2];generalize hH:(za.push h2 _).set h2.next _=H;have e3:Old h2 H:=by subst hH;exact(Old.push h2 _).set (aam _) _
  have g5:H.get h2.next=some (uy f):=by subst hH;exact zW
  have n5:h2.next<H.next:=by subst hH;exact aaH _
  have roH:H.ro<=H.next:=by rw[e3.ro];exact aaS hro2 e3.next
  clear hH;have FH:=F2.old e3;simp only[];refine Kd (by kernel_rfl) (by simp only[EE]) (tF f H FH) ?_;cases hR:jy f with
  |false=>
   simp only[EE];rw[hB,j0 (B:=λf=>jy f&&f.code.all (ZA p)) hf (by rw[hR];rfl)];rfl
  |true=>
   have cl:=FH.code.JQ 3;rw[aaf]at cl;simp only[EE,nth,↓BK,zw,qz,x0,AP,g5,cn,cl];refine UQ (lo:=H) f.code.length (Mu f.code (ZA p)) (.refl H) ?_;intro k h3 J3 hk e4 hq3 hJ3;have F3:=FH.old e4;have P3:=P2.old (e3.trans e4);have g3:=(e2.trans (e3.trans e4)).iI hb hg;have hro3:h3.ro<=h3.next:=by rw[e4.ro];exact aaS roH e4.next
   rcases aas k f.code.length with hlk|hgk
   ·obtain⟨x,hx,hmx⟩:=get_some hlk;have hlk':(k:Int)<(f.code.length:Int):=by omega
    have hinc3:IntKind.wrap .i64 ((k:Int)+1)=((k+1:Nat):Int):=inc (by have:=F2.Br;omega);simp only[EE,nth,↓BK,lF,hlk'];refine zgU P3 F3 hro3 (aao hb (e2.trans (e3.trans e4)).next) g3 hx (λq=>?_) λh' q e5=>?_
    ·rw[hB,j0 (B:=λf=>jy f&&f.code.all (ZA p)) hf (by rw[j0 hx q,acJ])]
    ·simp only[EE,nth,AO,hinc3];exact hJ3 _ hlk (by rw[Qa hx];exact q) (e4.trans e5)
   ·have hlk':¬(k:Int)<(f.code.length:Int):=(by omega);simp only[EE,nth,lF,AS,hlk',hinc];refine hJ _ hlt ?_ (e2.trans (e3.trans e4));rw[Qa hf,hR,abl];exact Zi λk' hk'=>hq3 k' (by omega)
 ·have hlt':¬(i:Int)<(p.funcs.length:Int):=by omega
  simp only[EE,nth,lG,hlt'];have:(p.funcs.all λf=>jy f&&f.code.all (ZA p))=true:=Zi λk hk=>hq k (by omega);rw[hB,this];rfl
theorem zgW(P:wG h p)(hro:h.ro<=h.next)(hb:b1<h.next)(hg:h.get b1=some (uc p))(hB:B=(p.globals.all Wk&&p.funcs.all λf=>jy f&&f.code.all (ZA p))) :
  lI (pi b1) (qZ B) vs h:=by
 have gn:=P.globals.wO;have gl:=P.globals.Zr 3;simp only[EE,↓BK,zw,yV,x9,lI,hg,gn,gl];refine UQ (lo:=h) p.globals.length (Mu p.globals Wk) (.refl h) ?_;intro i h2 J hi e2 hq hJ;have g2:=e2.iI hb hg;have P2:=P.old e2;rcases aas i p.globals.length with hlt|hge
 ·obtain⟨z,hz,_⟩:=get_some hlt;obtain⟨b,o,c,t,ha,hbb,hgt,hco⟩:=P2.globals.at hz;have hlt':(i:Int)<(p.globals.length:Int):=by omega
  have hinc:IntKind.wrap .i64 ((i:Int)+1)=((i+1:Nat):Int):=inc (by have:=P.IQ;omega);by_cases z0:z<0
  ·simp only[EE,nth,↓BK,zw,zj,gX,gY,gZ,Jo,hlt',ha,hgt,hco,z0];rw[hB,j0 (B:=Wk) hz (by simp[Wk,z0])];rfl
  by_cases z1:65536<z
  ·simp only[EE,nth,↓BK,zw,zj,gX,gY,gZ,Jo,hlt',ha,hgt,hco,z0,z1];rw[hB,j0 (B:=Wk) hz (by simp[Wk,z1])];rfl
  simp only[EE,nth,↓BK,zw,zj,gX,gY,gZ,D1,Jo,hlt',ha,hgt,hco,z0,z1,hinc];exact hJ _ hlt (by rw[Qa hz];simp only[Wk,z0,z1,decide_false,aa1,ac0]) e2
 ·have hlt':¬(i:Int)<(p.globals.length:Int):=by omega
  simp only[EE,nth,Jo,hlt'];have hp:p.globals.all Wk=true:=Zi λk hk=>hq k (by omega);exact zgV P2 (by rw[e2.ro];exact aaS hro e2.next) (aao hb e2.next) g2 (by rw[hB,hp,abl])
end
theorem Gd(p:Pg)(h:za)(P:wG h p):yX pu 14 [p.val] h (.bool (Xw p)):=by
 apply jx;replace P:=P.lock;generalize h.lock=L at P;apply Wc;intro hwf;have hro:=hwf.2;apply Mg;unfold Om;have gn:=P.globals.wO;have fn:=P.funcs.wO;have P1:=P.old (Old.push L (.cells p.row 25));have gl:=P1.globals.Zr 3;have fl:=P1.funcs.cQ 3;rw[aaf]at fl;simp only[EE,↓nw,Value.cells,zw,ur,zj,xB,Xe,fn,fl];refine yp (V2 p.main p.funcs.length _) ?_;unfold Xw me;by_cases c34:p.main<0\/(p.funcs.length:Int)<=p.main
 ·rw[vO c34];simp only[EE,U1,U2,U3,U4];rcases c34 with c|c
  ·simp[qZ,c]
  ·simp[qZ,c]
 have c3:¬p.main<0:=λq=>c34 (.inl q);have c4:¬(p.funcs.length:Int)<=p.main:=λq=>c34 (.inr q);rw[wE c3 c4];by_cases c2:(100:Int)<p.funcs.length
 ·simp only[EE,zw,ur,xB,U1,U2,U3,U4,fn,fl,c2];simp[qZ]
 by_cases c1:(200:Int)<p.globals.length
 ·simp only[EE,zw,yV,ur,x9,xB,U1,U2,U3,U4,gn,fn,gl,fl,c1,c2];simp[qZ]
 simp only[EE,zw,yV,ur,x9,xB,U1,U2,U3,U4,gn,fn,gl,fl,c1,c2];refine zgW P1 (aby hro) (aaH _) zk ?_;simp only[c3,c4,decide_false,aa1,abl]
theorem zdg{x:xG}(h10:¬x.op=10):fL x.op=wr x.op:=by
 unfold fL wr;simp[h10]
theorem Nm{f:Fn}{x:xG}(h:Wp f x=true):1<=x.op/\x.op<=14:=by
 unfold Wp at h
 repeat' split at h
 all_goals first|omega|(cases h)
theorem zew{f:Fn}(h0:0<=f.zf)(x:xG):X7 f x=Ub f x:=by
 unfold X7 Ub V7 Cq Kl;cases hU:(uF x).all λu=>xA u f.zf with
 |false=>simp
 |true=>
 cases hS:(u9 x).all λs=>xA s f.code.length with
 |false=>simp
 |true=>
 cases hO:Wp f x with
 |false=>
  have:¬x.op=10:=by intro q;simp[Wp,q]at hO
  simp[this]
 |true=>
 obtain⟨o1,o2⟩:=Nm hO;cases h1:lN x with
 |true=>simp
 |false=>
 cases h2:ni x with
 |true=>simp
 |false=>
 simp only[o1,o2,decide_true,aa1,abl,abg];unfold Ku Rk Mx;by_cases h10:x.op=10
 ·have hw:wr x.op=true:=by simp[wr,h10]
  have hn:fL x.op=false:=by simp[fL,h10]
  have hwi:zB x=x.d:=by simp[zB,hw]
  rw[hn,hwi,hw];by_cases hd:x.d = -1
  ·have a:¬f.zf <= -1:=by omega
   simp[h10,hd,a]
  ·unfold xA;by_cases a:x.d < -1
   ·have b:¬0<=x.d:=(by omega);simp[h10,hd,a,b]
   ·have b:0<=x.d:=(by omega);by_cases c:x.d<f.zf
    ·have c':¬f.zf<=x.d:=(by omega);simp[h10,hd,a,b,c,c']
    ·have c':f.zf<=x.d:=(by omega);simp[h10,hd,a,b,c,c']
 ·rw[zdg h10];cases hw:wr x.op with
  |false=>
   have hwi:zB x = -1:=by simp[zB,hw]
   have a:¬f.zf <= -1:=by omega
   rw[hwi];simp[h10,a]
  |true=>
   have hwi:zB x=x.d:=by simp[zB,hw]
   rw[hwi];unfold xA;by_cases b:0<=x.d
   ·have a:¬x.d < -1:=(by omega);have a2:¬x.d = -1:=(by omega);by_cases c:x.d<f.zf
    ·have c':¬f.zf<=x.d:=(by omega);simp[h10,a,a2,b,c,c']
    ·have c':f.zf<=x.d:=(by omega);simp[h10,a,a2,b,c,c']
   ·by_cases a2:x.d = -1
    ·simp[h10,a2]
    ·have a:x.d < -1:=(by omega);simp[h10,a,a2,b]
theorem zbJ(f:Fn):jy f=kI f:=by
 unfold jy kI;cases hs:KK f with
 |false=>rfl
 |true=>
  have h0:0<=f.zf:=by
   unfold KK at hs;simp only[aaj,aaC,aaL]at hs;omega
  rw[show X7 f=Ub f from funext λx=>zew h0 x]
theorem Cj(p:Pg):Xw p=Vg p:=by
 unfold Xw Vg;rw[show(λf=>jy f&&f.code.all (ZA p))=(λf=>kI f&&f.code.all (ZA p)) from funext λf=>by rw[zbJ]]
end Go.Rtl
namespace Go.Rm
open Go.Ai Go.Proofs Go.Mem
open Go.Rtl (xG Pg zB)
def isInt(a:V):Bool:=decide (a.k=1)&&kF a
def wB(a:V):Bool:=decide (a.k=2)&&kF a
def u6(n:Int):V:=⟨1,n,0⟩
def qN(b:Bool):V:=if b=true then u6 1 else u6 0
abbrev v9(n:Int):Int:=IntKind.wrap .i64 n
def Wy(f:BitVec 64->BitVec 64->BitVec 64)(a b:Int):Int:=v9 (f (BitVec.ofInt 64 a) (BitVec.ofInt 64 b)).toNat
def ub(op a b:Int):Option V :=
 if op=11 then some (u6 (v9 (a+b))) else if op=12 then some (u6 (v9 (a-b))) else if op=13 then some (u6 (v9 (a*b)))
 else if op=14\/op=15 then (if b=0\/(a = -9223372036854775808/\b = -1) then none else if op=14 then some (u6 (v9 (a.tdiv b))) else some (u6 (a.tmod b)))
 else if op=16 then some (u6 (Wy (· &&& ·) a b)) else if op=17 then some (u6 (Wy (· ||| ·) a b)) else if op=18 then some (u6 (Wy (· ^^^ ·) a b))
 else if op=19\/op=20 then (if b<0\/63<b then none else if op=19 then some (u6 (v9 (a*2^b.toNat))) else some (u6 (a.fdiv (2^b.toNat))))
 else if op=21 then some (qN (decide (a=b))) else if op=22 then some (qN (!decide (a=b))) else if op=23 then some (qN (decide (a<b)))
 else if op=24 then some (qN (decide (a<=b))) else if op=25 then some (qN (decide (b<a))) else if op=26 then some (qN (decide (b<=a))) else none
def wH(op:Int)(a b:V):Option V :=
 if (wB a&&wB b)||((wB a&&decide (b=u6 0))||(decide (a=u6 0)&&wB b)) then some (qN (decide (a=b) == decide (op=21))) else none
def yF(op:Int)(a b:V):Option V :=
 if isInt a&&isInt b then ub op a.n b.n
 else if decide (op=11)&&(wB a&&isInt b) then some (sO a.b (v9 (a.n+b.n)))
 else if decide (op=11)&&(isInt a&&wB b) then some (sO b.b (v9 (a.n+b.n)))
 else if decide (op=12)&&(wB a&&isInt b) then some (sO a.b (v9 (a.n-b.n)))
 else if op=21\/op=22 then wH op a b else none
def notM(a:Int):Int:=v9 (BitVec.ofInt 64 (-1) ^^^ BitVec.ofInt 64 a).toNat
def iY(op:Int)(a:V):Option V :=
 if isInt a=true then (if op=1 then some (u6 (v9 (0-a.n))) else if op=2 then some (u6 (notM a.n)) else if op=3 then some (u6 (v9 (IntKind.wrap .i8 a.n))) else if op=4 then some (u6 (v9 (IntKind.wrap .i32 a.n))) else none) else none
structure Fr where
 f:Nat
 zf:List V
 kS:Int
 pt:Int
structure St where
 mem:MM
 used:Int
 kind:Int
 exit:Int
 ev:List (Int×Int)
 lk:List (Int×Int×Int)
 steps:Int
 gl:List Int
 calls:List Fr
def zS(l:List V)(r:Int):V:=if r<0 then v0 else l.getD r.toNat v0
def um(l:List V)(r:Int)(v:V):List V:=if r<0 then l else (l++List.replicate (r.toNat+1-l.length) v0).set r.toNat v
def xf(S:St)(k a b:Int):St:={S with lk:=S.lk++[(k,a,b)]}
def qT(S:St)(k v:Int):St:={S with ev:=S.ev++[(k,v)]}
def Sx(S:St)(c:Fr):St:={S with calls:=S.calls.dropLast++[c]}
def yC(c:Fr)(i:xG):V:=if i.b = -1 then u6 i.k else zS c.zf i.b
def yQ(c:Fr)(i:xG):Option V:=match yF 11 (zS c.zf i.a) (u6 i.k) with
 |some p=>if p.k=2 then some p else none
 |none=>none
def vZ(S:St)(c:Fr)(i:xG)(v:V):St:=Sx S {c with zf:=um c.zf (zB i) v,pt:=i.s}
def jT(p:Pg)(c:Fr):Option xG:=(p.funcs[c.f]?).bind λf=>if c.pt<0 then none else f.code[c.pt.toNat]?
def wt:List Int->List V->List V->List V
 |r::rs,a::l2,l=>wt rs l2 (um l r a)
 |_,_,l=>l
def wI(p:Pg)(S:St)(n:Int)(args:List V):St×Bool :=
 if 20000<=S.calls.length then (S,false) else match p.funcs[n.toNat]? with
 |none=>(S,false)
 |some f=>(if (zV S.mem f.frame).2.2=0 then ({S with mem:=(zV S.mem f.frame).1,calls:=S.calls++[⟨n.toNat,wt f.params args [],(zV S.mem f.frame).2.1,f.entry⟩]},true) else ({S with mem:=(zV S.mem f.frame).1},false))
def kN(kept:Option (Int->Bool))(l:List V):List V:=match kept with
 |none=>l
 |some K=>(List.range l.length).map λ(k:Nat)=>if K (k:Int)=true then l.getD k v0 else v0
def u5(p:Pg)(kept:Option (Int->Bool))(S:St)(v:V):St×Bool:=match S.calls.getLast? with
 |none=>(S,false)
 |some c=>(match S.calls.dropLast.getLast? with
  |none=>(if v.k=1 then ({S with mem:=(qE S.mem c.kS).getD S.mem,calls:=[],kind:=1,exit:=v.n},true) else ({S with mem:=(qE S.mem c.kS).getD S.mem,calls:=[]},false))
  |some b=>(match jT p b with
   |none=>(S,false)
   |some i=>({S with mem:=(qE S.mem c.kS).getD S.mem,calls:=S.calls.dropLast.dropLast++[{b with zf:=um (kN kept b.zf) i.d v,pt:=i.s}]},true)))
def fo(S:St)(c:Fr)(i:xG):St×Bool:=match yF i.sub (zS c.zf i.a) (yC c i) with
 |none=>(S,false)
 |some v=>(Sx (xf S 1 v.n 0) {c with pt:=if v.n=0 then i.t else i.s},true)
def Zs(world:List Int)(used:Int):Int:=if used<0 then 0 else world.getD used.toNat 0
def xj(p:Pg)(world:List Int)(kept:Option (Int->Bool))(S:St)(c:Fr)(i:xG):St×Bool :=
 if i.op=2 then (vZ S c i (u6 i.k),true)
 else if i.op=3 then (vZ S c i (zS c.zf i.a),true)
 else if i.op=4 then (match iY i.sub (zS c.zf i.a) with
  |none=>(S,false)
  |some v=>(vZ S c i v,true))
 else if i.op=5 then
  (let S1:=if (i.sub=14\/i.sub=15)/\(zS c.zf i.a).k=1/\(yC c i).k=1 then xf S 3 (zS c.zf i.a).n (yC c i).n else S
  match yF i.sub (zS c.zf i.a) (yC c i) with
  |none=>(S1,false)
  |some v=>(vZ S1 c i v,true))
 else if i.op=6 then (match yQ c i with
  |none=>(S,false)
  |some q=>(match kP S.mem i.sub q with
   |none=>(xf S 2 q.b q.n,false)
   |some v=>(vZ (xf S 2 q.b q.n) c i v,true)))
 else if i.op=7 then (match yQ c i with
  |none=>(S,false)
  |some q=>(match wR S.mem i.sub q (zS c.zf i.b) with
   |none=>(xf S 2 q.b q.n,false)
   |some M=>(vZ {xf S 2 q.b q.n with mem:=M} c i v0,true)))
 else if i.op=8 then (vZ S c i (sO (S.gl.getD i.sub.toNat 0) i.k),true)
 else if i.op=9 then (vZ S c i (sO c.kS i.k),true)
 else if i.op=10 then wI p (xf S 4 i.sub 0) i.sub (i.args.map (zS c.zf))
 else if i.op=11 then fo S c i
 else if i.op=12 then u5 p kept S (zS c.zf i.a)
 else if i.op=13 then (vZ {qT S 1 (Zs world S.used) with used:=S.used+1} c i (u6 (Zs world S.used)),true)
 else if i.op=14 then (if (zS c.zf i.a).k=1 then (vZ (qT S 2 (zS c.zf i.a).n) c i v0,true) else (S,false))
 else (vZ S c i v0,true)
def kH(p:Pg)(world:List Int)(kept:Option (Int->Bool))(S:St):St×Bool:=match S.calls.getLast? with
 |none=>(S,false)
 |some c=>(match jT p c with
  |none=>(S,false)
  |some i=>xj p world kept S c i)
def Ql(p:Pg)(world:List Int)(kept:Option (Int->Bool)):Nat->St×Bool->St×Bool
 |0,(S,ok)=>if ok=true/\S.kind=0 then ({S with kind:=2},ok) else (S,ok)
 |n+1,(S,ok)=>if ok=true/\S.kind=0 then Ql p world kept n (kH p world kept {S with steps:=S.steps+1}) else (S,ok)
def xI:List Int->MM->List Int->MM×List Int
 |[],M,l=>(M,l)
 |n::ns,M,l=>xI ns ((YW (zV M n).1 (zV M n).2.1).getD (zV M n).1) (l++[(zV M n).2.1])
def qV(p:Pg)(args:List Int):St×Bool:=wI p ⟨(xI p.globals [] []).1,0,0,0,[],[],0,(xI p.globals [] []).2,[]⟩ p.main (args.map u6)
def KB(r:St×Bool):St:=if r.2=true then r.1 else {r.1 with kind:=3}
def runM(p:Pg)(args world:List Int)(kept:Option (Int->Bool))(fuel:Nat):St:=KB (Ql p world kept fuel (qV p args))
end Go.Rm
