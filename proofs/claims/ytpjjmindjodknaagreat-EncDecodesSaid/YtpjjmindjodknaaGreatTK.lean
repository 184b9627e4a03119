import Derived.Test.YtpjjmindjodknaaGreatTJ
set_option linter.unusedVariables false
set_option linter.unusedSimpArgs false
set_option maxRecDepth 100000
namespace Go.Ar
open Go.Ai Go.Proofs
open Go.Rtl (zE zA Old yD xk inc Pp WM ak gE get_some)
open Go.Rm (Rd Rd.of Rd.at)
open Go.As (zF Pg X4 kP uW XR Zf vE jQ qw LR)
def Vo(l:List zF):Bool:=l.any λx => !decide (x.op=20)
def jK(code:List zF)(n:Nat)(x:zF):Bool := !(decide (x.op=20) && !decide (xX code x.l 0=(n:Int))) && !(decide (x.op=18\/x.op=19)&&decide (xX code x.l 0<0))
def ZC(p:Pg)(x:zF):Bool := !(decide (x.op=21)&&(decide (x.sub<0)||decide ((p.funcs.length:Int)<=x.sub))) && !(decide (x.op=6)&&(decide (x.sub<0)||(decide ((p.globals.length:Int)<=x.sub)||(decide (x.k<0)||decide (p.globals.getD x.sub.toNat 0<x.k)))))
def wZ(p:Pg)(code:List zF)(n:Nat)(x:zF):Bool:=ym x&&(jK code n x&&ZC p x)
def Oe(p:Pg)(code:List zF)(n:Nat):Bool:=match code[n]? with
 |none=>true
 |some x=>wZ p code n x
def a9(p:Pg)(code:List zF):Bool:=(List.range code.length).all (Oe p code)
def cE(p:Pg)(f:Go.As.Fn):Bool:=a9 p f.code&&(Vo f.code && !decide (100000<(f.code.length:Int)))
def Xi(p:Pg):Bool:=Go.As.ZD p&&(p.globals.all LR&&p.funcs.all (cE p))
theorem D0{p:Pg}{code:List zF}{n:Nat}{x:zF}(hx:code[n]? = some x)(h:wZ p code n x=false):a9 p code=false:=by
 have hn:n<code.length:=by
  rcases aaL n code.length with q|q
  ·exact q
  ·rw[aat q]at hx;cases hx
 unfold a9;rw[List.all_eq_false];exact⟨n,by simpa using hn,by unfold Oe;rw[hx];simp[h]⟩
theorem tZ{p:Pg}{code:List zF}(h:∀n x,n<code.length->code[n]? = some x->wZ p code n x=true):a9 p code=true:=by
 unfold a9;rw[aaD];intro n hn;have hn:n<code.length:=by simpa using hn
 unfold Oe;rw[aaf hn];exact h n _ hn (aaf hn)
section
variable {p:Pg}{f:Go.As.Fn}{lo:y4}{H:za}{b1 b5:Nat}{R:aaa->za->Prop}{J:List aaa->za->Prop}
theorem TZ(RP:Rd lo (kP · p))(hfm:f∈p.funcs)(s:Sat lo H [pt b5 (.cells f.row 50),pt b1 (.cells p.row 25)])(v:aaa)
  (kb:a9 p f.code=false->∀h,R (.bool false) h)
  (k:∀h v,a9 p f.code=true->Sat lo h [pt b5 (.cells f.row 50),pt b1 (.cells p.row 25)]->J [v,.bool (Vo f.code)] h) :
  LP (bP (pi b5) J R (pi b1)) [v,.bool false,pm 0] H:=by
 refine qb (λn vs h'=>∃(i:Nat) (v0:aaa),i<=f.code.length/\n=f.code.length-i/\vs=[v0,.bool (Vo (f.code.take i)),pm (i:Nat)]/\(∀m x,m<i->f.code[m]? = some x->wZ p f.code m x=true)/\Sat lo h' [pt b5 (.cells f.row 50),pt b1 (.cells p.row 25)]) f.code.length ⟨0,v,aaN _,rfl,rfl,λm x hm=>by omega,s⟩ ?_;rintro n vs h' ⟨i,v0,hi,rfl,rfl,hall,s⟩;have P:=RP.at s;have F:=P.fns f hfm;have g5:=s.get;have cn:=F.code.QU;have cc:=F.code.FQ;have cl:=λh'=>vE F.code 3 h';have gvn:=P.globals.QU;have fvn:=P.funcs.QU;have gl:=λh'=>qw P.globals 3 h';have fl:=λh'=>jQ P.funcs 3 h';unfold bP;by_cases hc:(i:Int)<(f.code.length:Int)
 ·obtain⟨x,hx,hxm⟩:=get_some (l:=f.code) (k:=i) (by omega);obtain⟨bi,oi,ci,ti,ha,hbi,hgi,hle,htk,hki⟩:=uW F.code (i:=i) (r:=x.row) (by rw[aaA,hx];rfl) rfl;have et:f.code.take (i+1)=f.code.take i++[x]:=by rw[abb,hx];rfl
  have hsn:Vo (f.code.take (i+1))=(Vo (f.code.take i) || !decide (x.op=20)):=by rw[et];simp[Vo]
  have hin:=inc (show i<4611686018427387904 by have:=F.PJ;omega);have no:wZ p f.code i x=false->∀h,R (.bool false) h:=λe=>kb (D0 hx e)
  have go:wZ p f.code i x=true->∀m y,m<i+1->f.code[m]? = some y->wZ p f.code m y=true:=λe m y hm hy=>by
   by_cases q:m=i
   ·subst q;rw[hx]at hy;cases hy;exact e
   ·exact hall m y (by omega) hy
  simp only[EE,nth,Value.cells,↓zt,kH,zv,uC,Yw,kJ,qy,nv,hc,g5,cn,cl,ha,hgi,hle,htk];refine qt s λb8 h2 s2=>?_;simp only[EE,Nat.reduceAdd,xh];refine yj s2 (by simp) rfl λh3 s3=>?_;have g8:=s3.get;have g5:=(s3.p 1).get;have g1:=(s3.p 2).get;have st:=s3.drop
  have go2:wZ p f.code i x=true->∀(w:aaa) (sb:Bool),sb=(Vo (f.code.take i) || !decide (x.op=20))->∃m,m<f.code.length-i /\ ∃(i':Nat) (v0:aaa),i'<=f.code.length/\m=f.code.length-i' /\ [w,Value.bool sb,pm ((i+1:Nat):Int)]=[v0,.bool (Vo (f.code.take i')),pm (i':Nat)]/\(∀m x,m<i'->f.code[m]? = some x->wZ p f.code m x=true)/\Sat lo h3 [pt b5 (.cells f.row 50),pt b1 (.cells p.row 25)]:=λe w sb hsb=>
   ⟨f.code.length-(i+1),by omega,i+1,w,by omega,rfl,by rw[hsn,hsb],go e,st⟩
  cases hsb:Vo (f.code.take i) with
  |true=>
   rw[hsb]at go2;simp only[EE,nth,zu,Nat.reduceAdd,kH,uC,zc,bN,bO,g8];refine YL (mh (x:=x)) ?_;cases hR:ym x with
   |false=>
    simp only[EE,yZ];exact no (by simp[wZ,hR]) _
   |true=>
    by_cases o20:x.op=20
    ·simp only[EE,zu,Nat.reduceAdd,kH,zv,zk,aW,zc,uv,xD,xE,xF,yZ,g8,g5,o20];refine gL (by simp only[yi];rfl) (WI ((RP.at s3).fns f hfm) x.l) ?_;by_cases e1:xX f.code x.l 0=(i:Int)
     ·simp only[EE,nth,zu,Nat.reduceAdd,Int.reduceEq,zv,zk,zc,wV,wW,wi,wj,wm,wq,wt,wx,wy,wz,wA,wB,wC,wD,wE,wF,xt,xw,xx,xz,xA,xB,xC,yB,yC,yR,yS,yT,yU,yV,yW,yX,yY,uR,g8,hin,o20,e1];exact go2 (by simp[wZ,jK,ZC,hR,o20,e1]) _ _ (by simp)
     ·simp only[EE,nth,yB,yC,yR,yS,yT,yU,yV,yW,yX,yY,e1];exact no (by simp[wZ,jK,ZC,hR,o20,e1]) _
    by_cases o18:x.op=18
    ·simp only[EE,zu,Nat.reduceAdd,Int.reduceEq,kH,zv,zk,aW,zc,uv,yR,yS,yT,yU,yV,yW,yX,yY,xD,xE,xF,yZ,g8,g5,o18];refine gL (by simp only[yi];rfl) (WI ((RP.at s3).fns f hfm) x.l) ?_;by_cases e1:xX f.code x.l 0<0
     ·simp only[EE,yB,yC,e1];exact no (by simp[wZ,jK,ZC,hR,o18,e1]) _
     ·simp only[EE,nth,zu,Nat.reduceAdd,Int.reduceEq,zv,zk,zc,wV,wW,wi,wj,wm,wq,wt,wx,wy,wz,wA,wB,wC,wD,wE,wF,xt,xw,xx,xz,xA,xB,xC,yB,yC,uR,g8,hin,o18,e1];exact go2 (by simp[wZ,jK,ZC,hR,o18,e1]) _ _ (by simp)
    by_cases o19:x.op=19
    ·simp only[EE,zu,Nat.reduceAdd,Int.reduceEq,kH,zv,zk,aW,zc,uv,yR,yS,yT,yU,yV,yW,yX,yY,xD,xE,xF,yZ,g8,g5,o19];refine gL (by simp only[yi];rfl) (WI ((RP.at s3).fns f hfm) x.l) ?_;by_cases e1:xX f.code x.l 0<0
     ·simp only[EE,yB,yC,e1];exact no (by simp[wZ,jK,ZC,hR,o19,e1]) _
     ·simp only[EE,nth,zu,Nat.reduceAdd,Int.reduceEq,zv,zk,zc,wV,wW,wi,wj,wm,wq,wt,wx,wy,wz,wA,wB,wC,wD,wE,wF,xt,xw,xx,xz,xA,xB,xC,yB,yC,uR,g8,hin,o19,e1];exact go2 (by simp[wZ,jK,ZC,hR,o19,e1]) _ _ (by simp)
    by_cases o21:x.op=21
    ·by_cases e1:x.sub<0
     ·simp only[EE,zu,Nat.reduceAdd,Int.reduceEq,zv,zk,zc,zq,xt,xw,xx,xz,xA,xB,xC,yB,yC,yR,yS,yT,yU,yV,yW,yX,yY,xD,xE,xF,yZ,g8,o21,e1];exact no (by simp[wZ,jK,ZC,hR,o21,e1]) _
     by_cases e2:x.sub ≥ (p.funcs.length:Int)
     ·simp only[EE,zu,Nat.reduceAdd,Int.reduceEq,zv,kI,zk,vu,zc,zq,xt,xw,xx,xz,xA,xB,xC,yB,yC,yR,yS,yT,yU,yV,yW,yX,yY,xD,xE,xF,yZ,g8,g1,fvn,fl,o21,e1,e2];have e2:(p.funcs.length:Int)<=x.sub:=e2;exact no (by simp[wZ,jK,ZC,hR,o21,e2]) _
     simp only[EE,nth,zu,Nat.reduceAdd,Int.reduceEq,zv,kI,zk,vu,zc,zq,wV,wW,wi,wj,wm,wq,wt,wx,wy,wz,wA,wB,wC,wD,wE,wF,xt,xw,xx,xz,xA,xB,xC,yB,yC,yR,yS,yT,yU,yV,yW,yX,yY,xD,xE,xF,yZ,uR,g8,g1,fvn,fl,hin,o21,e1,e2];have e2:¬(p.funcs.length:Int)<=x.sub:=e2;exact go2 (by simp[wZ,jK,ZC,hR,o21,e1,e2]) _ _ (by simp)
    by_cases o6:x.op=6
    ·by_cases e1:x.sub<0
     ·simp only[EE,zu,Nat.reduceAdd,Int.reduceEq,zv,zk,zc,zq,wV,wW,wi,wj,wm,wq,wt,wx,wy,wz,wA,wB,wC,wD,wE,wF,xt,xw,xx,xz,xA,xB,xC,yB,yC,yR,yS,yT,yU,yV,yW,yX,yY,xD,xE,xF,yZ,g8,o6,e1];exact no (by simp[wZ,jK,ZC,hR,o6,e1]) _
     by_cases e2:x.sub ≥ (p.globals.length:Int)
     ·simp only[EE,zu,Nat.reduceAdd,Int.reduceEq,zv,qd,zk,vO,zc,zq,wV,wW,wi,wj,wm,wq,wt,wx,wy,wz,wA,wB,wC,wD,wE,wF,xt,xw,xx,xz,xA,xB,xC,yB,yC,yR,yS,yT,yU,yV,yW,yX,yY,xD,xE,xF,yZ,g8,g1,gvn,gl,o6,e1,e2];have e2:(p.globals.length:Int)<=x.sub:=e2;exact no (by simp[wZ,jK,ZC,hR,o6,e2]) _
     by_cases e3:x.k<0
     ·simp only[EE,zu,Nat.reduceAdd,Int.reduceEq,zv,xY,qd,zk,vO,zc,zq,zL,wV,wW,wi,wj,wm,wq,wt,wx,wy,wz,wA,wB,wC,wD,wE,wF,xt,xw,xx,xz,xA,xB,xC,yB,yC,yR,yS,yT,yU,yV,yW,yX,yY,xD,xE,xF,yZ,g8,g1,gvn,gl,o6,e1,e2,e3];exact no (by simp[wZ,jK,ZC,hR,o6,e3]) _
     obtain⟨z,hz,hzm⟩:=get_some (l:=p.globals) (k:=x.sub.toNat) (by omega);obtain⟨bz,oz,cz,tz,haz,hbz,hgz,hatz⟩:=Zf (RP.at s3).globals hz;rw[acd (by omega)]at haz;have hd:p.globals.getD x.sub.toNat 0=z:=by rw[abd,hz];rfl
     by_cases e4:x.k>z
     ·simp only[EE,zu,Nat.reduceAdd,Int.reduceEq,zv,xY,qd,zk,vO,zc,zq,zL,wV,wW,wi,wj,wm,wq,wt,wx,wy,wz,wA,wB,wC,wD,wE,wF,xt,xw,xx,xz,xA,xB,xC,yB,yC,yR,yS,yT,yU,yV,yW,yX,yY,xD,xE,xF,yZ,g8,g1,gvn,gl,o6,e1,e2,e3,haz,hgz,hatz,e4];have e4:z<x.k:=e4;exact no (by simp only[wZ,jK,ZC,hd];simp[hR,o6,e4]) _
     simp only[EE,nth,zu,Nat.reduceAdd,Int.reduceEq,zv,xY,qd,zk,vO,zc,zq,zL,wV,wW,wi,wj,wm,wq,wt,wx,wy,wz,wA,wB,wC,wD,wE,wF,xt,xw,xx,xz,xA,xB,xC,yB,yC,yR,yS,yT,yU,yV,yW,yX,yY,xD,xE,xF,yZ,uR,g8,g1,gvn,gl,hin,o6,e1,e2,e3,haz,hgz,hatz,e4];have e4:¬z<x.k:=e4;have e2:¬(p.globals.length:Int)<=x.sub:=e2;exact go2 (by simp only[wZ,jK,ZC,hd];simp[hR,o6,e1,e2,e3,e4]) _ _ (by simp)
    simp only[EE,nth,zu,Nat.reduceAdd,zv,zk,zc,wV,wW,wi,wj,wm,wq,wt,wx,wy,wz,wA,wB,wC,wD,wE,wF,xt,xw,xx,xz,xA,xB,xC,yB,yC,yR,yS,yT,yU,yV,yW,yX,yY,xD,xE,xF,yZ,uR,g8,hin,o20,o18,o19,o21,o6];exact go2 (by simp[wZ,jK,ZC,hR,o20,o18,o19,o21,o6]) _ _ (by simp)
  |false=>
   rw[hsb]at go2;simp only[EE,nth,zu,Nat.reduceAdd,kH,zv,zk,uC,zc,bN,bO,g8];refine YL (mh (x:=x)) ?_;cases hR:ym x with
   |false=>
    simp only[EE,yZ];exact no (by simp[wZ,hR]) _
   |true=>
    by_cases o20:x.op=20
    ·simp only[EE,zu,Nat.reduceAdd,kH,zv,zk,aW,zc,uv,xD,xE,xF,yZ,g8,g5,o20];refine gL (by simp only[yi];rfl) (WI ((RP.at s3).fns f hfm) x.l) ?_;by_cases e1:xX f.code x.l 0=(i:Int)
     ·simp only[EE,nth,zu,Nat.reduceAdd,Int.reduceEq,zv,zk,zc,wV,wW,wi,wj,wm,wq,wt,wx,wy,wz,wA,wB,wC,wD,wE,wF,xt,xw,xx,xz,xA,xB,xC,yB,yC,yR,yS,yT,yU,yV,yW,yX,yY,uR,g8,hin,o20,e1];exact go2 (by simp[wZ,jK,ZC,hR,o20,e1]) _ _ (by simp[o20])
     ·simp only[EE,nth,yB,yC,yR,yS,yT,yU,yV,yW,yX,yY,e1];exact no (by simp[wZ,jK,ZC,hR,o20,e1]) _
    by_cases o18:x.op=18
    ·simp only[EE,zu,Nat.reduceAdd,Int.reduceEq,kH,zv,zk,aW,zc,uv,yR,yS,yT,yU,yV,yW,yX,yY,xD,xE,xF,yZ,g8,g5,o18];refine gL (by simp only[yi];rfl) (WI ((RP.at s3).fns f hfm) x.l) ?_;by_cases e1:xX f.code x.l 0<0
     ·simp only[EE,yB,yC,e1];exact no (by simp[wZ,jK,ZC,hR,o18,e1]) _
     ·simp only[EE,nth,zu,Nat.reduceAdd,Int.reduceEq,zv,zk,zc,wV,wW,wi,wj,wm,wq,wt,wx,wy,wz,wA,wB,wC,wD,wE,wF,xt,xw,xx,xz,xA,xB,xC,yB,yC,uR,g8,hin,o18,e1];exact go2 (by simp[wZ,jK,ZC,hR,o18,e1]) _ _ (by simp[o18])
    by_cases o19:x.op=19
    ·simp only[EE,zu,Nat.reduceAdd,Int.reduceEq,kH,zv,zk,aW,zc,uv,yR,yS,yT,yU,yV,yW,yX,yY,xD,xE,xF,yZ,g8,g5,o19];refine gL (by simp only[yi];rfl) (WI ((RP.at s3).fns f hfm) x.l) ?_;by_cases e1:xX f.code x.l 0<0
     ·simp only[EE,yB,yC,e1];exact no (by simp[wZ,jK,ZC,hR,o19,e1]) _
     ·simp only[EE,nth,zu,Nat.reduceAdd,Int.reduceEq,zv,zk,zc,wV,wW,wi,wj,wm,wq,wt,wx,wy,wz,wA,wB,wC,wD,wE,wF,xt,xw,xx,xz,xA,xB,xC,yB,yC,uR,g8,hin,o19,e1];exact go2 (by simp[wZ,jK,ZC,hR,o19,e1]) _ _ (by simp[o19])
    by_cases o21:x.op=21
    ·by_cases e1:x.sub<0
     ·simp only[EE,zu,Nat.reduceAdd,Int.reduceEq,zv,zk,zc,zq,xt,xw,xx,xz,xA,xB,xC,yB,yC,yR,yS,yT,yU,yV,yW,yX,yY,xD,xE,xF,yZ,g8,o21,e1];exact no (by simp[wZ,jK,ZC,hR,o21,e1]) _
     by_cases e2:x.sub ≥ (p.funcs.length:Int)
     ·simp only[EE,zu,Nat.reduceAdd,Int.reduceEq,zv,kI,zk,vu,zc,zq,xt,xw,xx,xz,xA,xB,xC,yB,yC,yR,yS,yT,yU,yV,yW,yX,yY,xD,xE,xF,yZ,g8,g1,fvn,fl,o21,e1,e2];have e2:(p.funcs.length:Int)<=x.sub:=e2;exact no (by simp[wZ,jK,ZC,hR,o21,e2]) _
     simp only[EE,nth,zu,Nat.reduceAdd,Int.reduceEq,zv,kI,zk,vu,zc,zq,wV,wW,wi,wj,wm,wq,wt,wx,wy,wz,wA,wB,wC,wD,wE,wF,xt,xw,xx,xz,xA,xB,xC,yB,yC,yR,yS,yT,yU,yV,yW,yX,yY,xD,xE,xF,yZ,uR,g8,g1,fvn,fl,hin,o21,e1,e2];have e2:¬(p.funcs.length:Int)<=x.sub:=e2;exact go2 (by simp[wZ,jK,ZC,hR,o21,e1,e2]) _ _ (by simp[o21])
    by_cases o6:x.op=6
    ·by_cases e1:x.sub<0
     ·simp only[EE,zu,Nat.reduceAdd,Int.reduceEq,zv,zk,zc,zq,wV,wW,wi,wj,wm,wq,wt,wx,wy,wz,wA,wB,wC,wD,wE,wF,xt,xw,xx,xz,xA,xB,xC,yB,yC,yR,yS,yT,yU,yV,yW,yX,yY,xD,xE,xF,yZ,g8,o6,e1];exact no (by simp[wZ,jK,ZC,hR,o6,e1]) _
     by_cases e2:x.sub ≥ (p.globals.length:Int)
     ·simp only[EE,zu,Nat.reduceAdd,Int.reduceEq,zv,qd,zk,vO,zc,zq,wV,wW,wi,wj,wm,wq,wt,wx,wy,wz,wA,wB,wC,wD,wE,wF,xt,xw,xx,xz,xA,xB,xC,yB,yC,yR,yS,yT,yU,yV,yW,yX,yY,xD,xE,xF,yZ,g8,g1,gvn,gl,o6,e1,e2];have e2:(p.globals.length:Int)<=x.sub:=e2;exact no (by simp[wZ,jK,ZC,hR,o6,e2]) _
     by_cases e3:x.k<0
     ·simp only[EE,zu,Nat.reduceAdd,Int.reduceEq,zv,xY,qd,zk,vO,zc,zq,zL,wV,wW,wi,wj,wm,wq,wt,wx,wy,wz,wA,wB,wC,wD,wE,wF,xt,xw,xx,xz,xA,xB,xC,yB,yC,yR,yS,yT,yU,yV,yW,yX,yY,xD,xE,xF,yZ,g8,g1,gvn,gl,o6,e1,e2,e3];exact no (by simp[wZ,jK,ZC,hR,o6,e3]) _
     obtain⟨z,hz,hzm⟩:=get_some (l:=p.globals) (k:=x.sub.toNat) (by omega);obtain⟨bz,oz,cz,tz,haz,hbz,hgz,hatz⟩:=Zf (RP.at s3).globals hz;rw[acd (by omega)]at haz;have hd:p.globals.getD x.sub.toNat 0=z:=by rw[abd,hz];rfl
     by_cases e4:x.k>z
     ·simp only[EE,zu,Nat.reduceAdd,Int.reduceEq,zv,xY,qd,zk,vO,zc,zq,zL,wV,wW,wi,wj,wm,wq,wt,wx,wy,wz,wA,wB,wC,wD,wE,wF,xt,xw,xx,xz,xA,xB,xC,yB,yC,yR,yS,yT,yU,yV,yW,yX,yY,xD,xE,xF,yZ,g8,g1,gvn,gl,o6,e1,e2,e3,haz,hgz,hatz,e4];have e4:z<x.k:=e4;exact no (by simp only[wZ,jK,ZC,hd];simp[hR,o6,e4]) _
     simp only[EE,nth,zu,Nat.reduceAdd,Int.reduceEq,zv,xY,qd,zk,vO,zc,zq,zL,wV,wW,wi,wj,wm,wq,wt,wx,wy,wz,wA,wB,wC,wD,wE,wF,xt,xw,xx,xz,xA,xB,xC,yB,yC,yR,yS,yT,yU,yV,yW,yX,yY,xD,xE,xF,yZ,uR,g8,g1,gvn,gl,hin,o6,e1,e2,e3,haz,hgz,hatz,e4];have e4:¬z<x.k:=e4;have e2:¬(p.globals.length:Int)<=x.sub:=e2;exact go2 (by simp only[wZ,jK,ZC,hd];simp[hR,o6,e1,e2,e3,e4]) _ _ (by simp[o6])
    simp only[EE,nth,zu,Nat.reduceAdd,zv,zk,zc,wV,wW,wi,wj,wm,wq,wt,wx,wy,wz,wA,wB,wC,wD,wE,wF,xt,xw,xx,xz,xA,xB,xC,yB,yC,yR,yS,yT,yU,yV,yW,yX,yY,xD,xE,xF,yZ,uR,g8,hin,o20,o18,o19,o21,o6];exact go2 (by simp[wZ,jK,ZC,hR,o20,o18,o19,o21,o6]) _ _ (by simp[o20])
 ·have e:i=f.code.length:=by omega
  subst e;rw[abv];simp only[EE,nth,zv,Yw,qy,hc,g5,cn,cl];exact k h' v0 (tZ λn x hn hx=>hall n x hn hx) s
end
open Go.As (ZD)
section
variable {p:Pg}{lo:y4}{H:za}{b1:Nat}
theorem PZ(RP:Rd lo (kP · p))(s:Sat lo H [pt b1 (.cells p.row 25)]){B:Bool}(hB:B=p.funcs.all (cE p))(v:aaa):LP (bQ (pi b1) (λvs76 h77=>xk B (.bool true) h77) (xk B)) [v,pm 0] H:=by
 refine qb (λn vs h'=>∃(i:Nat) (v0:aaa),i<=p.funcs.length/\n=p.funcs.length-i/\vs=[v0,pm (i:Nat)]/\(∀k,k<i->Pp p.funcs (cE p) k=true)/\Sat lo h' [pt b1 (.cells p.row 25)])
  p.funcs.length ⟨0,v,aaN _,rfl,rfl,λk hk=>by omega,s⟩ ?_
 rintro n vs h' ⟨i,v0,hi,rfl,rfl,hall,s⟩;have P:=RP.at s;have g1:=s.get;have fvn:=P.funcs.QU;have fl:=λh'=>jQ P.funcs 3 h';unfold bQ;by_cases hc:(i:Int)<(p.funcs.length:Int)
 ·obtain⟨f,hf,hfm⟩:=get_some (l:=p.funcs) (k:=i) (by omega);obtain⟨bi,oi,ci,ti,ha,hbi,hgi,hle,htk,_⟩:=XR P.funcs (i:=i) (r:=f.row) (by rw[aaA,hf];rfl) rfl;have cvn:=(P.fns f hfm).code.QU;have cvc:=(P.fns f hfm).code.FQ;have cl:=λh'=>vE (P.fns f hfm).code 3 h';have hin:=inc (show i<4611686018427387904 by have:=P.T5;omega);have no:cE p f=false->B=false:=λe=>by rw[hB,ak hf e]
  simp only[EE,nth,Value.cells,↓zt,kH,zv,kI,aW,SC,vu,nB,hc,g1,fvn,fl,ha,hgi,hle,htk];refine qt s λb5 h2 s2=>?_;simp only[EE,Nat.reduceAdd,SB];refine yj s2 (by simp) (by simp[cvc];rfl) λh3 s3=>?_;simp only[nth,↓zt];refine TZ RP hfm s3 _ (λe h=>?_) (λh4 w hgood s4=>?_)
  ·show Value.bool false=.bool B;rw[no (by unfold cE;rw[e];rfl)]
  ·have g5:=s4.get;unfold nz;cases hs:Vo f.code with
   |false=>
    simp only[EE,nth,Qo,Qp,Qq];rw[no (by unfold cE;simp[hs])];rfl
   |true=>
    by_cases c1:(f.code.length:Int)>100000
    ·simp only[EE,nth,zv,Yw,qy,Qo,Qp,Qq,g5,cvn,cl,c1];rw[no (by have c1:100000<(f.code.length:Int):=c1;unfold cE;simp[c1])];rfl
    ·simp only[EE,nth,zv,Yw,qy,Qo,Qp,Qq,nC,g5,cvn,cl,c1,hin]
     exact⟨p.funcs.length-(i+1),by omega,i+1,_,by omega,rfl,rfl,λk hk=>(by
      by_cases q:k=i
      ·subst q;rw[gE hf];have c1:¬100000<(f.code.length:Int):=c1;unfold cE;simp[hgood,hs,c1]
      ·exact hall k (by omega)),s4.k [1]⟩
 ·have hi9:i=p.funcs.length:=by omega
  subst hi9;simp only[EE,nth,zv,kI,vu,hc,g1,fvn,fl];rw[hB,WM hall];rfl
theorem P2(RP:Rd lo (kP · p))(s:Sat lo H [pt b1 (.cells p.row 25)]){B:Bool}(hB:B=(p.globals.all LR&&p.funcs.all (cE p))){vs:List aaa}:bR (pi b1) (xk B) vs H:=by
 unfold bR;simp only[↓zt]
 refine qb (λn vs h'=>∃(i:Nat) (v0:aaa),i<=p.globals.length/\n=p.globals.length-i/\vs=[v0,pm (i:Nat)]/\(∀k,k<i->Pp p.globals LR k=true)/\Sat lo h' [pt b1 (.cells p.row 25)])
  p.globals.length ⟨0,nth vs 0,aaN _,rfl,rfl,λk hk=>by omega,s⟩ ?_
 rintro n vs h' ⟨i,v0,hi,rfl,rfl,hall,s⟩;have P:=RP.at s;have g1:=s.get;have gvn:=P.globals.QU;have gl:=λh'=>qw P.globals 3 h';unfold sK;by_cases hc:(i:Int)<(p.globals.length:Int)
 ·obtain⟨z,hz,hzm⟩:=get_some (l:=p.globals) (k:=i) (by omega);obtain⟨bi,oi,ci,ti,ha,hbi,hgi,hat⟩:=Zf P.globals hz;have no:LR z=false->B=false:=λe=>by rw[hB,ak hz e];rfl
  have hin:=inc (show i<4611686018427387904 by have:=P.T7;omega);by_cases z0:z<0
  ·simp only[EE,nth,↓zt,zv,qd,zk,vO,JG,JH,JI,JJ,JK,hc,g1,gvn,gl,ha,hgi,hat,z0];rw[no (by unfold LR;simp[z0])];rfl
  by_cases z1:z>65536
  ·simp only[EE,nth,↓zt,zv,qd,zk,vO,JG,JH,JI,JJ,JK,hc,g1,gvn,gl,ha,hgi,hat,z0,z1];rw[no (by have z1:65536<z:=z1;unfold LR;simp[z1])];rfl
  simp only[EE,nth,↓zt,zv,qd,zk,vO,JG,JH,JI,JJ,JK,sJ,hc,g1,gvn,gl,ha,hgi,hat,z0,z1,hin]
  exact⟨p.globals.length-(i+1),by omega,i+1,_,by omega,rfl,rfl,λk hk=>(by
   by_cases q:k=i
   ·subst q;rw[gE hz];have z1:¬65536<z:=z1;unfold LR;simp[z0,z1]
   ·exact hall k (by omega)),s⟩
 ·have hi9:i=p.globals.length:=by omega
  subst hi9;simp only[EE,nth,↓zt,zv,qd,vO,hc,g1,gvn,gl];refine PZ (B:=B) RP s ?_ _;rw[hB,WM hall];rfl
theorem H3{h:za}(P:kP h p):wX pu 11 [p.val] h (.bool (Xi p)):=by
 apply yD;replace P:=P.lock;generalize h.lock=L at P;apply Wg;intro wf;apply Fp;unfold Hb;have s0:Sat (.of L) L []:=Sat.self wf.2;have RP:Rd (.of L) (kP · p):=Rd.of (y4.jP L) P λh' o=>P.old o;have gvn:=P.globals.QU;have fvn:=P.funcs.QU;have gvc:=P.globals.FQ;have fvc:=P.funcs.FQ;have fl:=λh'=>jQ P.funcs 3 h';have gl:=λh'=>qw P.globals 3 h';simp only[EE,Value.cells];refine qt s0 λb1 h2 s2=>?_;have g1:=s2.get;have no:ZD p=false->Xi p=false:=λe=>by unfold Xi;rw[e];rfl
 by_cases c4:(p.globals.length:Int)>200
 ·simp only[EE,zv,qd,vO,jY,jZ,j0,j1,j2,j3,j4,j5,j6,j7,j8,g1,gvn,gl,c4];rw[no (by have c4:(200:Int)<p.globals.length:=c4;unfold ZD;simp[c4])];rfl
 by_cases c3:(p.funcs.length:Int)>100
 ·simp only[EE,zv,qd,kI,vO,vu,jY,jZ,j0,j1,j2,j3,j4,j5,j6,j7,j8,g1,fvn,fl,gvn,gl,c4,c3];rw[no (by have c3:(100:Int)<p.funcs.length:=c3;unfold ZD;simp[c3])];rfl
 by_cases c1:p.main<0
 ·simp only[EE,zv,qd,kI,zk,vO,vu,J9,jY,jZ,j0,j1,j2,j3,j4,j5,j6,j7,j8,g1,fvn,fl,gvn,gl,c4,c3,c1];rw[no (by unfold ZD;simp[c1])];rfl
 by_cases c2:p.main ≥ (p.funcs.length:Int)
 ·simp only[EE,zv,qd,kI,zk,vO,vu,J9,jY,jZ,j0,j1,j2,j3,j4,j5,j6,j7,j8,g1,fvn,fl,gvn,gl,c4,c3,c1,c2];rw[no (by have c2:(p.funcs.length:Int)<=p.main:=c2;unfold ZD;simp[c2])];rfl
 by_cases c5:p.params<0
 ·simp only[EE,zv,qd,kI,zk,vO,vu,J9,l5,jY,jZ,j0,j1,j2,j3,j4,j5,j6,j7,j8,g1,fvn,fl,gvn,gl,c4,c3,c1,c2,c5];rw[no (by unfold ZD;simp[c5])];rfl
 by_cases c6:p.params>6
 ·simp only[EE,zv,qd,kI,zk,vO,vu,J9,l5,jY,jZ,j0,j1,j2,j3,j4,j5,j6,j7,j8,g1,fvn,fl,gvn,gl,c4,c3,c1,c2,c5,c6];rw[no (by have c6:6<p.params:=c6;unfold ZD;simp[c6])];rfl
 simp only[EE,zv,qd,kI,zk,vO,vu,J9,l5,jY,jZ,j0,j1,j2,j3,j4,j5,j6,j7,j8,g1,fvn,fl,gvn,gl,c4,c3,c1,c2,c5,c6];refine P2 RP s2 ?_
 have hs:ZD p=true:=by
  have c2:¬(p.funcs.length:Int)<=p.main:=c2;have c3:¬(100:Int)<p.funcs.length:=c3;have c4:¬(200:Int)<p.globals.length:=c4;have c6:¬6<p.params:=c6;unfold ZD;simp[c1,c2,c3,c4,c5,c6]
 unfold Xi;rw[hs];rfl
end
open Go.As (Wh Tb jI El An fB hasB bh sd cN Un uZ kj Yz Yl yn)
theorem vH(k:Int):bh k=zS k:=by
 unfold bh zS;rw[ab6];simp only[aaF,aad,IntKind.wrap,IntKind.bits,IntKind.signed];simp;omega
theorem BF(m:List (Int×aaa))(a l:Int):hasB (GG m a (.bool true)) l=(decide (a=l)||hasB m l):=by
 unfold hasB;rw[Ef];by_cases h:a=l
 ·rw[aai h];simp[h]
 ·rw[aag h];simp[h]
def jJ(l:Int)(x:zF):Bool:=decide (x.op=20/\x.l=l)
def km:List zF->List (Int×aaa)->Bool
 |[],_=>true
 |x::xs,m=>if x.op=20 then !hasB m x.l&&km xs (GG m x.l (.bool true)) else km xs m
def oA:List zF->List (Int×aaa)->List (Int×aaa)
 |[],m=>m
 |x::xs,m=>if x.op=20 then oA xs (GG m x.l (.bool true)) else oA xs m
theorem B8(gl:List Int):∀(xs:List zF) (m:List (Int×aaa)) (b:Bool),fB gl xs m b=if (xs.all (jI gl)&&km xs m)=true then some (oA xs m,b||Vo xs) else none
 |[],m,b=>by simp[fB,km,oA,Vo]
 |x::xs,m,b=>by
  unfold fB km oA;by_cases h1:jI gl x=false
  ·rw[aai h1];simp[h1]
  have h1':jI gl x=true:=by simpa using h1
  rw[aag h1];by_cases h2:x.op=20
  ·rw[aai h2,aai h2,aai h2];by_cases h3:hasB m x.l=true
   ·rw[aai h3];simp[h3]
   ·have h3':hasB m x.l=false:=(by simpa using h3);rw[aag h3,B8 gl xs];simp[h1',h3',Vo,h2]
  ·rw[aag h2,aag h2,aag h2,B8 gl xs];simp[h1',Vo,h2]
theorem has_add:∀(xs:List zF) (m:List (Int×aaa)) (l:Int),hasB (oA xs m) l=(hasB m l||xs.any (jJ l))
 |[],m,l=>by simp[oA]
 |x::xs,m,l=>by
  unfold oA;by_cases h:x.op=20
  ·rw[aai h,has_add xs,BF];simp[jJ,h,Bool.or_assoc,Bool.or_comm,Bool.or_left_comm]
  ·rw[aag h,has_add xs];simp[jJ,h]
theorem oW:∀(xs:List zF) (m:List (Int×aaa)),km xs m=true ↔ ∀(n:Nat) x,xs[n]? = some x->x.op=20->hasB m x.l=false /\ ∀(j:Nat) y,j<n->xs[j]? = some y->jJ x.l y=false
 |[],m=>by simp[km]
 |x::xs,m=>by
  unfold km;have ih:=λm'=>oW xs m';by_cases h:x.op=20
  ·rw[aai h,aad,ih]
   constructor
   ·rintro⟨h1,h2⟩ n y hy ho;cases n with
    |zero=>simp only[aay,aab]at hy;subst hy;exact⟨by simpa using h1,λj z hj=>by omega⟩
    |succ n=>
     simp only[aaT]at hy;obtain⟨a,b⟩:=h2 n y hy ho;rw[BF]at a;simp only[aba,aam]at a;refine⟨a.2,λj z hj hz=>?_⟩;cases j with
     |zero=>simp only[aay,aab]at hz;subst hz;simp[jJ,h,a.1]
     |succ j=>simp only[aaT]at hz;exact b j z (by omega) hz
   ·intro H;refine⟨by have:=(H 0 x rfl h).1;simp[this],λn y hy ho=>?_⟩;obtain⟨a,b⟩:=H (n+1) y (by simpa using hy) ho;rw[BF];have c:=b 0 x (by omega) rfl;refine⟨?_,λj z hj hz=>b (j+1) z (by omega) (by simpa using hz)⟩;have c:¬x.l=y.l:=by simpa [jJ,h] using c
    simp[a,c]
  ·rw[aag h,ih]
   constructor
   ·intro H n y hy ho;cases n with
    |zero=>simp only[aay,aab]at hy;subst hy;exact absurd ho h
    |succ n=>
     simp only[aaT]at hy;obtain⟨a,b⟩:=H n y hy ho;refine⟨a,λj z hj hz=>?_⟩;cases j with
     |zero=>simp only[aay,aab]at hz;subst hz;simp[jJ,h]
     |succ j=>simp only[aaT]at hz;exact b j z (by omega) hz
   ·intro H n y hy ho;obtain⟨a,b⟩:=H (n+1) y (by simpa using hy) ho;exact⟨a,λj z hj hz=>b (j+1) z (by omega) (by simpa using hz)⟩
theorem Jb:∀(xs:List zF) (l:Int) (k:Nat),(xX xs l k = -1/\xs.any (jJ l)=false) \/ ∃j:Nat,xX xs l k=((k+j:Nat):Int)/\(∃x,xs[j]? = some x/\jJ l x=true) /\ ∀(i:Nat) y,i<j->xs[i]? = some y->jJ l y=false
 |[],l,k => .inl ⟨rfl,rfl⟩
 |x::xs,l,k=>by
  unfold xX;by_cases h:x.op=20/\x.l=l
  ·rw[aai h];exact .inr ⟨0,rfl,⟨x,rfl,by unfold jJ;exact aaY h⟩,λi y hi=>by omega⟩
  ·rw[aag h];have hx:jJ l x=false:=by unfold jJ;exact aaX h
   rcases Jb xs l (k+1) with⟨a,b⟩|⟨j,a,⟨y,hy,hl⟩,b⟩
   ·exact .inl ⟨a,by simp[hx,b]⟩
   ·refine .inr ⟨j+1,by rw[a];omega,⟨y,by simpa using hy,hl⟩,λi z hi hz=>?_⟩;cases i with
    |zero=>simp only[aay,aab]at hz;subst hz;exact hx
    |succ i=>exact b i z (by omega) (by simpa using hz)
theorem pe{code:List zF}{n:Nat}{x:zF}(hx:code[n]? = some x)(h:x.op=20):(xX code x.l 0=(n:Int)) ↔ ∀(j:Nat) y,j<n->code[j]? = some y->jJ x.l y=false:=by
 have hl:jJ x.l x=true:=by simp[jJ,h]
 rcases Jb code x.l 0 with⟨a,b⟩|⟨j,a,⟨y,hy,hyl⟩,b⟩
 ·rw[List.any_eq_false]at b;exact absurd hl (b x (aax hx))
 ·rw[a]
  constructor
  ·intro q;have:j=n:=by omega
   subst this;exact b
  ·intro q;rcases Nat.lt_trichotomy j n with c|c|c
   ·have:=q j y c hy;rw[this]at hyl;cases hyl
   ·omega
   ·have:=b n x c hx;rw[this]at hl;cases hl
theorem gP(code:List zF)(l:Int):(xX code l 0<0) ↔ code.any (jJ l)=false:=by
 rcases Jb code l 0 with⟨a,b⟩|⟨j,a,⟨y,hy,hyl⟩,b⟩
 ·rw[a,b];simp
 ·rw[a];have:code.any (jJ l)=true:=List.any_eq_true.2 ⟨y,aax hy,hyl⟩;rw[this]
  constructor
  ·intro q;omega
  ·intro q;cases q
theorem zb6{op:Int}(h:Un op=true):sd op=true:=by
 unfold Un at h;unfold sd;simp only[aaF]at h ⊢;omega
theorem RX(x:zF):Yl x=(WJ x&&(Vs x&&(Jv x&&lK x))):=by
 unfold Yl WJ Vs Jv lK;have hw := @zb6 x.op;generalize sd x.op=R at hw ⊢;generalize Un x.op=W at hw ⊢;generalize cN x.op=M;generalize uZ x.op=F;rw[ab6];cases R <;> cases W <;> cases M <;> cases F <;> simp at hw ⊢ <;> omega
def jm(x:zF):Bool := !decide (x.op=18\/x.op=19)||(decide (0<=x.l)&&decide (x.l<=10000000))
def Wd(gl:List Int)(x:zF):Bool := !(decide (x.op=6)&&(decide (x.sub<0)||(decide ((gl.length:Int)<=x.sub)||(decide (x.k<0)||decide (gl.getD x.sub.toNat 0<x.k)))))
theorem Sb(gl:List Int)(x:zF):(yn gl x&&jm x)=(tailD x&&Wd gl x):=by
 obtain⟨op,r,m,sub,cc,l,k⟩:=x;by_cases o3:op=3
 ·subst o3;simp[yn,tailD,jm,Wd,vH]
 by_cases o4:op=4
 ·subst o4;simp[yn,tailD,jm,Wd,vH]
 by_cases o5:op=5
 ·subst o5;simp[yn,tailD,jm,Wd,vH]
 by_cases o16:op=16
 ·subst o16;simp[yn,tailD,jm,Wd,vH]
 by_cases o7:op=7
 ·subst o7;simp[yn,tailD,jm,Wd,vH]
 by_cases o8:op=8
 ·subst o8;simp[yn,tailD,jm,Wd,vH]
 by_cases o9:op=9
 ·subst o9;simp[yn,tailD,jm,Wd,vH]
 by_cases o10:op=10
 ·subst o10;simp[yn,tailD,jm,Wd,vH]
 by_cases o11:op=11
 ·subst o11;simp[yn,tailD,jm,Wd,vH]
 by_cases o12:op=12
 ·subst o12;simp[yn,tailD,jm,Wd,vH]
 by_cases o17:op=17
 ·subst o17;simp[yn,tailD,jm,Wd,vH]
 by_cases o19:op=19
 ·subst o19;simp[yn,tailD,jm,Wd,vH]
 by_cases o18:op=18
 ·subst o18;simp[yn,tailD,jm,Wd,vH]
 by_cases o20:op=20
 ·subst o20;simp[yn,tailD,jm,Wd,vH]
 by_cases o23:op=23
 ·subst o23;simp[yn,tailD,jm,Wd,vH]
 by_cases o24:op=24
 ·subst o24;simp[yn,tailD,jm,Wd,vH]
 by_cases o6:op=6
 ·subst o6;rw[ab6];simp[yn,tailD,jm,Wd]
 simp[yn,tailD,jm,Wd,o3,o4,o5,o16,o7,o8,o9,o10,o11,o12,o17,o19,o18,o20,o23,o24,o6]
theorem Of(gl:List Int)(x:zF):(jI gl x&&jm x)=(ym x&&Wd gl x):=by
 have t:=Sb gl x;unfold jI ym;rw[RX];have a:decide (1<=x.op) = !decide (x.op<1):=by rw[ab6];simp
 have b:decide (x.op<=26) = !decide (26<x.op):=by rw[ab6];simp
 rw[a,b];generalize yn gl x=T at t ⊢;generalize jm x=J at t ⊢;generalize tailD x=D at t ⊢;generalize Wd gl x=L at t ⊢;generalize decide (x.op<1)=U;generalize decide (26<x.op)=V;cases WJ x <;> cases Vs x <;> cases Jv x <;> cases lK x <;> cases U <;> cases V <;> simp;exact t
theorem IB(p:Pg)(x:zF):ZC p x=(!(decide (x.op=21)&&(decide (x.sub<0)||decide ((p.funcs.length:Int)<=x.sub)))&&Wd p.globals x):=rfl
theorem Em{gl:List Int}{x:zF}:(jI gl x=true/\jm x=true) ↔ (ym x=true/\Wd gl x=true):=by
 have:=Of gl x;rw[<- aad,<- aad,this]
theorem LZ{gl:List Int}{y:zF}{l:Int}(h:jI gl y=true)(hl:jJ l y=true):0<=l/\l<=10000000:=by
 unfold jJ at hl;have hl:=aa1 hl;unfold jI at h;simp only[aad]at h;obtain⟨_,_,_,h⟩:=h;unfold yn at h;simp[hl.1,hl.2]at h;exact h
theorem PK(p:Pg)(code:List zF):(code.all (jI p.globals)&&km code []&&code.all (El p.funcs.length (oA code [])))=a9 p code:=by
 rw[ab6];simp only[aad,aaD];have hany:∀l,hasB (oA code []) l=code.any (jJ l):=λl=>by rw[has_add];rfl
 constructor
 ·rintro⟨⟨h1,h2⟩,h3⟩;refine tZ λn x hn hx=>?_;have hm:=aax hx;have i:=h1 x hm;have hp:=h3 x hm;unfold El at hp;rw[hany]at hp;simp only[aad,aan]at hp;obtain⟨p1,p2⟩:=hp
  have jp:(x.op=18\/x.op=19)->code.any (jJ x.l)=true:=λq=>by
   rw[aaY q]at p1;simpa using p1
  have j:jm x=true:=by
   unfold jm;by_cases q:x.op=18\/x.op=19
   ·obtain⟨y,hy,hyl⟩:=List.any_eq_true.1 (jp q);have:=LZ (h1 y hy) hyl;simp[this]
   ·simp[q]
  obtain⟨d,le⟩:=Em.1 ⟨i,j⟩;unfold wZ;rw[d,IB,le,ab7,abq]
  have lb:jK code n x=true:=by
   unfold jK
   have a:(decide (x.op=20) && !decide (xX code x.l 0=(n:Int)))=false:=by
    by_cases q:x.op=20
    ·have:=((oW code []).1 h2 n x hx q).2;rw[aaY ((pe hx q).2 this)];simp
    ·simp[q]
   have b:(decide (x.op=18\/x.op=19)&&decide (xX code x.l 0<0))=false:=by
    by_cases q:x.op=18\/x.op=19
    ·have e:¬xX code x.l 0<0:=λz=>by rw[gP,jp q]at z;cases z
     rw[aaX e];simp
    ·simp[q]
   rw[a,b];rfl
  rw[lb,p2];rfl
 ·intro h
  have H:∀n x,code[n]? = some x->wZ p code n x=true:=λn x hx=>by
   rcases hq:wZ p code n x with _|_
   ·rw[D0 hx hq]at h;cases h
   ·rfl
  have G:∀n x,code[n]? = some x->jI p.globals x=true/\jK code n x=true/\(decide (x.op=21)&&(decide (x.sub<0)||decide ((p.funcs.length:Int)<=x.sub)))=false:=λn x hx=>by
   have:=H n x hx;unfold wZ at this;rw[IB]at this;simp only[aad,aan]at this;obtain⟨a,b,c,d⟩:=this;exact⟨(Em.2 ⟨a,d⟩).1,b,c⟩
  refine⟨⟨λx hx=>?_,(oW code []).2 λn x hx q=>⟨rfl,?_⟩⟩,λx hx=>?_⟩
  ·obtain⟨n,hn,rfl⟩:=acb hx;exact(G n _ (aaf hn)).1
  ·have:=(G n x hx).2.1;unfold jK at this;simp only[aad,aan]at this;have a:=this.1;rw[aaY q]at a;have a:xX code x.l 0=(n:Int):=by simpa using a
   exact(pe hx q).1 a
  ·obtain⟨n,hn,rfl⟩:=acb hx;obtain⟨_,lb,c⟩:=G n _ (aaf hn);unfold El;rw[hany,c,ab4,ab7];unfold jK at lb;simp only[aad,aan]at lb;have b:=lb.2;by_cases q:code[n].op=18\/code[n].op=19
   ·rw[aaY q]at b;have b:¬xX code code[n].l 0<0:=by simpa using b
    have e:code.any (jJ code[n].l)=true:=by
     rcases hq:code.any (jJ code[n].l) with _|_
     ·exact absurd ((gP _ _).2 hq) b
     ·rfl
    rw[e];simp
   ·rw[aaX q];rfl
theorem zbH(p:Pg)(f:Go.As.Fn):cE p f=Tb p f:=by
 unfold cE Tb;rw[B8,<- PK];by_cases h:(f.code.all (jI p.globals)&&km f.code [])=true
 ·rw[aai h,h];simp only[An,abq,acz];cases f.code.all (El p.funcs.length (oA f.code [])) <;> cases Vo f.code <;> simp
 ·rw[aag h];have h:(f.code.all (jI p.globals)&&km f.code [])=false:=by simpa using h
  rw[h];simp[An]
theorem UJ(p:Pg):Xi p=Wh p:=by
 unfold Xi Wh
 have e:p.funcs.all (cE p)=p.funcs.all (Tb p):=by
  congr 1
  exact funext λf=>zbH p f
 rw[e];rfl
end Go.Ar
namespace Go.En
open Go.Ai Go.Proofs
open Go.As (zF Pg)
abbrev u8(n:Int):Int:=IntKind.wrap .u8 n
def xI(n:Nat)(v:Int):List Int:=(List.range n).map λi=>u8 (v.fdiv (2^(8*i)))
def zj(base a b:Int):Int:=base+(if 8<=a then 4 else 0)+(if 8<=b then 1 else 0)
def zX(a b:Int):Int:=192+a%8*8+b%8
def We(a m:Int):List Int:=if m%8=4 then [128+a%8*8+m%8,36] else [128+a%8*8+m%8]
def uK(a m k:Int):List Int:=We a m++xI 4 k
def vA(cc:Int):Int:=if cc=21 then 4 else if cc=22 then 5 else if cc=23 then 12 else if cc=26 then 13 else if cc=24 then 14 else 15
def kj(s:Int):Int:=if s=11 then 1 else if s=12 then 41 else if s=16 then 33 else if s=17 then 9 else 49
def Z2(s:Int):Int:=if s=11 then 0 else if s=17 then 1 else if s=16 then 4 else if s=12 then 5 else 6
def qI(s:Int):Int:=if s=20 then 7 else 4
def zf(x:zF)(d:Int):List Int :=
 if x.op=1 then [zj 72 x.m x.r,137,zX x.m x.r]
 else if x.op=2 then (if Go.Ar.zS x.k=true then [zj 72 0 x.r,199,zX 0 x.r]++xI 4 x.k else [zj 72 0 x.r,184+x.r%8]++xI 8 x.k)
 else if x.op=3 then (if x.sub=8 then [zj 72 x.r x.m,139]++uK x.r x.m x.k else if x.sub=4 then [zj 72 x.r x.m,99]++uK x.r x.m x.k else [zj 72 x.r x.m,15,190]++uK x.r x.m x.k)
 else if x.op=4 then (if x.sub=8 then [zj 72 x.r x.m,137]++uK x.r x.m x.k else if x.sub=4 then [zj 64 x.r x.m,137]++uK x.r x.m x.k else [zj 64 x.r x.m,136]++uK x.r x.m x.k)
 else if x.op=5 then [zj 72 x.r x.m,141]++uK x.r x.m x.k
 else if x.op=6 then [zj 72 x.r 0,141,5+x.r%8*8]++xI 4 d
 else if x.op=7 then (if x.sub=13 then [zj 72 x.r x.m,15,175,zX x.r x.m] else [zj 72 x.m x.r,kj x.sub,zX x.m x.r])
 else if x.op=8 then (if x.sub=13 then [zj 72 x.r x.r,105,zX x.r x.r]++xI 4 x.k else [zj 72 0 x.r,129,zX (Z2 x.sub) x.r]++xI 4 x.k)
 else if x.op=9 then [zj 72 0 x.r,247,zX (if x.sub=2 then 2 else 3) x.r]
 else if x.op=10 then (if x.sub=3 then [zj 72 x.r x.m,15,190,zX x.r x.m] else [zj 72 x.r x.m,99,zX x.r x.m])
 else if x.op=11 then [zj 72 0 x.r,193,zX (qI x.sub) x.r,u8 x.k]
 else if x.op=12 then [zj 72 0 x.r,211,zX (qI x.sub) x.r]
 else if x.op=13 then [72,153]
 else if x.op=14 then [zj 72 0 x.m,247,zX 7 x.m]
 else if x.op=15 then [zj 72 x.m x.r,57,zX x.m x.r]
 else if x.op=16 then [zj 72 0 x.r,129,zX 7 x.r]++xI 4 x.k
 else if x.op=17 then [zj 64 0 x.r,15,144+vA x.cc,zX 0 x.r,zj 72 x.r x.r,15,182,zX x.r x.r]
 else if x.op=18 then 233::xI 4 d
 else if x.op=19 then [15,128+vA x.cc]++xI 4 d
 else if x.op=21 then 232::xI 4 d
 else if x.op=22 then [195]
 else if x.op=23 then [72,129,236]++xI 4 x.k
 else if x.op=24 then [72,129,196]++xI 4 x.k
 else if x.op=25 then [72,237]
 else if x.op=26 then [72,239]
 else []
def qi(x:zF):Nat:=(zf x 0).length
theorem wQ(n:Nat)(v:Int):(xI n v).length=n:=by unfold xI;simp
theorem P7{c:Prop}[Decidable c]{a b a' b':List Int}(h1:a.length=a'.length)(h2:b.length=b'.length):(if c then a else b).length=(if c then a' else b').length:=by
 split
 ·exact h1
 ·exact h2
theorem IJ(x:zF)(d:Int):(zf x d).length=qi x:=by
 unfold qi zf
 repeat' with_reducible apply P7
 all_goals simp only[wQ,aa3,aar]
open Go.Ar (xX gP pe)
def wN:List zF->Nat
 |[]=>0
 |x::xs=>qi x+wN xs
def si:List zF->Nat->List Nat
 |[],_=>[]
 |x::xs,n=>n::si xs (n+qi x)
def kV:List Go.As.Fn->Nat->List Nat
 |[],_=>[]
 |f::fs,n=>n::kV fs (n+wN f.code)
def wI:List Go.As.Fn->Nat
 |[]=>0
 |f::fs=>wN f.code+wI fs
def vo:List Int->Int->List Int
 |[],_=>[]
 |g::gs,a=>a::vo gs (a+(g+31)/16*16)
theorem ib:∀xs ys:List zF,wN (xs++ys)=wN xs+wN ys
 |[],ys=>by rw[abF];show _=0+_;omega
 |x::xs,ys=>by
  show qi x+wN (xs++ys)=qi x+wN xs+wN ys;rw[ib xs ys];omega
theorem EN:∀(xs:List zF) (n:Nat),(si xs n).length=xs.length
 |[],n=>rfl
 |x::xs,n=>by show(si xs _).length+1=xs.length+1;rw[EN xs]
theorem Iv:∀(xs:List zF) (n i:Nat),i<xs.length->(si xs n)[i]? = some (n+wN (xs.take i))
 |[],n,i,h=>by cases h
 |x::xs,n,0,h=>rfl
 |x::xs,n,i+1,h=>by
  show(si xs (n+qi x))[i]? = some (n+(qi x+wN (xs.take i)));rw[Iv xs _ i (by simpa using h)]
  congr 1;omega
theorem rF:∀(fs:List Go.As.Fn) (n:Nat),(kV fs n).length=fs.length
 |[],n=>rfl
 |f::fs,n=>by show(kV fs _).length+1=fs.length+1;rw[rF fs]
theorem AJ:∀(fs:List Go.As.Fn) (n i:Nat),i<fs.length->(kV fs n)[i]? = some (n+wI (fs.take i))
 |[],n,i,h=>by cases h
 |f::fs,n,0,h=>rfl
 |f::fs,n,i+1,h=>by
  show(kV fs (n+wN f.code))[i]? = some (n+(wN f.code+wI (fs.take i)));rw[AJ fs _ i (by simpa using h)]
  congr 1;omega
theorem WN:∀(gs:List Int) (a:Int),(vo gs a).length=gs.length
 |[],a=>rfl
 |g::gs,a=>by show(vo gs _).length+1=gs.length+1;rw[WN gs]
def Td(gl:List Int)(st:List Nat)(code:List zF)(o:Nat)(x:zF):Int :=
 if x.op=18\/x.op=19 then ((o+wN (code.take (xX code x.l 0).toNat):Nat):Int)
 else if x.op=21 then ((st[x.sub.toNat]?.getD 0:Nat):Int)
 else if x.op=6 then gl[x.sub.toNat]?.getD 0+x.k
 else 0
def N0(gl:List Int)(st:List Nat)(code:List zF)(o n:Nat)(x:zF):Int :=
 if x.op=18\/x.op=19\/x.op=21\/x.op=6 then Td gl st code o x-((n+qi x:Nat):Int) else 0
def YU(gl:List Int)(st:List Nat)(code:List zF)(o:Nat):List zF->Nat->List Int
 |[],_=>[]
 |x::xs,n=>zf x (N0 gl st code o n x)++YU gl st code o xs (n+qi x)
def K6(gl:List Int)(st:List Nat):List Go.As.Fn->Nat->List Int
 |[],_=>[]
 |f::fs,n=>YU gl st f.code n f.code n++K6 gl st fs (n+wN f.code)
theorem gJ(gl:List Int)(st:List Nat)(code:List zF)(o:Nat):∀(xs:List zF) (n:Nat),(YU gl st code o xs n).length=wN xs
 |[],n=>rfl
 |x::xs,n=>by
  show(zf x _++YU gl st code o xs _).length=qi x+wN xs;rw[aar,IJ,gJ]
theorem tY(gl:List Int)(st:List Nat):∀(fs:List Go.As.Fn) (n:Nat),(K6 gl st fs n).length=wI fs
 |[],n=>rfl
 |f::fs,n=>by
  show(YU gl st f.code n f.code n++K6 gl st fs _).length=wN f.code+wI fs;rw[aar,gJ,tY]
def Ub(p:Pg):List Int:=K6 (vo p.globals 16777216) (kV p.funcs 0) p.funcs 0
open Go.As (Wh)
open Go.Ar (Jb jJ Xi UJ)
theorem Ra{p:Pg}(h:Wh p=true){f:Go.As.Fn}(fm:f∈p.funcs):(∀(j:Nat) y,f.code[j]? = some y->y.op=20->xX f.code y.l 0=(j:Int)) /\ ∀x,x∈f.code->x.op=18\/x.op=19->¬xX f.code x.l 0<0:=by
 rw[<- UJ]at h;unfold Xi at h;simp only[aad,aaD]at h;have h:=h.2.2 f fm;unfold Go.Ar.cE at h;simp only[aad]at h;have h1:=h.1;unfold Go.Ar.a9 at h1;rw[aaD]at h1
 have at_:∀(n:Nat) x,f.code[n]? = some x->Go.Ar.wZ p f.code n x=true:=λn x hx=>by
  have hn:=(aaU.1 hx).1;have:=h1 n (by simpa using hn);unfold Go.Ar.Oe at this;rw[hx]at this;exact this
 refine⟨λj y hy hl=>?_,λx hx o=>?_⟩
 ·have e:=at_ j y hy;unfold Go.Ar.wZ Go.Ar.jK at e;simp only[aad,aan]at e;have e2:=e.2.1.1;rw[aaY hl]at e2;simpa using e2
 ·obtain⟨n,hn⟩:=List.getElem?_of_mem hx;have d:=at_ n x hn;unfold Go.Ar.wZ Go.Ar.jK at d;simp only[aad,aan]at d;obtain⟨_,d4⟩:=d.2.1;rw[aaY o]at d4;simpa using d4
theorem zae{c:Prop}[Decidable c]{a b:List Int}{n:Nat}(h1:a.length<=n)(h2:b.length<=n):(if c then a else b).length<=n:=by
 split
 ·exact h1
 ·exact h2
theorem ET(a m:Int):(We a m).length<=2:=by
 unfold We;split
 ·exact aaj _
 ·exact abI _
theorem size_le(x:zF):qi x<=10:=by
 unfold qi zf
 repeat' with_reducible apply zae
 all_goals have:=ET x.r x.m
 all_goals simp only[uK,wQ,aa3,aar,abr]at *
 all_goals omega
theorem E7:∀xs:List zF,wN xs<=10*xs.length
 |[]=>aaj _
 |x::xs=>by
  have:=size_le x;have:=E7 xs;show qi x+wN xs<=10*(xs.length+1);omega
theorem GO(xs:List zF)(x:zF):wN (xs++[x])=wN xs+qi x:=by
 rw[ib];rfl
theorem Ax(x:zF):∀(xs:List zF) (n:Nat),si (xs++[x]) n=si xs n++[n+wN xs]
 |[],n=>rfl
 |y::ys,n=>by
  show n::si (ys++[x]) _=n::(si ys _++[n+(qi y+wN ys)]);rw[Ax x ys,abJ]
theorem rC(f:Go.As.Fn):∀fs:List Go.As.Fn,wI (fs++[f])=wI fs+wN f.code
 |[]=>by show wN f.code+0=0+wN f.code;omega
 |g::fs=>by
  show wN g.code+wI (fs++[f])=wN g.code+wI fs+wN f.code;rw[rC f fs];omega
theorem lz(f:Go.As.Fn):∀(fs:List Go.As.Fn) (n:Nat),kV (fs++[f]) n=kV fs n++[n+wI fs]
 |[],n=>rfl
 |g::fs,n=>by
  show n::kV (fs++[f]) _=n::(kV fs _++[n+(wN g.code+wI fs)]);rw[lz f fs,abJ]
def XU:List Int->Int->Int
 |[],a=>a
 |g::gs,a=>XU gs (a+(g+31)/16*16)
theorem Vg(g:Int):∀(gs:List Int) (a:Int),vo (gs++[g]) a=vo gs a++[XU gs a]/\XU (gs++[g]) a=XU gs a+(g+31)/16*16
 |[],a=>⟨rfl,rfl⟩
 |k::gs,a=>by
  have:=Vg g gs (a+(k+31)/16*16);exact⟨by show a::vo (gs++[g]) _=a::(vo gs _++[XU gs _]);rw[this.1],this.2⟩
theorem Jg:∀(gs:List Int) (a:Int),(∀g,g∈gs->0<=g/\g<=65536)->a<=XU gs a/\XU gs a<=a+65552*gs.length
 |[],a,h=>by show a<=a/\a<=a+65552*((0:Nat):Int);omega
 |g::gs,a,h=>by
  have hg:=h g aao;have:=Jg gs (a+(g+31)/16*16) λx hx=>h x (aaz _ hx);show a<=XU gs _/\XU gs _<=a+65552*((gs.length+1:Nat):Int);omega
theorem pw:∀(gs:List Int) (a:Int) (i:Nat),i<gs.length->(vo gs a)[i]? = some (XU (gs.take i) a)
 |[],a,i,h=>by cases h
 |g::gs,a,0,h=>rfl
 |g::gs,a,i+1,h=>by
  show(vo gs _)[i]? = some (XU (gs.take i) _);exact pw gs _ i (by simpa using h)
theorem oQ(gl:List Int)(st:List Nat)(code:List zF)(o:Nat)(x:zF):∀(xs:List zF) (n:Nat),YU gl st code o (xs++[x]) n=YU gl st code o xs n++zf x (N0 gl st code o (n+wN xs) x)
 |[],n=>by show zf x _++[]=[]++zf x _;rw[aa8];rfl
 |y::ys,n=>by
  show zf y _++YU gl st code o (ys++[x]) _=zf y _++YU gl st code o ys _++zf x (N0 gl st code o (n+(qi y+wN ys)) x);rw[oQ gl st code o x ys,abJ,aa7]
theorem oR(gl:List Int)(st:List Nat)(f:Go.As.Fn):∀(fs:List Go.As.Fn) (n:Nat),K6 gl st (fs++[f]) n=K6 gl st fs n++YU gl st f.code (n+wI fs) f.code (n+wI fs)
 |[],n=>by show YU gl st f.code n f.code n++[]=[]++_;rw[aa8];rfl
 |g::fs,n=>by
  show YU gl st g.code n g.code n++K6 gl st (fs++[f]) _=YU gl st g.code n g.code n++K6 gl st fs _++YU gl st f.code (n+(wN g.code+wI fs)) f.code (n+(wN g.code+wI fs));rw[oR gl st f fs,abJ,aa7]
end Go.En
namespace Go.Rtl
open Go.Ai Go.Proofs Go.Mem
open Go.Rm (kM zN yF wR wJ Ju yP uw xr YH xG Fa Rd Rd.at)
section
variable {lo:y4}{h:za}{L:List HP}{b mb wb fb b1 b2:Nat}{world:List Int}{ev lk gl cl kv wn:aaa}{fi:List Nat}{kept:Option (Int->Bool)}{R:aaa->za->Prop}
theorem Pc{h:za}{sv:aaa}{zs:List Int}(S:zA h sv 1 (zs.map zN)):zE h sv zs:=by
 have T:=S;rcases S with⟨e,e2⟩|⟨b,off,cp,rfl,hc⟩
 ·exact .inl ⟨e,by simpa using e2⟩
 ·refine .inr ⟨b,off,cp,by rw[aau],λhz=>?_⟩;obtain⟨c,t,hb,hg,hat⟩:=hc (by simpa using hz);refine⟨c,t,hb,hg,λi z hiz=>?_⟩;obtain⟨b2,o,c2,t2,⟨off2,cp2,e1,e2⟩,_,_,hg2,_,_,h3⟩:=T.spot (i:=i) (r:=zN z) (by rw[aaA,hiz];rfl) rfl;simp only[Value.slice.injEq,aab,acf]at e1;obtain⟨⟨rfl,rfl,_⟩,_,rfl⟩:=e1;rw[hg]at hg2;cases hg2;have:=h3 0 (by decide);rw[e2,acp,Nat.add_zero]at this;exact this
end
theorem cC(c n:Nat):uF c n≠0:=by
 unfold uF;split
 ·cases Nat.ble n _ <;> simp
 ·simp
section
variable {lo h:za}{l:aaa}{zs:List Int}
end
section
variable {lo h:za}{l:aaa}{zs:List Int}
end
def rW:aaa->List Nat
 | .slice (some a) _ _=>[a.block]
 |_=>[]
section
variable {lo h:za}{l:aaa}{rows:List (List aaa)}{t:TypeId}
end
theorem UU(h h2:za):(wS h h2).ro=h.ro:=rfl
theorem w7(h h2:za):(wS h h2).next=h2.next:=rfl
section
variable {lo:y4}{h h':za}{L:List HP}
theorem vU{A:HP}(s:Sat lo h L)(hA:A∈L):Sat lo h [A]:=by
 obtain⟨a,b,rfl⟩:=aaR hA;exact(s.perm (List.perm_middle)).yG 1
theorem Pb(s:Sat lo h L){v:aaa}{zs:List Int}(hm:kM 3 1 v (zs.map zN)∈L):zE h v zs:=Pc (xr (vU s hm) (xG (f:=zN) (λ_=>rfl) zs))
end
end Go.Rtl
namespace Go.Eb
open Go.Ai Go.Proofs
open Go.Rtl (zE zA Old inc rW vU vm cC UU w7)
open Go.Rm (kM yF wR wJ Ju yP uw xr xG)
open Go.En (xI u8)
def yO(z:Int):List aaa:=[.int .u8 z]
def qj(v:aaa)(zs:List Int):HP:=kM 5 1 v (zs.map yO)
def yM(h:za)(v:aaa)(zs:List Int):Prop:=zA h v 1 (zs.map yO)
theorem uO(zs:List Int):∀r,r∈zs.map yO->r.length=1:=xG (f:=yO) (λ_=>rfl) zs
section
variable {lo:y4}{h h':za}{L:List HP}{x y:aaa}{xs ys:List Int}
theorem vt(s:Sat lo h (qj x xs::L)):zQ x=false:=yP s
theorem xq(s:Sat lo h L)(hm:qj x xs∈L):yM h x xs:=xr (vU s hm) (uO xs)
theorem W9:∀zs:List Int,(zs.map yO).flatten=zs.map λz=>Value.int .u8 z
 |[]=>rfl
 |z::zs=>by rw[abp,acs,W9 zs];rfl
theorem Lx(zs:List Int):(zs.map λz=>Value.int .u8 z).all xj=true:=by
 rw[aaD];intro v hv;obtain⟨z,_,rfl⟩:=aa4.1 hv;rfl
theorem wT(s:Sat lo h L)(zs:List Int)(c:Nat)(hc:c≠0):Sat lo (h.push (.cells (zs.map λz=>Value.int .u8 z) 5)) (qj (.slice (some ⟨h.next,0,none⟩) zs.length c) zs::L):=by
 have:=wJ (ty:=5) (n:=1) (rows:=zs.map yO) (c:=c) hc (uO zs) (W9 zs).symm (s.push (.cells (zs.map λz=>Value.int .u8 z) 5))
 rwa [aau]at this
theorem vN(S:yM h y ys):KZ y=some ys.length/\qP h ys.length 1 y=some (ys.map λz=>Value.int .u8 z):=by
 have a:=S.oB;have b:=S.first (by decide) (uO ys);rw[aau]at a b;rw[W9]at b;exact⟨a,b⟩
theorem eA(s:Sat lo h (qj x xs::L))(S:yM h y ys)(XT:xs.length+ys.length<=140737488355328) :
  ∃a n c h',(∀r,zG Tryz.prog .append [29,29] r [x,y] h=some (.slice a n c,h'))/\Sat lo h' (qj (.slice a n c) (xs++ys)::L)/\(qJ h->qJ h')/\h.next<=h'.next/\h'.ro=h.ro/\(∀b,b<h.next->b∉rW x->h'.get b=h.get b)/\(∀q,a=some q->q.block∈rW x\/h.next<=q.block):=by
 obtain⟨hn,hf⟩:=vN S;have hap:=λr=>zbc r x y ys.length (ys.map λz=>Value.int .u8 z) h hn hf (Lx ys) (by simp);have hr3:=uO (xs++ys);have hlen:((xs++ys).map yO).length=xs.length+ys.length:=by simp
 by_cases h0:ys.length=0
 ·have e0:ys=[]:=abC.1 h0;subst e0;rcases yF s with⟨rfl,e2,s'⟩|⟨b,c,cs,rfl,hc,hl,hf2,s'⟩
  ·have:xs=[]:=by simpa using e2
   subst this;exact⟨none,0,0,h,λr=>by rw[hap];rfl,s,id,aaj _,rfl,λ_ _ _=>rfl,λq hq=>by cases hq⟩
  ·rw[aau]at s hap ⊢;exact⟨some ⟨b,0,none⟩,xs.length,c,h,λr=>by rw[hap];rfl,by rw[aa8];exact s,id,aaj _,rfl,λ_ _ _=>rfl,λq hq=>by cases hq;exact .inl (aaq.2 rfl)⟩
 rcases yF s with⟨rfl,e2,s'⟩|⟨b,c,cs,rfl,hc,hl,hf2,s'⟩
 ·have:xs=[]:=by simpa using e2
  subst this;refine⟨some ⟨h.next,0,none⟩,ys.length,1,h.push (.cells (ys.map λz=>Value.int .u8 z) 5),λr=>?_,?_,λw=>Go.Rtl.YJ w _,abI _,rfl,λb hb _=>x6 hb,λq hq=>by cases hq;exact .inr (aaj _)⟩
  ·rw[hap];simp only[cA];rw[aag h0,aai (by simp at XT;omega)]
  ·have q:=wT s' ys 1 (by decide);rw[abF];exact q
 ·rw[aau]at hl hf2 s hap ⊢
  have hroom:roomFor c (xs.length+ys.length) 1=true:=by
   unfold roomFor;cases Nat.beq c 2 <;> simp only[aav,aaB,abU] <;> omega
  refine⟨some ⟨h.next,0,none⟩,xs.length+ys.length,uF c (xs.length+ys.length),(h.set b none).push (.cells (((cs.drop 0).take (xs.length*1))++(ys.map λz=>Value.int .u8 z)) 5),λr=>?_,?_,λw=>Go.Rtl.YJ (Go.Rtl.wf_set w s'.lt _) _,abI _,rfl,λb' hb hne=>?_,λq hq=>by cases hq;exact .inr (aaj _)⟩
  ·rw[hap];simp only[cA,s'.get];rw[aag h0,aai ⟨hc,trivial,s'.wr,by omega,hroom,by decide⟩]
  ·have q:=wJ (ty:=5) (n:=1) (rows:=(xs++ys).map yO) (c:=uF c (xs.length+ys.length)) (cs:=((cs.drop 0).take (xs.length*1))++(ys.map λz=>Value.int .u8 z)) (cC _ _) hr3 (by rw[abH,hf2,abm,List.flatten_append,W9 ys]) ((s'.forget none).push (.cells (((cs.drop 0).take (xs.length*1))++(ys.map λz=>Value.int .u8 z)) 5));rw[hlen]at q;exact q
  ·simp only[rW,aaq]at hne;rw[x6 (by show b'<h.next;exact hb),Zi hne]
theorem Bn(s:Sat lo h (qj x xs::L))(z:Int)(XT:xs.length<=140737488300000) :
  ∃a n c h',(∀r,zG Tryz.prog .append [29,29] r [x,.slice (some ⟨h.next,0,none⟩) 1 3] (h.push (.cells [.int .u8 z] 5))=some (.slice a n c,h'))/\Sat lo h' (qj (.slice a n c) (xs++[z])::L)/\(qJ h->qJ h'):=by
 have s1:=(wT s [z] 3 (by decide)).f [1,0];obtain⟨a,n,c,h',a1,s2,w2,_⟩:=eA (y := .slice (some ⟨h.next,0,none⟩) 1 3) s1 (xq s1 (aaz _ aao)) (by show xs.length+1<=_;omega);exact⟨a,n,c,h',a1,(s2.p 1).drop,λw=>w2 (Go.Rtl.YJ w _)⟩
theorem V8{f t:Nat}(s:Sat lo h (qj x xs::L))(hx:∀b,b∈rW x->f<=b/\b<t)(S:yM h y ys)(XT:xs.length+ys.length<=140737488355328)(hyn:zQ y=false){K:aaa->za->Prop}
  (k:∀a n c h',Sat lo h' (qj (.slice a n c) (xs++ys)::L)->K (.slice a n c) h'):cB Tryz.prog [29,29] 29 [x,y] (some (f,t)) h h K:=by
 obtain⟨a,n,c,h',a1,s2,w2,n2,r2,g2,b2⟩:=eA s S XT;refine⟨?_,?_⟩
 ·rcases yF s with⟨rfl,e2,s'⟩|⟨b,c,cs,rfl,hc,hl,hf2,s'⟩
  ·trivial
  ·have:=hx b (aaq.2 rfl);exact⟨this.1,this.2,by rw[s'.get];simp⟩
 ·rw[a1,Xx (vt s),Xx hyn,cJ];show K _ _;have gn:(wS (Kp h x h') h').next=h'.next:=w7 _ _;have gr:(wS (Kp h x h') h').ro=h'.ro:=by rw[UU,B5,r2]
  refine k a n c _ (s2.Re (Nat.le_of_eq gn.symm) gr λb hb=>?_);rw[wO,aj];by_cases hb1:h.next<=b/\b<h'.next
  ·rw[aai hb1]
  ·rw[aag hb1];have hlt:b<h.next:=by omega
   by_cases hbx:b∈rW x
   ·rcases yF s with⟨rfl,e2,s'⟩|⟨b3,c,cs,rfl,hc,hl,hf2,s'⟩
    ·cases hbx
    ·have:=aaq.1 hbx;subst this;show(h.set b (h'.get b)).get b=_;rw[YB]
   ·have:(Kp h x h').get b=h.get b:=by
     rcases eP h x h' b with q|⟨⟨q,n,m,e1,e2⟩,e3⟩
     ·exact q
     ·subst e1;exact absurd (by rw[e2];exact aaq.2 rfl) hbx
    rw[this,g2 b hlt hbx]
theorem Va{P:Program}{g:FuncId}{args:List aaa}{hv:za}{K R:aaa->za->Prop}(hc:xS P g=true)(hn:yi args=true)(wf:qJ h)(s:Sat lo h L)(vn:hv.next=h.next)(vg:∀b o,hv.get b=some o->h.get b=some o)(d:DC P g args hv.lock R)
  (hk:∀v h2,R v h2->(∀L',Sat (.of hv.lock) h2 L'->Sat lo (wS h h2) (L'++L))->qJ (wS h h2)->K v (wS h h2)):Yy P g args hv h K:=by
 have wl:qJ hv.lock:=⟨λb o hb=>by
  have:=wf.1 b o (vg b o hb);show b<hv.next;rw[vn];exact this,aaj _⟩
 obtain⟨v,h1,r,af,t⟩:=d wl;have nx:h.next<=h1.next:=by have:=af.next;rw[<- vn];exact this
 have w1:=wl.af af;have gn:(wS h h1).next=h1.next:=w7 _ _;refine⟨hc,hn,v,h1,t,af,hk v h1 r (λL' s2=>?_) ⟨λb o hb=>?_,?_⟩⟩
 ·
  have s3:Sat (.of h.lock) (wS h.lock h1) L':=by
   refine s2.to (λb hb hl=>?_) ?_ ?_ ?_ ?_
   ·unfold y4.of at hl ⊢;dsimp only at hl ⊢;split at hl
    ·cases hl
    ·rename_i q;rw[aag (by intro q2;exact q (by show b<hv.next;rw[vn];exact q2))]
   ·have:=(Sat.self (h:=h.lock) (aaj _)).Re (h':=wS h.lock h1) (by rw[w7];exact nx) rfl (λb hb=>by rw[wO,aag (by intro q;exact absurd hb (by have:=q.1;show ¬b<h.next;have:h.next<=b:=this;omega))]);exact this.base
   ·show h.next=hv.next;rw[vn]
   ·rw[w7];exact aaj _
   ·intro b hb hl
    have:¬b<h.next:=by
     intro q;unfold y4.of at hl;dsimp only at hl;rw[aai (by show b<hv.next;rw[vn];exact q)]at hl;cases hl
    rw[wO,aai ⟨by show h.next<=b;omega,hb⟩]
  have s4:=s.wS s3;refine s4.Re ?_ rfl λb hb=>?_
  ·rw[w7,w7,w7];exact aaj _
  ·rw[w7,w7]at hb;rw[wO,wO,wO,w7];by_cases q:h.next<=b/\b<h1.next
   ·rw[aai q,aai q,aai (show h.lock.next<=b/\b<h1.next from q)]
   ·rw[aag q,aag q]
 ·rw[wO]at hb;rw[gn];split at hb
  ·rename_i q;exact q.2
  ·exact aap (wf.1 b o hb) nx
 ·rw[gn];exact aaV wf.2 nx
end
end Go.Eb
namespace Go.En
open Go.Ai Go.Proofs
abbrev orU(a b:Int):Int:=IntKind.wrap .u8 (BitVec.ofInt (IntKind.bits .u8) a ||| BitVec.ofInt (IntKind.bits .u8) b).toNat
abbrev orI(a b:Int):Int:=IntKind.wrap .i64 (BitVec.ofInt (IntKind.bits .i64) a ||| BitVec.ofInt (IntKind.bits .i64) b).toNat
abbrev zba(a:Int):Int:=IntKind.wrap .i64 (BitVec.ofInt (IntKind.bits .i64) a &&& BitVec.ofInt (IntKind.bits .i64) 7).toNat
theorem K9{a:Int}{n:Nat}(h0:0<=a)(h1:a<n):∃k:Fin n,a=(k.1:Int):=⟨⟨a.toNat,by omega⟩,by show a=((a.toNat:Nat):Int);omega⟩
theorem Bm{a:Int}(h0:0<=a)(h1:a<16):zba a=a%8:=by
 obtain⟨k,rfl⟩:=K9 (n:=16) h0 h1
 revert k;decide
theorem zco{a b:Int}(a0:0<=a)(a1:a<8)(b0:0<=b)(b1:b<8):orU (orU 192 (IntKind.wrap .u8 (IntKind.wrap .u8 a*2^(min (3:Int).toNat (IntKind.bits .u8))))) (IntKind.wrap .u8 b)=192+a*8+b:=by
 obtain⟨k,rfl⟩:=K9 (n:=8) a0 a1;obtain⟨j,rfl⟩:=K9 (n:=8) b0 b1
 revert k j;decide
theorem zcn{a b:Int}(a0:0<=a)(a1:a<8)(b0:0<=b)(b1:b<8):IntKind.wrap .u8 (orI (orI 192 (IntKind.wrap .i64 (a*2^(min (3:Int).toNat (IntKind.bits .i64))))) b)=192+a*8+b:=by
 obtain⟨k,rfl⟩:=K9 (n:=8) a0 a1;obtain⟨j,rfl⟩:=K9 (n:=8) b0 b1
 revert k j;decide
theorem zb2{a b:Int}(a0:0<=a)(a1:a<8)(b0:0<=b)(b1:b<8):IntKind.wrap .u8 (orI (orI 128 (IntKind.wrap .i64 (a*2^(min (3:Int).toNat (IntKind.bits .i64))))) b)=128+a*8+b:=by
 obtain⟨k,rfl⟩:=K9 (n:=8) a0 a1;obtain⟨j,rfl⟩:=K9 (n:=8) b0 b1
 revert k j;decide
theorem zag{a:Int}(a0:0<=a)(a1:a<8):IntKind.wrap .u8 (orI 5 (IntKind.wrap .i64 (a*2^(min (3:Int).toNat (IntKind.bits .i64)))))=5+a*8:=by
 obtain⟨k,rfl⟩:=K9 (n:=8) a0 a1
 revert k;decide
theorem eV(a:Int):0<=a%8/\a%8<8:=by omega
theorem Rf{i:Nat}(hi:i<8)(v:Int):IntKind.wrap .u8 (v.fdiv (2^(min ((8*(i:Nat):Int)).toNat (IntKind.bits .i64))))=u8 (v.fdiv (2^(8*i))):=by
 have e:min ((8*(i:Nat):Int)).toNat (IntKind.bits .i64)=8*i:=by
  have:IntKind.bits .i64=64:=rfl;rw[this];omega
 rw[e]
theorem Ez(n:Nat)(v:Int):xI (n+1) v=xI n v++[u8 (v.fdiv (2^(8*n)))]:=by
 unfold xI;rw[abE,abm];rfl
abbrev orV(a b:Int):Int:=IntKind.wrap .u64 (BitVec.ofInt (IntKind.bits .u64) a ||| BitVec.ofInt (IntKind.bits .u64) b).toNat
theorem Iw{i:Nat}(hi:i<8){v z:Int}(v0:0<=v)(v1:v<2^(8*i))(z0:0<=z)(z1:z<256) :
  orV v (IntKind.wrap .u64 (IntKind.wrap .u64 z*2^(min ((8*(i:Nat):Int)).toNat (IntKind.bits .u64))))=v+z*2^(8*i):=by
 have e:min ((8*(i:Nat):Int)).toNat (IntKind.bits .u64)=8*i:=by
  have:IntKind.bits .u64=64:=rfl;rw[this];omega
 rw[e];obtain⟨a,rfl⟩:=Int.eq_ofNat_of_zero_le v0;obtain⟨c,rfl⟩:=Int.eq_ofNat_of_zero_le z0;have ha:a<2^(8*i):=by exact_mod_cast v1
 have hc:c<256:=by exact_mod_cast z1
 have hp:(2:Nat)^(8*i)*256<=2^64:=by
  have:(256:Nat)=2^8:=rfl;rw[this,<- Nat.pow_add];exact Nat.pow_le_pow_right (by decide) (by omega)
 have hcp:c*2^(8*i)+a<2^64:=by
  have:c*2^(8*i)+2^(8*i)<=256*2^(8*i):=by
   have:=abx (2^(8*i)) (show c+1<=256 by omega);rw[acn,Nat.one_mul]at this;exact this
  omega
 have w1:∀n:Nat,n<2^64->IntKind.wrap .u64 (n:Int)=n:=λn hn=>by
  simp only[IntKind.wrap,IntKind.bits,IntKind.signed];simp;omega
 have w2:IntKind.wrap .u64 (c:Int)=c:=w1 c (by omega);rw[w2];have e2:((c:Int)*2^(8*i))=((c*2^(8*i):Nat):Int):=by push_cast;rfl
 rw[e2,w1 _ (by omega)];show IntKind.wrap .u64 (((BitVec.ofInt 64 (a:Int) ||| BitVec.ofInt 64 ((c*2^(8*i):Nat):Int)).toNat:Nat):Int)=_;rw[BitVec.ofInt_natCast,BitVec.ofInt_natCast,BitVec.toNat_or,BitVec.toNat_ofNat,BitVec.toNat_ofNat,Nat.mod_eq_of_lt (by omega),Nat.mod_eq_of_lt (by omega)]
 have e3:a ||| c*2^(8*i)=c*2^(8*i)+a:=by
  rw[Nat.or_comm,Nat.mul_comm,Nat.two_pow_add_eq_or_of_lt ha]
 rw[e3,w1 _ hcp]
 push_cast
 omega
def X3:List Int->Int
 |[]=>0
 |z::zs=>z+256*X3 zs
theorem mo:∀(xs:List Int) (z:Int),X3 (xs++[z])=X3 xs+z*2^(8*xs.length)
 |[],z=>by show z+256*0=0+z*2^0;omega
 |x::xs,z=>by
  show x+256*X3 (xs++[z])=x+256*X3 xs+z*2^(8*(xs.length+1));rw[mo xs z]
  have:(2:Int)^(8*(xs.length+1))=256*2^(8*xs.length):=by
   rw[Nat.mul_add,Int.pow_add];show _*(256:Int)=_;rw[Int.mul_comm]
  rw[this,Int.mul_add]
  have:256*(z*2^(8*xs.length))=z*(256*(2:Int)^(8*xs.length)):=by
   rw[<- Int.mul_assoc,<- Int.mul_assoc,Int.mul_comm 256 z]
  omega
theorem ig:∀(xs:List Int),(∀x,x∈xs->0<=x/\x<256)->0<=X3 xs/\X3 xs<2^(8*xs.length)
 |[],h=>by show(0:Int)<=0/\(0:Int)<1;omega
 |x::xs,h=>by
  have a:=h x aao;have b:=ig xs λy hy=>h y (aaz _ hy)
  have:(2:Int)^(8*(xs.length+1))=256*2^(8*xs.length):=by
   rw[Nat.mul_add,Int.pow_add];show _*(256:Int)=_;rw[Int.mul_comm]
  show 0<=x+256*X3 xs/\x+256*X3 xs<2^(8*(xs.length+1));rw[this];omega
theorem bq(n:Int):u8 n=n%256:=by
 simp only[u8,IntKind.wrap,IntKind.bits,IntKind.signed];simp
theorem OA(v a:Int)(ha:0<a):v%(a*256)=v%a+v/a%256*a:=by
 have h1:=Int.emod_add_mul_ediv v a;have h2:=Int.emod_add_mul_ediv (v/a) 256;have h3:=Int.emod_nonneg v (show a≠0 by omega);have h4:=Int.emod_lt_of_pos v ha;have h5:0<=v/a%256:=by omega
 have h6:v/a%256<=255:=by omega
 have h7:0<=v/a%256*a:=Int.mul_nonneg h5 (Int.le_of_lt ha);have h8:v/a%256*a<=255*a:=Int.mul_le_mul_of_nonneg_right h6 (Int.le_of_lt ha)
 have e:v=(v%a+v/a%256*a)+a*256*(v/a/256):=by
  have:a*(v/a)=v/a%256*a+a*256*(v/a/256):=by
   conv=>lhs;rw[<- h2]
   rw[Int.mul_add,Int.mul_comm a,Int.mul_assoc]
  omega
 conv=>lhs;rw[e]
 rw[Int.add_mul_emod_self_left,Int.emod_eq_of_lt (by omega) (by omega)]
theorem mg(v:Int):∀n:Nat,X3 (xI n v)=v%2^(8*n)
 |0=>by show(0:Int)=v%1;omega
 |n+1=>by
  rw[Ez,mo,wQ,mg v n,bq,Int.fdiv_eq_ediv_of_nonneg _ (by exact Int.le_of_lt (Int.pow_pos (by decide)))]
  have e:(2:Int)^(8*(n+1))=2^(8*n)*256:=by
   rw[Nat.mul_add,Int.pow_add];rfl
  rw[e,OA v _ (Int.pow_pos (by decide))]
open Go.Mem (aG)
def yH(xs:List Int):Prop := ∀x,x∈xs->0<=x/\x<256
theorem qH(n:Nat)(v:Int):yH (xI n v):=by
 intro x hx;unfold xI at hx;obtain⟨i,_,rfl⟩:=aa4.1 hx;rw[bq];omega
theorem IM:∀(xs ys:List Int),xs.length=ys.length->yH xs->yH ys->X3 xs=X3 ys->xs=ys
 |[],[],_,_,_,_=>rfl
 |[],y::ys,h,_,_,_=>by cases h
 |x::xs,[],h,_,_,_=>by cases h
 |x::xs,y::ys,h,hx,hy,e=>by
  have a:=hx x aao;have b:=hy y aao;have e:x+256*X3 xs=y+256*X3 ys:=e;have e1:x=y:=by omega
  have e2:X3 xs=X3 ys:=by omega
  rw[e1,IM xs ys (by simpa using h) (λz hz=>hx z (aaz _ hz)) (λz hz=>hy z (aaz _ hz)) e2]
theorem Ot{n:Nat}{v:Int}{bs:List Int}(hl:bs.length=n)(hb:yH bs)(h:v%2^(8*n)=X3 bs):xI n v=bs :=
 IM _ _ (by rw[wQ,hl]) (qH n v) hb (by rw[mg,h])
def XV(bs:List Int):Int:=IntKind.wrap .i64 (IntKind.wrap .i32 (X3 bs))
def VW(bs:List Int):Int:=IntKind.wrap .i64 (X3 bs)
theorem L3{bs:List Int}(hl:bs.length=4)(hb:yH bs):xI 4 (XV bs)=bs:=by
 have:=ig bs hb;rw[hl]at this;refine Ot hl hb ?_;unfold XV;simp only[IntKind.wrap,IntKind.bits,IntKind.signed];simp;split <;> split <;> omega
theorem L4{bs:List Int}(hl:bs.length=8)(hb:yH bs):xI 8 (VW bs)=bs:=by
 have:=ig bs hb;rw[hl]at this;refine Ot hl hb ?_;unfold VW;simp only[IntKind.wrap,IntKind.bits,IntKind.signed];simp;split <;> omega
theorem ae{k:Int}(h:Go.Ar.zS k=true):XV (xI 4 k)=k:=by
 unfold Go.Ar.zS at h;rw[aad,aaF,aaF]at h;unfold XV;rw[mg];simp only[IntKind.wrap,IntKind.bits,IntKind.signed];simp;split <;> split <;> omega
theorem LW{k:Int}(h:aG k):VW (xI 8 k)=k:=by
 unfold aG at h;unfold VW;rw[mg];simp only[IntKind.wrap,IntKind.bits,IntKind.signed];simp;split <;> omega
theorem Jh{bs:List Int}(hl:bs.length=4)(hb:yH bs):Go.Ar.zS (XV bs)=true:=by
 have:=ig bs hb;rw[hl]at this;unfold Go.Ar.zS XV;rw[aad,aaF,aaF];simp only[IntKind.wrap,IntKind.bits,IntKind.signed];simp;split <;> split <;> omega
end Go.En
namespace Go.Eb
open Go.Ai Go.Proofs
open Go.Rtl (zE zA Old inc xk yD gT vq)
open Go.En
def eT(n:Int)(v:aaa)(_:za):Prop:=v=.int .u8 n
theorem vv{f:FuncId}{args:List aaa}{h:za}{n:Int}(d:DC Tryz.prog f args h.lock (eT n)):wX Tryz.prog f args h (.int .u8 n):=wX.of rfl d
theorem zce{base:Int}(hb:base=72\/base=64)(a b:Int)(h:za):wX Tryz.prog 49 [.int .u8 base,.int .i64 a,.int .i64 b] h (.int .u8 (zj base a b)):=by
 apply vv;apply M4;unfold Sw eT zj;rcases hb with rfl|rfl
 ·by_cases h1:a ≥ 8
  ·by_cases h2:b ≥ 8
   ·simp only[EE,nth,Int.reduceAdd,Wz,h1,h2] <;> rfl
   ·simp only[EE,nth,Int.reduceAdd,Wz,h1,h2] <;> rfl
  ·by_cases h2:b ≥ 8
   ·simp only[EE,nth,Int.reduceAdd,Wz,h1,h2] <;> rfl
   ·simp only[EE,nth,Int.reduceAdd,Wz,h1,h2] <;> rfl
 ·by_cases h1:a ≥ 8
  ·by_cases h2:b ≥ 8
   ·simp only[EE,nth,Int.reduceAdd,Wz,h1,h2] <;> rfl
   ·simp only[EE,nth,Int.reduceAdd,Wz,h1,h2] <;> rfl
  ·by_cases h2:b ≥ 8
   ·simp only[EE,nth,Int.reduceAdd,Wz,h1,h2] <;> rfl
   ·simp only[EE,nth,Int.reduceAdd,Wz,h1,h2] <;> rfl
theorem Wb{base:Int}(hb:base=72\/base=64)(a b:Int)(h:za):wX Tryz.prog 38 [.int .u8 base,.int .i64 a,.int .i64 b] h (.int .u8 (zj base a b)):=by
 apply vv;apply I4;unfold MR eT zj;rcases hb with rfl|rfl
 ·by_cases h1:a ≥ 8
  ·by_cases h2:b ≥ 8
   ·simp only[EE,nth,Int.reduceAdd,Yr,h1,h2] <;> rfl
   ·simp only[EE,nth,Int.reduceAdd,Yr,h1,h2] <;> rfl
  ·by_cases h2:b ≥ 8
   ·simp only[EE,nth,Int.reduceAdd,Yr,h1,h2] <;> rfl
   ·simp only[EE,nth,Int.reduceAdd,Yr,h1,h2] <;> rfl
 ·by_cases h1:a ≥ 8
  ·by_cases h2:b ≥ 8
   ·simp only[EE,nth,Int.reduceAdd,Yr,h1,h2] <;> rfl
   ·simp only[EE,nth,Int.reduceAdd,Yr,h1,h2] <;> rfl
  ·by_cases h2:b ≥ 8
   ·simp only[EE,nth,Int.reduceAdd,Yr,h1,h2] <;> rfl
   ·simp only[EE,nth,Int.reduceAdd,Yr,h1,h2] <;> rfl
theorem i6{cc:Int}(h0:21<=cc)(h1:cc<=26)(h:za):wX Tryz.prog 83 [.int .i64 cc] h (.int .u8 (vA cc)):=by
 apply vv;apply nu;unfold iq eT;have:cc=21\/cc=22\/cc=23\/cc=24\/cc=25\/cc=26:=by omega
 rcases this with rfl|rfl|rfl|rfl|rfl|rfl <;> (simp only[EE,↓zt,Int.reduceEq,aO,aP,aQ,aR,aS];rfl)
theorem tO(s:Int)(h:za):wX Tryz.prog 51 [.int .i64 s] h (.int .u8 (kj s)):=by
 apply vv;apply AT;unfold sD eT kj;by_cases h1:s=11
 ·subst h1;simp only[EE,↓zt,Int.reduceEq,Z8]
 by_cases h2:s=12
 ·subst h2;simp only[EE,↓zt,Int.reduceEq,Xz,Z8]
 by_cases h3:s=16
 ·subst h3;simp only[EE,↓zt,Int.reduceEq,Vx,Xz,Z8]
 by_cases h4:s=17
 ·subst h4;simp only[EE,↓zt,Int.reduceEq,KD,Vx,Xz,Z8]
 simp only[EE,↓zt,KD,Vx,Xz,Z8,h1,h2,h3,h4]
theorem OM(s:Int)(h:za):wX Tryz.prog 59 [.int .i64 s] h (.int .u8 (kj s)):=by
 apply vv;apply Db;unfold Da eT kj;by_cases h1:s=11
 ·subst h1;simp only[EE,↓zt,Int.reduceEq,Y6]
 by_cases h2:s=12
 ·subst h2;simp only[EE,↓zt,Int.reduceEq,cr,Qz,WY,Y6]
 by_cases h3:s=16
 ·subst h3;simp only[EE,↓zt,Int.reduceEq,Qz,WY,Y6]
 by_cases h4:s=17
 ·subst h4;simp only[EE,↓zt,Int.reduceEq,WY,Y6]
 simp only[EE,↓zt,cr,Qz,WY,Y6,h1,h2,h3,h4]
theorem PM(s:Int)(h:za):wX Tryz.prog 60 [.int .i64 s] h (.int .i64 (Z2 s)):=by
 apply vq;apply Fq;unfold Hc gT Z2;by_cases h1:s=11
 ·subst h1;simp only[EE,↓zt,Int.reduceEq,WK]
 by_cases h2:s=12
 ·subst h2;simp only[EE,↓zt,Int.reduceEq,fL,JL,Ur,WK]
 by_cases h3:s=16
 ·subst h3;simp only[EE,↓zt,Int.reduceEq,JL,Ur,WK]
 by_cases h4:s=17
 ·subst h4;simp only[EE,↓zt,Int.reduceEq,Ur,WK]
 simp only[EE,↓zt,fL,JL,Ur,WK,h1,h2,h3,h4]
theorem mi{s:Int}(hs:s=19\/s=20)(h:za):wX Tryz.prog 61 [.int .i64 s] h (.int .i64 (qI s)):=by
 apply vq;apply Fy;unfold Hu gT;rcases hs with rfl|rfl <;> (simp only[EE,Int.reduceEq];rfl)
theorem YI{a b:Int}(a0:0<=a)(a1:a<16)(b0:0<=b)(b1:b<16)(h:za):wX Tryz.prog 57 [.int .i64 a,.int .i64 b] h (.int .u8 (zX a b)):=by
 apply vv;apply M5;unfold Sx eT;have e1:=Bm a0 a1;have e2:=Bm b0 b1;have e3:=zcn (eV a).1 (eV a).2 (eV b).1 (eV b).2;unfold zba at e1 e2;unfold orI at e3;simp only[EE,Int.reduceLE,Int.reduceToNat,cD,e1,e2];exact congrArg (Value.int .u8) e3
theorem wk(n:Nat)(hn:n<6):IntKind.wrap .i64 (n:Int)=n:=Go.Mem.Fj (by omega) (by omega)
theorem NO{cc:Int}(h0:21<=cc)(h1:cc<=26)(h:za):wX Tryz.prog 62 [.int .i64 cc] h (.int .u8 (vA cc)):=by
 apply vv;apply I0;unfold MO eT;obtain⟨k,hk,rfl⟩:∃k:Nat,k<6/\cc=21+(k:Int):=⟨(cc-21).toNat,by omega,by omega⟩;have w:IntKind.wrap .i64 (21+(k:Int)-21)=k:=by rw[show 21+(k:Int)-21=k by omega];exact wk k hk
 have c:0<=(k:Int)/\(k:Int)<((6:Nat):Int):=by omega
 have t:((k:Int)).toNat*1=k:=by omega
 simp only[EE,zv,Xd,aD,jS,w,c,t];have:k=0\/k=1\/k=2\/k=3\/k=4\/k=5:=by omega
 rcases this with rfl|rfl|rfl|rfl|rfl|rfl <;> (simp only[EE];rfl)
theorem Ov{i:Nat}(hi:i<8)(v:Int):IntKind.wrap .i64 (8*(i:Int))=((8*i:Nat):Int):=by
 rw[Go.Mem.Fj (by omega) (by omega)];push_cast;rfl
section
variable {lo:y4}{h:za}{L:List HP}
theorem Ou{n:Nat}(hn:n<=8)(v:Int):DC Tryz.prog 39 [.int .i64 v,.int .i64 n] h (λr h'=>Sat (.of h) h' [qj r (xI n v)]):=by
 apply Wg;intro wf;apply MY;unfold Sv;have s0:Sat (.of h) h []:=Sat.self wf.2;simp only[];refine qb (λm vs h'=>∃(i:Nat) (r:aaa),i<=n/\m=n-i/\vs=[r,.int .i64 (i:Nat)]/\Sat (.of h) h' [qj r (xI i v)]) n ⟨0,_,aaN _,rfl,rfl,wT s0 [] 2 (by decide)⟩ ?_;rintro m vs h' ⟨i,r,hi,rfl,rfl,s⟩;have rn:=vt s;unfold Hq;by_cases hc:(i:Int)<(n:Int)
 ·have hin:=inc (show i<4611686018427387904 by omega);have e8:=Ov (show i<8 by omega) v;have lb:=Rf (show i<8 by omega) v;have c0:(0:Int)<=((8*i:Nat):Int):=by omega
  have hl:(xI i v).length=i:=wQ i v;obtain⟨a,l,c,h2,a1,s2,_⟩:=Bn s (IntKind.wrap .u8 (v.fdiv (2^(min ((8*(i:Nat):Int)).toNat (IntKind.bits .i64))))) (by omega);have ec:(8*(i:Nat):Int)=((8*i:Nat):Int):=by push_cast;rfl
  rw[ec]at a1
  have wu:IntKind.wrap .u64 ((8*i:Nat):Int)=((8*i:Nat):Int):=by
   simp only[IntKind.wrap,IntKind.bits,IntKind.signed];simp;omega
  simp only[EE,nth,↓zt,Xh,FT,H2,Ho,Hp,hc,rn,e8,wu,c0,a1,hin];refine⟨n-(i+1),by omega,i+1,.slice a l c,by omega,rfl,rfl,?_⟩;rw[Ez,<- lb];exact s2
 ·have e:i=n:=by omega
  subst e;simp only[EE,nth,hc,rn];exact s
end
section
variable {lo:y4}{h:za}{L:List HP}{ov:aaa}{ops:List Int}{a b base k:Int}
theorem iW(h0:0<=a)(h1:a<16):IntKind.wrap .i64 (BitVec.ofInt (IntKind.bits .i64) a &&& BitVec.ofInt (IntKind.bits .i64) 7).toNat=a%8:=Bm h0 h1
theorem zcm(a b:Int):IntKind.wrap .u8 (BitVec.ofInt (IntKind.bits .u8) (IntKind.wrap .u8 (BitVec.ofInt (IntKind.bits .u8) 192 ||| BitVec.ofInt (IntKind.bits .u8) (IntKind.wrap .u8 (IntKind.wrap .u8 (a%8)*2^(min 3 (IntKind.bits .u8))))).toNat) ||| BitVec.ofInt (IntKind.bits .u8) (IntKind.wrap .u8 (b%8))).toNat=zX a b:=zco (eV a).1 (eV a).2 (eV b).1 (eV b).2
theorem zam(a b:Int):IntKind.wrap .u8 (IntKind.wrap .i64 (BitVec.ofInt (IntKind.bits .i64) (IntKind.wrap .i64 (BitVec.ofInt (IntKind.bits .i64) 128 ||| BitVec.ofInt (IntKind.bits .i64) (IntKind.wrap .i64 (a%8*2^(min 3 (IntKind.bits .i64))))).toNat) ||| BitVec.ofInt (IntKind.bits .i64) (b%8)).toNat)=128+a%8*8+b%8:=zb2 (eV a).1 (eV a).2 (eV b).1 (eV b).2
theorem GJ(hb:base=72\/base=64)(O:yM h ov ops)(hl:ops.length<=100)(a0:0<=a)(a1:a<16)(b0:0<=b)(b1:b<16) :
  DC Tryz.prog 47 [.int .u8 base,ov,.int .i64 a,.int .i64 b] h (λr h'=>Sat (.of h) h' [qj r (zj base a b::ops++[zX a b])]):=by
 apply Wg;intro wf;apply Lb;unfold M1;have s0:Sat (.of h) h []:=Sat.self wf.2;have on:=O.QU;refine YL (zce hb a b h) ?_;have s1:Sat (.of h) (h.push (.cells [.int .u8 (zj base a b)] 5)) [qj (.slice (some ⟨h.next,0,none⟩) 1 3) [zj base a b]]:=wT s0 [zj base a b] 3 (by decide);obtain⟨x1,n1,c1,h2,e1,s2,_⟩:=eA s1 (O.old (Old.push _ _)) (by simp;omega);obtain⟨x2,n2,c2,h3,e2,s3,_⟩:=Bn s2 (zX a b) (by simp;omega);have q1:=iW a0 a1;have q2:=iW b0 b1;have q3:=zcm a b;simp only[EE,Int.reduceLE,Int.reduceToNat,Xh,cD,Dh,on,e1,q1,q2,q3,e2];exact s3
theorem Aa(a0:0<=a)(a1:a<16)(b0:0<=b)(b1:b<16)(k:Int) :
  DC Tryz.prog 58 [.int .i64 a,.int .i64 b,.int .i64 k] h (λr h'=>Sat (.of h) h' [qj r (uK a b k)]):=by
 apply Wg;intro wf;apply AW;unfold sL;have s0:Sat (.of h) h []:=Sat.self wf.2;have q1:=iW a0 a1;have q2:=iW b0 b1;have q3:=zam a b;have s3:Sat (.of h) (h.push (.cells [.int .u8 (128+a%8*8+b%8)] 5)) [qj (.slice (some ⟨h.next,0,none⟩) 1 3) [128+a%8*8+b%8]]:=wT s0 [128+a%8*8+b%8] 3 (by decide)
 have go:∀{x:aaa} {xs:List Int} {h3:za},Sat (.of h) h3 [qj x xs]->xs.length<=1000->xs++xI 4 k=uK a b k->KI (.int .i64 k) (λr h'=>Sat (.of h) h' [qj r (uK a b k)]) [x] h3:=λ{x xs h3} s3 hx ex=>by
  unfold KI;have xn:=vt s3;simp only[];refine QJ (Ou (n:=4) (by decide) k) ?_;rintro r h4 s4;have s5:=s3.join s4;have rn:=vt s4;obtain⟨x4,n4,c4,h5,e4,s6,_⟩:=eA (s5.f [1,0]) (xq s5 aao) (by rw[wQ];omega);simp only[EE,nth,xn,rn,e4];have:=s6.k [0];rw[ex]at this;exact this
 simp only[EE,Int.reduceLE,Int.reduceToNat,Xh,cD,q1,q2,q3]
 revert s3
 generalize hz:128+a%8*8+b%8=z;intro s3;by_cases hm:b%8=4
 ·obtain⟨x5,n5,c5,h6,e5,s5,_⟩:=Bn s3 36 (by simp);simp only[pV]at e5;simp only[EE,Xh,iG,hm,e5];exact go s5 (by simp) (by unfold uK We;rw[aai hm,hz];rfl)
 ·simp only[EE,hm];exact go s3 (by simp) (by unfold uK We;rw[aag hm,hz])
end
section
variable {lo:y4}{h:za}{L:List HP}{x y ov:aaa}{xs ys ops zs:List Int}{a b base k:Int}{K:aaa->za->Prop}
theorem QR(wf:qJ h)(o:vl):qJ (h.push o):=Go.Rtl.YJ wf o
theorem aX(s:Sat lo h (qj y ys::qj x xs::L))(XT:xs.length+ys.length<=1000){r:TypeId}(k:∀v h',zQ v=false->Sat lo h' (qj v (xs++ys)::qj y ys::L)->K v h'):zD (nb [x,y] (zG Tryz.prog .append [29,29] r [x,y] h)) K:=by
 have s1:=s.f [1,0];obtain⟨a,n,c,h',a1,s2,_⟩:=eA s1 (xq s1 (aaz _ aao)) (by omega);rw[a1,Xx (vt s1),Xx (vt s),cJ];exact k _ _ rfl s2
section
variable (hb:base=72\/base=64)(a0:0<=a/\a<16)(b0:0<=b/\b<16)
include hb a0 b0
end
theorem Ey(s:Sat lo h L){n:Nat}{m:Int}(hm:m=(n:Int))(hn:n<=8){z:Int}(k:∀r h',zQ r=false->Sat lo h' (qj r (xI n z)::L)->K r h') :
  zP Tryz.prog (.func (.func 39) #[] #[]) [.int .i64 z,.int .i64 m] h K:=by
 subst hm;refine QJ (Ou hn z) ?_;rintro r h' s2;exact k r h' (vt s2) (s.join s2)
theorem Jk(s:Sat lo h L)(wf:qJ h){n:Nat}{m:Int}(hm:m=(n:Int))(hn:n<=8){z:Int}{hv:za}(vn:hv.next=h.next)(vg:∀b o,hv.get b=some o->h.get b=some o)(k:∀r h',qJ h'->zQ r=false->Sat lo h' (qj r (xI n z)::L)->K r h') :
  Yy Tryz.prog 39 [.int .i64 z,.int .i64 m] hv h K:=by
 subst hm;refine Va (by kernel_rfl) rfl wf s vn vg (Ou hn z) ?_;rintro r h2 s2 gr w2;exact k r _ w2 (vt s2) (gr _ s2)
theorem Ud{h:za}{n m b:Nat}{o:vl}(hg:h.get b=some o)(hb:b<n):(cut h n m).get b=some o:=by rw[Vf hb];exact hg
theorem Ue{h:za}{n m b:Nat}{o:vl}(hg:(cut h n m).get b=some o):h.get b=some o:=by
 rw[BE]at hg;split at hg
 ·cases hg
 ·exact hg
end
end Go.Eb
namespace Go.En
open Go.Ai Go.Proofs
open Go.As (zF Pg)
abbrev RS:=Nat×Bool
def YN:zF:=⟨0,0,0,0,0,0,0⟩
def zU(c:Bool)(s:RS):RS:=(s.1,s.2||c)
def zw(b:List Int)(s:RS):Int×RS:=match b[s.1]? with
 |some v=>(v,(s.1+1,s.2))
 |none=>(0,(s.1,true))
def qK(b:List Int):Nat->RS->List Int×RS
 |0,s=>([],s)
 |n+1,s=>((qK b n s).1++[(zw b (qK b n s).2).1],(zw b (qK b n s).2).2)
def wa(b:List Int)(s:RS):Int×RS:=(XV (qK b 4 s).1,(qK b 4 s).2)
def WH(b:List Int)(s:RS):Int×RS:=(VW (qK b 8 s).1,(qK b 8 s).2)
structure lC where
 reg:Int
 rm:Int
 memory:Bool
 place:Bool
 k:Int
def ql(b ahead:Int):Int:=b/8%8+(if ahead/4%2=1 then 8 else 0)
def jW(b ahead:Int):Int:=b%8+(if ahead%2=1 then 8 else 0)
def ia(b:List Int)(rm:Int)(s:RS):RS:=if rm%8=4 then zU (decide (¬(zw b s).1=36)) (zw b s).2 else s
def ur(b:List Int)(ahead:Int)(s:RS):lC×RS :=
 let t:=zw b s
 let reg:=ql t.1 ahead
 let rm:=jW t.1 ahead
 if t.1/64=3 then (⟨reg,rm,false,false,0⟩,t.2)
 else if t.1/64=2 then (⟨reg,rm,true,false,(wa b (ia b rm t.2)).1⟩,(wa b (ia b rm t.2)).2)
 else if t.1/64=0 then (⟨reg,rm,false,true,(wa b (zU (decide (¬t.1%8=5)||decide (ahead%2=1)) t.2)).1⟩,(wa b (zU (decide (¬t.1%8=5)||decide (ahead%2=1)) t.2)).2)
 else (⟨reg,rm,false,false,0⟩,zU true t.2)
def K7(c:Int):Option Int:=if c=4 then some 21 else if c=5 then some 22 else if c=12 then some 23 else if c=13 then some 26 else if c=14 then some 24 else if c=15 then some 25 else none
theorem HZ{cc:Int}(h0:21<=cc)(h1:cc<=26):K7 (vA cc)=some cc:=by
 have:cc=21\/cc=22\/cc=23\/cc=24\/cc=25\/cc=26:=by omega
 rcases this with rfl|rfl|rfl|rfl|rfl|rfl <;> rfl
theorem Rs{c cc:Int}(h:K7 c=some cc):21<=cc/\cc<=26/\vA cc=c:=by
 unfold K7 at h
 repeat' split at h
 all_goals first|(cases h;done)|(have h:=abn h;subst h;subst_vars;decide)
def jR(c:Int)(s:RS):Int×RS:=match K7 c with
 |some cc=>(cc,s)
 |none=>(0,zU true s)
def qe(op:Int):Int:=if op=1 then 11 else if op=41 then 12 else if op=33 then 16 else if op=9 then 17 else if op=49 then 18 else 0
def uu(op second:Int)(o:lC)(s:RS):zF×RS :=
 if op=139 then (⟨3,o.reg,o.rm,8,0,0,o.k⟩,s)
 else if op=99 then (⟨3,o.reg,o.rm,4,0,0,o.k⟩,s)
 else if op=15/\second=190 then (⟨3,o.reg,o.rm,1,0,0,o.k⟩,s)
 else if op=137 then (⟨4,o.reg,o.rm,8,0,0,o.k⟩,s)
 else if op=141 then (⟨5,o.reg,o.rm,0,0,0,o.k⟩,s)
 else (⟨3,o.reg,o.rm,0,0,0,o.k⟩,zU true s)
def Wc(b:List Int)(o:lC)(s:RS):zF×RS :=
 let t:=wa b s
 if o.reg=7 then (⟨16,o.rm,0,0,0,0,t.1⟩,t.2)
 else if o.rm=4/\o.reg=5 then (⟨23,0,0,0,0,0,t.1⟩,t.2)
 else if o.rm=4/\o.reg=0 then (⟨24,0,0,0,0,0,t.1⟩,t.2)
 else (⟨8,o.rm,0,qe (o.reg*8+1),0,0,t.1⟩,zU (decide (qe (o.reg*8+1)=0)) t.2)
def singleR(b:List Int)(op:Int)(o:lC)(s:RS):zF×RS :=
 if op=199 then (⟨2,o.rm,0,0,0,0,(wa b (zU (decide (¬o.reg=0)) s)).1⟩,(wa b (zU (decide (¬o.reg=0)) s)).2)
 else if op=129 then Wc b o s
 else if op=247/\o.reg=2 then (⟨9,o.rm,0,2,0,0,0⟩,s)
 else if op=247/\o.reg=3 then (⟨9,o.rm,0,1,0,0,0⟩,s)
 else if op=247/\o.reg=7 then (⟨14,0,o.rm,0,0,0,0⟩,s)
 else if op=193 then (⟨11,o.rm,0,if o.reg=7 then 20 else 19,0,0,(zw b (zU (decide (¬o.reg=4 /\ ¬o.reg=7)) s)).1⟩,(zw b (zU (decide (¬o.reg=4 /\ ¬o.reg=7)) s)).2)
 else if op=211 then (⟨12,o.rm,0,if o.reg=7 then 20 else 19,0,0,0⟩,zU (decide (¬o.reg=4 /\ ¬o.reg=7)) s)
 else (YN,zU true s)
def qL(b:List Int)(op second:Int)(o:lC)(s:RS):zF×RS :=
 if ¬qe op=0 then (⟨7,o.rm,o.reg,qe op,0,0,0⟩,s)
 else if op=137 then (⟨1,o.rm,o.reg,0,0,0,0⟩,s)
 else if op=99 then (⟨10,o.reg,o.rm,4,0,0,0⟩,s)
 else if op=57 then (⟨15,o.rm,o.reg,0,0,0,0⟩,s)
 else if op=105 then (⟨8,o.reg,0,13,0,0,(wa b (zU (decide (¬o.reg=o.rm)) s)).1⟩,(wa b (zU (decide (¬o.reg=o.rm)) s)).2)
 else if op=15 then (if second=175 then (⟨7,o.reg,o.rm,13,0,0,0⟩,s) else if second=190 then (⟨10,o.reg,o.rm,3,0,0,0⟩,s) else (YN,zU true s))
 else singleR b op o s
def uE(b:List Int)(ahead op second:Int)(s:RS):zF×RS :=
 let o:=ur b ahead s
 if o.1.place=true then (⟨6,o.1.reg,0,0,0,0,o.1.k⟩,zU (decide (¬op=141)) o.2)
 else if o.1.memory=true then uu op second o.1 o.2
 else qL b op second o.1 o.2
def ZM(b:List Int)(ahead:Int)(s:RS):zF×RS :=
 let t:=zw b s
 if 184<=t.1/\t.1<=191 then (⟨2,t.1-184+ahead%2*8,0,0,0,0,(WH b (zU (decide (ahead/4%2=1)) t.2)).1⟩,(WH b (zU (decide (ahead/4%2=1)) t.2)).2)
 else if t.1=153 then (⟨13,0,0,0,0,0,0⟩,zU (decide (¬ahead=72)) t.2)
 else if t.1=237 then (⟨25,0,0,0,0,0,0⟩,zU (decide (¬ahead=72)) t.2)
 else if t.1=239 then (⟨26,0,0,0,0,0,0⟩,zU (decide (¬ahead=72)) t.2)
 else if t.1=15 then uE b ahead t.1 (zw b t.2).1 (zw b t.2).2
 else uE b ahead t.1 0 t.2
def ZL(b:List Int):List Int->RS->RS
 |[],s=>s
 |z::zs,s=>ZL b zs (zU (decide (¬(zw b s).1=z)) (zw b s).2)
def B9(b:List Int)(ahead:Int)(s:RS):zF×RS :=
 let t:=zw b s
 let c:=jR (u8 (t.1-144)) t.2
 let o:=ur b ahead c.2
 (⟨17,o.1.rm,0,0,c.1,0,0⟩,ZL b [zj 72 o.1.rm o.1.rm,15,182,zX o.1.rm o.1.rm] (zU (o.1.memory||o.1.place||decide (¬o.1.reg=0)) o.2))
def jC(b:List Int)(ahead:Int)(s:RS):zF×RS :=
 let t:=zw b s
 if t.1=136\/t.1=137 then
  (⟨4,(ur b ahead t.2).1.reg,(ur b ahead t.2).1.rm,if t.1=136 then 1 else 4,0,0,(ur b ahead t.2).1.k⟩,zU (!(ur b ahead t.2).1.memory) (ur b ahead t.2).2)
 else if t.1=15 then B9 b ahead t.2
 else (YN,zU true t.2)
def xH(b:List Int):zF×Bool×RS :=
 let t:=zw b (0,false)
 if t.1=233 then (⟨18,0,0,0,0,0,(wa b t.2).1⟩,true,(wa b t.2).2)
 else if t.1=232 then (⟨21,0,0,0,0,0,(wa b t.2).1⟩,true,(wa b t.2).2)
 else if t.1=15 then
  (let c:=jR (u8 ((zw b t.2).1-128)) (zw b t.2).2
   (⟨19,0,0,0,c.1,0,(wa b c.2).1⟩,true,(wa b c.2).2))
 else if t.1=195 then (⟨22,0,0,0,0,0,0⟩,false,t.2)
 else if t.1=72\/t.1=73\/t.1=76\/t.1=77 then ((ZM b t.1 t.2).1,decide ((ZM b t.1 t.2).1.op=6),(ZM b t.1 t.2).2)
 else if t.1=64\/t.1=65\/t.1=68\/t.1=69 then ((jC b t.1 t.2).1,false,(jC b t.1 t.2).2)
 else (YN,false,zU true t.2)
theorem BR(pre rest:List Int)(z:Int)(c:Bool):zw (pre++z::rest) (pre.length,c)=(z,(pre.length+1,c)):=by
 unfold zw;have:(pre++z::rest)[pre.length]? = some z:=by rw[abj (aaj _),Nat.sub_self];rfl
 rw[this]
theorem BP(pre rest xs:List Int)(c:Bool):∀n:Nat,n<=xs.length->qK (pre++(xs++rest)) n (pre.length,c)=(xs.take n,(pre.length+n,c))
 |0,h=>rfl
 |n+1,h=>by
  unfold qK;rw[BP pre rest xs c n (by omega)]
  have e:pre++(xs++rest)=(pre++xs.take n)++xs[n]::(xs.drop (n+1)++rest):=by
   have:=abw (show n<xs.length by omega);have e0:xs=xs.take n++xs[n]::xs.drop (n+1):=by rw[<- this,abA]
   rw[aa7]
   congr 1
   conv=>lhs;rw[e0]
   rw[aa7];rfl
  have el:pre.length+n=(pre++xs.take n).length:=by rw[aar,aaQ,abW (by omega)]
  have:=BR (pre++xs.take n) (xs.drop (n+1)++rest) xs[n] c;simp only;rw[e,el,this,List.take_succ_eq_append_getElem (by omega)];simp only[aar,aaQ,abW (show n<=xs.length by omega)];rfl
theorem Ro(pre rest:List Int)(k:Int)(hk:Go.Ar.zS k=true)(c:Bool){n:Nat}(hn:n=pre.length):wa (pre++(xI 4 k++rest)) (n,c)=(k,(n+4,c)):=by
 subst hn;unfold wa;rw[BP pre rest (xI 4 k) c 4 (by rw[wQ];exact aaj _)];simp only;rw[List.take_of_length_le (by rw[wQ];exact aaj _),ae hk]
theorem Rp(pre rest:List Int)(k:Int)(hk:Go.Mem.aG k)(c:Bool){n:Nat}(hn:n=pre.length):WH (pre++(xI 8 k++rest)) (n,c)=(k,(n+8,c)):=by
 subst hn;unfold WH;rw[BP pre rest (xI 8 k) c 8 (by rw[wQ];exact aaj _)];simp only;rw[List.take_of_length_le (by rw[wQ];exact aaj _),LW hk]
theorem fA(a b:Int):(zj 72 a b=72\/zj 72 a b=73\/zj 72 a b=76\/zj 72 a b=77)/\(zj 72 a b/4%2=1 ↔ 8<=a)/\(zj 72 a b%2=1 ↔ 8<=b):=by
 unfold zj;split <;> split <;> omega
theorem IC(a b:Int):(zj 64 a b=64\/zj 64 a b=65\/zj 64 a b=68\/zj 64 a b=69)/\(zj 64 a b/4%2=1 ↔ 8<=a)/\(zj 64 a b%2=1 ↔ 8<=b):=by
 unfold zj;split <;> split <;> omega
theorem fu{a b w x:Int}(h0:0<=a)(h1:a<16)(hw:w/4%2=1 ↔ 8<=a)(hx:x/8%8=a%8):ql x w=a:=by
 unfold ql;by_cases h:8<=a
 ·rw[aai (hw.2 h)];omega
 ·rw[aag (λq=>h (hw.1 q))];omega
theorem GM{b w x:Int}(h0:0<=b)(h1:b<16)(hw:w%2=1 ↔ 8<=b)(hx:x%8=b%8):jW x w=b:=by
 unfold jW;by_cases h:8<=b
 ·rw[aai (hw.2 h)];omega
 ·rw[aag (λq=>h (hw.1 q))];omega
theorem Xq(a b:Int):zX a b/64=3/\zX a b/8%8=a%8/\zX a b%8=b%8:=by
 unfold zX;omega
theorem BV{pre rest:List Int}{a b w:Int}(a0:0<=a)(a1:a<16)(b0:0<=b)(b1:b<16)(ha:w/4%2=1 ↔ 8<=a)(hb:w%2=1 ↔ 8<=b)(c:Bool){n:Nat}(hn:n=pre.length) :
  ur (pre++zX a b::rest) w (n,c)=(⟨a,b,false,false,0⟩,(n+1,c)):=by
 subst hn;have t:=Xq a b;unfold ur;simp only[BR,t.1,abS];rw[fu (b:=b) a0 a1 ha t.2.1,GM b0 b1 hb t.2.2]
theorem jD{b pre rest:List Int}{z:Int}{n:Nat}(c:Bool)(hb:b=pre++z::rest)(hn:n=pre.length):zw b (n,c)=(z,(n+1,c)):=by
 subst hb hn;exact BR pre rest z c
theorem ZW{b pre rest:List Int}{k:Int}{n:Nat}(hk:Go.Ar.zS k=true)(c:Bool)(hb:b=pre++(xI 4 k++rest))(hn:n=pre.length):wa b (n,c)=(k,(n+4,c)):=by
 subst hb;exact Ro pre rest k hk c hn
theorem Rq{b pre rest:List Int}{k:Int}{n:Nat}(hk:Go.Mem.aG k)(c:Bool)(hb:b=pre++(xI 8 k++rest))(hn:n=pre.length):WH b (n,c)=(k,(n+8,c)):=by
 subst hb;exact Rp pre rest k hk c hn
theorem V1(a m:Int):(128+a%8*8+m%8)/64=2/\(128+a%8*8+m%8)/8%8=a%8/\(128+a%8*8+m%8)%8=m%8:=by
 omega
theorem BU{bs pre rest:List Int}{a m k w:Int}(a0:0<=a)(a1:a<16)(b0:0<=m)(b1:m<16)(hk:Go.Ar.zS k=true)(ha:w/4%2=1 ↔ 8<=a)(hb:w%2=1 ↔ 8<=m)(c:Bool){n:Nat}(he:bs=pre++(uK a m k++rest))(hn:n=pre.length) :
  ur bs w (n,c)=(⟨a,m,true,false,k⟩,(n+(uK a m k).length,c)):=by
 have t:=V1 a m;have t2:¬(128+a%8*8+m%8)/64=3:=by omega
 have r1:ql (128+a%8*8+m%8) w=a:=fu (b:=m) a0 a1 ha t.2.1;have r2:jW (128+a%8*8+m%8) w=m:=GM b0 b1 hb t.2.2;unfold uK We at he ⊢;unfold ur;by_cases hm:m%8=4
 ·rw[aai hm]at he ⊢;have h1:zw bs (n,c)=(128+a%8*8+m%8,(n+1,c)):=jD (pre:=pre) (rest:=36::(xI 4 k++rest)) c (by rw[he];rfl) hn;have h2:zw bs (n+1,c)=(36,(n+1+1,c)):=jD (pre:=pre++[128+a%8*8+m%8]) (rest:=xI 4 k++rest) c (by rw[he];simp) (by simp[hn]);have h3:wa bs (n+1+1,c)=(k,(n+1+1+4,c)):=ZW (pre:=pre++[128+a%8*8+m%8,36]) (rest:=rest) hk c (by rw[he];simp) (by simp[hn])
  have h4:ia bs m (n+1,c)=(n+1+1,c):=by
   unfold ia zU;rw[aai hm,h2];simp
  simp only[h1,t.1,t2,ab1,abS,r1,r2,h4,h3,aar,aa3,abr,wQ];simp
 ·rw[aag hm]at he ⊢;have h1:zw bs (n,c)=(128+a%8*8+m%8,(n+1,c)):=jD (pre:=pre) (rest:=xI 4 k++rest) c (by rw[he];rfl) hn;have h3:wa bs (n+1,c)=(k,(n+1+4,c)):=ZW (pre:=pre++[128+a%8*8+m%8]) (rest:=rest) hk c (by rw[he];simp) (by simp[hn])
  have h4:ia bs m (n+1,c)=(n+1,c):=by
   unfold ia;rw[aag hm]
  simp only[h1,t.1,t2,ab1,abS,r1,r2,h4,h3,aar,aa3,abr,wQ];simp
section
variable {bs rest:List Int}{w o a b m k s2:Int}{n:Nat}{c:Bool}
theorem UP(hw:w=72\/w=73\/w=76\/w=77)(he:bs=w::rest):xH bs=((ZM bs w (1,false)).1,decide ((ZM bs w (1,false)).1.op=6),(ZM bs w (1,false)).2):=by
 have h1:zw bs (0,false)=(w,(1,false)):=jD (pre:=[]) false he rfl;unfold xH;simp only[h1];rw[aag (by omega),aag (by omega),aag (by omega),aag (by omega),aai hw]
theorem pF(hw:w=64\/w=65\/w=68\/w=69)(he:bs=w::rest):xH bs=((jC bs w (1,false)).1,false,(jC bs w (1,false)).2):=by
 have h1:zw bs (0,false)=(w,(1,false)):=jD (pre:=[]) false he rfl;unfold xH;simp only[h1];rw[aag (by omega),aag (by omega),aag (by omega),aag (by omega),aag (by omega),aai hw]
theorem Ce(he:bs=w::o::rest)(h1:¬(184<=o/\o<=191))(h2:¬o=153)(h3:¬o=237)(h4:¬o=239)(h5:¬o=15):ZM bs w (1,false)=uE bs w o 0 (2,false):=by
 have e:zw bs (1,false)=(o,(2,false)):=jD (pre:=[w]) false he rfl;unfold ZM;simp only[e];rw[aag h1,aag h2,aag h3,aag h4,aag h5]
theorem IQ(he:bs=w::15::s2::rest):ZM bs w (1,false)=uE bs w 15 s2 (3,false):=by
 have e:zw bs (1,false)=(15,(2,false)):=jD (pre:=[w]) false he rfl;have e2:zw bs (2,false)=(s2,(3,false)):=jD (pre:=[w,15]) false he rfl;unfold ZM;simp only[e,e2];rw[aag (by decide),aag (by decide),aag (by decide),aag (by decide),abS]
theorem oM(h:ur bs w (n,c)=(⟨a,b,false,false,0⟩,(n+1,c))):uE bs w o s2 (n,c)=qL bs o s2 ⟨a,b,false,false,0⟩ (n+1,c):=by
 unfold uE;simp only[h];rw[aag (by simp),aag (by simp)]
theorem oL{l:Nat}(h:ur bs w (n,c)=(⟨a,b,true,false,k⟩,(n+l,c))):uE bs w o s2 (n,c)=uu o s2 ⟨a,b,true,false,k⟩ (n+l,c):=by
 unfold uE;simp only[h];rw[aag (by simp),abS]
theorem qg(a0:0<=a)(a1:a<16)(b0:0<=b)(b1:b<16)(he:bs=zj 72 a b::o::zX a b::rest)(h1:¬(184<=o/\o<=191))(h2:¬o=153)(h3:¬o=237)(h4:¬o=239)(h5:¬o=15) :
  xH bs=((qL bs o 0 ⟨a,b,false,false,0⟩ (3,false)).1,decide ((qL bs o 0 ⟨a,b,false,false,0⟩ (3,false)).1.op=6),(qL bs o 0 ⟨a,b,false,false,0⟩ (3,false)).2):=by
 have r:=fA a b;have q:=BV (pre:=[zj 72 a b,o]) (rest:=rest) a0 a1 b0 b1 r.2.1 r.2.2 false (n:=2) rfl;have q:ur bs (zj 72 a b) (2,false)=(⟨a,b,false,false,0⟩,(3,false)):=by rw[he];exact q
 rw[UP r.1 he,Ce he h1 h2 h3 h4 h5,oM q]
theorem rf(a0:0<=a)(a1:a<16)(b0:0<=b)(b1:b<16)(he:bs=zj 72 a b::15::s2::zX a b::rest) :
  xH bs=((qL bs 15 s2 ⟨a,b,false,false,0⟩ (4,false)).1,decide ((qL bs 15 s2 ⟨a,b,false,false,0⟩ (4,false)).1.op=6),(qL bs 15 s2 ⟨a,b,false,false,0⟩ (4,false)).2):=by
 have r:=fA a b;have q:=BV (pre:=[zj 72 a b,15,s2]) (rest:=rest) a0 a1 b0 b1 r.2.1 r.2.2 false (n:=3) rfl;have q:ur bs (zj 72 a b) (3,false)=(⟨a,b,false,false,0⟩,(4,false)):=by rw[he];exact q
 rw[UP r.1 he,IQ he,oM q]
end
section
variable {rest:List Int}{r m k:Int}(r0:0<=r)(r1:r<16)(m0:0<=m)(m1:m<16)
theorem zaz(r0:0<=r)(r1:r<16)(m0:0<=m)(m1:m<16):xH (zf ⟨1,r,m,0,0,0,0⟩ 0++rest)=(⟨1,r,m,0,0,0,0⟩,false,(3,false)):=by
 have e:zf ⟨1,r,m,0,0,0,0⟩ 0++rest=zj 72 m r::137::zX m r::rest:=rfl;rw[qg m0 m1 r0 r1 e (by decide) (by decide) (by decide) (by decide) (by decide)];rfl
theorem RE(r0:0<=r)(r1:r<16)(m0:0<=m)(m1:m<16):xH (zf ⟨15,r,m,0,0,0,0⟩ 0++rest)=(⟨15,r,m,0,0,0,0⟩,false,(3,false)):=by
 have e:zf ⟨15,r,m,0,0,0,0⟩ 0++rest=zj 72 m r::57::zX m r::rest:=rfl;rw[qg m0 m1 r0 r1 e (by decide) (by decide) (by decide) (by decide) (by decide)];rfl
theorem RA(r0:0<=r)(r1:r<16)(m0:0<=m)(m1:m<16):xH (zf ⟨10,r,m,4,0,0,0⟩ 0++rest)=(⟨10,r,m,4,0,0,0⟩,false,(3,false)):=by
 have e:zf ⟨10,r,m,4,0,0,0⟩ 0++rest=zj 72 r m::99::zX r m::rest:=rfl;rw[qg r0 r1 m0 m1 e (by decide) (by decide) (by decide) (by decide) (by decide)];rfl
theorem OV(r0:0<=r)(r1:r<16)(m0:0<=m)(m1:m<16):xH (zf ⟨10,r,m,3,0,0,0⟩ 0++rest)=(⟨10,r,m,3,0,0,0⟩,false,(4,false)):=by
 have e:zf ⟨10,r,m,3,0,0,0⟩ 0++rest=zj 72 r m::15::190::zX r m::rest:=rfl;rw[rf r0 r1 m0 m1 e];rfl
end
section
variable {rest:List Int}{r m k s:Int}
theorem zaD(r0:0<=r)(r1:r<16)(m0:0<=m)(m1:m<16)(hs:s=11\/s=12\/s=16\/s=17\/s=18):xH (zf ⟨7,r,m,s,0,0,0⟩ 0++rest)=(⟨7,r,m,s,0,0,0⟩,false,(3,false)):=by
 have e:∀s:Int,¬s=13->zf ⟨7,r,m,s,0,0,0⟩ 0++rest=zj 72 m r::kj s::zX m r::rest:=λs h=>by
  have:zf ⟨7,r,m,s,0,0,0⟩ 0=if s=13 then [zj 72 r m,15,175,zX r m] else [zj 72 m r,kj s,zX m r]:=rfl;rw[this,aag h];rfl
 rcases hs with rfl|rfl|rfl|rfl|rfl <;>
  (rw[qg m0 m1 r0 r1 (e _ (by decide)) (by decide) (by decide) (by decide) (by decide) (by decide)];rfl)
theorem RT(r0:0<=r)(r1:r<16)(m0:0<=m)(m1:m<16):xH (zf ⟨7,r,m,13,0,0,0⟩ 0++rest)=(⟨7,r,m,13,0,0,0⟩,false,(4,false)):=by
 have e:zf ⟨7,r,m,13,0,0,0⟩ 0++rest=zj 72 r m::15::175::zX r m::rest:=rfl;rw[rf r0 r1 m0 m1 e];rfl
theorem zaF(r0:0<=r)(r1:r<16)(hs:s=1\/s=2):xH (zf ⟨9,r,0,s,0,0,0⟩ 0++rest)=(⟨9,r,0,s,0,0,0⟩,false,(3,false)):=by
 rcases hs with rfl|rfl
 ·have e:zf ⟨9,r,0,1,0,0,0⟩ 0++rest=zj 72 3 r::247::zX 3 r::rest:=rfl;rw[qg (by decide) (by decide) r0 r1 e (by decide) (by decide) (by decide) (by decide) (by decide)];rfl
 ·have e:zf ⟨9,r,0,2,0,0,0⟩ 0++rest=zj 72 2 r::247::zX 2 r::rest:=rfl;rw[qg (by decide) (by decide) r0 r1 e (by decide) (by decide) (by decide) (by decide) (by decide)];rfl
theorem RD(m0:0<=m)(m1:m<16):xH (zf ⟨14,0,m,0,0,0,0⟩ 0++rest)=(⟨14,0,m,0,0,0,0⟩,false,(3,false)):=by
 have e:zf ⟨14,0,m,0,0,0,0⟩ 0++rest=zj 72 7 m::247::zX 7 m::rest:=rfl;rw[qg (by decide) (by decide) m0 m1 e (by decide) (by decide) (by decide) (by decide) (by decide)];rfl
theorem RC(r0:0<=r)(r1:r<16)(hs:s=19\/s=20):xH (zf ⟨12,r,0,s,0,0,0⟩ 0++rest)=(⟨12,r,0,s,0,0,0⟩,false,(3,false)):=by
 rcases hs with rfl|rfl
 ·have e:zf ⟨12,r,0,19,0,0,0⟩ 0++rest=zj 72 4 r::211::zX 4 r::rest:=rfl;rw[qg (by decide) (by decide) r0 r1 e (by decide) (by decide) (by decide) (by decide) (by decide)];rfl
 ·have e:zf ⟨12,r,0,20,0,0,0⟩ 0++rest=zj 72 7 r::211::zX 7 r::rest:=rfl;rw[qg (by decide) (by decide) r0 r1 e (by decide) (by decide) (by decide) (by decide) (by decide)];rfl
theorem RG(r0:0<=r)(r1:r<16)(hk:Go.Ar.zS k=true):xH (zf ⟨16,r,0,0,0,0,k⟩ 0++rest)=(⟨16,r,0,0,0,0,k⟩,false,(7,false)):=by
 have e:zf ⟨16,r,0,0,0,0,k⟩ 0++rest=zj 72 7 r::129::zX 7 r::(xI 4 k++rest):=rfl;have q:wa (zj 72 7 r::129::zX 7 r::(xI 4 k++rest)) (3,false)=(k,(7,false)):=ZW (pre:=[zj 72 7 r,129,zX 7 r]) hk false rfl rfl;rw[qg (by decide) (by decide) r0 r1 e (by decide) (by decide) (by decide) (by decide) (by decide),e];have p:qL (zj 72 7 r::129::zX 7 r::(xI 4 k++rest)) 129 0 ⟨7,r,false,false,0⟩ (3,false)=(⟨16,r,0,0,0,0,(wa (zj 72 7 r::129::zX 7 r::(xI 4 k++rest)) (3,false)).1⟩,(wa (zj 72 7 r::129::zX 7 r::(xI 4 k++rest)) (3,false)).2):=rfl;rw[p,q];rfl
theorem B0(o:Int)(b2:Int)(hx:(o=13/\b2=153)\/(o=25/\b2=237)\/(o=26/\b2=239)):xH (zf ⟨o,0,0,0,0,0,0⟩ 0++rest)=(⟨o,0,0,0,0,0,0⟩,false,(2,false)):=by
 rcases hx with⟨rfl,rfl⟩|⟨rfl,rfl⟩|⟨rfl,rfl⟩ <;> rfl
theorem RN:xH (zf ⟨22,0,0,0,0,0,0⟩ 0++rest)=(⟨22,0,0,0,0,0,0⟩,false,(1,false)):=rfl
end
section
variable {bs rest:List Int}{r m k s o w s2:Int}
theorem PU{d:Int}(hq:wa bs (3,false)=(k,(7,false)))(hr:¬r=4)(h7:¬d=7)(ha:¬qe (d*8+1)=0):Wc bs ⟨d,r,false,false,0⟩ (3,false)=(⟨8,r,0,qe (d*8+1),0,0,k⟩,(7,false)):=by
 unfold Wc zU;simp only[hq];rw[aag h7,aag (λh=>hr h.1),aag (λh=>hr h.1),aaX ha];rfl
theorem zaE(r0:0<=r)(r1:r<16)(hr:¬r=4)(hk:Go.Ar.zS k=true)(hs:s=11\/s=12\/s=16\/s=17\/s=18):xH (zf ⟨8,r,0,s,0,0,k⟩ 0++rest)=(⟨8,r,0,s,0,0,k⟩,false,(7,false)):=by
 have q:∀a b c:Int,wa (a::b::c::(xI 4 k++rest)) (3,false)=(k,(7,false)):=λa b c=>ZW (pre:=[a,b,c]) hk false rfl rfl
 have go:∀d s:Int,0<=d->d<7->qe (d*8+1)=s->¬s=0->zj 72 0 r=zj 72 d r->zf ⟨8,r,0,s,0,0,k⟩ 0++rest=zj 72 0 r::129::zX d r::(xI 4 k++rest)->xH (zf ⟨8,r,0,s,0,0,k⟩ 0++rest)=(⟨8,r,0,s,0,0,k⟩,false,(7,false)):=λd s d0 d1 hs h0 hx e=>by
  rw[hx]at e;have p:∀bs:List Int,qL bs 129 0 ⟨d,r,false,false,0⟩ (3,false)=Wc bs ⟨d,r,false,false,0⟩ (3,false):=λ_=>rfl;rw[qg d0 (by omega) r0 r1 e (by decide) (by decide) (by decide) (by decide) (by decide),e,p,PU (q _ _ _) hr (by omega) (by rw[hs];exact h0),hs];rfl
 rcases hs with rfl|rfl|rfl|rfl|rfl
 ·exact go 0 11 (by decide) (by decide) (by decide) (by decide) rfl rfl
 ·exact go 5 12 (by decide) (by decide) (by decide) (by decide) rfl rfl
 ·exact go 4 16 (by decide) (by decide) (by decide) (by decide) rfl rfl
 ·exact go 1 17 (by decide) (by decide) (by decide) (by decide) rfl rfl
 ·exact go 6 18 (by decide) (by decide) (by decide) (by decide) rfl rfl
theorem RU(r0:0<=r)(r1:r<16)(hk:Go.Ar.zS k=true):xH (zf ⟨8,r,0,13,0,0,k⟩ 0++rest)=(⟨8,r,0,13,0,0,k⟩,false,(7,false)):=by
 have e:zf ⟨8,r,0,13,0,0,k⟩ 0++rest=zj 72 r r::105::zX r r::(xI 4 k++rest):=rfl;have q:wa (zj 72 r r::105::zX r r::(xI 4 k++rest)) (3,false)=(k,(7,false)):=ZW (pre:=[zj 72 r r,105,zX r r]) hk false rfl rfl;have z:zU (decide (¬r=r)) (3,false)=(3,false):=by simp[zU]
 have p:∀bs:List Int,qL bs 105 0 ⟨r,r,false,false,0⟩ (3,false)=(⟨8,r,0,13,0,0,(wa bs (zU (decide (¬r=r)) (3,false))).1⟩,(wa bs (zU (decide (¬r=r)) (3,false))).2):=λ_=>rfl;rw[qg r0 r1 r0 r1 e (by decide) (by decide) (by decide) (by decide) (by decide),e,p,z,q];rfl
theorem RO(hk:Go.Ar.zS k=true):xH (zf ⟨23,0,0,0,0,0,k⟩ 0++rest)=(⟨23,0,0,0,0,0,k⟩,false,(7,false)):=by
 have e:zf ⟨23,0,0,0,0,0,k⟩ 0++rest=zj 72 5 4::129::zX 5 4::(xI 4 k++rest):=rfl;have q:wa (zj 72 5 4::129::zX 5 4::(xI 4 k++rest)) (3,false)=(k,(7,false)):=ZW (pre:=[zj 72 5 4,129,zX 5 4]) hk false rfl rfl;have p:∀bs:List Int,qL bs 129 0 ⟨5,4,false,false,0⟩ (3,false)=(⟨23,0,0,0,0,0,(wa bs (3,false)).1⟩,(wa bs (3,false)).2):=λ_=>rfl;rw[qg (by decide) (by decide) (by decide) (by decide) e (by decide) (by decide) (by decide) (by decide) (by decide),e,p,q];rfl
theorem RR(hk:Go.Ar.zS k=true):xH (zf ⟨24,0,0,0,0,0,k⟩ 0++rest)=(⟨24,0,0,0,0,0,k⟩,false,(7,false)):=by
 have e:zf ⟨24,0,0,0,0,0,k⟩ 0++rest=zj 72 0 4::129::zX 0 4::(xI 4 k++rest):=rfl;have q:wa (zj 72 0 4::129::zX 0 4::(xI 4 k++rest)) (3,false)=(k,(7,false)):=ZW (pre:=[zj 72 0 4,129,zX 0 4]) hk false rfl rfl;have p:∀bs:List Int,qL bs 129 0 ⟨0,4,false,false,0⟩ (3,false)=(⟨24,0,0,0,0,0,(wa bs (3,false)).1⟩,(wa bs (3,false)).2):=λ_=>rfl;rw[qg (by decide) (by decide) (by decide) (by decide) e (by decide) (by decide) (by decide) (by decide) (by decide),e,p,q];rfl
theorem zaA(r0:0<=r)(r1:r<16)(hk:Go.Ar.zS k=true):xH (zf ⟨2,r,0,0,0,0,k⟩ 0++rest)=(⟨2,r,0,0,0,0,k⟩,false,(7,false)):=by
 have e0:zf ⟨2,r,0,0,0,0,k⟩ 0=if Go.Ar.zS k=true then [zj 72 0 r,199,zX 0 r]++xI 4 k else [zj 72 0 r,184+r%8]++xI 8 k:=rfl;rw[aai hk]at e0;have e:zf ⟨2,r,0,0,0,0,k⟩ 0++rest=zj 72 0 r::199::zX 0 r::(xI 4 k++rest):=by rw[e0];rfl
 have q:wa (zj 72 0 r::199::zX 0 r::(xI 4 k++rest)) (3,false)=(k,(7,false)):=ZW (pre:=[zj 72 0 r,199,zX 0 r]) hk false rfl rfl;have p:∀bs:List Int,qL bs 199 0 ⟨0,r,false,false,0⟩ (3,false)=(⟨2,r,0,0,0,0,(wa bs (3,false)).1⟩,(wa bs (3,false)).2):=λ_=>rfl;rw[qg (by decide) (by decide) r0 r1 e (by decide) (by decide) (by decide) (by decide) (by decide),e,p,q];rfl
theorem fq(a0:0<=r)(a1:r<16)(b0:0<=m)(b1:m<16)(hk:Go.Ar.zS k=true)(he:bs=zj 72 r m::o::(uK r m k++rest))(h1:¬(184<=o/\o<=191))(h2:¬o=153)(h3:¬o=237)(h4:¬o=239)(h5:¬o=15) :
  xH bs=((uu o 0 ⟨r,m,true,false,k⟩ (2+(uK r m k).length,false)).1,decide ((uu o 0 ⟨r,m,true,false,k⟩ (2+(uK r m k).length,false)).1.op=6),(uu o 0 ⟨r,m,true,false,k⟩ (2+(uK r m k).length,false)).2):=by
 have x:=fA r m;have q:ur bs (zj 72 r m) (2,false)=_:=BU (pre:=[zj 72 r m,o]) (rest:=rest) a0 a1 b0 b1 hk x.2.1 x.2.2 false he rfl;rw[UP x.1 he,Ce he h1 h2 h3 h4 h5,oL q]
theorem GI(a0:0<=r)(a1:r<16)(b0:0<=m)(b1:m<16)(hk:Go.Ar.zS k=true)(he:bs=zj 72 r m::15::s2::(uK r m k++rest)) :
  xH bs=((uu 15 s2 ⟨r,m,true,false,k⟩ (3+(uK r m k).length,false)).1,decide ((uu 15 s2 ⟨r,m,true,false,k⟩ (3+(uK r m k).length,false)).1.op=6),(uu 15 s2 ⟨r,m,true,false,k⟩ (3+(uK r m k).length,false)).2):=by
 have x:=fA r m;have q:ur bs (zj 72 r m) (3,false)=_:=BU (pre:=[zj 72 r m,15,s2]) (rest:=rest) a0 a1 b0 b1 hk x.2.1 x.2.2 false he rfl;rw[UP x.1 he,IQ he,oL q]
theorem zaB(r0:0<=r)(r1:r<16)(m0:0<=m)(m1:m<16)(hk:Go.Ar.zS k=true):xH (zf ⟨5,r,m,0,0,0,k⟩ 0++rest)=(⟨5,r,m,0,0,0,k⟩,false,(2+(uK r m k).length,false)):=by
 have e:zf ⟨5,r,m,0,0,0,k⟩ 0++rest=zj 72 r m::141::(uK r m k++rest):=rfl;rw[fq r0 r1 m0 m1 hk e (by decide) (by decide) (by decide) (by decide) (by decide)];rfl
theorem OY(r0:0<=r)(r1:r<16)(m0:0<=m)(m1:m<16)(hk:Go.Ar.zS k=true):xH (zf ⟨3,r,m,8,0,0,k⟩ 0++rest)=(⟨3,r,m,8,0,0,k⟩,false,(2+(uK r m k).length,false)):=by
 have e:zf ⟨3,r,m,8,0,0,k⟩ 0++rest=zj 72 r m::139::(uK r m k++rest):=rfl;rw[fq r0 r1 m0 m1 hk e (by decide) (by decide) (by decide) (by decide) (by decide)];rfl
theorem OX(r0:0<=r)(r1:r<16)(m0:0<=m)(m1:m<16)(hk:Go.Ar.zS k=true):xH (zf ⟨3,r,m,4,0,0,k⟩ 0++rest)=(⟨3,r,m,4,0,0,k⟩,false,(2+(uK r m k).length,false)):=by
 have e:zf ⟨3,r,m,4,0,0,k⟩ 0++rest=zj 72 r m::99::(uK r m k++rest):=rfl;rw[fq r0 r1 m0 m1 hk e (by decide) (by decide) (by decide) (by decide) (by decide)];rfl
theorem OW(r0:0<=r)(r1:r<16)(m0:0<=m)(m1:m<16)(hk:Go.Ar.zS k=true):xH (zf ⟨3,r,m,1,0,0,k⟩ 0++rest)=(⟨3,r,m,1,0,0,k⟩,false,(3+(uK r m k).length,false)):=by
 have e:zf ⟨3,r,m,1,0,0,k⟩ 0++rest=zj 72 r m::15::190::(uK r m k++rest):=rfl;rw[GI r0 r1 m0 m1 hk e];rfl
theorem O1(r0:0<=r)(r1:r<16)(m0:0<=m)(m1:m<16)(hk:Go.Ar.zS k=true):xH (zf ⟨4,r,m,8,0,0,k⟩ 0++rest)=(⟨4,r,m,8,0,0,k⟩,false,(2+(uK r m k).length,false)):=by
 have e:zf ⟨4,r,m,8,0,0,k⟩ 0++rest=zj 72 r m::137::(uK r m k++rest):=rfl;rw[fq r0 r1 m0 m1 hk e (by decide) (by decide) (by decide) (by decide) (by decide)];rfl
end
section
variable {bs rest:List Int}{r m k s o w s2:Int}
theorem RB(r0:0<=r)(r1:r<16)(k0:0<=k)(k1:k<256)(hs:s=19\/s=20):xH (zf ⟨11,r,0,s,0,0,k⟩ 0++rest)=(⟨11,r,0,s,0,0,k⟩,false,(4,false)):=by
 have ek:u8 k=k:=by rw[bq];omega
 have q:∀a b c:Int,zw (a::b::c::u8 k::rest) (3,false)=(k,(4,false)):=λa b c=>by
  have:=jD (b:=a::b::c::u8 k::rest) (pre:=[a,b,c]) (rest:=rest) (z:=u8 k) (n:=3) false rfl rfl;rw[this,ek]
 rcases hs with rfl|rfl
 ·have e:zf ⟨11,r,0,19,0,0,k⟩ 0++rest=zj 72 4 r::193::zX 4 r::u8 k::rest:=rfl;have p:∀bs:List Int,qL bs 193 0 ⟨4,r,false,false,0⟩ (3,false)=(⟨11,r,0,19,0,0,(zw bs (3,false)).1⟩,(zw bs (3,false)).2):=λ_=>rfl;rw[qg (by decide) (by decide) r0 r1 e (by decide) (by decide) (by decide) (by decide) (by decide),e,p,q];rfl
 ·have e:zf ⟨11,r,0,20,0,0,k⟩ 0++rest=zj 72 7 r::193::zX 7 r::u8 k::rest:=rfl;have p:∀bs:List Int,qL bs 193 0 ⟨7,r,false,false,0⟩ (3,false)=(⟨11,r,0,20,0,0,(zw bs (3,false)).1⟩,(zw bs (3,false)).2):=λ_=>rfl;rw[qg (by decide) (by decide) r0 r1 e (by decide) (by decide) (by decide) (by decide) (by decide),e,p,q];rfl
theorem IA(r0:0<=r)(r1:r<16)(hk:Go.Mem.aG k)(he:bs=zj 72 0 r::(184+r%8)::(xI 8 k++rest)):xH bs=(⟨2,r,0,0,0,0,k⟩,false,(10,false)):=by
 have x:=fA 0 r;have e:zw bs (1,false)=(184+r%8,(2,false)):=jD (pre:=[zj 72 0 r]) false he rfl
 have z:zU (decide (zj 72 0 r/4%2=1)) (2,false)=(2,false):=by
  rw[aaX (λh=>absurd (x.2.1.1 h) (by decide))];rfl
 have q:WH bs (2,false)=(k,(10,false)):=Rq (pre:=[zj 72 0 r,184+r%8]) hk false he rfl
 have er:184+r%8-184+zj 72 0 r%2*8=r:=by
  have:=x.2.2;by_cases h:8<=r
  ·have:=this.2 h;omega
  ·have h2:¬zj 72 0 r%2=1:=λq=>h (this.1 q);omega
 rw[UP x.1 he];unfold ZM;simp only[e];rw[aai (by omega),z,q,er];rfl
theorem pP(r0:0<=r)(r1:r<16)(m0:0<=m)(m1:m<16)(hk:Go.Ar.zS k=true)(ho:o=136\/o=137)(he:bs=zj 64 r m::o::(uK r m k++rest)) :
  xH bs=(⟨4,r,m,if o=136 then 1 else 4,0,0,k⟩,false,(2+(uK r m k).length,false)):=by
 have x:=IC r m;have e:zw bs (1,false)=(o,(2,false)):=jD (pre:=[zj 64 r m]) false he rfl;have q:ur bs (zj 64 r m) (2,false)=_:=BU (pre:=[zj 64 r m,o]) (rest:=rest) r0 r1 m0 m1 hk x.2.1 x.2.2 false he rfl;rw[pF x.1 he];unfold jC;simp only[e];rw[aai ho,q];rfl
theorem O0(r0:0<=r)(r1:r<16)(m0:0<=m)(m1:m<16)(hk:Go.Ar.zS k=true):xH (zf ⟨4,r,m,4,0,0,k⟩ 0++rest)=(⟨4,r,m,4,0,0,k⟩,false,(2+(uK r m k).length,false)) :=
 pP (o:=137) r0 r1 m0 m1 hk (.inr rfl) rfl
theorem OZ(r0:0<=r)(r1:r<16)(m0:0<=m)(m1:m<16)(hk:Go.Ar.zS k=true):xH (zf ⟨4,r,m,1,0,0,k⟩ 0++rest)=(⟨4,r,m,1,0,0,k⟩,false,(2+(uK r m k).length,false)) :=
 pP (o:=136) r0 r1 m0 m1 hk (.inl rfl) rfl
theorem eF(cc:Int):0<=vA cc/\vA cc<16:=by
 unfold vA
 repeat' split
 all_goals decide
theorem IH{pre:List Int}:∀(zs:List Int) (n:Nat) (pre:List Int),bs=pre++(zs++rest)->n=pre.length->ZL bs zs (n,false)=(n+zs.length,false)
 |[],n,pre,he,hn=>rfl
 |z::zs,n,pre,he,hn=>by
  have e:zw bs (n,false)=(z,(n+1,false)):=jD (pre:=pre) false he hn;unfold ZL;rw[e];have h:zU (decide (¬True)) (n+1,false)=(n+1,false):=by simp[zU]
  simp only;rw[h,IH (pre:=pre) zs (n+1) (pre++[z]) (by rw[he];simp) (by simp[hn])];simp only[aa3]
  congr 1
  omega
theorem RH{cc:Int}(r0:0<=r)(r1:r<16)(c0:21<=cc)(c1:cc<=26):xH (zf ⟨17,r,0,0,cc,0,0⟩ 0++rest)=(⟨17,r,0,0,cc,0,0⟩,false,(8,false)):=by
 generalize hbs:zf ⟨17,r,0,0,cc,0,0⟩ 0++rest=bs;have he:bs=zj 64 0 r::15::(144+vA cc)::zX 0 r::zj 72 r r::15::182::zX r r::rest:=hbs.symm;have x:=IC 0 r;have e1:zw bs (1,false)=(15,(2,false)):=jD (pre:=[zj 64 0 r]) false he rfl;have e2:zw bs (2,false)=(144+vA cc,(3,false)):=jD (pre:=[zj 64 0 r,15]) false he rfl;have cb:=eF cc;have e3:u8 (144+vA cc-144)=vA cc:=by rw[bq];omega
 have e4:jR (vA cc) (3,false)=(cc,(3,false)):=by unfold jR;rw[HZ c0 c1]
 have q:ur bs (zj 64 0 r) (3,false)=(⟨0,r,false,false,0⟩,(4,false)):=by
  rw[he];exact BV (pre:=[zj 64 0 r,15,144+vA cc]) (by decide) (by decide) r0 r1 x.2.1 x.2.2 false rfl
 have z:=IH (bs:=bs) (rest:=rest) (pre:=[]) [zj 72 r r,15,182,zX r r] 4 [zj 64 0 r,15,144+vA cc,zX 0 r] he rfl;have w0:zU (false||false||decide (¬True)) (4,false)=(4,false):=rfl;rw[pF x.1 he];unfold jC;simp only[e1];rw[aag (by decide),abS];unfold B9;simp only[e2,e3,e4,q];rw[w0,z];rfl
end
section
variable {bs rest:List Int}{r d:Int}
theorem RI(hd:Go.Ar.zS d=true)(x:zF)(hx:x.op=18):xH (zf x d++rest)=(⟨18,0,0,0,0,0,d⟩,true,(5,false)):=by
 have e:zf x d=233::xI 4 d:=by unfold zf;simp[hx]
 have q:wa (233::(xI 4 d++rest)) (1,false)=(d,(5,false)):=ZW (pre:=[233]) hd false rfl rfl;rw[e];show xH (233::(xI 4 d++rest))=_;have p:∀l:List Int,xH (233::l)=(⟨18,0,0,0,0,0,(wa (233::l) (1,false)).1⟩,true,(wa (233::l) (1,false)).2):=λ_=>rfl;rw[p,q]
theorem RM(hd:Go.Ar.zS d=true)(x:zF)(hx:x.op=21):xH (zf x d++rest)=(⟨21,0,0,0,0,0,d⟩,true,(5,false)):=by
 have e:zf x d=232::xI 4 d:=by unfold zf;simp[hx]
 have q:wa (232::(xI 4 d++rest)) (1,false)=(d,(5,false)):=ZW (pre:=[232]) hd false rfl rfl;rw[e];show xH (232::(xI 4 d++rest))=_;have p:∀l:List Int,xH (232::l)=(⟨21,0,0,0,0,0,(wa (232::l) (1,false)).1⟩,true,(wa (232::l) (1,false)).2):=λ_=>rfl;rw[p,q]
theorem RJ(hd:Go.Ar.zS d=true)(x:zF)(hx:x.op=19)(c0:21<=x.cc)(c1:x.cc<=26):xH (zf x d++rest)=(⟨19,0,0,0,x.cc,0,d⟩,true,(6,false)):=by
 have e:zf x d=[15,128+vA x.cc]++xI 4 d:=by unfold zf;simp[hx]
 have cb:=eF x.cc;have e3:u8 (128+vA x.cc-128)=vA x.cc:=by rw[bq];omega
 have q:wa (15::(128+vA x.cc)::(xI 4 d++rest)) (2,false)=(d,(6,false)):=ZW (pre:=[15,128+vA x.cc]) hd false rfl rfl;rw[e];show xH (15::(128+vA x.cc)::(xI 4 d++rest))=_;have p:∀(z:Int) (l:List Int),xH (15::z::l)=(⟨19,0,0,0,(jR (u8 (z-128)) (2,false)).1,0,(wa (15::z::l) (jR (u8 (z-128)) (2,false)).2).1⟩,true,(wa (15::z::l) (jR (u8 (z-128)) (2,false)).2).2):=λ_ _=>rfl;have e4:jR (vA x.cc) (2,false)=(x.cc,(2,false)):=by unfold jR;rw[HZ c0 c1]
 rw[p,e3,e4];simp only[q]
theorem zaC(hd:Go.Ar.zS d=true)(x:zF)(hx:x.op=6)(r0:0<=x.r)(r1:x.r<16):xH (zf x d++rest)=(⟨6,x.r,0,0,0,0,d⟩,true,(7,false)):=by
 have e:zf x d=[zj 72 x.r 0,141,5+x.r%8*8]++xI 4 d:=by unfold zf;simp[hx]
 generalize hbs:zf x d++rest=bs;have he:bs=zj 72 x.r 0::141::(5+x.r%8*8)::(xI 4 d++rest):=by rw[<- hbs,e];rfl
 have w:=fA x.r 0;have h1:zw bs (2,false)=(5+x.r%8*8,(3,false)):=jD (pre:=[zj 72 x.r 0,141]) false he rfl;have h2:wa bs (3,false)=(d,(7,false)):=ZW (pre:=[zj 72 x.r 0,141,5+x.r%8*8]) hd false he rfl;have hw:¬zj 72 x.r 0%2=1:=λq=>absurd (w.2.2.1 q) (by decide)
 have q:ur bs (zj 72 x.r 0) (2,false)=(⟨x.r,jW (5+x.r%8*8) (zj 72 x.r 0),false,true,d⟩,(7,false)):=by
  unfold ur;simp only[h1]
  have z:zU (decide (¬(5+x.r%8*8)%8=5)||decide (zj 72 x.r 0%2=1)) (3,false)=(3,false):=by
   rw[aaX hw,aaX (by omega)];rfl
  rw[aag (by omega),aag (by omega),aai (by omega),z,h2,fu (b:=0) r0 r1 w.2.1 (by omega)]
 rw[UP w.1 he,Ce he (by decide) (by decide) (by decide) (by decide) (by decide)];unfold uE;simp only[q];rfl
end
def zZ(r:Int):Prop:=0<=r/\r<16
inductive Ym:zF->Prop
 |mov (r m:Int):zZ r->zZ m->Ym ⟨1,r,m,0,0,0,0⟩
 |movk (r k:Int):zZ r->Go.Ar.zS k=true->Ym ⟨2,r,0,0,0,0,k⟩
 |load8 (r m k:Int):zZ r->zZ m->Go.Ar.zS k=true->Ym ⟨3,r,m,8,0,0,k⟩
 |load4 (r m k:Int):zZ r->zZ m->Go.Ar.zS k=true->Ym ⟨3,r,m,4,0,0,k⟩
 |load1 (r m k:Int):zZ r->zZ m->Go.Ar.zS k=true->Ym ⟨3,r,m,1,0,0,k⟩
 |sto8 (r m k:Int):zZ r->zZ m->Go.Ar.zS k=true->Ym ⟨4,r,m,8,0,0,k⟩
 |sto4 (r m k:Int):zZ r->zZ m->Go.Ar.zS k=true->Ym ⟨4,r,m,4,0,0,k⟩
 |sto1 (r m k:Int):zZ r->zZ m->Go.Ar.zS k=true->Ym ⟨4,r,m,1,0,0,k⟩
 |lea (r m k:Int):zZ r->zZ m->Go.Ar.zS k=true->Ym ⟨5,r,m,0,0,0,k⟩
 |Lj (r m s:Int):zZ r->zZ m->(s=11\/s=12\/s=16\/s=17\/s=18)->Ym ⟨7,r,m,s,0,0,0⟩
 |mul (r m:Int):zZ r->zZ m->Ym ⟨7,r,m,13,0,0,0⟩
 |aluk (r k s:Int):zZ r->¬r=4->Go.Ar.zS k=true->(s=11\/s=12\/s=16\/s=17\/s=18)->Ym ⟨8,r,0,s,0,0,k⟩
 |mulk (r k:Int):zZ r->Go.Ar.zS k=true->Ym ⟨8,r,0,13,0,0,k⟩
 |un (r s:Int):zZ r->(s=1\/s=2)->Ym ⟨9,r,0,s,0,0,0⟩
 |ext4 (r m:Int):zZ r->zZ m->Ym ⟨10,r,m,4,0,0,0⟩
 |ext3 (r m:Int):zZ r->zZ m->Ym ⟨10,r,m,3,0,0,0⟩
 |shift (r k s:Int):zZ r->0<=k->k<256->(s=19\/s=20)->Ym ⟨11,r,0,s,0,0,k⟩
 |shiftc (r s:Int):zZ r->(s=19\/s=20)->Ym ⟨12,r,0,s,0,0,0⟩
 |cqo:Ym ⟨13,0,0,0,0,0,0⟩
 |idiv (m:Int):zZ m->Ym ⟨14,0,m,0,0,0,0⟩
 |cmp (r m:Int):zZ r->zZ m->Ym ⟨15,r,m,0,0,0,0⟩
 |cmpk (r k:Int):zZ r->Go.Ar.zS k=true->Ym ⟨16,r,0,0,0,0,k⟩
 |set (r cc:Int):zZ r->21<=cc->cc<=26->Ym ⟨17,r,0,0,cc,0,0⟩
 |ret:Ym ⟨22,0,0,0,0,0,0⟩
 |enter (k:Int):Go.Ar.zS k=true->Ym ⟨23,0,0,0,0,0,k⟩
 |leave (k:Int):Go.Ar.zS k=true->Ym ⟨24,0,0,0,0,0,k⟩
 |inI:Ym ⟨25,0,0,0,0,0,0⟩
 |outI:Ym ⟨26,0,0,0,0,0,0⟩
theorem Mi{x:zF}(h:Ym x)(rest:List Int):∃n:Nat,xH (zf x 0++rest)=(x,false,(n,false)):=by
 cases h with
 |mov r m a b=>exact⟨_,zaz a.1 a.2 b.1 b.2⟩
 |movk r k a b=>exact⟨_,zaA a.1 a.2 b⟩
 |load8 r m k a b c=>exact⟨_,OY a.1 a.2 b.1 b.2 c⟩
 |load4 r m k a b c=>exact⟨_,OX a.1 a.2 b.1 b.2 c⟩
 |load1 r m k a b c=>exact⟨_,OW a.1 a.2 b.1 b.2 c⟩
 |sto8 r m k a b c=>exact⟨_,O1 a.1 a.2 b.1 b.2 c⟩
 |sto4 r m k a b c=>exact⟨_,O0 a.1 a.2 b.1 b.2 c⟩
 |sto1 r m k a b c=>exact⟨_,OZ a.1 a.2 b.1 b.2 c⟩
 |lea r m k a b c=>exact⟨_,zaB a.1 a.2 b.1 b.2 c⟩
 |Lj r m s a b c=>exact⟨_,zaD a.1 a.2 b.1 b.2 c⟩
 |mul r m a b=>exact⟨_,RT a.1 a.2 b.1 b.2⟩
 |aluk r k s a b c d=>exact⟨_,zaE a.1 a.2 b c d⟩
 |mulk r k a b=>exact⟨_,RU a.1 a.2 b⟩
 |un r s a b=>exact⟨_,zaF a.1 a.2 b⟩
 |ext4 r m a b=>exact⟨_,RA a.1 a.2 b.1 b.2⟩
 |ext3 r m a b=>exact⟨_,OV a.1 a.2 b.1 b.2⟩
 |shift r k s a b c d=>exact⟨_,RB a.1 a.2 b c d⟩
 |shiftc r s a b=>exact⟨_,RC a.1 a.2 b⟩
 |cqo=>exact⟨_,B0 13 153 (.inl ⟨rfl,rfl⟩)⟩
 |idiv m a=>exact⟨_,RD a.1 a.2⟩
 |cmp r m a b=>exact⟨_,RE a.1 a.2 b.1 b.2⟩
 |cmpk r k a b=>exact⟨_,RG a.1 a.2 b⟩
 |set r cc a b c=>exact⟨_,RH a.1 a.2 b c⟩
 |ret=>exact⟨_,RN⟩
 |enter k a=>exact⟨_,RO a⟩
 |leave k a=>exact⟨_,RR a⟩
 |inI=>exact⟨_,B0 25 237 (.inr (.inl ⟨rfl,rfl⟩))⟩
 |outI=>exact⟨_,B0 26 239 (.inr (.inr ⟨rfl,rfl⟩))⟩
end Go.En
namespace Go.Eb
open Go.Ai Go.Proofs
open Go.Rtl (zE zA Old inc)
open Go.As (zF)
open Go.En
def Vp(h:za)(bs:List Int)(r:aaa)(h':za):Prop:=Sat (.of h) h' [qj r bs]
section
variable {h h2:za}{b:Nat}{r m sub cc l k:Int}{J:List aaa->za->Prop}
theorem fin{v:aaa}{bs bs':List Int}{L:List HP}(s:Sat (.of h) h2 (qj v bs::L))(e:bs=bs'):Vp h bs' v h2:=by
 subst e;exact s.yG 1
theorem NT{s:Int}(h:s=11\/s=12\/s=16\/s=17\/s=18):IntKind.wrap .i64 (IntKind.wrap .u8 (Go.En.kj s/2^3))=Z2 s/\IntKind.wrap .i64 ((Go.En.kj s).fdiv (2^(min 3 (IntKind.bits .u8))))=Z2 s/\0<=Z2 s/\Z2 s<8:=by
 rcases h with rfl|rfl|rfl|rfl|rfl <;> decide
end
section
variable {h h2:za}{b:Nat}{r m sub cc l k:Int}{J:List aaa->za->Prop}
end
structure rI (x:zF):Prop where
 op:1<=x.op/\x.op<=26
 r:Go.As.sd x.op=true->zZ x.r
 m:Go.As.cN x.op=true->zZ x.m
 Lj:x.op=7\/x.op=8->x.sub=11\/x.sub=12\/x.sub=13\/x.sub=16\/x.sub=17\/x.sub=18
 siz:x.op=3\/x.op=4->x.sub=1\/x.sub=4\/x.sub=8
 un:x.op=9->x.sub=1\/x.sub=2
 ext:x.op=10->x.sub=3\/x.sub=4
 sh:x.op=11\/x.op=12->x.sub=19\/x.sub=20
 cc:x.op=17\/x.op=19->21<=x.cc/\x.cc<=26
section
variable {h:za}{x:zF}
end
theorem ah{x:zF}(h:Go.Ar.ym x=true):rI x:=by
 unfold Go.Ar.ym at h;simp only[aad,aan,aam]at h;obtain⟨a1,a2,a3,a4,a5,a6,a7⟩:=h;unfold Go.Ar.WJ at a3;unfold Go.Ar.Vs at a4;unfold Go.Ar.tailD at a7;refine⟨by omega,λe=>?_,λe=>?_,λe=>?_,λe=>?_,λe=>?_,λe=>?_,λe=>?_,λe=>?_⟩
 ·rw[e,abq,aan,aba,aam,aam]at a3;unfold zZ;omega
 ·rw[e,abq,aan,aba,aam,aam]at a4;unfold zZ;omega
 ·rcases e with e|e <;> (simp[e,Go.As.kj]at a7;omega)
 ·rcases e with e|e <;> (simp[e]at a7;omega)
 ·simp[e]at a7;omega
 ·simp[e]at a7;omega
 ·rcases e with e|e <;> (simp[e]at a7;omega)
 ·rcases e with e|e <;> (simp[e,Go.As.Yz]at a7;omega)
end Go.Eb
