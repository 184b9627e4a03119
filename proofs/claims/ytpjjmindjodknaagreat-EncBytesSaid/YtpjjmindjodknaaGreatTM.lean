import Derived.Test.YtpjjmindjodknaaGreatTL
import Derived.Test.YtpjjmindjodknaaGreatTJ
set_option linter.unusedVariables false
set_option linter.unusedSimpArgs false
set_option maxRecDepth 100000
namespace Go.Ar
open Go.Ai Go.Proofs
open Go.Rtl (zL zP Old wq xz inc rY jv YH WT get_some)
open Go.Rm (Rd Rd.of Rd.at)
open Go.As (z8 Pg ZF vV uL jg XL vQ um jC mi)
def Xk (l:List z8):Bool:=l.any fun x => !decide (x.op=20)
def kF (code:List z8) (n:Nat) (x:z8):Bool := !(decide (x.op=20) && !decide (xi code x.l 0=(n:Int))) && !(decide (x.op=18\/x.op=19) && decide (xi code x.l 0 < 0))
def jG (p:Pg) (x:z8):Bool := !(decide (x.op=21) && (decide (x.sub < 0) || decide ((p.funcs.length:Int)<=x.sub))) && !(decide (x.op=6) && (decide (x.sub < 0) || (decide ((p.globals.length:Int)<=x.sub) || (decide (x.k < 0) || decide (p.globals.getD x.sub.toNat 0 < x.k)))))
def wA (p:Pg) (code:List z8) (n:Nat) (x:z8):Bool:=xC x && (kF code n x && jG p x)
def Eg (p:Pg) (code:List z8) (n:Nat):Bool:=match code[n]? with
 | none=>true
 | some x=>wA p code n x
def U7 (p:Pg) (code:List z8):Bool:=(List.range code.length).all (Eg p code)
def QK (p:Pg) (f:Go.As.Fn):Bool:=U7 p f.code && (Xk f.code && !decide (100000 < (f.code.length:Int)))
def Y5 (p:Pg):Bool:=Go.As.uq p && (p.globals.all mi && p.funcs.all (QK p))
theorem oR {p:Pg} {code:List z8} {n:Nat} {x:z8} (hx:code[n]? = some x) (h:wA p code n x=false):U7 p code=false:=by
 have hn:n < code.length:=by
  rcases NZ n code.length with q | q
  ·exact q
  ·rw [NM q] at hx;cases hx
 unfold U7
 rw [List.all_eq_false]
 exact ⟨n,by simpa using hn,by unfold Eg;rw [hx];simp [h]⟩
theorem iB {p:Pg} {code:List z8} (h:∀ n x,n < code.length->code[n]? = some x->wA p code n x=true):U7 p code=true:=by
 unfold U7
 rw [NY]
 intro n hn
 have hn:n < code.length:=by simpa using hn
 unfold Eg
 rw [NC hn]
 exact h n _ hn (NC hn)
section
variable {p:Pg} {f:Go.As.Fn} {lo:y5} {H:za} {b1 b5:Nat} {R:Value->za->Prop} {J:List Value->za->Prop}
theorem HR (RP:Rd lo (vV · p)) (hfm:f ∈ p.funcs) (s:Sat lo H [pt b5 (.cells f.row 50),pt b1 (.cells p.row 25)]) (v:Value)
  (kb:U7 p f.code=false->∀ h,R (.bool false) h)
  (k:∀ h v,U7 p f.code=true->Sat lo h [pt b5 (.cells f.row 50),pt b1 (.cells p.row 25)]->J [v,.bool (Xk f.code)] h) :
  LP (Qu (.pointer (some ⟨b5,0,none⟩)) J R (.pointer (some ⟨b1,0,none⟩))) [v,.bool false,.int .i64 0] H:=by
 refine uY (fun n vs h' => ∃ (i:Nat) (v0:Value),i<=f.code.length/\n=f.code.length - i/\vs = [v0,.bool (Xk (f.code.take i)),.int .i64 (i:Nat)]/\(∀ m x,m < i->f.code[m]? = some x->wA p f.code m x=true)/\Sat lo h' [pt b5 (.cells f.row 50),pt b1 (.cells p.row 25)]) f.code.length ⟨0,v,Oe _,rfl,rfl,fun m x hm=>by omega,s⟩ ?_
 rintro n vs h' ⟨i,v0,hi,rfl,rfl,hall,s⟩
 have P:=RP.at s
 have F:=P.fns f hfm
 have g5:=s.get
 have cn:=F.code.Zp
 have cc:=F.code.KW
 have cl:=fun h'=>vQ F.code 3 h'
 have gvn:=P.globals.Zp
 have fvn:=P.funcs.Zp
 have gl:=fun h'=>jC P.globals 3 h'
 have fl:=fun h'=>um P.funcs 3 h'
 unfold Qu
 by_cases hc:(i:Int) < (f.code.length:Int)
 ·obtain ⟨x,hx,hxm⟩:=get_some (l:=f.code) (k:=i) (by omega)
  obtain ⟨bi,oi,ci,ti,ha,hbi,hgi,hle,htk,hki⟩:=uL F.code (i:=i) (r:=x.row) (by rw [NU,hx];rfl) rfl
  have et:f.code.take (i + 1)=f.code.take i ++ [x]:=by rw [OA,hx];rfl
  have hsn:Xk (f.code.take (i + 1))=(Xk (f.code.take i) || !decide (x.op=20)):=by rw [et];simp [Xk]
  have hin:=inc (show i < 4611686018427387904 by have:=F.gj;omega)
  have no:wA p f.code i x=false->∀ h,R (.bool false) h:=fun e=>kb (oR hx e)
  have go:wA p f.code i x=true->∀ m y,m < i + 1->f.code[m]? = some y->wA p f.code m y=true:=fun e m y hm hy=>by
   by_cases q:m=i
   ·subst q;rw [hx] at hy;cases hy;exact e
   ·exact hall m y (by omega) hy
  simp -implicitDefEqProofs only [EE,nth,Value.cells,↓z7,N5,jF,zq,qf,uP,aT,wj,dg,hc,g5,cn,cl,ha,hgi,hle,htk]
  refine ZY s fun b8 h2 s2 => ?_
  simp -implicitDefEqProofs only [EE,Nat.reduceAdd,aS]
  refine ZJ s2 (by simp) rfl fun h3 s3 => ?_
  have g8:=s3.get
  have g5:=(s3.p 1).get
  have g1:=(s3.p 2).get
  have st:=s3.drop
  have go2:wA p f.code i x=true->∀ (w:Value) (sb:Bool),sb=(Xk (f.code.take i) || !decide (x.op=20))->∃ m,m < f.code.length - i /\ ∃ (i':Nat) (v0:Value),i'<=f.code.length/\m=f.code.length - i' /\ [w,Value.bool sb,.int .i64 ((i + 1:Nat):Int)] = [v0,.bool (Xk (f.code.take i')),.int .i64 (i':Nat)]/\(∀ m x,m < i'->f.code[m]? = some x->wA p f.code m x=true)/\Sat lo h3 [pt b5 (.cells f.row 50),pt b1 (.cells p.row 25)]:=fun e w sb hsb=>
   ⟨f.code.length - (i + 1),by omega,i + 1,w,by omega,rfl,by rw [hsn,hsb],go e,st⟩
  cases hsb:Xk (f.code.take i) with
  | true=>
    rw [hsb] at go2
    simp -implicitDefEqProofs only [EE,nth,zt,N5,Nat.reduceAdd,jF,qf,ze,Qs,Qt,g8]
    refine zJ (by kernel_rfl) rfl (AL (x:=x)) ?_
    cases hR:xC x with
    | false=>
      simp -implicitDefEqProofs only [EE,yM]
      exact no (by simp [wA,hR]) _
    | true=>
      by_cases o20:x.op=20
      ·simp -implicitDefEqProofs only [EE,zt,N5,Nat.reduceAdd,jF,zq,zi,Yr,ze,x9,xf,xg,xh,yM,g8,g5,o20]
       refine zJ (by kernel_rfl) (by simp only [yB];rfl) (YI ((RP.at s3).fns f hfm) x.l) ?_
       by_cases e1:xi f.code x.l 0=(i:Int)
       ·simp -implicitDefEqProofs only [EE,nth,zt,Nat.reduceAdd,Int.reduceEq,zq,zi,ze,wt,wx,xG,xH,xI,xJ,xK,xL,xM,xN,xO,xP,xQ,xR,xS,xU,y7,y8,y9,xa,xb,xc,xe,yg,yh,yE,yF,yG,yH,yI,yJ,yK,yL,vZ,g8,hin,o20,e1]
        exact go2 (by simp [wA,kF,jG,hR,o20,e1]) _ _ (by simp)
       ·simp -implicitDefEqProofs only [EE,nth,yg,yh,yE,yF,yG,yH,yI,yJ,yK,yL,e1]
        exact no (by simp [wA,kF,jG,hR,o20,e1]) _
      by_cases o18:x.op=18
      ·simp -implicitDefEqProofs only [EE,zt,N5,Nat.reduceAdd,Int.reduceEq,jF,zq,zi,Yr,ze,x9,yE,yF,yG,yH,yI,yJ,yK,yL,xf,xg,xh,yM,g8,g5,o18]
       refine zJ (by kernel_rfl) (by simp only [yB];rfl) (YI ((RP.at s3).fns f hfm) x.l) ?_
       by_cases e1:xi f.code x.l 0 < 0
       ·simp -implicitDefEqProofs only [EE,yg,yh,e1]
        exact no (by simp [wA,kF,jG,hR,o18,e1]) _
       ·simp -implicitDefEqProofs only [EE,nth,zt,Nat.reduceAdd,Int.reduceEq,zq,zi,ze,wt,wx,xG,xH,xI,xJ,xK,xL,xM,xN,xO,xP,xQ,xR,xS,xU,y7,y8,y9,xa,xb,xc,xe,yg,yh,vZ,g8,hin,o18,e1]
        exact go2 (by simp [wA,kF,jG,hR,o18,e1]) _ _ (by simp)
      by_cases o19:x.op=19
      ·simp -implicitDefEqProofs only [EE,zt,N5,Nat.reduceAdd,Int.reduceEq,jF,zq,zi,Yr,ze,x9,yE,yF,yG,yH,yI,yJ,yK,yL,xf,xg,xh,yM,g8,g5,o19]
       refine zJ (by kernel_rfl) (by simp only [yB];rfl) (YI ((RP.at s3).fns f hfm) x.l) ?_
       by_cases e1:xi f.code x.l 0 < 0
       ·simp -implicitDefEqProofs only [EE,yg,yh,e1]
        exact no (by simp [wA,kF,jG,hR,o19,e1]) _
       ·simp -implicitDefEqProofs only [EE,nth,zt,Nat.reduceAdd,Int.reduceEq,zq,zi,ze,wt,wx,xG,xH,xI,xJ,xK,xL,xM,xN,xO,xP,xQ,xR,xS,xU,y7,y8,y9,xa,xb,xc,xe,yg,yh,vZ,g8,hin,o19,e1]
        exact go2 (by simp [wA,kF,jG,hR,o19,e1]) _ _ (by simp)
      by_cases o21:x.op=21
      ·by_cases e1:x.sub < 0
       ·simp -implicitDefEqProofs only [EE,zt,Nat.reduceAdd,Int.reduceEq,zq,zi,ze,zk,y7,y8,y9,xa,xb,xc,xe,yg,yh,yE,yF,yG,yH,yI,yJ,yK,yL,xf,xg,xh,yM,g8,o21,e1]
        exact no (by simp [wA,kF,jG,hR,o21,e1]) _
       by_cases e2:x.sub ≥ (p.funcs.length:Int)
       ·simp -implicitDefEqProofs only [EE,zt,Nat.reduceAdd,Int.reduceEq,zq,wN,zi,yo,ze,zk,y7,y8,y9,xa,xb,xc,xe,yg,yh,yE,yF,yG,yH,yI,yJ,yK,yL,xf,xg,xh,yM,g8,g1,fvn,fl,o21,e1,e2]
        have e2:(p.funcs.length:Int)<=x.sub:=e2
        exact no (by simp [wA,kF,jG,hR,o21,e2]) _
       simp -implicitDefEqProofs only [EE,nth,zt,Nat.reduceAdd,Int.reduceEq,zq,wN,zi,yo,ze,zk,wt,wx,xG,xH,xI,xJ,xK,xL,xM,xN,xO,xP,xQ,xR,xS,xU,y7,y8,y9,xa,xb,xc,xe,yg,yh,yE,yF,yG,yH,yI,yJ,yK,yL,xf,xg,xh,yM,vZ,g8,g1,fvn,fl,hin,o21,e1,e2]
       have e2:¬ (p.funcs.length:Int)<=x.sub:=e2
       exact go2 (by simp [wA,kF,jG,hR,o21,e1,e2]) _ _ (by simp)
      by_cases o6:x.op=6
      ·by_cases e1:x.sub < 0
       ·simp -implicitDefEqProofs only [EE,zt,Nat.reduceAdd,Int.reduceEq,zq,zi,ze,zk,wt,wx,xG,xH,xI,xJ,xK,xL,xM,xN,xO,xP,xQ,xR,xS,xU,y7,y8,y9,xa,xb,xc,xe,yg,yh,yE,yF,yG,yH,yI,yJ,yK,yL,xf,xg,xh,yM,g8,o6,e1]
        exact no (by simp [wA,kF,jG,hR,o6,e1]) _
       by_cases e2:x.sub ≥ (p.globals.length:Int)
       ·simp -implicitDefEqProofs only [EE,zt,Nat.reduceAdd,Int.reduceEq,zq,wL,zi,yZ,ze,zk,wt,wx,xG,xH,xI,xJ,xK,xL,xM,xN,xO,xP,xQ,xR,xS,xU,y7,y8,y9,xa,xb,xc,xe,yg,yh,yE,yF,yG,yH,yI,yJ,yK,yL,xf,xg,xh,yM,g8,g1,gvn,gl,o6,e1,e2]
        have e2:(p.globals.length:Int)<=x.sub:=e2
        exact no (by simp [wA,kF,jG,hR,o6,e2]) _
       by_cases e3:x.k < 0
       ·simp -implicitDefEqProofs only [EE,zt,Nat.reduceAdd,Int.reduceEq,zq,xA,wL,zi,yZ,ze,zk,zu,wt,wx,xG,xH,xI,xJ,xK,xL,xM,xN,xO,xP,xQ,xR,xS,xU,y7,y8,y9,xa,xb,xc,xe,yg,yh,yE,yF,yG,yH,yI,yJ,yK,yL,xf,xg,xh,yM,g8,g1,gvn,gl,o6,e1,e2,e3]
        exact no (by simp [wA,kF,jG,hR,o6,e3]) _
       obtain ⟨z,hz,hzm⟩:=get_some (l:=p.globals) (k:=x.sub.toNat) (by omega)
       obtain ⟨bz,oz,cz,tz,haz,hbz,hgz,hatz⟩:=XL (RP.at s3).globals hz
       rw [O6 (by omega)] at haz
       have hd:p.globals.getD x.sub.toNat 0=z:=by rw [Oz,hz];rfl
       by_cases e4:x.k > z
       ·simp -implicitDefEqProofs only [EE,zt,Nat.reduceAdd,Int.reduceEq,zq,xA,wL,zi,yZ,ze,zk,zu,wt,wx,xG,xH,xI,xJ,xK,xL,xM,xN,xO,xP,xQ,xR,xS,xU,y7,y8,y9,xa,xb,xc,xe,yg,yh,yE,yF,yG,yH,yI,yJ,yK,yL,xf,xg,xh,yM,g8,g1,gvn,gl,o6,e1,e2,e3,haz,hgz,hatz,e4]
        have e4:z < x.k:=e4
        exact no (by simp only [wA,kF,jG,hd];simp [hR,o6,e4]) _
       simp -implicitDefEqProofs only [EE,nth,zt,Nat.reduceAdd,Int.reduceEq,zq,xA,wL,zi,yZ,ze,zk,zu,wt,wx,xG,xH,xI,xJ,xK,xL,xM,xN,xO,xP,xQ,xR,xS,xU,y7,y8,y9,xa,xb,xc,xe,yg,yh,yE,yF,yG,yH,yI,yJ,yK,yL,xf,xg,xh,yM,vZ,g8,g1,gvn,gl,hin,o6,e1,e2,e3,haz,hgz,hatz,e4]
       have e4:¬ z < x.k:=e4
       have e2:¬ (p.globals.length:Int)<=x.sub:=e2
       exact go2 (by simp only [wA,kF,jG,hd];simp [hR,o6,e1,e2,e3,e4]) _ _ (by simp)
      simp -implicitDefEqProofs only [EE,nth,zt,Nat.reduceAdd,zq,zi,ze,wt,wx,xG,xH,xI,xJ,xK,xL,xM,xN,xO,xP,xQ,xR,xS,xU,y7,y8,y9,xa,xb,xc,xe,yg,yh,yE,yF,yG,yH,yI,yJ,yK,yL,xf,xg,xh,yM,vZ,g8,hin,o20,o18,o19,o21,o6]
      exact go2 (by simp [wA,kF,jG,hR,o20,o18,o19,o21,o6]) _ _ (by simp)
  | false=>
    rw [hsb] at go2
    simp -implicitDefEqProofs only [EE,nth,zt,N5,Nat.reduceAdd,jF,zq,zi,qf,ze,Qs,Qt,g8]
    refine zJ (by kernel_rfl) rfl (AL (x:=x)) ?_
    cases hR:xC x with
    | false=>
      simp -implicitDefEqProofs only [EE,yM]
      exact no (by simp [wA,hR]) _
    | true=>
      by_cases o20:x.op=20
      ·simp -implicitDefEqProofs only [EE,zt,N5,Nat.reduceAdd,jF,zq,zi,Yr,ze,x9,xf,xg,xh,yM,g8,g5,o20]
       refine zJ (by kernel_rfl) (by simp only [yB];rfl) (YI ((RP.at s3).fns f hfm) x.l) ?_
       by_cases e1:xi f.code x.l 0=(i:Int)
       ·simp -implicitDefEqProofs only [EE,nth,zt,Nat.reduceAdd,Int.reduceEq,zq,zi,ze,wt,wx,xG,xH,xI,xJ,xK,xL,xM,xN,xO,xP,xQ,xR,xS,xU,y7,y8,y9,xa,xb,xc,xe,yg,yh,yE,yF,yG,yH,yI,yJ,yK,yL,vZ,g8,hin,o20,e1]
        exact go2 (by simp [wA,kF,jG,hR,o20,e1]) _ _ (by simp [o20])
       ·simp -implicitDefEqProofs only [EE,nth,yg,yh,yE,yF,yG,yH,yI,yJ,yK,yL,e1]
        exact no (by simp [wA,kF,jG,hR,o20,e1]) _
      by_cases o18:x.op=18
      ·simp -implicitDefEqProofs only [EE,zt,N5,Nat.reduceAdd,Int.reduceEq,jF,zq,zi,Yr,ze,x9,yE,yF,yG,yH,yI,yJ,yK,yL,xf,xg,xh,yM,g8,g5,o18]
       refine zJ (by kernel_rfl) (by simp only [yB];rfl) (YI ((RP.at s3).fns f hfm) x.l) ?_
       by_cases e1:xi f.code x.l 0 < 0
       ·simp -implicitDefEqProofs only [EE,yg,yh,e1]
        exact no (by simp [wA,kF,jG,hR,o18,e1]) _
       ·simp -implicitDefEqProofs only [EE,nth,zt,Nat.reduceAdd,Int.reduceEq,zq,zi,ze,wt,wx,xG,xH,xI,xJ,xK,xL,xM,xN,xO,xP,xQ,xR,xS,xU,y7,y8,y9,xa,xb,xc,xe,yg,yh,vZ,g8,hin,o18,e1]
        exact go2 (by simp [wA,kF,jG,hR,o18,e1]) _ _ (by simp [o18])
      by_cases o19:x.op=19
      ·simp -implicitDefEqProofs only [EE,zt,N5,Nat.reduceAdd,Int.reduceEq,jF,zq,zi,Yr,ze,x9,yE,yF,yG,yH,yI,yJ,yK,yL,xf,xg,xh,yM,g8,g5,o19]
       refine zJ (by kernel_rfl) (by simp only [yB];rfl) (YI ((RP.at s3).fns f hfm) x.l) ?_
       by_cases e1:xi f.code x.l 0 < 0
       ·simp -implicitDefEqProofs only [EE,yg,yh,e1]
        exact no (by simp [wA,kF,jG,hR,o19,e1]) _
       ·simp -implicitDefEqProofs only [EE,nth,zt,Nat.reduceAdd,Int.reduceEq,zq,zi,ze,wt,wx,xG,xH,xI,xJ,xK,xL,xM,xN,xO,xP,xQ,xR,xS,xU,y7,y8,y9,xa,xb,xc,xe,yg,yh,vZ,g8,hin,o19,e1]
        exact go2 (by simp [wA,kF,jG,hR,o19,e1]) _ _ (by simp [o19])
      by_cases o21:x.op=21
      ·by_cases e1:x.sub < 0
       ·simp -implicitDefEqProofs only [EE,zt,Nat.reduceAdd,Int.reduceEq,zq,zi,ze,zk,y7,y8,y9,xa,xb,xc,xe,yg,yh,yE,yF,yG,yH,yI,yJ,yK,yL,xf,xg,xh,yM,g8,o21,e1]
        exact no (by simp [wA,kF,jG,hR,o21,e1]) _
       by_cases e2:x.sub ≥ (p.funcs.length:Int)
       ·simp -implicitDefEqProofs only [EE,zt,Nat.reduceAdd,Int.reduceEq,zq,wN,zi,yo,ze,zk,y7,y8,y9,xa,xb,xc,xe,yg,yh,yE,yF,yG,yH,yI,yJ,yK,yL,xf,xg,xh,yM,g8,g1,fvn,fl,o21,e1,e2]
        have e2:(p.funcs.length:Int)<=x.sub:=e2
        exact no (by simp [wA,kF,jG,hR,o21,e2]) _
       simp -implicitDefEqProofs only [EE,nth,zt,Nat.reduceAdd,Int.reduceEq,zq,wN,zi,yo,ze,zk,wt,wx,xG,xH,xI,xJ,xK,xL,xM,xN,xO,xP,xQ,xR,xS,xU,y7,y8,y9,xa,xb,xc,xe,yg,yh,yE,yF,yG,yH,yI,yJ,yK,yL,xf,xg,xh,yM,vZ,g8,g1,fvn,fl,hin,o21,e1,e2]
       have e2:¬ (p.funcs.length:Int)<=x.sub:=e2
       exact go2 (by simp [wA,kF,jG,hR,o21,e1,e2]) _ _ (by simp [o21])
      by_cases o6:x.op=6
      ·by_cases e1:x.sub < 0
       ·simp -implicitDefEqProofs only [EE,zt,Nat.reduceAdd,Int.reduceEq,zq,zi,ze,zk,wt,wx,xG,xH,xI,xJ,xK,xL,xM,xN,xO,xP,xQ,xR,xS,xU,y7,y8,y9,xa,xb,xc,xe,yg,yh,yE,yF,yG,yH,yI,yJ,yK,yL,xf,xg,xh,yM,g8,o6,e1]
        exact no (by simp [wA,kF,jG,hR,o6,e1]) _
       by_cases e2:x.sub ≥ (p.globals.length:Int)
       ·simp -implicitDefEqProofs only [EE,zt,Nat.reduceAdd,Int.reduceEq,zq,wL,zi,yZ,ze,zk,wt,wx,xG,xH,xI,xJ,xK,xL,xM,xN,xO,xP,xQ,xR,xS,xU,y7,y8,y9,xa,xb,xc,xe,yg,yh,yE,yF,yG,yH,yI,yJ,yK,yL,xf,xg,xh,yM,g8,g1,gvn,gl,o6,e1,e2]
        have e2:(p.globals.length:Int)<=x.sub:=e2
        exact no (by simp [wA,kF,jG,hR,o6,e2]) _
       by_cases e3:x.k < 0
       ·simp -implicitDefEqProofs only [EE,zt,Nat.reduceAdd,Int.reduceEq,zq,xA,wL,zi,yZ,ze,zk,zu,wt,wx,xG,xH,xI,xJ,xK,xL,xM,xN,xO,xP,xQ,xR,xS,xU,y7,y8,y9,xa,xb,xc,xe,yg,yh,yE,yF,yG,yH,yI,yJ,yK,yL,xf,xg,xh,yM,g8,g1,gvn,gl,o6,e1,e2,e3]
        exact no (by simp [wA,kF,jG,hR,o6,e3]) _
       obtain ⟨z,hz,hzm⟩:=get_some (l:=p.globals) (k:=x.sub.toNat) (by omega)
       obtain ⟨bz,oz,cz,tz,haz,hbz,hgz,hatz⟩:=XL (RP.at s3).globals hz
       rw [O6 (by omega)] at haz
       have hd:p.globals.getD x.sub.toNat 0=z:=by rw [Oz,hz];rfl
       by_cases e4:x.k > z
       ·simp -implicitDefEqProofs only [EE,zt,Nat.reduceAdd,Int.reduceEq,zq,xA,wL,zi,yZ,ze,zk,zu,wt,wx,xG,xH,xI,xJ,xK,xL,xM,xN,xO,xP,xQ,xR,xS,xU,y7,y8,y9,xa,xb,xc,xe,yg,yh,yE,yF,yG,yH,yI,yJ,yK,yL,xf,xg,xh,yM,g8,g1,gvn,gl,o6,e1,e2,e3,haz,hgz,hatz,e4]
        have e4:z < x.k:=e4
        exact no (by simp only [wA,kF,jG,hd];simp [hR,o6,e4]) _
       simp -implicitDefEqProofs only [EE,nth,zt,Nat.reduceAdd,Int.reduceEq,zq,xA,wL,zi,yZ,ze,zk,zu,wt,wx,xG,xH,xI,xJ,xK,xL,xM,xN,xO,xP,xQ,xR,xS,xU,y7,y8,y9,xa,xb,xc,xe,yg,yh,yE,yF,yG,yH,yI,yJ,yK,yL,xf,xg,xh,yM,vZ,g8,g1,gvn,gl,hin,o6,e1,e2,e3,haz,hgz,hatz,e4]
       have e4:¬ z < x.k:=e4
       have e2:¬ (p.globals.length:Int)<=x.sub:=e2
       exact go2 (by simp only [wA,kF,jG,hd];simp [hR,o6,e1,e2,e3,e4]) _ _ (by simp [o6])
      simp -implicitDefEqProofs only [EE,nth,zt,Nat.reduceAdd,zq,zi,ze,wt,wx,xG,xH,xI,xJ,xK,xL,xM,xN,xO,xP,xQ,xR,xS,xU,y7,y8,y9,xa,xb,xc,xe,yg,yh,yE,yF,yG,yH,yI,yJ,yK,yL,xf,xg,xh,yM,vZ,g8,hin,o20,o18,o19,o21,o6]
      exact go2 (by simp [wA,kF,jG,hR,o20,o18,o19,o21,o6]) _ _ (by simp [o20])
 ·have e:i=f.code.length:=by omega
  subst e
  rw [OE]
  simp -implicitDefEqProofs only [EE,nth,zq,uP,wj,hc,g5,cn,cl]
  exact k h' v0 (iB fun n x hn hx=>hall n x hn hx) s
end
open Go.As (uq)
section
variable {p:Pg} {lo:y5} {H:za} {b1:Nat}
theorem FM (RP:Rd lo (vV · p)) (s:Sat lo H [pt b1 (.cells p.row 25)]) {B:Bool} (hB:B=p.funcs.all (QK p)) (v:Value):LP (Qv (.pointer (some ⟨b1,0,none⟩)) (fun vs76 h77=>xz B (.bool true) h77) (xz B)) [v,.int .i64 0] H:=by
 refine uY (fun n vs h' => ∃ (i:Nat) (v0:Value),i<=p.funcs.length/\n=p.funcs.length - i/\vs = [v0,.int .i64 (i:Nat)]/\(∀ k,k < i->rY p.funcs (QK p) k=true)/\Sat lo h' [pt b1 (.cells p.row 25)])
  p.funcs.length ⟨0,v,Oe _,rfl,rfl,fun k hk=>by omega,s⟩ ?_
 rintro n vs h' ⟨i,v0,hi,rfl,rfl,hall,s⟩
 have P:=RP.at s
 have g1:=s.get
 have fvn:=P.funcs.Zp
 have fl:=fun h'=>um P.funcs 3 h'
 unfold Qv
 by_cases hc:(i:Int) < (p.funcs.length:Int)
 ·obtain ⟨f,hf,hfm⟩:=get_some (l:=p.funcs) (k:=i) (by omega)
  obtain ⟨bi,oi,ci,ti,ha,hbi,hgi,hle,htk,_⟩:=jg P.funcs (i:=i) (r:=f.row) (by rw [NU,hf];rfl) rfl
  have cvn:=(P.fns f hfm).code.Zp
  have cvc:=(P.fns f hfm).code.KW
  have cl:=fun h'=>vQ (P.fns f hfm).code 3 h'
  have hin:=inc (show i < 4611686018427387904 by have:=P.Cd;omega)
  have no:QK p f=false->B=false:=fun e=>by rw [hB,YH hf e]
  simp -implicitDefEqProofs only [EE,nth,Value.cells,↓z7,N5,jF,zq,wN,Yr,eu,yo,di,hc,g1,fvn,fl,ha,hgi,hle,htk]
  refine ZY s fun b5 h2 s2 => ?_
  simp -implicitDefEqProofs only [EE,Nat.reduceAdd,dZ]
  refine ZJ s2 (by simp) (by simp [cvc];rfl) fun h3 s3 => ?_
  simp -implicitDefEqProofs only [nth,↓z7]
  refine HR RP hfm s3 _ (fun e h => ?_) (fun h4 w hgood s4 => ?_)
  ·show Value.bool false = .bool B
   rw [no (by unfold QK;rw [e];rfl)]
  ·have g5:=s4.get
   unfold dh
   cases hs:Xk f.code with
   | false=>
     simp -implicitDefEqProofs only [EE,nth,WB,WC,WD]
     rw [no (by unfold QK;simp [hs])];rfl
   | true=>
     by_cases c1:(f.code.length:Int) > 100000
     ·simp -implicitDefEqProofs only [EE,nth,zq,uP,wj,WB,WC,WD,g5,cvn,cl,c1]
      rw [no (by have c1:100000 < (f.code.length:Int):=c1;unfold QK;simp [c1])];rfl
     ·simp -implicitDefEqProofs only [EE,nth,zq,uP,wj,WB,WC,WD,dk,g5,cvn,cl,c1,hin]
      exact ⟨p.funcs.length - (i + 1),by omega,i + 1,_,by omega,rfl,rfl,fun k hk=>(by
       by_cases q:k=i
       ·subst q;rw [WT hf];have c1:¬ 100000 < (f.code.length:Int):=c1;unfold QK;simp [hgood,hs,c1]
       ·exact hall k (by omega)),s4.k [1]⟩
 ·have hi9:i=p.funcs.length:=by omega
  subst hi9
  simp -implicitDefEqProofs only [EE,nth,zq,wN,yo,hc,g1,fvn,fl]
  rw [hB,jv hall];rfl
theorem FO (RP:Rd lo (vV · p)) (s:Sat lo H [pt b1 (.cells p.row 25)]) {B:Bool} (hB:B=(p.globals.all mi && p.funcs.all (QK p))) {vs:List Value}:Qw (.pointer (some ⟨b1,0,none⟩)) (xz B) vs H:=by
 unfold Qw
 simp -implicitDefEqProofs only [↓z7]
 refine uY (fun n vs h' => ∃ (i:Nat) (v0:Value),i<=p.globals.length/\n=p.globals.length - i/\vs = [v0,.int .i64 (i:Nat)]/\(∀ k,k < i->rY p.globals mi k=true)/\Sat lo h' [pt b1 (.cells p.row 25)])
  p.globals.length ⟨0,nth vs 0,Oe _,rfl,rfl,fun k hk=>by omega,s⟩ ?_
 rintro n vs h' ⟨i,v0,hi,rfl,rfl,hall,s⟩
 have P:=RP.at s
 have g1:=s.get
 have gvn:=P.globals.Zp
 have gl:=fun h'=>jC P.globals 3 h'
 unfold hQ
 by_cases hc:(i:Int) < (p.globals.length:Int)
 ·obtain ⟨z,hz,hzm⟩:=get_some (l:=p.globals) (k:=i) (by omega)
  obtain ⟨bi,oi,ci,ti,ha,hbi,hgi,hat⟩:=XL P.globals hz
  have no:mi z=false->B=false:=fun e=>by rw [hB,YH hz e];rfl
  have hin:=inc (show i < 4611686018427387904 by have:=P.pf;omega)
  by_cases z0:z < 0
  ·simp -implicitDefEqProofs only [EE,nth,↓z7,zq,wL,zi,yZ,Ue,Uf,Ug,Uh,Ui,hc,g1,gvn,gl,ha,hgi,hat,z0]
   rw [no (by unfold mi;simp [z0])];rfl
  by_cases z1:z > 65536
  ·simp -implicitDefEqProofs only [EE,nth,↓z7,zq,wL,zi,yZ,Ue,Uf,Ug,Uh,Ui,hc,g1,gvn,gl,ha,hgi,hat,z0,z1]
   rw [no (by have z1:65536 < z:=z1;unfold mi;simp [z1])];rfl
  simp -implicitDefEqProofs only [EE,nth,↓z7,zq,wL,zi,yZ,Ue,Uf,Ug,Uh,Ui,hP,hc,g1,gvn,gl,ha,hgi,hat,z0,z1,hin]
  exact ⟨p.globals.length - (i + 1),by omega,i + 1,_,by omega,rfl,rfl,fun k hk=>(by
   by_cases q:k=i
   ·subst q;rw [WT hz];have z1:¬ 65536 < z:=z1;unfold mi;simp [z0,z1]
   ·exact hall k (by omega)),s⟩
 ·have hi9:i=p.globals.length:=by omega
  subst hi9
  simp -implicitDefEqProofs only [EE,nth,↓z7,zq,wL,yZ,hc,g1,gvn,gl]
  refine FM (B:=B) RP s ?_ _
  rw [hB,jv hall];rfl
theorem l7 {h:za} (P:vV h p):wV Tryz.prog 11 [p.val] h (.bool (Y5 p)):=by
 apply wq
 replace P:=P.lock
 generalize h.lock=L at P
 apply jY;intro wf
 apply rH
 unfold tB
 have s0:Sat (.of L) L []:=Sat.self wf.2
 have RP:Rd (.of L) (vV · p):=Rd.of (y5.Zz L) P fun h' o=>P.old o
 have gvn:=P.globals.Zp
 have fvn:=P.funcs.Zp
 have gvc:=P.globals.KW
 have fvc:=P.funcs.KW
 have fl:=fun h'=>um P.funcs 3 h'
 have gl:=fun h'=>jC P.globals 3 h'
 simp -implicitDefEqProofs only [EE,Value.cells]
 refine ZY s0 fun b1 h2 s2 => ?_
 have g1:=s2.get
 have no:uq p=false->Y5 p=false:=fun e=>by unfold Y5;rw [e];rfl
 by_cases c4:(p.globals.length:Int) > 200
 ·simp -implicitDefEqProofs only [EE,zq,wL,yZ,kQ,kR,kS,kT,kU,kV,kW,kX,kY,kZ,k7,g1,gvn,gl,c4]
  rw [no (by have c4:(200:Int) < p.globals.length:=c4;unfold uq;simp [c4])];rfl
 by_cases c3:(p.funcs.length:Int) > 100
 ·simp -implicitDefEqProofs only [EE,zq,wL,wN,yZ,yo,kQ,kR,kS,kT,kU,kV,kW,kX,kY,kZ,k7,g1,fvn,fl,gvn,gl,c4,c3]
  rw [no (by have c3:(100:Int) < p.funcs.length:=c3;unfold uq;simp [c3])];rfl
 by_cases c1:p.main < 0
 ·simp -implicitDefEqProofs only [EE,zq,wL,wN,zi,yZ,yo,ug,kQ,kR,kS,kT,kU,kV,kW,kX,kY,kZ,k7,g1,fvn,fl,gvn,gl,c4,c3,c1]
  rw [no (by unfold uq;simp [c1])];rfl
 by_cases c2:p.main ≥ (p.funcs.length:Int)
 ·simp -implicitDefEqProofs only [EE,zq,wL,wN,zi,yZ,yo,ug,kQ,kR,kS,kT,kU,kV,kW,kX,kY,kZ,k7,g1,fvn,fl,gvn,gl,c4,c3,c1,c2]
  rw [no (by have c2:(p.funcs.length:Int)<=p.main:=c2;unfold uq;simp [c2])];rfl
 by_cases c5:p.params < 0
 ·simp -implicitDefEqProofs only [EE,zq,wL,wN,zi,yZ,yo,ug,kL,kQ,kR,kS,kT,kU,kV,kW,kX,kY,kZ,k7,g1,fvn,fl,gvn,gl,c4,c3,c1,c2,c5]
  rw [no (by unfold uq;simp [c5])];rfl
 by_cases c6:p.params > 6
 ·simp -implicitDefEqProofs only [EE,zq,wL,wN,zi,yZ,yo,ug,kL,kQ,kR,kS,kT,kU,kV,kW,kX,kY,kZ,k7,g1,fvn,fl,gvn,gl,c4,c3,c1,c2,c5,c6]
  rw [no (by have c6:6 < p.params:=c6;unfold uq;simp [c6])];rfl
 simp -implicitDefEqProofs only [EE,zq,wL,wN,zi,yZ,yo,ug,kL,kQ,kR,kS,kT,kU,kV,kW,kX,kY,kZ,k7,g1,fvn,fl,gvn,gl,c4,c3,c1,c2,c5,c6]
 refine FO RP s2 ?_
 have hs:uq p=true:=by
  have c2:¬ (p.funcs.length:Int)<=p.main:=c2
  have c3:¬ (100:Int) < p.funcs.length:=c3
  have c4:¬ (200:Int) < p.globals.length:=c4
  have c6:¬ 6 < p.params:=c6
  unfold uq;simp [c1,c2,c3,c4,c5,c6]
 unfold Y5
 rw [hs];rfl
end
open Go.As (kf JK ZG Y9 fh kG hasB VP mq Jg Wl ue jw ZI ZB yd)
theorem wS (k:Int):VP k=uN k:=by
 unfold VP uN
 rw [Pt]
 simp only [N8,ND,IntKind.wrap,IntKind.bits,IntKind.signed]
 simp
 omega
theorem ml (m:List (Int × Value)) (a l:Int):hasB (Xl m a (.bool true)) l=(decide (a=l) || hasB m l):=by
 unfold hasB
 rw [VT]
 by_cases h:a=l
 ·rw [NK h];simp [h]
 ·rw [NJ h];simp [h]
def kg (l:Int) (x:z8):Bool:=decide (x.op=20/\x.l=l)
def VO:List z8->List (Int × Value)->Bool
 | [],_=>true
 | x :: xs,m=>if x.op=20 then !hasB m x.l && VO xs (Xl m x.l (.bool true)) else VO xs m
def dU:List z8->List (Int × Value)->List (Int × Value)
 | [],m=>m
 | x :: xs,m=>if x.op=20 then dU xs (Xl m x.l (.bool true)) else dU xs m
theorem mG (gl:List Int):∀ (xs:List z8) (m:List (Int × Value)) (b:Bool),kG gl xs m b=if (xs.all (ZG gl) && VO xs m)=true then some (dU xs m,b || Xk xs) else none
 | [],m,b=>by simp [kG,VO,dU,Xk]
 | x :: xs,m,b=>by
   unfold kG VO dU
   by_cases h1:ZG gl x=false
   ·rw [NK h1];simp [h1]
   have h1':ZG gl x=true:=by simpa using h1
   rw [NJ h1]
   by_cases h2:x.op=20
   ·rw [NK h2,NK h2,NK h2]
    by_cases h3:hasB m x.l=true
    ·rw [NK h3];simp [h3]
    ·have h3':hasB m x.l=false:=by simpa using h3
     rw [NJ h3,mG gl xs]
     simp [h1',h3',Xk,h2]
   ·rw [NJ h2,NJ h2,NJ h2,mG gl xs]
    simp [h1',Xk,h2]
theorem has_add:∀ (xs:List z8) (m:List (Int × Value)) (l:Int),hasB (dU xs m) l=(hasB m l || xs.any (kg l))
 | [],m,l=>by simp [dU]
 | x :: xs,m,l=>by
   unfold dU
   by_cases h:x.op=20
   ·rw [NK h,has_add xs,ml]
    simp [kg,h,Bool.or_assoc,Bool.or_comm,Bool.or_left_comm]
   ·rw [NJ h,has_add xs]
    simp [kg,h]
theorem eF:∀ (xs:List z8) (m:List (Int × Value)),VO xs m=true ↔ ∀ (n:Nat) x,xs[n]? = some x->x.op=20->hasB m x.l=false /\ ∀ (j:Nat) y,j < n->xs[j]? = some y->kg x.l y=false
 | [],m=>by simp [VO]
 | x :: xs,m=>by
   unfold VO
   have ih:=fun m'=>eF xs m'
   by_cases h:x.op=20
   ·rw [NK h,ND,ih]
    constructor
    ·rintro ⟨h1,h2⟩ n y hy ho
     cases n with
     | zero=>simp only [NV,Nz] at hy;subst hy;exact ⟨by simpa using h1,fun j z hj=>by omega⟩
     | succ n=>
       simp only [Oa] at hy
       obtain ⟨a,b⟩:=h2 n y hy ho
       rw [ml] at a
       simp only [OL,NP] at a
       refine ⟨a.2,fun j z hj hz => ?_⟩
       cases j with
       | zero=>simp only [NV,Nz] at hz;subst hz;simp [kg,h,a.1]
       | succ j=>simp only [Oa] at hz;exact b j z (by omega) hz
    ·intro H
     refine ⟨by have:=(H 0 x rfl h).1;simp [this],fun n y hy ho => ?_⟩
     obtain ⟨a,b⟩:=H (n + 1) y (by simpa using hy) ho
     rw [ml]
     have c:=b 0 x (by omega) rfl
     refine ⟨?_,fun j z hj hz=>b (j + 1) z (by omega) (by simpa using hz)⟩
     have c:¬ x.l=y.l:=by simpa [kg,h] using c
     simp [a,c]
   ·rw [NJ h,ih]
    constructor
    ·intro H n y hy ho
     cases n with
     | zero=>simp only [NV,Nz] at hy;subst hy;exact absurd ho h
     | succ n=>
       simp only [Oa] at hy
       obtain ⟨a,b⟩:=H n y hy ho
       refine ⟨a,fun j z hj hz => ?_⟩
       cases j with
       | zero=>simp only [NV,Nz] at hz;subst hz;simp [kg,h]
       | succ j=>simp only [Oa] at hz;exact b j z (by omega) hz
    ·intro H n y hy ho
     obtain ⟨a,b⟩:=H (n + 1) y (by simpa using hy) ho
     exact ⟨a,fun j z hj hz=>b (j + 1) z (by omega) (by simpa using hz)⟩
theorem Wa:∀ (xs:List z8) (l:Int) (k:Nat),(xi xs l k = -1/\xs.any (kg l)=false) \/ ∃ j:Nat,xi xs l k=((k + j:Nat):Int)/\(∃ x,xs[j]? = some x/\kg l x=true) /\ ∀ (i:Nat) y,i < j->xs[i]? = some y->kg l y=false
 | [],l,k => .inl ⟨rfl,rfl⟩
 | x :: xs,l,k=>by
   unfold xi
   by_cases h:x.op=20/\x.l=l
   ·rw [NK h]
    exact .inr ⟨0,rfl,⟨x,rfl,by unfold kg;exact Ol h⟩,fun i y hi=>by omega⟩
   ·rw [NJ h]
    have hx:kg l x=false:=by unfold kg;exact OC h
    rcases Wa xs l (k + 1) with ⟨a,b⟩ | ⟨j,a,⟨y,hy,hl⟩,b⟩
    ·exact .inl ⟨a,by simp [hx,b]⟩
    ·refine .inr ⟨j + 1,by rw [a];omega,⟨y,by simpa using hy,hl⟩,fun i z hi hz => ?_⟩
     cases i with
     | zero=>simp only [NV,Nz] at hz;subst hz;exact hx
     | succ i=>exact b i z (by omega) (by simpa using hz)
theorem eN {code:List z8} {n:Nat} {x:z8} (hx:code[n]? = some x) (h:x.op=20):(xi code x.l 0=(n:Int)) ↔ ∀ (j:Nat) y,j < n->code[j]? = some y->kg x.l y=false:=by
 have hl:kg x.l x=true:=by simp [kg,h]
 rcases Wa code x.l 0 with ⟨a,b⟩ | ⟨j,a,⟨y,hy,hyl⟩,b⟩
 ·rw [List.any_eq_false] at b
  exact absurd hl (b x (NQ hx))
 ·rw [a]
  constructor
  ·intro q
   have:j=n:=by omega
   subst this
   exact b
  ·intro q
   rcases Nat.lt_trichotomy j n with c | c | c
   ·have:=q j y c hy;rw [this] at hyl;cases hyl
   ·omega
   ·have:=b n x c hx;rw [this] at hl;cases hl
theorem JJ (code:List z8) (l:Int):(xi code l 0 < 0) ↔ code.any (kg l)=false:=by
 rcases Wa code l 0 with ⟨a,b⟩ | ⟨j,a,⟨y,hy,hyl⟩,b⟩
 ·rw [a,b];simp
 ·rw [a]
  have:code.any (kg l)=true:=List.any_eq_true.2 ⟨y,NQ hy,hyl⟩
  rw [this]
  constructor
  ·intro q;omega
  ·intro q;cases q
theorem L7 {op:Int} (h:Wl op=true):mq op=true:=by
 unfold Wl at h
 unfold mq
 simp only [N8] at h ⊢
 omega
theorem Ge (x:z8):ZB x=(Xg x && (XR x && (UG x && bw x))):=by
 unfold ZB Xg XR UG bw
 have hw := @L7 x.op
 generalize mq x.op=R at hw ⊢
 generalize Wl x.op=W at hw ⊢
 generalize Jg x.op=M
 generalize ue x.op=F
 rw [Pt]
 cases R <;> cases W <;> cases M <;> cases F <;> simp at hw ⊢ <;> omega
def kM (x:z8):Bool := !decide (x.op=18\/x.op=19) || (decide (0<=x.l) && decide (x.l<=10000000))
def Xb (gl:List Int) (x:z8):Bool := !(decide (x.op=6) && (decide (x.sub < 0) || (decide ((gl.length:Int)<=x.sub) || (decide (x.k < 0) || decide (gl.getD x.sub.toNat 0 < x.k)))))
theorem Gq (gl:List Int) (x:z8):(yd gl x && kM x)=(tailD x && Xb gl x):=by
 obtain ⟨op,r,m,sub,cc,l,k⟩:=x
 by_cases o3:op=3
 ·subst o3;simp [yd,tailD,kM,Xb,wS]
 by_cases o4:op=4
 ·subst o4;simp [yd,tailD,kM,Xb,wS]
 by_cases o5:op=5
 ·subst o5;simp [yd,tailD,kM,Xb,wS]
 by_cases o16:op=16
 ·subst o16;simp [yd,tailD,kM,Xb,wS]
 by_cases o7:op=7
 ·subst o7;simp [yd,tailD,kM,Xb,wS]
 by_cases o8:op=8
 ·subst o8;simp [yd,tailD,kM,Xb,wS]
 by_cases o9:op=9
 ·subst o9;simp [yd,tailD,kM,Xb,wS]
 by_cases o10:op=10
 ·subst o10;simp [yd,tailD,kM,Xb,wS]
 by_cases o11:op=11
 ·subst o11;simp [yd,tailD,kM,Xb,wS]
 by_cases o12:op=12
 ·subst o12;simp [yd,tailD,kM,Xb,wS]
 by_cases o17:op=17
 ·subst o17;simp [yd,tailD,kM,Xb,wS]
 by_cases o19:op=19
 ·subst o19;simp [yd,tailD,kM,Xb,wS]
 by_cases o18:op=18
 ·subst o18;simp [yd,tailD,kM,Xb,wS]
 by_cases o20:op=20
 ·subst o20;simp [yd,tailD,kM,Xb,wS]
 by_cases o23:op=23
 ·subst o23;simp [yd,tailD,kM,Xb,wS]
 by_cases o24:op=24
 ·subst o24;simp [yd,tailD,kM,Xb,wS]
 by_cases o6:op=6
 ·subst o6
  rw [Pt]
  simp [yd,tailD,kM,Xb]
 simp [yd,tailD,kM,Xb,o3,o4,o5,o16,o7,o8,o9,o10,o11,o12,o17,o19,o18,o20,o23,o24,o6]
theorem H0 (gl:List Int) (x:z8):(ZG gl x && kM x)=(xC x && Xb gl x):=by
 have t:=Gq gl x
 unfold ZG xC
 rw [Ge]
 have a:decide (1<=x.op) = !decide (x.op < 1):=by rw [Pt];simp
 have b:decide (x.op<=26) = !decide (26 < x.op):=by rw [Pt];simp
 rw [a,b]
 generalize yd gl x=T at t ⊢
 generalize kM x=J at t ⊢
 generalize tailD x=D at t ⊢
 generalize Xb gl x=L at t ⊢
 generalize decide (x.op < 1)=U
 generalize decide (26 < x.op)=V
 cases Xg x <;> cases XR x <;> cases UG x <;> cases bw x <;> cases U <;> cases V <;> simp
 exact t
theorem AJ (p:Pg) (x:z8):jG p x=(!(decide (x.op=21) && (decide (x.sub < 0) || decide ((p.funcs.length:Int)<=x.sub))) && Xb p.globals x):=rfl
theorem po {gl:List Int} {x:z8}:(ZG gl x=true/\kM x=true) ↔ (xC x=true/\Xb gl x=true):=by
 have:=H0 gl x
 rw [<- ND,<- ND,this]
theorem Cp {gl:List Int} {y:z8} {l:Int} (h:ZG gl y=true) (hl:kg l y=true):0<=l/\l<=10000000:=by
 unfold kg at hl
 have hl:=Oj hl
 unfold ZG at h
 simp only [ND] at h
 obtain ⟨_,_,_,h⟩:=h
 unfold yd at h
 simp [hl.1,hl.2] at h
 exact h
theorem Fz (p:Pg) (code:List z8):(code.all (ZG p.globals) && VO code [] && code.all (Y9 p.funcs.length (dU code [])))=U7 p code:=by
 rw [Pt]
 simp only [ND,NY]
 have hany:∀ l,hasB (dU code []) l=code.any (kg l):=fun l=>by rw [has_add];rfl
 constructor
 ·rintro ⟨⟨h1,h2⟩,h3⟩
  refine iB fun n x hn hx => ?_
  have hm:=NQ hx
  have i:=h1 x hm
  have hp:=h3 x hm
  unfold Y9 at hp
  rw [hany] at hp
  simp only [ND,NN] at hp
  obtain ⟨p1,p2⟩:=hp
  have jp:(x.op=18\/x.op=19)->code.any (kg x.l)=true:=fun q=>by
   rw [Ol q] at p1
   simpa using p1
  have j:kM x=true:=by
   unfold kM
   by_cases q:x.op=18\/x.op=19
   ·obtain ⟨y,hy,hyl⟩:=List.any_eq_true.1 (jp q)
    have:=Cp (h1 y hy) hyl
    simp [this]
   ·simp [q]
  obtain ⟨d,le⟩:=po.1 ⟨i,j⟩
  unfold wA
  rw [d,AJ,le,PL,OX]
  have lb:kF code n x=true:=by
   unfold kF
   have a:(decide (x.op=20) && !decide (xi code x.l 0=(n:Int)))=false:=by
    by_cases q:x.op=20
    ·have:=((eF code []).1 h2 n x hx q).2
     rw [Ol ((eN hx q).2 this)];simp
    ·simp [q]
   have b:(decide (x.op=18\/x.op=19) && decide (xi code x.l 0 < 0))=false:=by
    by_cases q:x.op=18\/x.op=19
    ·have e:¬ xi code x.l 0 < 0:=fun z=>by rw [JJ,jp q] at z;cases z
     rw [OC e];simp
    ·simp [q]
   rw [a,b];rfl
  rw [lb,p2];rfl
 ·intro h
  have H:∀ n x,code[n]? = some x->wA p code n x=true:=fun n x hx=>by
   rcases hq:wA p code n x with _ | _
   ·rw [oR hx hq] at h;cases h
   ·rfl
  have G:∀ n x,code[n]? = some x->ZG p.globals x=true/\kF code n x=true/\(decide (x.op=21) && (decide (x.sub < 0) || decide ((p.funcs.length:Int)<=x.sub)))=false:=fun n x hx=>by
   have:=H n x hx
   unfold wA at this
   rw [AJ] at this
   simp only [ND,NN] at this
   obtain ⟨a,b,c,d⟩:=this
   exact ⟨(po.2 ⟨a,d⟩).1,b,c⟩
  refine ⟨⟨fun x hx => ?_,(eF code []).2 fun n x hx q=>⟨rfl,?_⟩⟩,fun x hx => ?_⟩
  ·obtain ⟨n,hn,rfl⟩:=Pl hx
   exact (G n _ (NC hn)).1
  ·have:=(G n x hx).2.1
   unfold kF at this
   simp only [ND,NN] at this
   have a:=this.1
   rw [Ol q] at a
   have a:xi code x.l 0=(n:Int):=by simpa using a
   exact (eN hx q).1 a
  ·obtain ⟨n,hn,rfl⟩:=Pl hx
   obtain ⟨_,lb,c⟩:=G n _ (NC hn)
   unfold Y9
   rw [hany,c,Ps,PL]
   unfold kF at lb
   simp only [ND,NN] at lb
   have b:=lb.2
   by_cases q:code[n].op=18\/code[n].op=19
   ·rw [Ol q] at b
    have b:¬ xi code code[n].l 0 < 0:=by simpa using b
    have e:code.any (kg code[n].l)=true:=by
     rcases hq:code.any (kg code[n].l) with _ | _
     ·exact absurd ((JJ _ _).2 hq) b
     ·rfl
    rw [e];simp
   ·rw [OC q];rfl
theorem Lu (p:Pg) (f:Go.As.Fn):QK p f=JK p f:=by
 unfold QK JK
 rw [mG,<- Fz]
 by_cases h:(f.code.all (ZG p.globals) && VO f.code [])=true
 ·rw [NK h,h]
  simp only [fh,OX,Bool.false_or]
  cases f.code.all (Y9 p.funcs.length (dU f.code [])) <;> cases Xk f.code <;> simp
 ·rw [NJ h]
  have h:(f.code.all (ZG p.globals) && VO f.code [])=false:=by simpa using h
  rw [h]
  simp [fh]
theorem Y6 (p:Pg):Y5 p=kf p:=by
 unfold Y5 kf
 have e:p.funcs.all (QK p)=p.funcs.all (JK p):=by
  congr 1
  exact funext fun f=>Lu p f
 rw [e]
 rfl
end Go.Ar
namespace Go.En
open Go.Ai Go.Proofs
open Go.As (z8 Pg)
abbrev u8 (n:Int):Int:=IntKind.wrap .u8 n
def uG (n:Nat) (v:Int):List Int:=(List.range n).map fun i=>u8 (v.fdiv (2 ^ (8 * i)))
def zo (base a b:Int):Int:=base + (if 8<=a then 4 else 0) + (if 8<=b then 1 else 0)
def xk (a b:Int):Int:=192 + a % 8 * 8 + b % 8
def JZ (a m:Int):List Int:=if m % 8=4 then [128 + a % 8 * 8 + m % 8,36] else [128 + a % 8 * 8 + m % 8]
def YF (a m k:Int):List Int:=JZ a m ++ uG 4 k
def qH (cc:Int):Int:=if cc=21 then 4 else if cc=22 then 5 else if cc=23 then 12 else if cc=26 then 13 else if cc=24 then 14 else 15
def jw (s:Int):Int:=if s=11 then 1 else if s=12 then 41 else if s=16 then 33 else if s=17 then 9 else 49
def jE (s:Int):Int:=if s=11 then 0 else if s=17 then 1 else if s=16 then 4 else if s=12 then 5 else 6
def uM (s:Int):Int:=if s=20 then 7 else 4
def zw (x:z8) (d:Int):List Int :=
 if x.op=1 then [zo 72 x.m x.r,137,xk x.m x.r]
 else if x.op=2 then (if Go.Ar.uN x.k=true then [zo 72 0 x.r,199,xk 0 x.r] ++ uG 4 x.k else [zo 72 0 x.r,184 + x.r % 8] ++ uG 8 x.k)
 else if x.op=3 then (if x.sub=8 then [zo 72 x.r x.m,139] ++ YF x.r x.m x.k else if x.sub=4 then [zo 72 x.r x.m,99] ++ YF x.r x.m x.k else [zo 72 x.r x.m,15,190] ++ YF x.r x.m x.k)
 else if x.op=4 then (if x.sub=8 then [zo 72 x.r x.m,137] ++ YF x.r x.m x.k else if x.sub=4 then [zo 64 x.r x.m,137] ++ YF x.r x.m x.k else [zo 64 x.r x.m,136] ++ YF x.r x.m x.k)
 else if x.op=5 then [zo 72 x.r x.m,141] ++ YF x.r x.m x.k
 else if x.op=6 then [zo 72 x.r 0,141,5 + x.r % 8 * 8] ++ uG 4 d
 else if x.op=7 then (if x.sub=13 then [zo 72 x.r x.m,15,175,xk x.r x.m] else [zo 72 x.m x.r,jw x.sub,xk x.m x.r])
 else if x.op=8 then (if x.sub=13 then [zo 72 x.r x.r,105,xk x.r x.r] ++ uG 4 x.k else [zo 72 0 x.r,129,xk (jE x.sub) x.r] ++ uG 4 x.k)
 else if x.op=9 then [zo 72 0 x.r,247,xk (if x.sub=2 then 2 else 3) x.r]
 else if x.op=10 then (if x.sub=3 then [zo 72 x.r x.m,15,190,xk x.r x.m] else [zo 72 x.r x.m,99,xk x.r x.m])
 else if x.op=11 then [zo 72 0 x.r,193,xk (uM x.sub) x.r,u8 x.k]
 else if x.op=12 then [zo 72 0 x.r,211,xk (uM x.sub) x.r]
 else if x.op=13 then [72,153]
 else if x.op=14 then [zo 72 0 x.m,247,xk 7 x.m]
 else if x.op=15 then [zo 72 x.m x.r,57,xk x.m x.r]
 else if x.op=16 then [zo 72 0 x.r,129,xk 7 x.r] ++ uG 4 x.k
 else if x.op=17 then [zo 64 0 x.r,15,144 + qH x.cc,xk 0 x.r,zo 72 x.r x.r,15,182,xk x.r x.r]
 else if x.op=18 then 233 :: uG 4 d
 else if x.op=19 then [15,128 + qH x.cc] ++ uG 4 d
 else if x.op=21 then 232 :: uG 4 d
 else if x.op=22 then [195]
 else if x.op=23 then [72,129,236] ++ uG 4 x.k
 else if x.op=24 then [72,129,196] ++ uG 4 x.k
 else if x.op=25 then [72,237]
 else if x.op=26 then [72,239]
 else []
def vW (x:z8):Nat:=(zw x 0).length
theorem wm (n:Nat) (v:Int):(uG n v).length=n:=by unfold uG;simp
theorem FR {c:Prop} [Decidable c] {a b a' b':List Int} (h1:a.length=a'.length) (h2:b.length=b'.length):(if c then a else b).length=(if c then a' else b').length:=by
 split
 ·exact h1
 ·exact h2
theorem AP (x:z8) (d:Int):(zw x d).length=vW x:=by
 unfold vW zw
 repeat' with_reducible apply FR
 all_goals simp only [wm,OM,Oy]
open Go.Ar (xi JJ eN)
def yO:List z8->Nat
 | []=>0
 | x :: xs=>vW x + yO xs
def gy:List z8->Nat->List Nat
 | [],_=>[]
 | x :: xs,n=>n :: gy xs (n + vW x)
def xV:List Go.As.Fn->Nat->List Nat
 | [],_=>[]
 | f :: fs,n=>n :: xV fs (n + yO f.code)
def z9:List Go.As.Fn->Nat
 | []=>0
 | f :: fs=>yO f.code + z9 fs
def wB:List Int->Int->List Int
 | [],_=>[]
 | g :: gs,a=>a :: wB gs (a + (g + 31) / 16 * 16)
def VX:List z8->Nat->List (Int × Value)->List (Int × Value)
 | [],_,m=>m
 | x :: xs,n,m=>VX xs (n + vW x) (if x.op=20 then Xl m x.l (.int .i64 (n:Nat)) else m)
theorem Uy:∀ xs ys:List z8,yO (xs ++ ys)=yO xs + yO ys
 | [],ys=>by rw [Pk];show _=0 + _;omega
 | x :: xs,ys=>by
   show vW x + yO (xs ++ ys)=vW x + yO xs + yO ys
   rw [Uy xs ys];omega
theorem pL:∀ (xs:List z8) (n:Nat),(gy xs n).length=xs.length
 | [],n=>rfl
 | x :: xs,n=>by show (gy xs _).length + 1=xs.length + 1;rw [pL xs]
theorem AG:∀ (xs:List z8) (n i:Nat),i < xs.length->(gy xs n)[i]? = some (n + yO (xs.take i))
 | [],n,i,h=>by cases h
 | x :: xs,n,0,h=>rfl
 | x :: xs,n,i + 1,h=>by
   show (gy xs (n + vW x))[i]? = some (n + (vW x + yO (xs.take i)))
   rw [AG xs _ i (by simpa using h)]
   congr 1;omega
theorem fM:∀ (fs:List Go.As.Fn) (n:Nat),(xV fs n).length=fs.length
 | [],n=>rfl
 | f :: fs,n=>by show (xV fs _).length + 1=fs.length + 1;rw [fM fs]
theorem i6:∀ (fs:List Go.As.Fn) (n i:Nat),i < fs.length->(xV fs n)[i]? = some (n + z9 (fs.take i))
 | [],n,i,h=>by cases h
 | f :: fs,n,0,h=>rfl
 | f :: fs,n,i + 1,h=>by
   show (xV fs (n + yO f.code))[i]? = some (n + (yO f.code + z9 (fs.take i)))
   rw [i6 fs _ i (by simpa using h)]
   congr 1;omega
theorem JN:∀ (gs:List Int) (a:Int),(wB gs a).length=gs.length
 | [],a=>rfl
 | g :: gs,a=>by show (wB gs _).length + 1=gs.length + 1;rw [JN gs]
theorem Ep {k:Int}:∀ (xs:List z8) (n:Nat) (m:List (Int × Value)),(∀ x,x ∈ xs->x.op=20->¬ x.l=k)->Wb (VX xs n m) k=Wb m k
 | [],n,m,h=>rfl
 | x :: xs,n,m,h=>by
   show Wb (VX xs _ _) k=_
   rw [Ep xs _ _ fun y hy=>h y (OD _ hy)]
   by_cases e:x.op=20
   ·rw [NK e,VT,NJ (h x NT e)]
   ·rw [NJ e]
theorem Eo {k:Int} {x:z8} (e:x.op=20) (ek:x.l=k):∀ (ys zs:List z8) (n:Nat) (m:List (Int × Value)),(∀ z,z ∈ zs->z.op=20->¬ z.l=k)->Wb (VX (ys ++ x :: zs) n m) k=some (.int .i64 ((n + yO ys:Nat):Int))
 | [],zs,n,m,h=>by
   show Wb (VX zs _ _) k=_
   rw [Ep zs _ _ h,NK e,VT,NK ek]
   rfl
 | y :: ys,zs,n,m,h=>by
   show Wb (VX (ys ++ x :: zs) _ _) k=_
   rw [Eo e ek ys zs _ _ h]
   show _=some (Value.int .i64 ((n + (vW y + yO ys):Nat):Int))
   rw [OW]
def K8 (gl:List Int) (st:List Nat) (code:List z8) (o:Nat) (x:z8):Int :=
 if x.op=18\/x.op=19 then ((o + yO (code.take (xi code x.l 0).toNat):Nat):Int)
 else if x.op=21 then ((st[x.sub.toNat]?.getD 0:Nat):Int)
 else if x.op=6 then gl[x.sub.toNat]?.getD 0 + x.k
 else 0
def ma (gl:List Int) (st:List Nat) (code:List z8) (o n:Nat) (x:z8):Int :=
 if x.op=18\/x.op=19\/x.op=21\/x.op=6 then K8 gl st code o x - ((n + vW x:Nat):Int) else 0
def jB (gl:List Int) (st:List Nat) (code:List z8) (o:Nat):List z8->Nat->List Int
 | [],_=>[]
 | x :: xs,n=>zw x (ma gl st code o n x) ++ jB gl st code o xs (n + vW x)
def ZH (gl:List Int) (st:List Nat):List Go.As.Fn->Nat->List Int
 | [],_=>[]
 | f :: fs,n=>jB gl st f.code n f.code n ++ ZH gl st fs (n + yO f.code)
theorem Up (gl:List Int) (st:List Nat) (code:List z8) (o:Nat):∀ (xs:List z8) (n:Nat),(jB gl st code o xs n).length=yO xs
 | [],n=>rfl
 | x :: xs,n=>by
   show (zw x _ ++ jB gl st code o xs _).length=vW x + yO xs
   rw [Oy,AP,Up]
theorem JH (gl:List Int) (st:List Nat):∀ (fs:List Go.As.Fn) (n:Nat),(ZH gl st fs n).length=z9 fs
 | [],n=>rfl
 | f :: fs,n=>by
   show (jB gl st f.code n f.code n ++ ZH gl st fs _).length=yO f.code + z9 fs
   rw [Oy,Up,JH]
def WV (p:Pg):List Int:=ZH (wB p.globals 16777216) (xV p.funcs 0) p.funcs 0
open Go.As (kf)
open Go.Ar (Wa kg Y5 Y6)
def gk (x:z8):Prop:=x.op=18\/x.op=19\/x.op=21\/x.op=6
theorem r9 {x:z8} (h:¬ gk x) (d:Int):zw x d=zw x 0:=by
 unfold gk at h
 have h18:¬ x.op=18:=fun e=>h (.inl e)
 have h19:¬ x.op=19:=fun e=>h (.inr (.inl e))
 have h21:¬ x.op=21:=fun e=>h (.inr (.inr (.inl e)))
 have h6:¬ x.op=6:=fun e=>h (.inr (.inr (.inr e)))
 unfold zw
 simp only [NJ h18,NJ h19,NJ h21,NJ h6]
theorem B7 {x:z8} (h:gk x) (d:Int):4<=vW x/\zw x d=(zw x 0).take (vW x - 4) ++ uG 4 d:=by
 unfold gk at h
 unfold vW
 rcases h with h | h | h | h <;> (unfold zw;simp [h,uG,List.range,List.range.loop])
theorem iM {code:List z8} (u:∀ (j:Nat) y,code[j]? = some y->y.op=20->xi code y.l 0=(j:Int)) {l:Int} (h:¬ xi code l 0 < 0) (n:Nat) (m:List (Int × Value)) :
  Wb (VX code n m) l=some (.int .i64 ((n + yO (code.take (xi code l 0).toNat):Nat):Int)):=by
 rcases Wa code l 0 with ⟨a,b⟩ | ⟨j,a,⟨y,hy,hyl⟩,b⟩
 ·omega
 ·have hl:y.op=20/\y.l=l:=by simpa [kg] using hyl
  have e:(xi code l 0).toNat=j:=by rw [a];simp
  rw [e]
  have hj:j < code.length:=(Ow.1 hy).1
  have hd:code=code.take j ++ y :: code.drop (j + 1):=by
   have:=List.drop_eq_getElem_cons hj
   rw [NC hj] at hy
   rw [PE hy] at this
   rw [<- this,O9]
  conv=>lhs;rw [hd]
  refine Eo hl.1 hl.2 _ _ n m fun z hz hz20 hzl => ?_
  obtain ⟨i,hi⟩:=List.getElem?_of_mem hz
  rw [Od] at hi
  have:=u _ z hi hz20
  rw [hzl,a] at this
  omega
theorem FU {p:Pg} (h:kf p=true) {f:Go.As.Fn} (fm:f ∈ p.funcs):(∀ (j:Nat) y,f.code[j]? = some y->y.op=20->xi f.code y.l 0=(j:Int)) /\ ∀ x,x ∈ f.code->x.op=18\/x.op=19->¬ xi f.code x.l 0 < 0:=by
 rw [<- Y6] at h
 unfold Y5 at h
 simp only [ND,NY] at h
 have h:=h.2.2 f fm
 unfold Go.Ar.QK at h
 simp only [ND] at h
 have h1:=h.1
 unfold Go.Ar.U7 at h1
 rw [NY] at h1
 have at_:∀ (n:Nat) x,f.code[n]? = some x->Go.Ar.wA p f.code n x=true:=fun n x hx=>by
  have hn:=(Ow.1 hx).1
  have:=h1 n (by simpa using hn)
  unfold Go.Ar.Eg at this
  rw [hx] at this
  exact this
 refine ⟨fun j y hy hl => ?_,fun x hx o => ?_⟩
 ·have e:=at_ j y hy
  unfold Go.Ar.wA Go.Ar.kF at e
  simp only [ND,NN] at e
  have e2:=e.2.1.1
  rw [Ol hl] at e2
  simpa using e2
 ·obtain ⟨n,hn⟩:=List.getElem?_of_mem hx
  have d:=at_ n x hn
  unfold Go.Ar.wA Go.Ar.kF at d
  simp only [ND,NN] at d
  obtain ⟨_,d4⟩:=d.2.1
  rw [Ol o] at d4
  simpa using d4
theorem H3 {c:Prop} [Decidable c] {a b:List Int} {n:Nat} (h1:a.length<=n) (h2:b.length<=n):(if c then a else b).length<=n:=by
 split
 ·exact h1
 ·exact h2
theorem pT (a m:Int):(JZ a m).length<=2:=by
 unfold JZ
 split
 ·exact NG _
 ·exact OP _
theorem size_le (x:z8):vW x<=10:=by
 unfold vW zw
 repeat' with_reducible apply H3
 all_goals have:=pT x.r x.m
 all_goals simp only [YF,wm,OM,Oy,O0] at *
 all_goals omega
theorem re:∀ xs:List z8,yO xs<=10 * xs.length
 | []=>NG _
 | x :: xs=>by
   have:=size_le x
   have:=re xs
   show vW x + yO xs<=10 * (xs.length + 1)
   omega
theorem fK (xs:List z8) (x:z8):yO (xs ++ [x])=yO xs + vW x:=by
 rw [Uy];rfl
theorem iU (x:z8):∀ (xs:List z8) (n:Nat),gy (xs ++ [x]) n=gy xs n ++ [n + yO xs]
 | [],n=>rfl
 | y :: ys,n=>by
   show n :: gy (ys ++ [x]) _=n :: (gy ys _ ++ [n + (vW y + yO ys)])
   rw [iU x ys,OW]
theorem QW (f:Go.As.Fn):∀ fs:List Go.As.Fn,z9 (fs ++ [f])=z9 fs + yO f.code
 | []=>by show yO f.code + 0=0 + yO f.code;omega
 | g :: fs=>by
   show yO g.code + z9 (fs ++ [f])=yO g.code + z9 fs + yO f.code
   rw [QW f fs];omega
theorem bj (f:Go.As.Fn):∀ (fs:List Go.As.Fn) (n:Nat),xV (fs ++ [f]) n=xV fs n ++ [n + z9 fs]
 | [],n=>rfl
 | g :: fs,n=>by
   show n :: xV (fs ++ [f]) _=n :: (xV fs _ ++ [n + (yO g.code + z9 fs)])
   rw [bj f fs,OW]
theorem iL (x:z8):∀ (xs:List z8) (n:Nat) (m:List (Int × Value)),VX (xs ++ [x]) n m=if x.op=20 then Xl (VX xs n m) x.l (.int .i64 ((n + yO xs:Nat):Int)) else VX xs n m
 | [],n,m=>rfl
 | y :: ys,n,m=>by
   show VX (ys ++ [x]) _ _=_
   rw [iL x ys,OW]
   rfl
def Yk:List Int->Int->Int
 | [],a=>a
 | g :: gs,a=>Yk gs (a + (g + 31) / 16 * 16)
theorem Y8 (g:Int):∀ (gs:List Int) (a:Int),wB (gs ++ [g]) a=wB gs a ++ [Yk gs a]/\Yk (gs ++ [g]) a=Yk gs a + (g + 31) / 16 * 16
 | [],a=>⟨rfl,rfl⟩
 | k :: gs,a=>by
   have:=Y8 g gs (a + (k + 31) / 16 * 16)
   exact ⟨by show a :: wB (gs ++ [g]) _=a :: (wB gs _ ++ [Yk gs _]);rw [this.1],this.2⟩
theorem K7:∀ (gs:List Int) (a:Int),(∀ g,g ∈ gs->0<=g/\g<=65536)->a<=Yk gs a/\Yk gs a<=a + 65552 * gs.length
 | [],a,h=>by show a<=a/\a<=a + 65552 * ((0:Nat):Int);omega
 | g :: gs,a,h=>by
   have hg:=h g NT
   have:=K7 gs (a + (g + 31) / 16 * 16) fun x hx=>h x (OD _ hx)
   show a<=Yk gs _/\Yk gs _<=a + 65552 * ((gs.length + 1:Nat):Int)
   omega
theorem ph:∀ (gs:List Int) (a:Int) (i:Nat),i < gs.length->(wB gs a)[i]? = some (Yk (gs.take i) a)
 | [],a,i,h=>by cases h
 | g :: gs,a,0,h=>rfl
 | g :: gs,a,i + 1,h=>by
   show (wB gs _)[i]? = some (Yk (gs.take i) _)
   exact ph gs _ i (by simpa using h)
theorem QH (gl:List Int) (st:List Nat) (code:List z8) (o:Nat) (x:z8):∀ (xs:List z8) (n:Nat),jB gl st code o (xs ++ [x]) n=jB gl st code o xs n ++ zw x (ma gl st code o (n + yO xs) x)
 | [],n=>by show zw x _ ++ [] = [] ++ zw x _;rw [Pj];rfl
 | y :: ys,n=>by
   show zw y _ ++ jB gl st code o (ys ++ [x]) _=zw y _ ++ jB gl st code o ys _ ++ zw x (ma gl st code o (n + (vW y + yO ys)) x)
   rw [QH gl st code o x ys,OW,O5]
theorem QI (gl:List Int) (st:List Nat) (f:Go.As.Fn):∀ (fs:List Go.As.Fn) (n:Nat),ZH gl st (fs ++ [f]) n=ZH gl st fs n ++ jB gl st f.code (n + z9 fs) f.code (n + z9 fs)
 | [],n=>by show jB gl st f.code n f.code n ++ [] = [] ++ _;rw [Pj];rfl
 | g :: fs,n=>by
   show jB gl st g.code n g.code n ++ ZH gl st (fs ++ [f]) _=jB gl st g.code n g.code n ++ ZH gl st fs _ ++ jB gl st f.code (n + (yO g.code + z9 fs)) f.code (n + (yO g.code + z9 fs))
   rw [QI gl st f fs,OW,O5]
end Go.En
namespace Go.Rtl
open Go.Ai Go.Proofs Go.Mem
open Go.Rm (Zq yC wy uy qO QX wh ux ur jP uD Fa Rd Rd.at)
open Go.As (oH)
section
variable {lo:y5} {h:za} {L:List HP} {b mb wb fb b1 b2:Nat} {world:List Int} {ev lk gl cl kv wn:Value} {fi:List Nat} {kept:Option (Int->Bool)} {R:Value->za->Prop}
theorem E6 {h:za} {sv:Value} {zs:List Int} (S:zP h sv 1 (zs.map yC)):zL h sv zs:=by
 have T:=S
 rcases S with ⟨e,e2⟩ | ⟨b,off,cp,rfl,hc⟩
 ·exact .inl ⟨e,by simpa using e2⟩
 ·refine .inr ⟨b,off,cp,by rw [NX],fun hz => ?_⟩
  obtain ⟨c,t,hb,hg,hat⟩:=hc (by simpa using hz)
  refine ⟨c,t,hb,hg,fun i z hiz => ?_⟩
  obtain ⟨b2,o,c2,t2,⟨off2,cp2,e1,e2⟩,_,_,hg2,_,_,h3⟩:=T.spot (i:=i) (r:=yC z) (by rw [NU,hiz];rfl) rfl
  simp only [Value.slice.injEq,Nz,Addr.mk.injEq] at e1
  obtain ⟨⟨rfl,rfl,_⟩,_,rfl⟩:=e1
  rw [hg] at hg2
  cases hg2
  have:=h3 0 (by decide)
  rw [e2,Pd,Nat.add_zero] at this
  exact this
end
def ints (zs:List Int):List Value:=zs.map fun z => .int .i64 z
theorem Ei (zs:List Int):(ints zs).all xp=true:=by
 rw [NY]
 intro v hv
 simp only [ints,OJ] at hv
 obtain ⟨z,_,rfl⟩:=hv
 rfl
theorem JG (c n:Nat):vP c n ≠ 0:=by
 unfold vP
 split
 ·cases Nat.ble n _ <;> simp
 ·simp
def YL (lo h:za) (l:Value) (zs:List Int):Prop:=(l = .slice none 0 0/\zs = []) \/ ∃ b c,l = .slice (some ⟨b,0,none⟩) zs.length c/\c ≠ 0/\lo.next<=b/\b < h.next/\h.ro<=b/\h.get b=some (.cells (ints zs) 3)
section
variable {lo h:za} {l:Value} {zs:List Int}
theorem DJ (S:YL lo h l zs) (e:Old lo h) (hro:h.ro<=h.next) {x:Value} {n:Nat} {ys:List Int} (hn:jK x=some n) (hy:ys.length=n) (hf:wZ h n 1 x=some (ints ys)) (hb:zs.length + n<=17592186044416) :
  ∃ l' h',zg Tryz.prog .append [22,22] 22 [l,x] h=some (l',h')/\YL lo h' l' (zs ++ ys)/\Old lo h'/\h'.ro<=h'.next/\h.next<=h'.next/\(w9 h->w9 h') /\ ∀ b,b < lo.next->h'.get b=h.get b:=by
 have hap:=oH 22 l x n (ints ys) h hn hf (Ei ys) (by simp [ints,hy])
 rw [hap]
 have n0:=e.next
 rcases S with ⟨rfl,rfl⟩ | ⟨b,c,rfl,hc,hb1,hb2,hb3,hg⟩
 ·by_cases h0:n=0
  ·have:ys = []:=OH.1 (by omega)
   subst this
   exact ⟨_,_,by simp only [Yh,h0,N5],.inl ⟨rfl,rfl⟩,e,hro,NG _,id,fun _ _=>rfl⟩
  ·refine ⟨.slice (some ⟨h.next,0,none⟩) n 1,h.push (.cells (ints ys) 3),?_,.inr ⟨h.next,1,by simp [hy],by decide,by omega,N0 _,hro,by rw [y6];rfl⟩,e.trans (Old.push _ _),OS hro,OP _,fun w=>XG w _,fun b hb=>zQ (by omega)⟩
   simp only [Yh,h0,Oo]
   rw [NK (by omega)]
 ·by_cases h0:n=0
  ·have:ys = []:=OH.1 (by omega)
   subst this
   exact ⟨.slice (some ⟨b,0,none⟩) zs.length c,h,by simp only [Yh,h0,N5],.inr ⟨b,c,by simp,hc,hb1,hb2,hb3,by simpa using hg⟩,e,hro,NG _,id,fun _ _=>rfl⟩
  ·have hroom:roomFor c (zs.length + n) 8=true:=by
    unfold roomFor
    cases Nat.beq c 2 <;> simp only [NR,N1,Po] <;> omega
   have hl:(ints zs).length=zs.length:=by simp [ints]
   refine ⟨.slice (some ⟨h.next,0,none⟩) (zs.length + n) (vP c (zs.length + n)),(h.set b none).push (.cells (ints (zs ++ ys)) 3),?_,.inr ⟨h.next,vP c (zs.length + n),by simp [hy],JG _ _,by omega,N0 _,hro,y6⟩,?_,OS hro,OP _,fun w=>XG (wf_set w hb2 _) _,fun b' hb' => ?_⟩
   ·simp only [Yh,h0,Oo,hg]
    rw [NK ⟨hc,trivial,hb3,by rw [hl];omega,hroom,by decide⟩]
    congr 3
    rw [O7,PC (by rw [hl];omega)]
    simp [ints]
   ·refine ⟨by show lo.next<=h.next + 1;omega,e.ro,fun b' hb' => ?_⟩
    rw [zQ (by show b' < h.next;omega),vf (by omega)]
    exact e.get b' hb'
   ·rw [zQ (by show b' < h.next;omega),vf (by omega)]
end
section
variable {lo h:za} {l:Value} {zs:List Int}
theorem zL.first (S:zL h l zs):jK l=some zs.length/\wZ h zs.length 1 l=some (ints zs):=by
 rcases S with ⟨rfl,rfl⟩ | ⟨b,off,cp,rfl,hc⟩
 ·exact ⟨rfl,rfl⟩
 ·refine ⟨rfl,?_⟩
  by_cases h0:zs = []
  ·subst h0;rfl
  ·obtain ⟨c,t,hb,hg,hat⟩:=hc h0
   have hne:0 < zs.length:=List.length_pos_iff.2 h0
   have hlen:off + zs.length<=c.length:=by
    have:=hat (zs.length - 1) _ (NC (by omega))
    rcases NZ (off + (zs.length - 1)) c.length with q | q
    ·omega
    ·rw [NM q] at this;cases this
   simp only [wZ,hg]
   rw [show Nat.beq (zs.length * 1) 0=false by cases hz:Nat.beq (zs.length * 1) 0 with | false=>rfl | true=>have:=NL hz;omega]
   rw [show Nat.ble (off + zs.length * 1) c.length=true by simpa using hlen]
   simp only [N1,NR,Nz,Pd]
   apply O2
   intro i
   by_cases hi:i < zs.length
   ·rw [Ob hi,Od,hat i _ (NC hi)]
    simp [ints,hi]
   ·rw [NM (by simp;omega),NM (by simp [ints];omega)]
end
def Ys (lo h:za) (t:TypeId) (l:Value) (rows:List (List Value)):Prop:=(l = .slice none 0 0/\rows = []) \/ ∃ b c,l = .slice (some ⟨b,0,none⟩) rows.length c/\c ≠ 0/\lo.next<=b/\b < h.next/\h.ro<=b/\h.get b=some (.cells rows.flatten t)
def QF:Value->List Nat
 | .slice (some a) _ _=>[a.block]
 | _=>[]
section
variable {lo h:za} {l:Value} {rows:List (List Value)} {t:TypeId}
theorem im {n bz:Nat} (S:Ys lo h t l rows) (hro:h.ro<=h.next) (hlo:lo.next<=h.next) (h0n:0 < n) (hn:∀ r,r ∈ rows->r.length=n) {ys:List (List Value)} (hb:(rows.length + ys.length) * bz<=2 ^ 47) :
  ∃ l' h',Yh h t n bz ys.length ys.flatten l=some (l',h')/\Ys lo h' t l' (rows ++ ys)/\h'.ro=h.ro/\h'.ro<=h'.next/\h.next<=h'.next/\(w9 h->w9 h')/\(∀ b,b < h.next->b ∉ QF l->h'.get b=h.get b)/\(∀ b,b ∈ QF l'->b ∈ QF l\/h.next<=b):=by
 rcases S with ⟨rfl,rfl⟩ | ⟨b,c,rfl,hc,hb1,hb2,hb3,hg⟩
 ·by_cases h0:ys.length=0
  ·have:ys = []:=OH.1 h0
   subst this
   exact ⟨_,_,by simp only [Yh,O0,N5],.inl ⟨rfl,rfl⟩,rfl,hro,NG _,id,fun _ _ _=>rfl,fun b hb => .inl hb⟩
  ·refine ⟨.slice (some ⟨h.next,0,none⟩) ys.length 1,h.push (.cells ys.flatten t),?_,.inr ⟨h.next,1,by simp,by decide,hlo,N0 _,hro,by rw [y6];rfl⟩,rfl,OS hro,OP _,fun w=>XG w _,fun b hb _=>zQ hb,fun b hb=>by simp only [QF,N7] at hb;exact .inr (by omega)⟩
   simp only [Yh,h0,Oo]
   have:ys.length * bz<=2 ^ 48:=by simp only [O0,OT] at hb;omega
   rw [NK this]
 ·by_cases h0:ys.length=0
  ·have:ys = []:=OH.1 h0
   subst this
   exact ⟨.slice (some ⟨b,0,none⟩) rows.length c,h,by simp only [Yh,O0,N5],.inr ⟨b,c,by simp,hc,hb1,hb2,hb3,by simpa using hg⟩,rfl,hro,NG _,id,fun _ _ _=>rfl,fun b hb => .inl hb⟩
  ·have hroom:roomFor c (rows.length + ys.length) bz=true:=by
    unfold roomFor
    cases Nat.beq c 2 <;> simp only [NR,N1,Po] <;> omega
   have hl:=qK hn
   refine ⟨.slice (some ⟨h.next,0,none⟩) (rows.length + ys.length) (vP c (rows.length + ys.length)),(h.set b none).push (.cells (rows ++ ys).flatten t),?_,.inr ⟨h.next,vP c (rows.length + ys.length),by simp,JG _ _,by omega,N0 _,hro,y6⟩,rfl,OS hro,OP _,fun w=>XG (wf_set w hb2 _) _,fun b' hb' hne => ?_,fun b hb=>by simp only [QF,N7] at hb;exact .inr (by omega)⟩
   ·simp only [Yh,h0,Oo,hg]
    rw [NK ⟨hc,trivial,hb3,by rw [hl];omega,hroom,by simp⟩]
    congr 3
    rw [O7,PC (by rw [hl];omega),List.flatten_append]
   ·simp only [QF,N7] at hne
    rw [zQ (by show b' < h.next;exact hb'),vf hne]
end
theorem Wf (h h2:za):(wU h h2).ro=h.ro:=rfl
theorem x6 (h h2:za):(wU h h2).next=h2.next:=rfl
theorem KP {h:za} {x:Value} {zs:List Int} {e:Nat} (S:zL (h.push (.cells [] 3)) x zs) (Ah:zs.length<=17592186043904) (hro:h.ro<=h.next) (he:h.next < e) {K:Value->za->Prop} (k:∀ v h6,YL h h6 v zs->Old h h6->h6.ro<=h6.next->K v h6) :
  WQ Tryz.prog [22,22] 22 [.slice (some ⟨h.next,0,none⟩) 0 2,x] (some (h.next,e)) (h.push (.cells [] 3)) (h.push (.cells [] 3)) K:=by
 refine ⟨⟨NG _,he,by rw [y6];simp⟩,?_⟩
 have W:YL h (h.push (.cells [] 3)) (.slice (some ⟨h.next,0,none⟩) 0 2) [] := .inr ⟨h.next,2,rfl,by decide,NG _,N0 _,hro,y6⟩
 obtain ⟨l',h',a1,a2,a3,a4,a5,a6,a7⟩:=DJ W (Old.push _ _) (OS hro) S.first.1 rfl S.first.2 (by simpa using (by omega:zs.length<=17592186044416))
 rw [a1,kO rfl,kO S.Zp,W7]
 show K l' _
 have hr:(wU (Wg (h.push (.cells [] 3)) (.slice (some ⟨h.next,0,none⟩) 0 2) h') h').ro=h.ro:=by rw [Wf,bS];rfl
 have a5':h.next + 1<=h'.next:=a5
 have gg:∀ b,(wU (Wg (h.push (.cells [] 3)) (.slice (some ⟨h.next,0,none⟩) 0 2) h') h').get b=if h.next<=b/\b < h'.next then h'.get b else h.get b:=by
  intro b
  rw [x7,We]
  show (if h.next + 1<=b/\b < h'.next then h'.get b else ((h.push (.cells [] 3)).set h.next (h'.get h.next)).get b)=_
  by_cases hb:h.next + 1<=b/\b < h'.next
  ·rw [NK hb,NK ⟨by omega,hb.2⟩]
  ·rw [NJ hb]
   by_cases hb2:b=h.next
   ·subst hb2;rw [kD,NK ⟨NG _,by omega⟩]
   ·rw [vf hb2,NJ (by omega),za.wT,NJ hb2]
 refine k _ _ ?_ ⟨by rw [x6];omega,hr,fun b hb=>by rw [gg,NJ (by omega)]⟩ ?_
 ·rw [Pk] at a2
  rcases a2 with q | ⟨b,c,q1,q2,q3,q4,q5,q6⟩
  ·exact .inl q
  ·refine .inr ⟨b,c,q1,q2,q3,q4,?_,?_⟩
   ·rw [hr];omega
   ·rw [gg,NK ⟨q3,q4⟩];exact q6
 ·rw [hr,x6];omega
theorem YL.sub {lo h K:za} {v:Value} {zs:List Int} (S:YL lo h v zs) (hn:h.next<=K.next) (hk:∀ b,lo.next<=b->b < h.next->K.get b=h.get b):zL K v zs:=by
 rcases S with a | ⟨b,c,rfl,hc,h1,h2,h3,h4⟩
 ·exact .inl a
 ·refine .inr ⟨b,0,c,rfl,fun _=>⟨_,3,NH h2 hn,by rw [hk b h1 h2];exact h4,fun i z hz => ?_⟩⟩
  simp [ints,hz]
theorem YL.shape {lo h:za} {v:Value} {zs:List Int} (S:YL lo h v zs):∃ a n c,v = .slice a n c:=by
 rcases S with ⟨rfl,_⟩ | ⟨_,_,rfl,_⟩ <;> exact ⟨_,_,_,rfl⟩
theorem Ys.shape {lo h:za} {t:TypeId} {v:Value} {rows:List (List Value)} (S:Ys lo h t v rows):∃ a n c,v = .slice a n c:=by
 rcases S with ⟨rfl,_⟩ | ⟨_,_,rfl,_⟩ <;> exact ⟨_,_,_,rfl⟩
section
variable {lo:y5} {h h':za} {L:List HP}
theorem Vg {A:HP} (s:Sat lo h L) (hA:A ∈ L):Sat lo h [A]:=by
 obtain ⟨a,b,rfl⟩:=N9 hA
 exact (s.perm (List.perm_middle)).zK 1
theorem mE {A:HP} {M:List HP} (s:Sat lo h (Wk M :: L)) (hA:A ∈ M):Sat lo h [A]:=Vg s.open (List.mem_append_left _ hA)
theorem fI {A:HP} {M:List HP} (s:Sat lo h (A :: Wk M :: L)):Sat lo h (Wk (M ++ [A]) :: L):=by
 apply Sat.close
 have s2:=Sat.open (s.f [1,0])
 rw [O5]
 exact s2
theorem fJ {A:HP} {M:List HP} (s:Sat lo h (Wk (A :: M) :: L)):Sat lo h (A :: Wk M :: L):=Sat.cons (fun _=>Sat.close) s.open
theorem mF (s:Sat lo h L):Sat lo h (Wk [] :: L):=Sat.close (M:=[]) s
theorem i3 (s:Sat lo h L) (e:Old h h') (hr:h'.ro<=h'.next) {b:Nat} {o:wi} (h1:h.next<=b) (h2:b < h'.next) (hg:h'.get b=some o):Sat lo h' (pt b o :: L):=by
 have rk:=s.base.p6
 have low:∀ y z,(y5.of h).get y=some z->y < h.next/\z=h.get y:=fun y z q=>by
  unfold y5.of at q
  dsimp only at q
  split at q
  ·cases q;exact ⟨by assumption,rfl⟩
  ·cases q
 refine s.join (L':=[pt b o]) ⟨fun y=>if y=b then some o else none,fun _=>rfl,fun y p q => ?_,fun y p q => ?_,⟨e.ro,hr,fun y z q => ?_⟩⟩
 ·dsimp only at q
  split at q
  ·rename_i q2;subst q2
   unfold y5.of;dsimp only;rw [NJ (by omega)]
  ·cases q
 ·dsimp only at q
  split at q
  ·rename_i q2;subst q2
   show h.ro<=_;omega
  ·cases q
 ·by_cases q2:y=b
  ·subst q2
   rw [y5.uh (o:=o) (by rw [NK rfl])] at q
   cases q
   exact ⟨hg,h2⟩
  ·rw [y5.uO (by rw [NJ q2])] at q
   obtain ⟨a,rfl⟩:=low y z q
   exact ⟨e.get y a,NH a e.next⟩
theorem iK:∀ (zs:List Int),ints zs=(zs.map yC).flatten
 | []=>rfl
 | z :: zs=>by
   have:=iK zs
   unfold ints at this ⊢
   rw [OF,OF,Ph,this];rfl
theorem AQ {v:Value} {zs:List Int} (W:YL h h' v zs) (e:Old h h') (hr:h'.ro<=h'.next) (s:Sat lo h L):Sat lo h' (Zq 3 1 v (zs.map yC) :: L):=by
 rcases W with ⟨rfl,rfl⟩ | ⟨b,c,rfl,hc,h1,h2,h3,h4⟩
 ·exact uy _ _ (s.Et e.next e.ro e.get)
 ·have:=qO (n:=1) (ty:=3) (rows:=zs.map yC) (c:=c) hc (uD (f:=yC) (fun _=>rfl) zs) (iK zs) (i3 s e hr h1 h2 h4)
  rwa [NX] at this
theorem E5 {t:TypeId} {n:Nat} {v:Value} {rows:List (List Value)} (W:Ys h h' t v rows) (hn:∀ r,r ∈ rows->r.length=n) (e:Old h h') (hr:h'.ro<=h'.next) (s:Sat lo h L):Sat lo h' (Zq t n v rows :: L):=by
 rcases W with ⟨rfl,rfl⟩ | ⟨b,c,rfl,hc,h1,h2,h3,h4⟩
 ·exact uy _ _ (s.Et e.next e.ro e.get)
 ·exact qO hc hn rfl (i3 s e hr h1 h2 h4)
theorem sU (s:Sat lo h L) {v:Value} {zs:List Int} (hm:Zq 3 1 v (zs.map yC) ∈ L):zL h v zs:=E6 (ur (Vg s hm) (uD (f:=yC) (fun _=>rfl) zs))
end
end Go.Rtl
namespace Go.Eb
open Go.Ai Go.Proofs
open Go.Rtl (zL zP Old inc QF Vg qK JG Wf x6)
open Go.Rm (Zq wy uy qO QX wh ux ur uD)
open Go.En (uG u8)
def jy (z:Int):List Value:=[.int .u8 z]
def wR (v:Value) (zs:List Int):HP:=Zq 5 1 v (zs.map jy)
def jQ (h:za) (v:Value) (zs:List Int):Prop:=zP h v 1 (zs.map jy)
theorem KS (zs:List Int):∀ r,r ∈ zs.map jy->r.length=1:=uD (f:=jy) (fun _=>rfl) zs
section
variable {lo:y5} {h h':za} {L:List HP} {x y:Value} {xs ys:List Int}
theorem xj (s:Sat lo h (wR x xs :: L)):ya x=false:=wh s
theorem lY (s:Sat lo h (wR x xs :: L)):xp x=true:=ux s
theorem xx (s:Sat lo h L) (hm:wR x xs ∈ L):jQ h x xs:=ur (Vg s hm) (KS xs)
theorem lZ (s:Sat lo h L):Sat lo h (wR (.slice none 0 0) [] :: L):=uy _ _ s
theorem jU:∀ zs:List Int,(zs.map jy).flatten=zs.map fun z=>Value.int .u8 z
 | []=>rfl
 | z :: zs=>by rw [OF,Ph,jU zs];rfl
theorem iz (zs:List Int):(zs.map fun z=>Value.int .u8 z).all xp=true:=by
 rw [NY]
 intro v hv
 obtain ⟨z,_,rfl⟩:=OJ.1 hv
 rfl
theorem yp (s:Sat lo h L) (zs:List Int) (c:Nat) (hc:c ≠ 0):Sat lo (h.push (.cells (zs.map fun z=>Value.int .u8 z) 5)) (wR (.slice (some ⟨h.next,0,none⟩) zs.length c) zs :: L):=by
 have:=qO (ty:=5) (n:=1) (rows:=zs.map jy) (c:=c) hc (KS zs) (jU zs).symm (s.push (.cells (zs.map fun z=>Value.int .u8 z) 5))
 rwa [NX] at this
theorem Zk (S:jQ h y ys):jK y=some ys.length/\wZ h ys.length 1 y=some (ys.map fun z=>Value.int .u8 z):=by
 have a:=S.BR
 have b:=S.first (by decide) (KS ys)
 rw [NX] at a b
 rw [jU] at b
 exact ⟨a,b⟩
theorem KQ (s:Sat lo h (wR x xs :: L)) (S:jQ h y ys) (Ah:xs.length + ys.length<=140737488355328) :
  ∃ a n c h',(∀ r,zg Tryz.prog .append [29,29] r [x,y] h=some (.slice a n c,h'))/\Sat lo h' (wR (.slice a n c) (xs ++ ys) :: L)/\(w9 h->w9 h')/\h.next<=h'.next/\h'.ro=h.ro/\(∀ b,b < h.next->b ∉ QF x->h'.get b=h.get b)/\(∀ q,a=some q->q.block ∈ QF x\/h.next<=q.block):=by
 obtain ⟨hn,hf⟩:=Zk S
 have hap:=fun r=>IP r x y ys.length (ys.map fun z=>Value.int .u8 z) h hn hf (iz ys) (by simp)
 have hr3:=KS (xs ++ ys)
 have hlen:((xs ++ ys).map jy).length=xs.length + ys.length:=by simp
 by_cases h0:ys.length=0
 ·have e0:ys = []:=OH.1 h0
  subst e0
  rcases wy s with ⟨rfl,e2,s'⟩ | ⟨b,c,cs,rfl,hc,hl,hf2,s'⟩
  ·have:xs = []:=by simpa using e2
   subst this
   exact ⟨none,0,0,h,fun r=>by rw [hap];rfl,s,id,NG _,rfl,fun _ _ _=>rfl,fun q hq=>by cases hq⟩
  ·rw [NX] at s hap ⊢
   exact ⟨some ⟨b,0,none⟩,xs.length,c,h,fun r=>by rw [hap];rfl,by rw [Pj];exact s,id,NG _,rfl,fun _ _ _=>rfl,fun q hq=>by cases hq;exact .inl (N7.2 rfl)⟩
 rcases wy s with ⟨rfl,e2,s'⟩ | ⟨b,c,cs,rfl,hc,hl,hf2,s'⟩
 ·have:xs = []:=by simpa using e2
  subst this
  refine ⟨some ⟨h.next,0,none⟩,ys.length,1,h.push (.cells (ys.map fun z=>Value.int .u8 z) 5),fun r => ?_,?_,fun w=>Go.Rtl.XG w _,OP _,rfl,fun b hb _=>zQ hb,fun q hq=>by cases hq;exact .inr (NG _)⟩
  ·rw [hap]
   simp only [Yh]
   rw [NJ h0,NK (by simp at Ah;omega)]
  ·have q:=yp s' ys 1 (by decide)
   rw [Pk]
   exact q
 ·rw [NX] at hl hf2 s hap ⊢
  have hroom:roomFor c (xs.length + ys.length) 1=true:=by
   unfold roomFor
   cases Nat.beq c 2 <;> simp only [NR,N1,Po] <;> omega
  refine ⟨some ⟨h.next,0,none⟩,xs.length + ys.length,vP c (xs.length + ys.length),(h.set b none).push (.cells (((cs.drop 0).take (xs.length * 1)) ++ (ys.map fun z=>Value.int .u8 z)) 5),fun r => ?_,?_,fun w=>Go.Rtl.XG (Go.Rtl.wf_set w s'.lt _) _,OP _,rfl,fun b' hb hne => ?_,fun q hq=>by cases hq;exact .inr (NG _)⟩
  ·rw [hap]
   simp only [Yh,s'.get]
   rw [NJ h0,NK ⟨hc,trivial,s'.wr,by omega,hroom,by decide⟩]
  ·have q:=qO (ty:=5) (n:=1) (rows:=(xs ++ ys).map jy) (c:=vP c (xs.length + ys.length)) (cs:=((cs.drop 0).take (xs.length * 1)) ++ (ys.map fun z=>Value.int .u8 z)) (JG _ _) hr3 (by rw [O7,hf2,Ou,List.flatten_append,jU ys]) ((s'.forget none).push (.cells (((cs.drop 0).take (xs.length * 1)) ++ (ys.map fun z=>Value.int .u8 z)) 5))
   rw [hlen] at q
   exact q
  ·simp only [QF,N7] at hne
   rw [zQ (by show b' < h.next;exact hb),vf hne]
theorem WR (s:Sat lo h (wR x xs :: L)) (z:Int) (Ah:xs.length<=140737488300000) :
  ∃ a n c h',(∀ r,zg Tryz.prog .append [29,29] r [x,.slice (some ⟨h.next,0,none⟩) 1 3] (h.push (.cells [.int .u8 z] 5))=some (.slice a n c,h'))/\Sat lo h' (wR (.slice a n c) (xs ++ [z]) :: L)/\(w9 h->w9 h'):=by
 have s1:=(yp s [z] 3 (by decide)).f [1,0]
 obtain ⟨a,n,c,h',a1,s2,w2,_⟩:=KQ (y := .slice (some ⟨h.next,0,none⟩) 1 3) s1 (xx s1 (OD _ NT)) (by show xs.length + 1<=_;omega)
 exact ⟨a,n,c,h',a1,(s2.p 1).drop,fun w=>w2 (Go.Rtl.XG w _)⟩
theorem XK {f t:Nat} (s:Sat lo h (wR x xs :: L)) (hx:∀ b,b ∈ QF x->f<=b/\b < t) (S:jQ h y ys) (Ah:xs.length + ys.length<=140737488355328) (hyn:ya y=false) {K:Value->za->Prop}
  (k:∀ a n c h',Sat lo h' (wR (.slice a n c) (xs ++ ys) :: L)->K (.slice a n c) h'):WQ Tryz.prog [29,29] 29 [x,y] (some (f,t)) h h K:=by
 obtain ⟨a,n,c,h',a1,s2,w2,n2,r2,g2,b2⟩:=KQ s S Ah
 refine ⟨?_,?_⟩
 ·rcases wy s with ⟨rfl,e2,s'⟩ | ⟨b,c,cs,rfl,hc,hl,hf2,s'⟩
  ·trivial
  ·have:=hx b (N7.2 rfl)
   exact ⟨this.1,this.2,by rw [s'.get];simp⟩
 ·rw [a1,kO (xj s),kO hyn,W7]
  show K _ _
  have gn:(wU (Wg h x h') h').next=h'.next:=x6 _ _
  have gr:(wU (Wg h x h') h').ro=h'.ro:=by rw [Wf,bS,r2]
  refine k a n c _ (s2.Et (Nat.le_of_eq gn.symm) gr fun b hb => ?_)
  rw [x7,We]
  by_cases hb1:h.next<=b/\b < h'.next
  ·rw [NK hb1]
  ·rw [NJ hb1]
   have hlt:b < h.next:=by omega
   by_cases hbx:b ∈ QF x
   ·rcases wy s with ⟨rfl,e2,s'⟩ | ⟨b3,c,cs,rfl,hc,hl,hf2,s'⟩
    ·cases hbx
    ·have:=N7.1 hbx
     subst this
     show (h.set b (h'.get b)).get b=_
     rw [kD]
   ·have:(Wg h x h').get b=h.get b:=by
     rcases eT h x h' b with q | ⟨⟨q,n,m,e1,e2⟩,e3⟩
     ·exact q
     ·subst e1
      exact absurd (by rw [e2];exact N7.2 rfl) hbx
    rw [this,g2 b hlt hbx]
theorem KT {P:Program} {g:FuncId} {args:List Value} {hv:za} {K R:Value->za->Prop} (hc:vL P g=true) (hn:yB args=true) (wf:w9 h) (s:Sat lo h L) (vn:hv.next=h.next) (vg:∀ b o,hv.get b=some o->h.get b=some o) (d:DC P g args hv.lock R)
  (hk:∀ v h2,R v h2->(∀ L',Sat (.of hv.lock) h2 L'->Sat lo (wU h h2) (L' ++ L))->w9 (wU h h2)->K v (wU h h2)):qG P g args hv h K:=by
 have wl:w9 hv.lock:=⟨fun b o hb=>by
  have:=wf.1 b o (vg b o hb)
  show b < hv.next
  rw [vn];exact this,NG _⟩
 obtain ⟨v,h1,r,af,t⟩:=d wl
 have nx:h.next<=h1.next:=by have:=af.next;rw [<- vn];exact this
 have w1:=wl.af af
 have gn:(wU h h1).next=h1.next:=x6 _ _
 refine ⟨hc,hn,v,h1,t,af,hk v h1 r (fun L' s2 => ?_) ⟨fun b o hb => ?_,?_⟩⟩
 ·
  have s3:Sat (.of h.lock) (wU h.lock h1) L':=by
   refine s2.to (fun b hb hl => ?_) ?_ ?_ ?_ ?_
   ·unfold y5.of at hl ⊢
    dsimp only at hl ⊢
    split at hl
    ·cases hl
    ·rename_i q
     rw [NJ (by intro q2;exact q (by show b < hv.next;rw [vn];exact q2))]
   ·have:=(Sat.self (h:=h.lock) (NG _)).Et (h':=wU h.lock h1) (by rw [x6];exact nx) rfl (fun b hb=>by rw [x7,NJ (by intro q;exact absurd hb (by have:=q.1;show ¬ b < h.next;have:h.next<=b:=this;omega))])
    exact this.base
   ·show h.next=hv.next;rw [vn]
   ·rw [x6];exact NG _
   ·intro b hb hl
    have:¬ b < h.next:=by
     intro q
     unfold y5.of at hl
     dsimp only at hl
     rw [NK (by show b < hv.next;rw [vn];exact q)] at hl
     cases hl
    rw [x7,NK ⟨by show h.next<=b;omega,hb⟩]
  have s4:=s.wU s3
  refine s4.Et ?_ rfl fun b hb => ?_
  ·rw [x6,x6,x6];exact NG _
  ·rw [x6,x6] at hb
   rw [x7,x7,x7,x6]
   by_cases q:h.next<=b/\b < h1.next
   ·rw [NK q,NK q,NK (show h.lock.next<=b/\b < h1.next from q)]
   ·rw [NJ q,NJ q]
 ·rw [x7] at hb
  rw [gn]
  split at hb
  ·rename_i q;exact q.2
  ·exact NH (wf.1 b o hb) nx
 ·rw [gn]
  exact Oc wf.2 nx
end
end Go.Eb
namespace Go.En
open Go.Ai Go.Proofs
abbrev Mb (a b:Int):Int:=IntKind.wrap .u8 (BitVec.ofInt (IntKind.bits .u8) a ||| BitVec.ofInt (IntKind.bits .u8) b).toNat
abbrev IE (a b:Int):Int:=IntKind.wrap .i64 (BitVec.ofInt (IntKind.bits .i64) a ||| BitVec.ofInt (IntKind.bits .i64) b).toNat
abbrev IL (a:Int):Int:=IntKind.wrap .i64 (BitVec.ofInt (IntKind.bits .i64) a &&& BitVec.ofInt (IntKind.bits .i64) 7).toNat
theorem Y7 {a:Int} {n:Nat} (h0:0<=a) (h1:a < n):∃ k:Fin n,a=(k.1:Int):=⟨⟨a.toNat,by omega⟩,by show a=((a.toNat:Nat):Int);omega⟩
theorem lS {a:Int} (h0:0<=a) (h1:a < 16):IL a=a % 8:=by
 obtain ⟨k,rfl⟩:=Y7 (n:=16) h0 h1
 revert k;decide
theorem Mn {a b:Int} (a0:0<=a) (a1:a < 8) (b0:0<=b) (b1:b < 8):Mb (Mb 192 (IntKind.wrap .u8 (IntKind.wrap .u8 a * 2 ^ (min (3:Int).toNat (IntKind.bits .u8))))) (IntKind.wrap .u8 b)=192 + a * 8 + b:=by
 obtain ⟨k,rfl⟩:=Y7 (n:=8) a0 a1
 obtain ⟨j,rfl⟩:=Y7 (n:=8) b0 b1
 revert k j;decide
theorem LY {a b:Int} (a0:0<=a) (a1:a < 8) (b0:0<=b) (b1:b < 8):Mb (Mb 128 (IntKind.wrap .u8 (IntKind.wrap .u8 a * 2 ^ (min (3:Int).toNat (IntKind.bits .u8))))) (IntKind.wrap .u8 b)=128 + a * 8 + b:=by
 obtain ⟨k,rfl⟩:=Y7 (n:=8) a0 a1
 obtain ⟨j,rfl⟩:=Y7 (n:=8) b0 b1
 revert k j;decide
theorem Ie {a:Int} (a0:0<=a) (a1:a < 8):Mb 5 (IntKind.wrap .u8 (IntKind.wrap .u8 a * 2 ^ (min (3:Int).toNat (IntKind.bits .u8))))=5 + a * 8:=by
 obtain ⟨k,rfl⟩:=Y7 (n:=8) a0 a1
 revert k;decide
theorem Mm {a b:Int} (a0:0<=a) (a1:a < 8) (b0:0<=b) (b1:b < 8):IntKind.wrap .u8 (IE (IE 192 (IntKind.wrap .i64 (a * 2 ^ (min (3:Int).toNat (IntKind.bits .i64))))) b)=192 + a * 8 + b:=by
 obtain ⟨k,rfl⟩:=Y7 (n:=8) a0 a1
 obtain ⟨j,rfl⟩:=Y7 (n:=8) b0 b1
 revert k j;decide
theorem LX {a b:Int} (a0:0<=a) (a1:a < 8) (b0:0<=b) (b1:b < 8):IntKind.wrap .u8 (IE (IE 128 (IntKind.wrap .i64 (a * 2 ^ (min (3:Int).toNat (IntKind.bits .i64))))) b)=128 + a * 8 + b:=by
 obtain ⟨k,rfl⟩:=Y7 (n:=8) a0 a1
 obtain ⟨j,rfl⟩:=Y7 (n:=8) b0 b1
 revert k j;decide
theorem Ic {a:Int} (a0:0<=a) (a1:a < 8):IntKind.wrap .u8 (IE 5 (IntKind.wrap .i64 (a * 2 ^ (min (3:Int).toNat (IntKind.bits .i64)))))=5 + a * 8:=by
 obtain ⟨k,rfl⟩:=Y7 (n:=8) a0 a1
 revert k;decide
theorem Wd (a:Int):0<=a % 8/\a % 8 < 8:=by omega
theorem At {i:Nat} (hi:i < 8) (v:Int):IntKind.wrap .u8 (v.fdiv (2 ^ (min ((8 * (i:Nat):Int)).toNat (IntKind.bits .i64))))=u8 (v.fdiv (2 ^ (8 * i))):=by
 have e:min ((8 * (i:Nat):Int)).toNat (IntKind.bits .i64)=8 * i:=by
  have:IntKind.bits .i64=64:=rfl
  rw [this]
  omega
 rw [e]
theorem pB (n:Nat) (v:Int):uG (n + 1) v=uG n v ++ [u8 (v.fdiv (2 ^ (8 * n)))]:=by
 unfold uG
 rw [List.range_succ,Ou]
 rfl
theorem i7 (n:Int):u8 n=n % 256:=by
 simp only [u8,IntKind.wrap,IntKind.bits,IntKind.signed]
 simp
open Go.Mem (Eh)
end Go.En
namespace Go.Eb
open Go.Ai Go.Proofs
open Go.Rtl (zL zP Old inc xz wq LH mz)
open Go.En
def Hf (n:Int) (v:Value) (_:za):Prop:=v = .int .u8 n
theorem W9 {f:FuncId} {args:List Value} {h:za} {n:Int} (d:DC Tryz.prog f args h.lock (Hf n)):wV Tryz.prog f args h (.int .u8 n):=wV.of rfl d
theorem Af (k:Int) (h:za):wV Tryz.prog 48 [.int .i64 k] h (.bool (Go.Ar.uN k)):=by
 apply wq
 apply rJ
 unfold tD
 rw [<- Go.Ar.wS]
 unfold Go.As.VP
 by_cases hk:k=IntKind.wrap .i64 (IntKind.wrap .i32 k)
 ·simp -implicitDefEqProofs only [EE,WX,Uq]
  simp [xz]
 ·simp -implicitDefEqProofs only [EE,WX,Uq]
  simp [xz]
theorem AK {base:Int} (hb:base=72\/base=64) (a b:Int) (h:za):wV Tryz.prog 49 [.int .u8 base,.int .i64 a,.int .i64 b] h (.int .u8 (zo base a b)):=by
 apply W9
 apply Dn
 unfold GL Hf zo
 rcases hb with rfl | rfl
 ·by_cases h1:a ≥ 8
  ·by_cases h2:b ≥ 8
   ·simp -implicitDefEqProofs only [EE,nth,N5,Int.reduceAdd,YE,h1,h2] <;> rfl
   ·simp -implicitDefEqProofs only [EE,nth,N5,Oo,Int.reduceAdd,YE,h1,h2] <;> rfl
  ·by_cases h2:b ≥ 8
   ·simp -implicitDefEqProofs only [EE,nth,N5,Oo,Int.reduceAdd,YE,h1,h2] <;> rfl
   ·simp -implicitDefEqProofs only [EE,nth,Oo,Int.reduceAdd,YE,h1,h2] <;> rfl
 ·by_cases h1:a ≥ 8
  ·by_cases h2:b ≥ 8
   ·simp -implicitDefEqProofs only [EE,nth,N5,Int.reduceAdd,YE,h1,h2] <;> rfl
   ·simp -implicitDefEqProofs only [EE,nth,N5,Oo,Int.reduceAdd,YE,h1,h2] <;> rfl
  ·by_cases h2:b ≥ 8
   ·simp -implicitDefEqProofs only [EE,nth,N5,Oo,Int.reduceAdd,YE,h1,h2] <;> rfl
   ·simp -implicitDefEqProofs only [EE,nth,Oo,Int.reduceAdd,YE,h1,h2] <;> rfl
theorem XN {base:Int} (hb:base=72\/base=64) (a b:Int) (h:za):wV Tryz.prog 38 [.int .u8 base,.int .i64 a,.int .i64 b] h (.int .u8 (zo base a b)):=by
 apply W9
 apply Bd
 unfold Da Hf zo
 rcases hb with rfl | rfl
 ·by_cases h1:a ≥ 8
  ·by_cases h2:b ≥ 8
   ·simp -implicitDefEqProofs only [EE,nth,N5,Int.reduceAdd,Zu,h1,h2] <;> rfl
   ·simp -implicitDefEqProofs only [EE,nth,N5,Oo,Int.reduceAdd,Zu,h1,h2] <;> rfl
  ·by_cases h2:b ≥ 8
   ·simp -implicitDefEqProofs only [EE,nth,N5,Oo,Int.reduceAdd,Zu,h1,h2] <;> rfl
   ·simp -implicitDefEqProofs only [EE,nth,Oo,Int.reduceAdd,Zu,h1,h2] <;> rfl
 ·by_cases h1:a ≥ 8
  ·by_cases h2:b ≥ 8
   ·simp -implicitDefEqProofs only [EE,nth,N5,Int.reduceAdd,Zu,h1,h2] <;> rfl
   ·simp -implicitDefEqProofs only [EE,nth,N5,Oo,Int.reduceAdd,Zu,h1,h2] <;> rfl
  ·by_cases h2:b ≥ 8
   ·simp -implicitDefEqProofs only [EE,nth,N5,Oo,Int.reduceAdd,Zu,h1,h2] <;> rfl
   ·simp -implicitDefEqProofs only [EE,nth,Oo,Int.reduceAdd,Zu,h1,h2] <;> rfl
theorem aW {cc:Int} (h0:21<=cc) (h1:cc<=26) (h:za):wV Tryz.prog 83 [.int .i64 cc] h (.int .u8 (qH cc)):=by
 apply W9
 apply df
 unfold aD Hf
 have:cc=21\/cc=22\/cc=23\/cc=24\/cc=25\/cc=26:=by omega
 rcases this with rfl | rfl | rfl | rfl | rfl | rfl <;> (simp -implicitDefEqProofs only [EE,↓z7,Int.reduceEq,UX,UY,UZ,U0,U1];rfl)
theorem ij (s:Int) (h:za):wV Tryz.prog 51 [.int .i64 s] h (.int .u8 (jw s)):=by
 apply W9
 apply lu
 unfold hH Hf jw
 by_cases h1:s=11
 ·subst h1;simp -implicitDefEqProofs only [EE,↓z7,N5,Oo,Int.reduceEq,Ze]
 by_cases h2:s=12
 ·subst h2;simp -implicitDefEqProofs only [EE,↓z7,N5,Oo,Int.reduceEq,Z6,Ze]
 by_cases h3:s=16
 ·subst h3;simp -implicitDefEqProofs only [EE,↓z7,N5,Oo,Int.reduceEq,Xo,Z6,Ze]
 by_cases h4:s=17
 ·subst h4;simp -implicitDefEqProofs only [EE,↓z7,N5,Oo,Int.reduceEq,VB,Xo,Z6,Ze]
 simp -implicitDefEqProofs only [EE,↓z7,Oo,VB,Xo,Z6,Ze,h1,h2,h3,h4]
theorem EL (s:Int) (h:za):wV Tryz.prog 59 [.int .i64 s] h (.int .u8 (jw s)):=by
 apply W9
 apply nZ
 unfold nY Hf jw
 by_cases h1:s=11
 ·subst h1;simp -implicitDefEqProofs only [EE,↓z7,N5,Oo,Int.reduceEq,ZO]
 by_cases h2:s=12
 ·subst h2;simp -implicitDefEqProofs only [EE,↓z7,N5,Oo,Int.reduceEq,QA,WJ,YQ,ZO]
 by_cases h3:s=16
 ·subst h3;simp -implicitDefEqProofs only [EE,↓z7,N5,Oo,Int.reduceEq,WJ,YQ,ZO]
 by_cases h4:s=17
 ·subst h4;simp -implicitDefEqProofs only [EE,↓z7,N5,Oo,Int.reduceEq,YQ,ZO]
 simp -implicitDefEqProofs only [EE,↓z7,Oo,QA,WJ,YQ,ZO,h1,h2,h3,h4]
theorem FB (s:Int) (h:za):wV Tryz.prog 60 [.int .i64 s] h (.int .i64 (jE s)):=by
 apply mz
 apply rI
 unfold tC LH jE
 by_cases h1:s=11
 ·subst h1;simp -implicitDefEqProofs only [EE,↓z7,N5,Oo,Int.reduceEq,YJ]
 by_cases h2:s=12
 ·subst h2;simp -implicitDefEqProofs only [EE,↓z7,N5,Oo,Int.reduceEq,Ju,Uj,X0,YJ]
 by_cases h3:s=16
 ·subst h3;simp -implicitDefEqProofs only [EE,↓z7,N5,Oo,Int.reduceEq,Uj,X0,YJ]
 by_cases h4:s=17
 ·subst h4;simp -implicitDefEqProofs only [EE,↓z7,N5,Oo,Int.reduceEq,X0,YJ]
 simp -implicitDefEqProofs only [EE,↓z7,Oo,Ju,Uj,X0,YJ,h1,h2,h3,h4]
theorem bT {s:Int} (hs:s=19\/s=20) (h:za):wV Tryz.prog 61 [.int .i64 s] h (.int .i64 (uM s)):=by
 apply mz
 apply rM
 unfold tR LH
 rcases hs with rfl | rfl <;> (simp -implicitDefEqProofs only [EE,Int.reduceEq];rfl)
theorem ZE {a b:Int} (a0:0<=a) (a1:a < 16) (b0:0<=b) (b1:b < 16) (h:za):wV Tryz.prog 57 [.int .i64 a,.int .i64 b] h (.int .u8 (xk a b)):=by
 apply W9
 apply Dp
 unfold GM Hf
 have e1:=lS a0 a1
 have e2:=lS b0 b1
 have e3:=Mm (Wd a).1 (Wd a).2 (Wd b).1 (Wd b).2
 unfold IL at e1 e2
 unfold IE at e3
 simp -implicitDefEqProofs only [EE,Int.reduceLE,Int.reduceToNat,WY,e1,e2]
 exact congrArg (Value.int .u8) e3
theorem wk (n:Nat) (hn:n < 6):IntKind.wrap .i64 (n:Int)=n:=Go.Mem.gC (by omega) (by omega)
theorem DY {cc:Int} (h0:21<=cc) (h1:cc<=26) (h:za):wV Tryz.prog 62 [.int .i64 cc] h (.int .u8 (qH cc)):=by
 apply W9
 apply Bb
 unfold C7 Hf
 obtain ⟨k,hk,rfl⟩:∃ k:Nat,k < 6/\cc=21 + (k:Int):=⟨(cc - 21).toNat,by omega,by omega⟩
 have w:IntKind.wrap .i64 (21 + (k:Int) - 21)=k:=by rw [show 21 + (k:Int) - 21=k by omega];exact wk k hk
 have c:0<=(k:Int)/\(k:Int) < ((6:Nat):Int):=by omega
 have t:((k:Int)).toNat * 1=k:=by omega
 simp -implicitDefEqProofs only [EE,N5,zq,IJ,UC,LI,w,c,t]
 have:k=0\/k=1\/k=2\/k=3\/k=4\/k=5:=by omega
 rcases this with rfl | rfl | rfl | rfl | rfl | rfl <;> (simp -implicitDefEqProofs only [EE];rfl)
theorem pC {i:Nat} (hi:i < 8) (v:Int):IntKind.wrap .i64 (8 * (i:Int))=((8 * i:Nat):Int):=by
 rw [Go.Mem.gC (by omega) (by omega)];push_cast;rfl
section
variable {lo:y5} {h:za} {L:List HP}
theorem Jc {n:Nat} (hn:n<=8) (v:Int):DC Tryz.prog 26 [.int .i64 n,.int .i64 v] h (fun r h'=>Sat (.of h) h' [wR r (uG n v)]):=by
 apply jY;intro wf
 apply nV
 unfold nU
 have s0:Sat (.of h) h []:=Sat.self wf.2
 simp -implicitDefEqProofs only [↓z7]
 refine uY (fun m vs h' => ∃ (i:Nat) (r:Value),i<=n/\m=n - i/\vs = [r,.int .i64 (i:Nat)]/\Sat (.of h) h' [wR r (uG i v)]) n ⟨0,.slice none 0 0,Oe _,rfl,rfl,lZ s0⟩ ?_
 rintro m vs h' ⟨i,r,hi,rfl,rfl,s⟩
 have rn:=xj s
 unfold dC
 by_cases hc:(i:Int) < (n:Int)
 ·have hin:=inc (show i < 4611686018427387904 by omega)
  have e8:=pC (show i < 8 by omega) v
  have lb:=At (show i < 8 by omega) v
  have c0:(0:Int)<=((8 * i:Nat):Int):=by omega
  have hl:(uG i v).length=i:=wm i v
  obtain ⟨a,l,c,h2,a1,s2,_⟩:=WR s (IntKind.wrap .u8 (v.fdiv (2 ^ (min ((8 * (i:Nat):Int)).toNat (IntKind.bits .i64))))) (by omega)
  have ec:(8 * (i:Nat):Int)=((8 * i:Nat):Int):=by push_cast;rfl
  rw [ec] at a1
  simp -implicitDefEqProofs only [EE,nth,↓z7,yf,QJ,dy,dz,hc,rn,e8,c0,a1,hin]
  refine ⟨n - (i + 1),by omega,i + 1,.slice a l c,by omega,rfl,rfl,?_⟩
  rw [pB,<- lb]
  exact s2
 ·have e:i=n:=by omega
  subst e
  simp -implicitDefEqProofs only [EE,nth,hc,rn]
  exact s
theorem Ev {n:Nat} (hn:n<=8) (v:Int):DC Tryz.prog 39 [.int .i64 v,.int .i64 n] h (fun r h'=>Sat (.of h) h' [wR r (uG n v)]):=by
 apply jY;intro wf
 apply Dk
 unfold GK
 have s0:Sat (.of h) h []:=Sat.self wf.2
 simp -implicitDefEqProofs only []
 refine uY (fun m vs h' => ∃ (i:Nat) (r:Value),i<=n/\m=n - i/\vs = [r,.int .i64 (i:Nat)]/\Sat (.of h) h' [wR r (uG i v)]) n ⟨0,_,Oe _,rfl,rfl,yp s0 [] 2 (by decide)⟩ ?_
 rintro m vs h' ⟨i,r,hi,rfl,rfl,s⟩
 have rn:=xj s
 unfold tO
 by_cases hc:(i:Int) < (n:Int)
 ·have hin:=inc (show i < 4611686018427387904 by omega)
  have e8:=pC (show i < 8 by omega) v
  have lb:=At (show i < 8 by omega) v
  have c0:(0:Int)<=((8 * i:Nat):Int):=by omega
  have hl:(uG i v).length=i:=wm i v
  obtain ⟨a,l,c,h2,a1,s2,_⟩:=WR s (IntKind.wrap .u8 (v.fdiv (2 ^ (min ((8 * (i:Nat):Int)).toNat (IntKind.bits .i64))))) (by omega)
  have ec:(8 * (i:Nat):Int)=((8 * i:Nat):Int):=by push_cast;rfl
  rw [ec] at a1
  have wu:IntKind.wrap .u64 ((8 * i:Nat):Int)=((8 * i:Nat):Int):=by
   simp only [IntKind.wrap,IntKind.bits,IntKind.signed]
   simp
   omega
  simp -implicitDefEqProofs only [EE,nth,↓z7,yf,QJ,FA,tM,tN,hc,rn,e8,wu,c0,a1,hin]
  refine ⟨n - (i + 1),by omega,i + 1,.slice a l c,by omega,rfl,rfl,?_⟩
  rw [pB,<- lb]
  exact s2
 ·have e:i=n:=by omega
  subst e
  simp -implicitDefEqProofs only [EE,nth,hc,rn]
  exact s
end
section
variable {lo:y5} {h:za} {L:List HP} {ov:Value} {ops:List Int} {a b base k:Int}
theorem U6 (h0:0<=a) (h1:a < 16):IntKind.wrap .i64 (BitVec.ofInt (IntKind.bits .i64) a &&& BitVec.ofInt (IntKind.bits .i64) 7).toNat=a % 8:=lS h0 h1
theorem Ml (a b:Int):IntKind.wrap .u8 (BitVec.ofInt (IntKind.bits .u8) (IntKind.wrap .u8 (BitVec.ofInt (IntKind.bits .u8) 192 ||| BitVec.ofInt (IntKind.bits .u8) (IntKind.wrap .u8 (IntKind.wrap .u8 (a % 8) * 2 ^ (min 3 (IntKind.bits .u8))))).toNat) ||| BitVec.ofInt (IntKind.bits .u8) (IntKind.wrap .u8 (b % 8))).toNat=xk a b:=Mn (Wd a).1 (Wd a).2 (Wd b).1 (Wd b).2
theorem LW (a b:Int):IntKind.wrap .u8 (BitVec.ofInt (IntKind.bits .u8) (IntKind.wrap .u8 (BitVec.ofInt (IntKind.bits .u8) 128 ||| BitVec.ofInt (IntKind.bits .u8) (IntKind.wrap .u8 (IntKind.wrap .u8 (a % 8) * 2 ^ (min 3 (IntKind.bits .u8))))).toNat) ||| BitVec.ofInt (IntKind.bits .u8) (IntKind.wrap .u8 (b % 8))).toNat=128 + a % 8 * 8 + b % 8:=LY (Wd a).1 (Wd a).2 (Wd b).1 (Wd b).2
theorem Ii (a b:Int):IntKind.wrap .u8 (IntKind.wrap .i64 (BitVec.ofInt (IntKind.bits .i64) (IntKind.wrap .i64 (BitVec.ofInt (IntKind.bits .i64) 128 ||| BitVec.ofInt (IntKind.bits .i64) (IntKind.wrap .i64 (a % 8 * 2 ^ (min 3 (IntKind.bits .i64))))).toNat) ||| BitVec.ofInt (IntKind.bits .i64) (b % 8)).toNat)=128 + a % 8 * 8 + b % 8:=LX (Wd a).1 (Wd a).2 (Wd b).1 (Wd b).2
theorem sM (hb:base=72\/base=64) (O:jQ h ov ops) (hl:ops.length<=100) (a0:0<=a) (a1:a < 16) (b0:0<=b) (b1:b < 16) :
  DC Tryz.prog 47 [.int .u8 base,ov,.int .i64 a,.int .i64 b] h (fun r h'=>Sat (.of h) h' [wR r (zo base a b :: ops ++ [xk a b])]):=by
 apply jY;intro wf
 apply BM
 unfold Dl
 have s0:Sat (.of h) h []:=Sat.self wf.2
 have on:=O.Zp
 refine zJ (by kernel_rfl) rfl (AK hb a b h) ?_
 have s1:Sat (.of h) (h.push (.cells [.int .u8 (zo base a b)] 5)) [wR (.slice (some ⟨h.next,0,none⟩) 1 3) [zo base a b]]:=yp s0 [zo base a b] 3 (by decide)
 obtain ⟨x1,n1,c1,h2,e1,s2,_⟩:=KQ s1 (O.old (Old.push _ _)) (by simp;omega)
 obtain ⟨x2,n2,c2,h3,e2,s3,_⟩:=WR s2 (xk a b) (by simp;omega)
 have q1:=U6 a0 a1
 have q2:=U6 b0 b1
 have q3:=Ml a b
 simp -implicitDefEqProofs only [EE,Int.reduceLE,Int.reduceToNat,yf,WY,n8,on,e1,q1,q2,q3,e2]
 exact s3
theorem Cr (R:Int) (ops:List Int) (a m k:Int):(if m % 8=4 then zo base a m :: ops ++ [128 + a % 8 * 8 + m % 8] ++ [36] else zo base a m :: ops ++ [128 + a % 8 * 8 + m % 8]) ++ uG 4 k=zo base a m :: ops ++ YF a m k:=by
 unfold YF JZ
 split <;> simp
theorem EA (hb:base=72\/base=64) (O:jQ h ov ops) (hl:ops.length<=100) (a0:0<=a) (a1:a < 16) (b0:0<=b) (b1:b < 16) (k:Int) :
  DC Tryz.prog 50 [.int .u8 base,ov,.int .i64 a,.int .i64 b,.int .i64 k] h (fun r h'=>Sat (.of h) h' [wR r (zo base a b :: ops ++ YF a b k)]):=by
 apply jY;intro wf
 apply nX
 unfold nW
 have s0:Sat (.of h) h []:=Sat.self wf.2
 have on:=O.Zp
 refine zJ (by kernel_rfl) rfl (AK hb a b h) ?_
 have s1:Sat (.of h) (h.push (.cells [.int .u8 (zo base a b)] 5)) [wR (.slice (some ⟨h.next,0,none⟩) 1 3) [zo base a b]]:=yp s0 [zo base a b] 3 (by decide)
 obtain ⟨x1,n1,c1,h2,e1,s2,_⟩:=KQ s1 (O.old (Old.push _ _)) (by simp;omega)
 obtain ⟨x2,n2,c2,h3,e2,s3,_⟩:=WR s2 (128 + a % 8 * 8 + b % 8) (by simp;omega)
 have q1:=U6 a0 a1
 have q2:=U6 b0 b1
 have q3:=LW a b
 have go:∀ {x:Value} {xs:List Int} {h3:za},Sat (.of h) h3 [wR x xs]->xs.length<=1000->xs ++ uG 4 k=zo base a b :: ops ++ YF a b k->Qz (.int .i64 k) (fun r h'=>Sat (.of h) h' [wR r (zo base a b :: ops ++ YF a b k)]) [x] h3:=fun {x xs h3} s3 hx ex=>by
  unfold Qz
  have xn:=xj s3
  simp -implicitDefEqProofs only []
  refine vp (by kernel_rfl) rfl (Jc (n:=4) (by decide) k) ?_
  rintro r h4 s4
  have s5:=s3.join s4
  have rn:=xj s4
  obtain ⟨x4,n4,c4,h5,e4,s6,_⟩:=KQ (s5.f [1,0]) (xx s5 NT) (by rw [wm];omega)
  simp -implicitDefEqProofs only [EE,nth,xn,rn,e4]
  have:=s6.k [0]
  rw [ex] at this
  exact this
 simp -implicitDefEqProofs only [EE,Int.reduceLE,Int.reduceToNat,yf,WY,dE,on,e1,q1,q2,q3,e2]
 have ms:=Cr (base:=base) 0 ops a b k
 by_cases hm:b % 8=4
 ·rw [NK hm] at ms
  obtain ⟨x5,n5,c5,h6,e5,s5,_⟩:=WR s3 36 (by simp;omega)
  simp -implicitDefEqProofs only [EE,yf,dD,hm,e5]
  exact go s5 (by simp;omega) ms
 ·rw [NJ hm] at ms
  simp -implicitDefEqProofs only [EE,hm]
  exact go s3 (by simp;omega) ms
theorem iE (a0:0<=a) (a1:a < 16) (b0:0<=b) (b1:b < 16) (k:Int) :
  DC Tryz.prog 58 [.int .i64 a,.int .i64 b,.int .i64 k] h (fun r h'=>Sat (.of h) h' [wR r (YF a b k)]):=by
 apply jY;intro wf
 apply ly
 unfold hU
 have s0:Sat (.of h) h []:=Sat.self wf.2
 have q1:=U6 a0 a1
 have q2:=U6 b0 b1
 have q3:=Ii a b
 have s3:Sat (.of h) (h.push (.cells [.int .u8 (128 + a % 8 * 8 + b % 8)] 5)) [wR (.slice (some ⟨h.next,0,none⟩) 1 3) [128 + a % 8 * 8 + b % 8]]:=yp s0 [128 + a % 8 * 8 + b % 8] 3 (by decide)
 have go:∀ {x:Value} {xs:List Int} {h3:za},Sat (.of h) h3 [wR x xs]->xs.length<=1000->xs ++ uG 4 k=YF a b k->VF (.int .i64 k) (fun r h'=>Sat (.of h) h' [wR r (YF a b k)]) [x] h3:=fun {x xs h3} s3 hx ex=>by
  unfold VF
  have xn:=xj s3
  simp -implicitDefEqProofs only []
  refine vp (by kernel_rfl) rfl (Ev (n:=4) (by decide) k) ?_
  rintro r h4 s4
  have s5:=s3.join s4
  have rn:=xj s4
  obtain ⟨x4,n4,c4,h5,e4,s6,_⟩:=KQ (s5.f [1,0]) (xx s5 NT) (by rw [wm];omega)
  simp -implicitDefEqProofs only [EE,nth,xn,rn,e4]
  have:=s6.k [0]
  rw [ex] at this
  exact this
 simp -implicitDefEqProofs only [EE,Int.reduceLE,Int.reduceToNat,yf,WY,q1,q2,q3]
 revert s3
 generalize hz:128 + a % 8 * 8 + b % 8=z
 intro s3
 by_cases hm:b % 8=4
 ·obtain ⟨x5,n5,c5,h6,e5,s5,_⟩:=WR s3 36 (by simp)
  simp only [fy] at e5
  simp -implicitDefEqProofs only [EE,yf,aK,hm,e5]
  exact go s5 (by simp) (by unfold YF JZ;rw [NK hm,hz];rfl)
 ·simp -implicitDefEqProofs only [EE,hm]
  exact go s3 (by simp) (by unfold YF JZ;rw [NJ hm,hz])
end
section
variable {lo:y5} {h:za} {L:List HP} {x y ov:Value} {xs ys ops zs:List Int} {a b base k:Int} {K:Value->za->Prop}
theorem qL (wf:w9 h) (o:wi):w9 (h.push o):=Go.Rtl.XG wf o
theorem Zj (s:Sat lo h (wR y ys :: wR x xs :: L)) (Ah:xs.length + ys.length<=1000) {r:TypeId} (k:∀ v h',ya v=false->Sat lo h' (wR v (xs ++ ys) :: wR y ys :: L)->K v h'):zB (nb [x,y] (zg Tryz.prog .append [29,29] r [x,y] h)) K:=by
 have s1:=s.f [1,0]
 obtain ⟨a,n,c,h',a1,s2,_⟩:=KQ s1 (xx s1 (OD _ NT)) (by omega)
 rw [a1,kO (xj s1),kO (xj s),W7]
 exact k _ _ rfl s2
theorem Hh (s:Sat lo h (wR x xs :: L)) (Ah:xs.length<=1000) {z:Int} {r:TypeId} (k:∀ v h',ya v=false->Sat lo h' (wR v (xs ++ [z]) :: L)->K v h') :
  zB (nb [x,.slice (some ⟨h.next,0,none⟩) 1 3] (zg Tryz.prog .append [29,29] r [x,.slice (some ⟨h.next,0,none⟩) 1 3] (h.push (.cells [.int .u8 z] 5)))) K:=by
 obtain ⟨a,n,c,h',a1,s2,_⟩:=WR s z (by omega)
 rw [a1,kO (xj s),kO rfl,W7]
 exact k _ _ rfl s2
section
variable (hb:base=72\/base=64) (a0:0<=a/\a < 16) (b0:0<=b/\b < 16)
include hb a0 b0
theorem XT (s:Sat lo h (wR ov ops :: L)) (hl:ops.length<=100) (k:∀ r h',ya r=false->Sat lo h' (wR r (zo base a b :: ops ++ [xk a b]) :: wR ov ops :: L)->K r h') :
  zH Tryz.prog (.func (.func 47) #[] #[]) [.int .u8 base,ov,.int .i64 a,.int .i64 b] h K:=by
 have on:=xj s
 refine vp (by kernel_rfl) (by simp only [yB,on,N1];rfl) (sM hb (xx s NT) hl a0.1 a0.2 b0.1 b0.2) ?_
 rintro r h' s2
 exact k r h' (xj s2) (s.join s2)
theorem Xd (s:Sat lo h (wR ov ops :: L)) (hl:ops.length<=100) {z:Int} (k:∀ r h',ya r=false->Sat lo h' (wR r (zo base a b :: ops ++ YF a b z) :: wR ov ops :: L)->K r h') :
  zH Tryz.prog (.func (.func 50) #[] #[]) [.int .u8 base,ov,.int .i64 a,.int .i64 b,.int .i64 z] h K:=by
 have on:=xj s
 refine vp (by kernel_rfl) (by simp only [yB,on,N1];rfl) (EA hb (xx s NT) hl a0.1 a0.2 b0.1 b0.2 z) ?_
 rintro r h' s2
 exact k r h' (xj s2) (s.join s2)
theorem mB (s:Sat lo h (wR ov ops :: L)) (wf:w9 h) (hl:ops.length<=100) (k:∀ r h',w9 h'->ya r=false->Sat lo h' (wR r (zo base a b :: ops ++ [xk a b]) :: wR ov ops :: L)->K r h') :
  Y3 Tryz.prog 47 [.int .u8 base,ov,.int .i64 a,.int .i64 b] h K:=by
 have on:=xj s
 refine l6 (by kernel_rfl) (by simp only [yB,on,N1];rfl) wf s (sM hb (xx s NT).lock hl a0.1 a0.2 b0.1 b0.2) ?_
 rintro r h2 s2 gr w2
 exact k r _ w2 (xj s2) (gr _ s2)
theorem Ji (s:Sat lo h (wR ov ops :: L)) (wf:w9 h) (hl:ops.length<=100) {hv:za} (vn:hv.next=h.next) (vg:∀ b o,hv.get b=some o->h.get b=some o) (O:jQ hv ov ops) (k:∀ r h',w9 h'->h.next<=h'.next->ya r=false->Sat lo h' (wR r (zo base a b :: ops ++ [xk a b]) :: wR ov ops :: L)->K r h') :
  qG Tryz.prog 47 [.int .u8 base,ov,.int .i64 a,.int .i64 b] hv h K:=by
 have on:=xj s
 refine KT (by kernel_rfl) (by simp only [yB,on,N1];rfl) wf s vn vg (sM hb O.lock hl a0.1 a0.2 b0.1 b0.2) ?_
 rintro r h2 s2 gr w2
 have s3:=gr _ s2
 refine k r _ w2 ?_ (xj s2) s3
 rw [Go.Rtl.x6]
 rcases Go.Rm.wy s2 with ⟨_,_,s4⟩ | ⟨q,c,cs,_,_,_,_,s4⟩
 ·have:=s4.base.p6
  have e:h2.ro=hv.next:=s4.base.ro
  omega
 ·have:=s4.base.p6
  have e:h2.ro=hv.next:=s4.base.ro
  omega
end
theorem VY (s:Sat lo h L) {n:Nat} {m:Int} (hm:m=(n:Int)) (hn:n<=8) {z:Int} (k:∀ r h',ya r=false->Sat lo h' (wR r (uG n z) :: L)->K r h') :
  zH Tryz.prog (.func (.func 26) #[] #[]) [.int .i64 m,.int .i64 z] h K:=by
 subst hm
 refine vp (by kernel_rfl) rfl (Jc hn z) ?_
 rintro r h' s2
 exact k r h' (xj s2) (s.join s2)
theorem Jd (s:Sat lo h L) (wf:w9 h) {n:Nat} {m:Int} (hm:m=(n:Int)) (hn:n<=8) {z:Int} (k:∀ r h',w9 h'->ya r=false->Sat lo h' (wR r (uG n z) :: L)->K r h') :
  Y3 Tryz.prog 26 [.int .i64 m,.int .i64 z] h K:=by
 subst hm
 refine l6 (by kernel_rfl) rfl wf s (Jc hn z) ?_
 rintro r h2 s2 gr w2
 exact k r _ w2 (xj s2) (gr _ s2)
theorem JU (s:Sat lo h L) (wf:w9 h) {n:Nat} {m:Int} (hm:m=(n:Int)) (hn:n<=8) {z:Int} {hv:za} (vn:hv.next=h.next) (vg:∀ b o,hv.get b=some o->h.get b=some o) (k:∀ r h',w9 h'->ya r=false->Sat lo h' (wR r (uG n z) :: L)->K r h') :
  qG Tryz.prog 26 [.int .i64 m,.int .i64 z] hv h K:=by
 subst hm
 refine KT (by kernel_rfl) rfl wf s vn vg (Jc hn z) ?_
 rintro r h2 s2 gr w2
 exact k r _ w2 (xj s2) (gr _ s2)
theorem pA (s:Sat lo h L) {n:Nat} {m:Int} (hm:m=(n:Int)) (hn:n<=8) {z:Int} (k:∀ r h',ya r=false->Sat lo h' (wR r (uG n z) :: L)->K r h') :
  zH Tryz.prog (.func (.func 39) #[] #[]) [.int .i64 z,.int .i64 m] h K:=by
 subst hm
 refine vp (by kernel_rfl) rfl (Ev hn z) ?_
 rintro r h' s2
 exact k r h' (xj s2) (s.join s2)
theorem JV (s:Sat lo h L) (wf:w9 h) {n:Nat} {m:Int} (hm:m=(n:Int)) (hn:n<=8) {z:Int} {hv:za} (vn:hv.next=h.next) (vg:∀ b o,hv.get b=some o->h.get b=some o) (k:∀ r h',w9 h'->ya r=false->Sat lo h' (wR r (uG n z) :: L)->K r h') :
  qG Tryz.prog 39 [.int .i64 z,.int .i64 m] hv h K:=by
 subst hm
 refine KT (by kernel_rfl) rfl wf s vn vg (Ev hn z) ?_
 rintro r h2 s2 gr w2
 exact k r _ w2 (xj s2) (gr _ s2)
theorem uS {h:za} {n m b:Nat} {o:wi} (hg:h.get b=some o) (hb:b < n):(cut h n m).get b=some o:=by rw [kC hb];exact hg
theorem XM {h:za} {n m b:Nat} {o:wi} (hg:(cut h n m).get b=some o):h.get b=some o:=by
 rw [mh] at hg
 split at hg
 ·cases hg
 ·exact hg
end
end Go.Eb
namespace Go.En
open Go.Ai Go.Proofs
open Go.As (z8 Pg)
section
variable {bs rest:List Int} {w o a b m k s2:Int} {n:Nat} {c:Bool}
end
section
variable {rest:List Int} {r m k:Int} (r0:0<=r) (r1:r < 16) (m0:0<=m) (m1:m < 16)
end
section
variable {rest:List Int} {r m k s:Int}
end
section
variable {bs rest:List Int} {r m k s o w s2:Int}
end
section
variable {bs rest:List Int} {r m k s o w s2:Int}
theorem bM (cc:Int):0<=qH cc/\qH cc < 16:=by
 unfold qH
 repeat' split
 all_goals decide
end
section
variable {bs rest:List Int} {r d:Int}
end
def yk (r:Int):Prop:=0<=r/\r < 16
end Go.En
