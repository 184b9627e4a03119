/- A part of the proof. -/
import Derived.Test.YtcecapkbglnejaaGreatDoorTO
import Derived.Test.YtcecapkbglnejaaGreatDoorTN
import Derived.Test.YtcecapkbglnejaaGreatDoorTM
import Derived.Test.YtcecapkbglnejaaGreatDoorTK
import Derived.Test.YtcecapkbglnejaaGreatDoorChecked
import Derived.KernelRfl
import Derived.Test.YtcecapkbglnejaaGreatDoorTH
import Derived.Test.YtcecapkbglnejaaGreatDoorTI
import Derived.Test.YtcecapkbglnejaaGreatDoorTJ
set_option linter.unusedVariables false
set_option linter.unusedSimpArgs false
set_option maxRecDepth 100000
namespace Go.Ar
open Go.Ai Go.Proofs
open Go.As (wZ Pg rW u3 Xf mz Z7 Wq e7 jx hasB Jd sr bR UD qk QR Wd YX yi)
theorem vW(k:Int):Jd k=Qr k:=by
 unfold Jd Qr;rw[ab3];simp only[aaU,aah,IntKind.wrap,IntKind.bits,IntKind.signed];simp;omega
theorem r7(m:List (Int×Value))(a l:Int):hasB (Vt m a (.bool true)) l=(decide (a=l)||hasB m l):=by
 unfold hasB;rw[bH];by_cases h:a=l
 ·rw[aam h];simp[h]
 ·rw[aak h];simp[h]
def Zo(l:Int)(x:wZ):Bool:=decide (x.op=20/\x.l=l)
def QX:List wZ->List (Int×Value)->Bool
 |[],_=>true
 |x::xs,m=>if x.op=20 then !hasB m x.l&&QX xs (Vt m x.l (.bool true)) else QX xs m
def iy:List wZ->List (Int×Value)->List (Int×Value)
 |[],m=>m
 |x::xs,m=>if x.op=20 then iy xs (Vt m x.l (.bool true)) else iy xs m
theorem sK(gl:List Int):∀(xs:List wZ) (m:List (Int×Value)) (b:Bool),jx gl xs m b=if (xs.all (Z7 gl)&&QX xs m)=true then some (iy xs m,b||Xp xs) else none
 |[],m,b=>by simp[jx,QX,iy,Xp]
 |x::xs,m,b=>by
  unfold jx QX iy;by_cases h1:Z7 gl x=false
  ·rw[aam h1];simp[h1]
  have h1':Z7 gl x=true:=by simpa using h1
  rw[aak h1];by_cases h2:x.op=20
  ·rw[aam h2,aam h2,aam h2];by_cases h3:hasB m x.l=true
   ·rw[aam h3];simp[h3]
   ·have h3':hasB m x.l=false:=(by simpa using h3);rw[aak h3,sK gl xs];simp[h1',h3',Xp,h2]
  ·rw[aak h2,aak h2,aak h2,sK gl xs];simp[h1',Xp,h2]
theorem has_add:∀(xs:List wZ) (m:List (Int×Value)) (l:Int),hasB (iy xs m) l=(hasB m l||xs.any (Zo l))
 |[],m,l=>by simp[iy]
 |x::xs,m,l=>by
  unfold iy;by_cases h:x.op=20
  ·rw[aam h,has_add xs,r7];simp[Zo,h,Bool.or_assoc,Bool.or_comm,Bool.or_left_comm]
  ·rw[aak h,has_add xs];simp[Zo,h]
theorem iO:∀(xs:List wZ) (m:List (Int×Value)),QX xs m=true ↔ ∀(n:Nat) x,xs[n]? = some x->x.op=20->hasB m x.l=false /\ ∀(j:Nat) y,j<n->xs[j]? = some y->Zo x.l y=false
 |[],m=>by simp[QX]
 |x::xs,m=>by
  unfold QX;have ih:=λm'=>iO xs m';by_cases h:x.op=20
  ·rw[aam h,aah,ih]
   constructor
   ·rintro⟨h1,h2⟩ n y hy ho;cases n with
    |zero=>simp only[aaf,aab]at hy;subst hy;exact⟨by simpa using h1,λj z hj=>by omega⟩
    |succ n=>
     simp only[aaj]at hy;obtain⟨a,b⟩:=h2 n y hy ho;rw[r7]at a;simp only[abY,aaI]at a;refine⟨a.2,λj z hj hz=>?_⟩;cases j with
     |zero=>simp only[aaf,aab]at hz;subst hz;simp[Zo,h,a.1]
     |succ j=>simp only[aaj]at hz;exact b j z (by omega) hz
   ·intro H;refine⟨by have:=(H 0 x rfl h).1;simp[this],λn y hy ho=>?_⟩;obtain⟨a,b⟩:=H (n+1) y (by simpa using hy) ho;rw[r7];have c:=b 0 x (by omega) rfl;refine⟨?_,λj z hj hz=>b (j+1) z (by omega) (by simpa using hz)⟩;have c:¬x.l=y.l:=by simpa [Zo,h] using c
    simp[a,c]
  ·rw[aak h,ih]
   constructor
   ·intro H n y hy ho;cases n with
    |zero=>simp only[aaf,aab]at hy;subst hy;exact absurd ho h
    |succ n=>
     simp only[aaj]at hy;obtain⟨a,b⟩:=H n y hy ho;refine⟨a,λj z hj hz=>?_⟩;cases j with
     |zero=>simp only[aaf,aab]at hz;subst hz;simp[Zo,h]
     |succ j=>simp only[aaj]at hz;exact b j z (by omega) hz
   ·intro H n y hy ho;obtain⟨a,b⟩:=H (n+1) y (by simpa using hy) ho;exact⟨a,λj z hj hz=>b (j+1) z (by omega) (by simpa using hz)⟩
theorem i3:∀(xs:List wZ) (l:Int) (k:Nat),(ug xs l k = -1/\xs.any (Zo l)=false) \/ ∃j:Nat,ug xs l k=((k+j:Nat):Int)/\(∃x,xs[j]? = some x/\Zo l x=true) /\ ∀(i:Nat) y,i<j->xs[i]? = some y->Zo l y=false
 |[],l,k => .inl ⟨rfl,rfl⟩
 |x::xs,l,k=>by
  unfold ug;by_cases h:x.op=20/\x.l=l
  ·rw[aam h];exact .inr ⟨0,rfl,⟨x,rfl,by unfold Zo;exact ach h⟩,λi y hi=>by omega⟩
  ·rw[aak h];have hx:Zo l x=false:=by unfold Zo;exact abQ h
   rcases i3 xs l (k+1) with⟨a,b⟩|⟨j,a,⟨y,hy,hl⟩,b⟩
   ·exact .inl ⟨a,by simp[hx,b]⟩
   ·refine .inr ⟨j+1,by rw[a];omega,⟨y,by simpa using hy,hl⟩,λi z hi hz=>?_⟩;cases i with
    |zero=>simp only[aaf,aab]at hz;subst hz;exact hx
    |succ i=>exact b i z (by omega) (by simpa using hz)
theorem Bc{code:List wZ}{n:Nat}{x:wZ}(hx:code[n]? = some x)(h:x.op=20):(ug code x.l 0=(n:Int)) ↔ ∀(j:Nat) y,j<n->code[j]? = some y->Zo x.l y=false:=by
 have hl:Zo x.l x=true:=by simp[Zo,h]
 rcases i3 code x.l 0 with⟨a,b⟩|⟨j,a,⟨y,hy,hyl⟩,b⟩
 ·rw[List.any_eq_false]at b;exact absurd hl (b x (aaG hx))
 ·rw[a]
  constructor
  ·intro q;have:j=n:=by omega
   subst this;exact b
  ·intro q;rcases Nat.lt_trichotomy j n with c|c|c
   ·have:=q j y c hy;rw[this]at hyl;cases hyl
   ·omega
   ·have:=b n x c hx;rw[this]at hl;cases hl
theorem oY(code:List wZ)(l:Int):(ug code l 0<0) ↔ code.any (Zo l)=false:=by
 rcases i3 code l 0 with⟨a,b⟩|⟨j,a,⟨y,hy,hyl⟩,b⟩
 ·rw[a,b];simp
 ·rw[a];have:code.any (Zo l)=true:=List.any_eq_true.2 ⟨y,aaG hy,hyl⟩;rw[this]
  constructor
  ·intro q;omega
  ·intro q;cases q
theorem R2{op:Int}(h:UD op=true):sr op=true:=by
 unfold UD at h;unfold sr;simp only[aaU]at h ⊢;omega
theorem M9(x:wZ):YX x=(WR x&&(VB x&&(QC x&&bO x))):=by
 unfold YX WR VB QC bO;have hw := @R2 x.op;generalize sr x.op=R at hw ⊢;generalize UD x.op=W at hw ⊢;generalize bR x.op=M;generalize qk x.op=F;rw[ab3];cases R <;> cases W <;> cases M <;> cases F <;> simp at hw ⊢ <;> omega
def Zp(x:wZ):Bool := !decide (x.op=18\/x.op=19)||(decide (0<=x.l)&&decide (x.l<=10000000))
def Vp(gl:List Int)(x:wZ):Bool := !(decide (x.op=6)&&(decide (x.sub<0)||(decide ((gl.length:Int)<=x.sub)||(decide (x.k<0)||decide (gl.getD x.sub.toNat 0<x.k)))))
theorem Nn(gl:List Int)(x:wZ):(yi gl x&&Zp x)=(tailD x&&Vp gl x):=by
 obtain⟨op,r,m,sub,cc,l,k⟩:=x;by_cases o3:op=3
 ·subst o3;simp[yi,tailD,Zp,Vp,vW]
 by_cases o4:op=4
 ·subst o4;simp[yi,tailD,Zp,Vp,vW]
 by_cases o5:op=5
 ·subst o5;simp[yi,tailD,Zp,Vp,vW]
 by_cases o16:op=16
 ·subst o16;simp[yi,tailD,Zp,Vp,vW]
 by_cases o7:op=7
 ·subst o7;simp[yi,tailD,Zp,Vp,vW]
 by_cases o8:op=8
 ·subst o8;simp[yi,tailD,Zp,Vp,vW]
 by_cases o9:op=9
 ·subst o9;simp[yi,tailD,Zp,Vp,vW]
 by_cases o10:op=10
 ·subst o10;simp[yi,tailD,Zp,Vp,vW]
 by_cases o11:op=11
 ·subst o11;simp[yi,tailD,Zp,Vp,vW]
 by_cases o12:op=12
 ·subst o12;simp[yi,tailD,Zp,Vp,vW]
 by_cases o17:op=17
 ·subst o17;simp[yi,tailD,Zp,Vp,vW]
 by_cases o19:op=19
 ·subst o19;simp[yi,tailD,Zp,Vp,vW]
 by_cases o18:op=18
 ·subst o18;simp[yi,tailD,Zp,Vp,vW]
 by_cases o20:op=20
 ·subst o20;simp[yi,tailD,Zp,Vp,vW]
 by_cases o23:op=23
 ·subst o23;simp[yi,tailD,Zp,Vp,vW]
 by_cases o24:op=24
 ·subst o24;simp[yi,tailD,Zp,Vp,vW]
 by_cases o6:op=6
 ·subst o6;rw[ab3];simp[yi,tailD,Zp,Vp]
 simp[yi,tailD,Zp,Vp,o3,o4,o5,o16,o7,o8,o9,o10,o11,o12,o17,o19,o18,o20,o23,o24,o6]
theorem OQ(gl:List Int)(x:wZ):(Z7 gl x&&Zp x)=(xU x&&Vp gl x):=by
 have t:=Nn gl x;unfold Z7 xU;rw[M9];have a:decide (1<=x.op) = !decide (x.op<1):=by rw[ab3];simp
 have b:decide (x.op<=26) = !decide (26<x.op):=by rw[ab3];simp
 rw[a,b];generalize yi gl x=T at t ⊢;generalize Zp x=J at t ⊢;generalize tailD x=D at t ⊢;generalize Vp gl x=L at t ⊢;generalize decide (x.op<1)=U;generalize decide (26<x.op)=V;cases WR x <;> cases VB x <;> cases QC x <;> cases bO x <;> cases U <;> cases V <;> simp;exact t
theorem E0(p:Pg)(x:wZ):Z9 p x=(!(decide (x.op=21)&&(decide (x.sub<0)||decide ((p.funcs.length:Int)<=x.sub)))&&Vp p.globals x):=rfl
theorem Bn{gl:List Int}{x:wZ}:(Z7 gl x=true/\Zp x=true) ↔ (xU x=true/\Vp gl x=true):=by
 have:=OQ gl x;rw[<- aah,<- aah,this]
theorem Gy{gl:List Int}{y:wZ}{l:Int}(h:Z7 gl y=true)(hl:Zo l y=true):0<=l/\l<=10000000:=by
 unfold Zo at hl;have hl:=abd hl;unfold Z7 at h;simp only[aah]at h;obtain⟨_,_,_,h⟩:=h;unfold yi at h;simp[hl.1,hl.2]at h;exact h
theorem Mw(p:Pg)(code:List wZ):(code.all (Z7 p.globals)&&QX code []&&code.all (Wq p.funcs.length (iy code [])))=aO p code:=by
 rw[ab3];simp only[aah,aaJ];have hany:∀l,hasB (iy code []) l=code.any (Zo l):=λl=>by rw[has_add];rfl
 constructor
 ·rintro⟨⟨h1,h2⟩,h3⟩;refine dK λn x hn hx=>?_;have hm:=aaG hx;have i:=h1 x hm;have hp:=h3 x hm;unfold Wq at hp;rw[hany]at hp;simp only[aah,aav]at hp;obtain⟨p1,p2⟩:=hp
  have jp:(x.op=18\/x.op=19)->code.any (Zo x.l)=true:=λq=>by
   rw[ach q]at p1;simpa using p1
  have j:Zp x=true:=by
   unfold Zp;by_cases q:x.op=18\/x.op=19
   ·obtain⟨y,hy,hyl⟩:=List.any_eq_true.1 (jp q);have:=Gy (h1 y hy) hyl;simp[this]
   ·simp[q]
  obtain⟨d,le⟩:=Bn.1 ⟨i,j⟩;unfold vj;rw[d,E0,le,aa9,abO]
  have lb:Zl code n x=true:=by
   unfold Zl
   have a:(decide (x.op=20) && !decide (ug code x.l 0=(n:Int)))=false:=by
    by_cases q:x.op=20
    ·have:=((iO code []).1 h2 n x hx q).2;rw[ach ((Bc hx q).2 this)];simp
    ·simp[q]
   have b:(decide (x.op=18\/x.op=19)&&decide (ug code x.l 0<0))=false:=by
    by_cases q:x.op=18\/x.op=19
    ·have e:¬ug code x.l 0<0:=λz=>by rw[oY,jp q]at z;cases z
     rw[abQ e];simp
    ·simp[q]
   rw[a,b];rfl
  rw[lb,p2];rfl
 ·intro h
  have H:∀n x,code[n]? = some x->vj p code n x=true:=λn x hx=>by
   rcases hq:vj p code n x with _|_
   ·rw[iH hx hq]at h;cases h
   ·rfl
  have G:∀n x,code[n]? = some x->Z7 p.globals x=true/\Zl code n x=true/\(decide (x.op=21)&&(decide (x.sub<0)||decide ((p.funcs.length:Int)<=x.sub)))=false:=λn x hx=>by
   have:=H n x hx;unfold vj at this;rw[E0]at this;simp only[aah,aav]at this;obtain⟨a,b,c,d⟩:=this;exact⟨(Bn.2 ⟨a,d⟩).1,b,c⟩
  refine⟨⟨λx hx=>?_,(iO code []).2 λn x hx q=>⟨rfl,?_⟩⟩,λx hx=>?_⟩
  ·obtain⟨n,hn,rfl⟩:=abI hx;exact(G n _ (aae hn)).1
  ·have:=(G n x hx).2.1;unfold Zl at this;simp only[aah,aav]at this;have a:=this.1;rw[ach q]at a;have a:ug code x.l 0=(n:Int):=by simpa using a
   exact(Bc hx q).1 a
  ·obtain⟨n,hn,rfl⟩:=abI hx;obtain⟨_,lb,c⟩:=G n _ (aae hn);unfold Wq;rw[hany,c,aa1,aa9];unfold Zl at lb;simp only[aah,aav]at lb;have b:=lb.2;by_cases q:code[n].op=18\/code[n].op=19
   ·rw[ach q]at b;have b:¬ug code code[n].l 0<0:=by simpa using b
    have e:code.any (Zo code[n].l)=true:=by
     rcases hq:code.any (Zo code[n].l) with _|_
     ·exact absurd ((oY _ _).2 hq) b
     ·rfl
    rw[e];simp
   ·rw[abQ q];rfl
theorem Ru(p:Pg)(f:Go.As.Fn):aQ p f=mz p f:=by
 unfold aQ mz;rw[sK,<- Mw];by_cases h:(f.code.all (Z7 p.globals)&&QX f.code [])=true
 ·rw[aam h,h];simp only[e7,abO,Bool.false_or];cases f.code.all (Wq p.funcs.length (iy f.code [])) <;> cases Xp f.code <;> simp
 ·rw[aak h];have h:(f.code.all (Z7 p.globals)&&QX f.code [])=false:=by simpa using h
  rw[h];simp[e7]
theorem iN(p:Pg):Wp p=Xf p:=by
 unfold Wp Xf
 have e:p.funcs.all (aQ p)=p.funcs.all (mz p):=by
  congr 1
  exact funext λf=>Ru p f
 rw[e];rfl
end Go.Ar
namespace Go.Rtl
open Go.Ai Go.Proofs Go.Mem
open Go.Rm (kg w9 Z0 Xi Wj ml uL j9 u6 V3 qL mq Rd Rd.at)
open Go.As (Es)
section
variable {lo:yQ}{h:za}{L:List HP}{b mb wb fb b1 b2:Nat}{world:List Int}{ev lk gl cl kv wn:Value}{fi:List Nat}{kept:Option (Int->Bool)}{R:Value->za->Prop}
theorem mm{h:za}{sv:Value}{zs:List Int}(S:zT h sv 1 (zs.map w9)):zD h sv zs:=by
 have T:=S;rcases S with⟨e,e2⟩|⟨b,off,cp,rfl,hc⟩
 ·exact .inl ⟨e,by simpa using e2⟩
 ·refine .inr ⟨b,off,cp,by rw[aaD],λhz=>?_⟩;obtain⟨c,t,hb,hg,hat⟩:=hc (by simpa using hz);refine⟨c,t,hb,hg,λi z hiz=>?_⟩;obtain⟨b2,o,c2,t2,⟨off2,cp2,e1,e2⟩,_,_,hg2,_,_,h3⟩:=T.spot (i:=i) (r:=w9 z) (by rw[aaw,hiz];rfl) rfl;simp only[abS,aab,acb]at e1;obtain⟨⟨rfl,rfl,_⟩,_,rfl⟩:=e1;rw[hg]at hg2;cases hg2;have:=h3 0 (by decide);rw[e2,abH,acf]at this;exact this
end
def ints(zs:List Int):List Value:=zs.map λz => .int .i64 z
theorem I6(zs:List Int):(ints zs).all wi=true:=by
 rw[aaJ];intro v hv;simp only[ints,abE]at hv;obtain⟨z,_,rfl⟩:=hv;rfl
theorem dJ(c n:Nat):uQ c n≠0:=by
 unfold uQ;split
 ·cases Nat.ble n _ <;> simp
 ·simp
def Wm(lo h:za)(l:Value)(zs:List Int):Prop:=(l=.slice none 0 0/\zs=[]) \/ ∃b c,l=.slice (some ⟨b,0,none⟩) zs.length c/\c≠0/\lo.next<=b/\b<h.next/\h.ro<=b/\h.get b=some (.cells (ints zs) 3)
section
variable {lo h:za}{l:Value}{zs:List Int}
theorem Wm.Y0(S:Wm lo h l zs):yo l=false:=by
 rcases S with⟨rfl,_⟩|⟨_,_,rfl,_⟩ <;> rfl
theorem Ie(S:Wm lo h l zs)(e:Old lo h)(hro:h.ro<=h.next){x:Value}{n:Nat}{ys:List Int}(hn:YP x=some n)(hy:ys.length=n)(hf:vE h n 1 x=some (ints ys))(hb:zs.length+n<=17592186044416) :
  ∃l' h',zk Tryz.prog .append [22,22] 22 [l,x] h=some (l',h')/\Wm lo h' l' (zs++ys)/\Old lo h'/\h'.ro<=h'.next/\h.next<=h'.next/\(Kj h->Kj h') /\ ∀b,b<lo.next->h'.get b=h.get b:=by
 have hap:=Es 22 l x n (ints ys) h hn hf (I6 ys) (by simp[ints,hy]);rw[hap];have n0:=e.next;rcases S with⟨rfl,rfl⟩|⟨b,c,rfl,hc,hb1,hb2,hb3,hg⟩
 ·by_cases h0:n=0
  ·have:ys=[]:=abw.1 (by omega);subst this;exact⟨_,_,by simp only[Yq,h0,aac],.inl ⟨rfl,rfl⟩,e,hro,aal _,id,λ_ _=>rfl⟩
  ·refine⟨.slice (some ⟨h.next,0,none⟩) n 1,h.push (.cells (ints ys) 3),?_,.inr ⟨h.next,1,by simp[hy],by decide,by omega,aa4 _,hro,by rw[zO];rfl⟩,e.trans (Old.push _ _),abG hro,abC _,λw=>fU w _,λb hb=>zL (by omega)⟩;simp only[Yq,h0,aat];rw[aam (by omega)]
 ·by_cases h0:n=0
  ·have:ys=[]:=abw.1 (by omega);subst this;exact⟨.slice (some ⟨b,0,none⟩) zs.length c,h,by simp only[Yq,h0,aac],.inr ⟨b,c,by simp,hc,hb1,hb2,hb3,by simpa using hg⟩,e,hro,aal _,id,λ_ _=>rfl⟩
  ·have hroom:roomFor c (zs.length+n) 8=true:=by
    unfold roomFor;cases Nat.beq c 2 <;> simp only[aax,aaK,ab2] <;> omega
   have hl:(ints zs).length=zs.length:=by simp[ints]
   refine⟨.slice (some ⟨h.next,0,none⟩) (zs.length+n) (uQ c (zs.length+n)),(h.set b none).push (.cells (ints (zs++ys)) 3),?_,.inr ⟨h.next,uQ c (zs.length+n),by simp[hy],dJ _ _,by omega,aa4 _,hro,zO⟩,?_,abG hro,abC _,λw=>fU (wf_set w hb2 _) _,λb' hb'=>?_⟩
   ·simp only[Yq,h0,aat,hg];rw[aam ⟨hc,trivial,hb3,by rw[hl];omega,hroom,by decide⟩]
    congr 3
    rw[abt,ab5 (by rw[hl];omega)];simp[ints]
   ·refine⟨by show lo.next<=h.next+1;omega,e.ro,λb' hb'=>?_⟩;rw[zL (by show b'<h.next;omega),zP (by omega)];exact e.get b' hb'
   ·rw[zL (by show b'<h.next;omega),zP (by omega)]
end
section
variable {lo h:za}{l:Value}{zs:List Int}
theorem zD.first(S:zD h l zs):YP l=some zs.length/\vE h zs.length 1 l=some (ints zs):=by
 rcases S with⟨rfl,rfl⟩|⟨b,off,cp,rfl,hc⟩
 ·exact⟨rfl,rfl⟩
 ·refine⟨rfl,?_⟩;by_cases h0:zs=[]
  ·subst h0;rfl
  ·obtain⟨c,t,hb,hg,hat⟩:=hc h0;have hne:0<zs.length:=List.length_pos_iff.2 h0
   have hlen:off+zs.length<=c.length:=by
    have:=hat (zs.length-1) _ (aae (by omega));rcases aaA (off+(zs.length-1)) c.length with q|q
    ·omega
    ·rw[aao q]at this;cases this
   simp only[vE,hg];rw[show Nat.beq (zs.length*1) 0=false by cases hz:Nat.beq (zs.length*1) 0 with|false=>rfl|true=>have:=aar hz;omega];rw[show Nat.ble (off+zs.length*1) c.length=true by simpa using hlen];simp only[aaK,aax,aab,abH];apply abe;intro i;by_cases hi:i<zs.length
   ·rw[aaX hi,aaW,hat i _ (aae hi)];simp[ints,hi]
   ·rw[aao (by simp;omega),aao (by simp[ints];omega)]
end
def Wy(lo h:za)(t:TypeId)(l:Value)(rows:List (List Value)):Prop:=(l=.slice none 0 0/\rows=[]) \/ ∃b c,l=.slice (some ⟨b,0,none⟩) rows.length c/\c≠0/\lo.next<=b/\b<h.next/\h.ro<=b/\h.get b=some (.cells rows.flatten t)
def YR:Value->List Nat
 | .slice (some a) _ _=>[a.block]
 |_=>[]
section
variable {lo h:za}{l:Value}{rows:List (List Value)}{t:TypeId}
theorem oG{n bz:Nat}(S:Wy lo h t l rows)(hro:h.ro<=h.next)(hlo:lo.next<=h.next)(h0n:0<n)(hn:∀r,r∈rows->r.length=n){ys:List (List Value)}(hb:(rows.length+ys.length)*bz<=2^47) :
  ∃l' h',Yq h t n bz ys.length ys.flatten l=some (l',h')/\Wy lo h' t l' (rows++ys)/\h'.ro=h.ro/\h'.ro<=h'.next/\h.next<=h'.next/\(Kj h->Kj h')/\(∀b,b<h.next->b∉YR l->h'.get b=h.get b)/\(∀b,b∈YR l'->b∈YR l\/h.next<=b):=by
 rcases S with⟨rfl,rfl⟩|⟨b,c,rfl,hc,hb1,hb2,hb3,hg⟩
 ·by_cases h0:ys.length=0
  ·have:ys=[]:=abw.1 h0;subst this;exact⟨_,_,by simp only[Yq,aaz,aac],.inl ⟨rfl,rfl⟩,rfl,hro,aal _,id,λ_ _ _=>rfl,λb hb => .inl hb⟩
  ·refine⟨.slice (some ⟨h.next,0,none⟩) ys.length 1,h.push (.cells ys.flatten t),?_,.inr ⟨h.next,1,by simp,by decide,hlo,aa4 _,hro,by rw[zO];rfl⟩,rfl,abG hro,abC _,λw=>fU w _,λb hb _=>zL hb,λb hb=>by simp only[YR,abn]at hb;exact .inr (by omega)⟩;simp only[Yq,h0,aat];have:ys.length*bz<=2^48:=by simp only[aaz,aau]at hb;omega
   rw[aam this]
 ·by_cases h0:ys.length=0
  ·have:ys=[]:=abw.1 h0;subst this;exact⟨.slice (some ⟨b,0,none⟩) rows.length c,h,by simp only[Yq,aaz,aac],.inr ⟨b,c,by simp,hc,hb1,hb2,hb3,by simpa using hg⟩,rfl,hro,aal _,id,λ_ _ _=>rfl,λb hb => .inl hb⟩
  ·have hroom:roomFor c (rows.length+ys.length) bz=true:=by
    unfold roomFor;cases Nat.beq c 2 <;> simp only[aax,aaK,ab2] <;> omega
   have hl:=wu hn;refine⟨.slice (some ⟨h.next,0,none⟩) (rows.length+ys.length) (uQ c (rows.length+ys.length)),(h.set b none).push (.cells (rows++ys).flatten t),?_,.inr ⟨h.next,uQ c (rows.length+ys.length),by simp,dJ _ _,by omega,aa4 _,hro,zO⟩,rfl,abG hro,abC _,λw=>fU (wf_set w hb2 _) _,λb' hb' hne=>?_,λb hb=>by simp only[YR,abn]at hb;exact .inr (by omega)⟩
   ·simp only[Yq,h0,aat,hg];rw[aam ⟨hc,trivial,hb3,by rw[hl];omega,hroom,by simp⟩]
    congr 3
    rw[abt,ab5 (by rw[hl];omega),List.flatten_append]
   ·simp only[YR,abn]at hne;rw[zL (by show b'<h.next;exact hb'),zP hne]
end
theorem eA(h h2:za):(uS h h2).ro=h.ro:=rfl
theorem Wf(h h2:za):(uS h h2).next=h2.next:=rfl
theorem AG{h:za}{x:Value}{zs:List Int}{e:Nat}(S:zD (h.push (.cells [] 3)) x zs)(L3:zs.length<=17592186043904)(hro:h.ro<=h.next)(he:h.next<e){K:Value->za->Prop}(k:∀v h6,Wm h h6 v zs->Old h h6->h6.ro<=h6.next->K v h6) :
  CZ Tryz.prog [22,22] 22 [.slice (some ⟨h.next,0,none⟩) 0 2,x] (some (h.next,e)) (h.push (.cells [] 3)) (h.push (.cells [] 3)) K:=by
 refine⟨⟨aal _,he,by rw[zO];simp⟩,?_⟩;have W:Wm h (h.push (.cells [] 3)) (.slice (some ⟨h.next,0,none⟩) 0 2) [] := .inr ⟨h.next,2,rfl,by decide,aal _,aa4 _,hro,zO⟩;obtain⟨l',h',a1,a2,a3,a4,a5,a6,a7⟩:=Ie W (Old.push _ _) (abG hro) S.first.1 rfl S.first.2 (by simpa using(by omega:zs.length<=17592186044416));rw[a1,zG rfl,zG S.Y0,zU];show K l' _;have hr:(uS (vQ (h.push (.cells [] 3)) (.slice (some ⟨h.next,0,none⟩) 0 2) h') h').ro=h.ro:=by rw[eA,sE];rfl
 have a5':h.next+1<=h'.next:=a5
 have gg:∀b,(uS (vQ (h.push (.cells [] 3)) (.slice (some ⟨h.next,0,none⟩) 0 2) h') h').get b=if h.next<=b/\b<h'.next then h'.get b else h.get b:=by
  intro b;rw[qg,KR];show(if h.next+1<=b/\b<h'.next then h'.get b else ((h.push (.cells [] 3)).set h.next (h'.get h.next)).get b)=_;by_cases hb:h.next+1<=b/\b<h'.next
  ·rw[aam hb,aam ⟨by omega,hb.2⟩]
  ·rw[aak hb];by_cases hb2:b=h.next
   ·subst hb2;rw[ye,aam ⟨aal _,by omega⟩]
   ·rw[zP hb2,aak (by omega),za.vK,aak hb2]
 refine k _ _ ?_ ⟨by rw[Wf];omega,hr,λb hb=>by rw[gg,aak (by omega)]⟩ ?_
 ·rw[ack]at a2;rcases a2 with q|⟨b,c,q1,q2,q3,q4,q5,q6⟩
  ·exact .inl q
  ·refine .inr ⟨b,c,q1,q2,q3,q4,?_,?_⟩
   ·rw[hr];omega
   ·rw[gg,aam ⟨q3,q4⟩];exact q6
 ·rw[hr,Wf];omega
theorem Wm.sub{lo h K:za}{v:Value}{zs:List Int}(S:Wm lo h v zs)(hn:h.next<=K.next)(hk:∀b,lo.next<=b->b<h.next->K.get b=h.get b):zD K v zs:=by
 rcases S with a|⟨b,c,rfl,hc,h1,h2,h3,h4⟩
 ·exact .inl a
 ·refine .inr ⟨b,0,c,rfl,λ_=>⟨_,3,aan h2 hn,by rw[hk b h1 h2];exact h4,λi z hz=>?_⟩⟩;simp[ints,hz]
theorem Wm.shape{lo h:za}{v:Value}{zs:List Int}(S:Wm lo h v zs):∃a n c,v=.slice a n c:=by
 rcases S with⟨rfl,_⟩|⟨_,_,rfl,_⟩ <;> exact⟨_,_,_,rfl⟩
theorem Wy.shape{lo h:za}{t:TypeId}{v:Value}{rows:List (List Value)}(S:Wy lo h t v rows):∃a n c,v=.slice a n c:=by
 rcases S with⟨rfl,_⟩|⟨_,_,rfl,_⟩ <;> exact⟨_,_,_,rfl⟩
section
variable {lo:yQ}{h h':za}{L:List HP}
theorem fT{A:HP}(s:Sat lo h L)(hA:A∈L):Sat lo h [A]:=by
 obtain⟨a,b,rfl⟩:=aaV hA;exact(s.perm (List.perm_middle)).zE 1
theorem sH{A:HP}{M:List HP}(s:Sat lo h (YY M::L))(hA:A∈M):Sat lo h [A]:=fT s.open (List.mem_append_left _ hA)
theorem mc{A:HP}{M:List HP}(s:Sat lo h (A::YY M::L)):Sat lo h (YY (M++[A])::L):=by
 apply Sat.close;have s2:=Sat.open (s.f [1,0]);rw[List.append_assoc];exact s2
theorem me{A:HP}{M:List HP}(s:Sat lo h (YY (A::M)::L)):Sat lo h (A::YY M::L):=Sat.cons (λ_=>Sat.close) s.open
theorem sI(s:Sat lo h L):Sat lo h (YY []::L):=Sat.close (M:=[]) s
theorem pH(s:Sat lo h L)(e:Old h h')(hr:h'.ro<=h'.next){b:Nat}{o:vg}(h1:h.next<=b)(h2:b<h'.next)(hg:h'.get b=some o):Sat lo h' (pt b o::L):=by
 have rk:=s.base.sQ
 have low:∀y z,(yQ.of h).get y=some z->y<h.next/\z=h.get y:=λy z q=>by
  unfold yQ.of at q;dsimp only at q;split at q
  ·cases q;exact⟨by assumption,rfl⟩
  ·cases q
 refine s.join (L':=[pt b o]) ⟨λy=>if y=b then some o else none,λ_=>rfl,λy p q=>?_,λy p q=>?_,⟨e.ro,hr,λy z q=>?_⟩⟩
 ·dsimp only at q;split at q
  ·rename_i q2;subst q2;unfold yQ.of;dsimp only;rw[aak (by omega)]
  ·cases q
 ·dsimp only at q;split at q
  ·rename_i q2;subst q2;show h.ro<=_;omega
  ·cases q
 ·by_cases q2:y=b
  ·subst q2;rw[yQ.v9 (o:=o) (by rw[aam rfl])]at q;cases q;exact⟨hg,h2⟩
  ·rw[yQ.uV (by rw[aak q2])]at q;obtain⟨a,rfl⟩:=low y z q;exact⟨e.get y a,aan a e.next⟩
theorem pf:∀(zs:List Int),ints zs=(zs.map w9).flatten
 |[]=>rfl
 |z::zs=>by
  have:=pf zs;unfold ints at this ⊢;rw[abz,abz,aci,this];rfl
theorem N4{v:Value}{zs:List Int}(W:Wm h h' v zs)(e:Old h h')(hr:h'.ro<=h'.next)(s:Sat lo h L):Sat lo h' (kg 3 1 v (zs.map w9)::L):=by
 rcases W with⟨rfl,rfl⟩|⟨b,c,rfl,hc,h1,h2,h3,h4⟩
 ·exact Xi _ _ (s.La e.next e.ro e.get)
 ·have:=Wj (n:=1) (ty:=3) (rows:=zs.map w9) (c:=c) hc (qL (f:=w9) (λ_=>rfl) zs) (pf zs) (pH s e hr h1 h2 h4)
  rwa [aaD]at this
theorem LJ{t:TypeId}{n:Nat}{v:Value}{rows:List (List Value)}(W:Wy h h' t v rows)(hn:∀r,r∈rows->r.length=n)(e:Old h h')(hr:h'.ro<=h'.next)(s:Sat lo h L):Sat lo h' (kg t n v rows::L):=by
 rcases W with⟨rfl,rfl⟩|⟨b,c,rfl,hc,h1,h2,h3,h4⟩
 ·exact Xi _ _ (s.La e.next e.ro e.get)
 ·exact Wj hc hn rfl (pH s e hr h1 h2 h4)
theorem G8{rows:List (List Value)}{n:Nat}{cs:List Value}{i k:Nat}{r:List Value}{v:Value}(hn:∀r,r∈rows->r.length=n)(hl:rows.length*n<=cs.length)(ht:cs.take (rows.length*n)=rows.flatten)(hr:rows[i]? = some r)(hk:k<n) :
  (cs.set (i*n+k) v).take (rows.length*n)=(rows.set i (r.set k v)).flatten:=by
 have hi:i<rows.length:=(aby.1 hr).1;have rl:=hn r (aaG hr);have hm:=abA n (acm hi);rw[acx]at hm;have e:=mq (cs:=cs) (row:=r.set k v) hi hn (by rw[abf];exact rl) hl ht;rw[<- e]
 congr 1
 refine abe λj=>?_;rw[YS _ _ _ _ (by rw[abf,rl];omega),acj,abf,rl]
 have hrow:∀m,m<n->cs[i*n+m]? = r[m]?:=λm hm2=>by
  rw[<- aaX (l:=cs) (i:=i*n+m) (j:=rows.length*n) (by omega),ht,VR hn hr hm2]
 by_cases q:i*n<=j/\j<i*n+n
 ·rw[aam q,acj];by_cases q2:i*n+k=j
  ·rw[aam q2,aam (by omega),aam (by omega),aam (by omega)]
  ·rw[aak q2,aak (by omega),<- hrow (j-i*n) (by omega)]
   congr 1;omega
 ·rw[aak q,aak (by omega)]
theorem mi{ty:TypeId}{n:Nat}{sv:Value}{rows:List (List Value)}(s:Sat lo h (kg ty n sv rows::L))(hn:∀r,r∈rows->r.length=n){i:Nat}{r:List Value}(hr:rows[i]? = some r) :
  ∃b c cs,sv=.slice (some ⟨b,0,none⟩) rows.length c/\h.get b=some (.cells cs ty)/\b<h.next/\h.ro<=b/\rows.length*n<=cs.length/\(∀k,k<n->cs[i*n+k]? = r[k]?)/\Sat lo h (pt b (.cells cs ty)::L) /\ ∀{h':za} {L':List HP} (k:Nat) (v:Value),k<n->Sat lo h' (pt b (.cells (cs.set (i*n+k) v) ty)::L')->Sat lo h' (kg ty n sv (rows.set i (r.set k v))::L'):=by
 have hi:i<rows.length:=(aby.1 hr).1;rcases Z0 s with⟨rfl,rfl,_⟩|⟨b,c,cs,rfl,hc,hl,ht,s1⟩
 ·cases hi
 ·have hm:=abA n (acm hi);rw[acx]at hm;refine⟨b,c,cs,rfl,s1.get,s1.lt,s1.wr,hl,λk hk=>?_,s1,λk v hk s2=>?_⟩
  ·rw[<- aaX (l:=cs) (i:=i*n+k) (j:=rows.length*n) (by omega),ht,VR hn hr hk]
  ·have:=ml (n:=n) (rows:=rows.set i (r.set k v)) (c:=c) hc (by rw[abf,abf];exact hl) (by rw[abf];exact G8 hn hl ht hr hk) s2
   rwa [abf]at this
theorem LI(s:Sat lo h L){v:Value}{zs:List Int}(hm:kg 3 1 v (zs.map w9)∈L):zD h v zs:=mm (u6 (fT s hm) (qL (f:=w9) (λ_=>rfl) zs))
end
end Go.Rtl
namespace Go.Ar
open Go.Ai Go.Proofs
open Go.Rtl (zD zT Old inc fT sH mc me sI LI)
open Go.Rm (Rd Rd.of Rd.at kg u6 qL w9)
open Go.As (wZ Pg UF qW)
theorem VU(xs:List wZ):∀r,r∈xs.map wZ.row->r.length=7:=qL (f:=wZ.row) (λ_=>rfl) xs
theorem JI(fs:List Go.As.Fn):∀r,r∈fs.map Go.As.Fn.row->r.length=2:=qL (f:=Go.As.Fn.row) (λ_=>rfl) fs
def EI(f:Go.As.Fn):HP:=kg 50 7 f.cv (f.code.map wZ.row)
def Pb(q:Pg):HP:=YY [kg 3 1 q.gv (q.globals.map w9),kg 47 2 q.fv (q.funcs.map Go.As.Fn.row),YY (q.funcs.map EI)]
section
variable {lo:yQ}{h:za}{L:List HP}
theorem BD{q:Pg}(s:Sat lo h (Pb q::L))(h1:q.globals.length<=17592186043904)(h2:q.funcs.length*24<=140737488351232)(h3:∀f,f∈q.funcs->f.code.length*56<=140737488351232):qW h q:=by
 have s1:=s.open;refine⟨LI s1 (by simp),h1,u6 (s1.p 1) (JI _),h2,λf hf=>⟨?_,h3 f hf⟩⟩;have:=sH (s1.p 2) (List.mem_map_of_mem (f:=EI) hf);exact u6 this (VU _)
end
open Go.Rtl (Wy oG eA Wf YR wu)
theorem oH{t te:TypeId}{n bz:Nat}(hap:∀(r:TypeId) (v x:Value) (k:Nat) (new:List Value) (h:za),YP x=some k->vE h k n x=some new->new.all wi=true->new.length=k*n->zk Tryz.prog .append [t,t] r [v,x] h=Yq h te n bz k new v)
  {h:za} {x:Value} {rows:List (List Value)} {e:Nat} (S:zT (h.push (.cells [] te)) x n rows) (h0n:0<n) (hn:∀r,r∈rows->r.length=n) (hc:rows.flatten.all wi=true) (L3:rows.length*bz<=2^47) (hro:h.ro<=h.next) (he:h.next<e) {K:Value->za->Prop} (k:∀v h6,Wy h h6 te v rows->Old h h6->h6.ro<=h6.next->K v h6) :
  CZ Tryz.prog [t,t] t [.slice (some ⟨h.next,0,none⟩) 0 2,x] (some (h.next,e)) (h.push (.cells [] te)) (h.push (.cells [] te)) K:=by
 refine⟨⟨aal _,he,by rw[zO];simp⟩,?_⟩;have W:Wy h (h.push (.cells [] te)) te (.slice (some ⟨h.next,0,none⟩) 0 2) [] := .inr ⟨h.next,2,rfl,by decide,aal _,aa4 _,hro,zO⟩;obtain⟨l',h',a1,a2,a3,a4,a5,a6,a7,_⟩:=oG (n:=n) (bz:=bz) W (abG hro) (abC _) h0n (λr hr=>by cases hr) (ys:=rows) (by simpa using L3);have a0:=hap t (.slice (some ⟨h.next,0,none⟩) 0 2) x rows.length rows.flatten (h.push (.cells [] te)) S.H7 (S.first h0n hn) hc (wu hn);rw[a0,a1,zG rfl,zG S.Y0,zU];show K l' _;have hr:(uS (vQ (h.push (.cells [] te)) (.slice (some ⟨h.next,0,none⟩) 0 2) h') h').ro=h.ro:=by rw[eA,sE];rfl
 have a5':h.next+1<=h'.next:=a5
 have gg:∀b,(uS (vQ (h.push (.cells [] te)) (.slice (some ⟨h.next,0,none⟩) 0 2) h') h').get b=if h.next<=b/\b<h'.next then h'.get b else h.get b:=by
  intro b;rw[qg,KR];show(if h.next+1<=b/\b<h'.next then h'.get b else ((h.push (.cells [] te)).set h.next (h'.get h.next)).get b)=_;by_cases hb:h.next+1<=b/\b<h'.next
  ·rw[aam hb,aam ⟨by omega,hb.2⟩]
  ·rw[aak hb];by_cases hb2:b=h.next
   ·subst hb2;rw[ye,aam ⟨aal _,by omega⟩]
   ·rw[zP hb2,aak (by omega),za.vK,aak hb2]
 refine k _ _ ?_ ⟨by rw[Wf];omega,hr,λb hb=>by rw[gg,aak (by omega)]⟩ ?_
 ·rw[ack]at a2;rcases a2 with q|⟨b,c,q1,q2,q3,q4,q5,q6⟩
  ·exact .inl q
  ·refine .inr ⟨b,c,q1,q2,q3,q4,?_,?_⟩
   ·rw[hr];omega
   ·rw[gg,aam ⟨q3,q4⟩];exact q6
 ·rw[hr,Wf];omega
end Go.Ar
namespace Go.Ac
open Go.Ai Go.Proofs
open Go.Rtl (zD zT Old inc fT sH mc me sI LI N4 LJ AG Wm Wy)
open Go.Rm (Rd Rd.of Rd.at kg u6 Xi V3 uL j9 qL w9)
open Go.As (wZ Pg UF qW Up fo Z8 Qy)
open Go.Ar (EI Pb VU JI oH)
def Alike(fs gs:List Go.As.Fn):Prop:=gs.map (λf=>(f.nm,f.code))=fs.map λf=>(f.nm,f.code)
theorem EO:∀xs:List wZ,(xs.map wZ.row).flatten.all wi=true
 |[]=>rfl
 |x::xs=>by
  rw[abz,aci,List.all_append,EO xs];rfl
section
variable {h:za}{p:Pg}
theorem IE(P:qW h p)(hfl:p.funcs.length<=100):DC Tryz.prog 8 [p.val] h (λv h'=>∃q:Pg,v=q.val/\q.globals=p.globals/\q.main=p.main/\q.params=p.params/\Alike p.funcs q.funcs/\Sat (.of h) h' [Pb q]):=by
 apply Y3;intro wf;apply Fq;unfold Ca;have s0:Sat (.of h) h []:=Sat.self wf.2;have RP:Rd (.of h) (qW · p):=Rd.of (yQ.qQ h) P λh' o=>P.old o;have gvn:=P.globals.Y0;have gvc:=P.globals.iI;have fvn:=P.funcs.Y0;have fvc:=P.funcs.iI;simp only[EE,Value.cells,Ey,Ix];refine vp s0 λb1 h2 s2=>?_;simp only[EE,zw,u5,wI];refine vp s2 λb2 h4 s4=>?_;have g1:=(s4.p 1).get;have l1:=(s4.p 1).lt;have gc1:∀t,(cut (h4.push (.cells [] 3)) h4.next t).get b1=some (.cells [p.gv,p.fv,.int .i64 p.main,.int .i64 p.params] 25):=λt=>by rw[Vm l1,zL l1];exact g1
 simp only[EE,gc1];refine AG (h:=h4) ((RP.at s4).globals.old (Old.push _ _)) P.Gu s4.base.sQ (aa4 _) ?_;intro gv' h6 W e6 r6;have s6:=N4 W e6 r6 s4;have g6:h6.get b1=some (.cells [p.gv,p.fv,.int .i64 p.main,.int .i64 p.params] 25):=(s6.p 2).get
 have gcc:(cut (cut h6 h4.next (h4.next+1)) (h4.next+1) h6.next).get b1=some (.cells [p.gv,p.fv,.int .i64 p.main,.int .i64 p.params] 25):=by
  rw[Vm (by show b1<h4.next+1;omega),Vm l1];exact g6
 unfold tp;obtain⟨va,vl,vc,rfl⟩:=W.shape;simp only[EE,Value.cells,zw,zh,Ey,AL,jm,j4,gcc];refine vp s6 λb3 h8 s8=>?_;simp only[EE,Nat.reduceAdd,Eu];refine xQ s8 (by simp) (by rfl) λh9 s9=>?_
 refine jz (λm vs h'=>∃(i:Nat) (fv:Value) (gs:List Go.As.Fn),i<=p.funcs.length/\m=p.funcs.length-i/\vs=[.int .i64 (i:Nat)]/\Alike (p.funcs.take i) gs/\Sat (.of h) h' [pt b3 (.cells [.slice va vl vc,fv,.int .i64 p.main,.int .i64 p.params] 25),kg 3 1 (.slice va vl vc) (p.globals.map w9),kg 47 2 fv (gs.map Go.As.Fn.row),YY (gs.map EI),pt b2 (.cells [.slice none 0 0,.slice none 0 0,.int .i64 0,.int .i64 0] 25),pt b1 (.cells p.row 25)]) p.funcs.length
  ⟨0,.slice none 0 0,[],aa5 _,rfl,rfl,rfl,(Xi 47 2 (sI s9)).f [2,3,0,1,4,5]⟩ ?_
 rintro m vs h' ⟨i,fv,gs,hi,rfl,rfl,hal,s⟩;have g3:=s.get;have g1:=(s.p 5).get;have l1:=(s.p 5).lt;have PP:=RP.at s;have fl:=λh'=>Z8 PP.funcs 3 h';unfold tn;by_cases hc:(i:Int)<(p.funcs.length:Int)
 ·obtain⟨f,hf⟩:∃f,p.funcs[i]? = some f:=⟨_,aae (by omega)⟩;have F:=PP.fns f (aaG hf);obtain⟨bf,ofs,cf,tf,hif,hbf,hgf,hlf,htf,hkf⟩:=Up PP.funcs (i:=i) (r:=f.row) (by rw[aaw,hf];rfl) rfl;have k0:=hkf 0 (by decide);have k0:cf[ofs]? = some (.string f.nm):=k0;have k1:=hkf 1 (by decide);have k1:cf[ofs+1]? = some f.cv:=k1;have gc1:∀t,(cut (h'.push (.cells [] 50)) h'.next t).get b1=some (.cells [p.gv,p.fv,.int .i64 p.main,.int .i64 p.params] 25):=λt=>by rw[Vm l1,zL l1];exact g1
  have gcf:∀t,(cut (h'.push (.cells [] 50)) h'.next t).get bf=some (.cells cf tf):=λt=>by rw[Vm hbf,zL hbf];exact hgf
  have fvn':=uL (s.p 2);simp only[EE,nth,↓yy,zw,vM,kO,S6,Iz,yM,MD,vD,th,tj,g1,g3,fvn,fl,hc,hif,hgf,k0,k1,gc1,gcf];refine oH (bz:=56) (λr v x k new h a b c d=>P4 r v x k new h a b c d) (F.code.old (Old.push _ _)) (by decide) (VU _) ?_ (by rw[aaD];have:=F.mQ;omega) s.base.sQ (aa4 _) ?_
  ·exact EO _
  ·intro v h6 W e6 r6;have s6:=LJ W (VU _) e6 r6 s;have g3:=(s6.p 1).get;obtain⟨wa,wl,wc,rfl⟩:=W.shape;have s7:=s6.push (.cells [.string f.nm,.slice wa wl wc] 47);have hgl:gs.length=i:=by have:=congrArg List.length hal;simp at this;omega
   obtain⟨b',c',h8,a1,s8⟩:=V3 (s7.p 4) (JI gs) [.string f.nm,.slice wa wl wc] rfl (by decide) 40 (by rw[aaD];omega);rw[aaD]at a1 s8
   have hap:∀r,zk Tryz.prog .append [23,23] r [fv,.slice (some ⟨h6.next,0,none⟩) 1 3] (h6.push (.cells [.string f.nm,.slice wa wl wc] 47))=some (.slice (some ⟨b',0,none⟩) (gs.length+1) c',h8):=λr=>by
    rw[P0 r _ _ 1 [.string f.nm,.slice wa wl wc] _ rfl (by simp only[vE,zO];rfl) rfl rfl];exact a1
   unfold tg;simp only[EE,P7,Gb,Gh,yM,fvn',hap];refine xQ (s8.p 3) (by simp) rfl λh9 s9=>?_;simp only[inc (show i<4611686018427387904 by omega)];refine⟨p.funcs.length-(i+1),by omega,i+1,.slice (some ⟨b',0,none⟩) (gs.length+1) c',gs++[⟨f.nm,.slice wa wl wc,f.code⟩],by omega,rfl,rfl,?_,?_⟩
   ·unfold Alike at hal ⊢;rw[abN,hal,abT,hf];simp
   ·rw[abN,abN];have s10:=mc (A:=EI ⟨f.nm,.slice wa wl wc,f.code⟩) (s9.f [3,5]);exact s10.k [1,4,2,0,5,6]
 ·have e:i=p.funcs.length:=by omega
  subst e;rw[abX]at hal;have fn1:=uL (s.p 2);have fc1:=j9 (s.p 2);simp only[EE,nth,aac,Nat.reduceAdd,yg,zw,vM,Xn,Eu,yM,g1,g3,fvn,fl,hc];refine xQ (s.p 4) (by simp) (by simp[fc1];exact⟨rfl,rfl,rfl⟩) λh9 s9=>?_;have g9:=s9.get;simp only[EE,zf,aac,Nat.reduceAdd,yg,Xn,g9];refine⟨⟨.slice va vl vc,p.globals,fv,gs,p.main,p.params⟩,rfl,rfl,rfl,rfl,hal,?_⟩;exact Sat.close (s9.k [2,3,4])
end
end Go.Ac
namespace Go.As
open Go.Ai Go.Proofs Go.Mem Go.Rm
def ke(g:Int->Int)(x:wZ):wZ:=if x.op=18\/x.op=19\/x.op=20 then {x with l:=g x.l} else x
theorem XQ(g:Int->Int)(x:wZ):(ke g x).op=x.op:=by unfold ke;split <;> rfl
structure B5 (g:Int->Int) (p q:Pg):Prop where
 code:∀f,Yr q f=(Yr p f).map (ke g)
 globals:q.globals=p.globals
 main:q.main=p.main
theorem lS{g:Int->Int}(hg:∀a b,g a=g b->a=b):∀(xs:List wZ) (l n z:Int),Ws (xs.map (ke g)) (g l) n z=Ws xs l n z
 |[],_,_,_=>rfl
 |x::xs,l,n,z=>by
  show Ws (xs.map (ke g)) (g l) (n+1) (if (ke g x).op=20/\(ke g x).l=g l then n else z)=Ws xs l (n+1) (if x.op=20/\x.l=l then n else z);rw[lS hg]
  congr 1
  by_cases h:x.op=20
  ·have e:(ke g x).l=g x.l:=by unfold ke;rw[aam (.inr (.inr h))]
   rw[XQ,e];by_cases h2:x.l=l
   ·rw[aam ⟨h,by rw[h2]⟩,aam ⟨h,h2⟩]
   ·rw[aak (λq=>h2 (hg _ _ q.2)),aak (λq=>h2 q.2)]
  ·rw[aak (λq=>h (by rw[XQ]at q;exact q.1)),aak (λq=>h q.1)]
theorem pC(p:Pg)(f:Nat)(l:Int):jv p f l=Ws (Yr p f) l 0 0:=by
 unfold jv Yr;cases p.funcs[f]? <;> rfl
section
variable {g:Int->Int}{p q:Pg}
theorem lT(hg:∀a b,g a=g b->a=b)(h:B5 g p q)(f:Nat)(l:Int):jv q f (g l)=jv p f l:=by
 rw[pC,pC,h.code,lS hg]
theorem G5(hg:∀a b,g a=g b->a=b)(h:B5 g p q)(lim:Int)(world:List Int)(S:St)(c:Fr)(i:wZ):zl q lim world S c (ke g i)=zl p lim world S c i:=by
 by_cases hj:i.op=18\/i.op=19\/i.op=20
 ·have e:ke g i = {i with l:=g i.l}:=by unfold ke;rw[aam hj]
  rw[e];unfold zl;rcases hj with hj|hj|hj
  ·simp only[hj,lT hg h];rfl
  ·unfold VA;simp only[hj,lT hg h];rfl
  ·simp only[hj];simp
 ·have e:ke g i=i:=by unfold ke;rw[aak hj]
  have h1:¬i.op=18:=λq=>hj (.inl q);have h2:¬i.op=19:=λq=>hj (.inr (.inl q));rw[e];unfold zl;simp only[aak h1,aak h2]
theorem DN(hg:∀a b,g a=g b->a=b)(h:B5 g p q)(lim:Int)(world:List Int)(lab:Bool)(fuel:Int)(S:St):Qk q lim world lab fuel S=Qk p lim world lab fuel S:=by
 unfold Qk;cases S.calls.getLast? with
 |none=>rfl
 |some c=>
  simp only[h.code,aaD,aaw];cases (Yr p c.f)[c.pt.toNat]? with
  |none=>rfl
  |some i=>simp only[abq,XQ,G5 hg h]
theorem dY(hg:∀a b,g a=g b->a=b)(h:B5 g p q)(lim:Int)(world:List Int)(lab:Bool)(fuel:Int):∀(n:Nat) (S:St),Zr q lim world lab fuel n S=Zr p lim world lab fuel n S
 |0,S=>rfl
 |n+1,S=>by
  have e:Q7 q lim world lab fuel S=Q7 p lim world lab fuel S:=by unfold Q7;rw[DN hg h]
  show Zr q lim world lab fuel n (Q7 q lim world lab fuel S)=Zr p lim world lab fuel n (Q7 p lim world lab fuel S);rw[e,dY hg h]
theorem oU(hg:∀a b,g a=g b->a=b)(h:B5 g p q){lim:Int}{args world:List Int}{lab:Bool}{fuel:Int}{A B:St}(a:Ends p lim args world lab fuel A)(b:Ends q lim args world lab fuel B):B=A:=by
 obtain⟨a0,i,rfl⟩:=a;obtain⟨b0,j,rfl⟩:=b
 have es:Ud q lim args=Ud p lim args:=by
  unfold Ud JG;rw[h.globals,h.main]
 rw[es,dY hg h]at b0;rw[es,dY hg h];exact Lf _ _ _ _ _ b0 a0
end
end Go.As
namespace Go.Ar
open Go.Ai Go.Proofs
open Go.As (wZ Pg rW u3 Xf mz ke XQ)
theorem oZ{g:Int->Int}(hg:∀a b,g a=g b->a=b):∀(xs:List wZ) (l:Int) (n:Nat),ug (xs.map (ke g)) (g l) n=ug xs l n
 |[],_,_=>rfl
 |x::xs,l,n=>by
  show(if (ke g x).op=20/\(ke g x).l=g l then ((n:Nat):Int) else ug (xs.map (ke g)) (g l) (n+1))=if x.op=20/\x.l=l then ((n:Nat):Int) else ug xs l (n+1);rw[oZ hg xs,XQ];by_cases h:x.op=20
  ·have e:(ke g x).l=g x.l:=by unfold ke;rw[aam (.inr (.inr h))]
   rw[e];by_cases h2:x.l=l
   ·rw[aam ⟨h,by rw[h2]⟩,aam ⟨h,h2⟩]
   ·rw[aak (λq=>h2 (hg _ _ q.2)),aak (λq=>h2 q.2)]
  ·rw[aak (λq=>h q.1),aak (λq=>h q.1)]
theorem GX{g:Int->Int}{x:wZ}(h:xU x=true)(hr:x.op=18\/x.op=19\/x.op=20->0<=g x.l/\g x.l<=10000000):xU (ke g x)=true:=by
 by_cases ho:x.op=18\/x.op=19\/x.op=20
 ·have hr:=hr ho;have e:ke g x = {x with l:=g x.l}:=by unfold ke;rw[aam ho]
  rw[e];obtain⟨op,r,m,sub,cc,l,k⟩:=x;rcases ho with o|o|o
  all_goals
   simp only at o hr;subst o;simp only[xU,WR,VB,QC,bO,tailD]at h ⊢;simp at h ⊢;simp[h,hr]
 ·have e:ke g x=x:=by unfold ke;rw[aak ho]
  rw[e];exact h
theorem pF(g:Int->Int)(x:wZ):(ke g x).sub=x.sub/\(ke g x).k=x.k:=by unfold ke;split <;> exact⟨rfl,rfl⟩
theorem Pj{g:Int->Int}{x:wZ}(h:x.op=18\/x.op=19\/x.op=20):(ke g x).l=g x.l:=by unfold ke;rw[aam h]
theorem BR(g:Int->Int):∀xs:List wZ,Xp (xs.map (ke g))=Xp xs
 |[]=>rfl
 |x::xs=>by
  have:=BR g xs;unfold Xp at this ⊢;rw[abz,List.any_cons,List.any_cons,this,XQ]
theorem MQ{g:Int->Int}(hg:∀a b,g a=g b->a=b){p q:Pg}(e1:q.globals=p.globals)(e2:q.funcs.length=p.funcs.length){code:List wZ}{n:Nat}{x:wZ}(h:vj p code n x=true)(hr:x.op=18\/x.op=19\/x.op=20->0<=g x.l/\g x.l<=10000000):vj q (code.map (ke g)) n (ke g x)=true:=by
 unfold vj at h ⊢;simp only[aah]at h ⊢;obtain⟨h1,h2,h3⟩:=h;refine⟨GX h1 hr,?_,?_⟩
 ·unfold Zl at h2 ⊢;rw[XQ];by_cases o:x.op=18\/x.op=19\/x.op=20
  ·rw[Pj o,oZ hg];exact h2
  ·have a:¬x.op=20:=λz=>o (.inr (.inr z));have b:¬(x.op=18\/x.op=19):=λz=>o (by omega);rw[abQ a,abQ b];rfl
 ·unfold Z9 at h3 ⊢;rw[XQ,(pF g x).1,(pF g x).2,e1,e2];exact h3
theorem Bi{g:Int->Int}(hg:∀a b,g a=g b->a=b){p q:Pg}(h:Xf p=true)(e1:q.globals=p.globals)(e2:q.funcs.length=p.funcs.length)(e3:q.main=p.main)(e4:q.params=p.params)
  (hc:∀(k:Nat) f',q.funcs[k]? = some f'->∃f,p.funcs[k]? = some f/\f'.code=f.code.map (ke g)) (hr:∀f,f∈p.funcs->∀x,x∈f.code->x.op=18\/x.op=19\/x.op=20->0<=g x.l/\g x.l<=10000000):Xf q=true:=by
 rw[<- iN]at h ⊢;unfold Wp at h ⊢;simp only[aah,aaJ]at h ⊢;obtain⟨h1,h2,h3⟩:=h;refine⟨by unfold u3 at h1 ⊢;rw[e1,e2,e3,e4];exact h1,by rw[e1];exact h2,λf' hf'=>?_⟩;obtain⟨k,hk,rfl⟩:=abI hf';obtain⟨f,hf,ec⟩:=hc k _ (aae hk);have hfm:=aaG hf;have d:=h3 f hfm;unfold aQ at d ⊢;rw[ec,BR,aaD];simp only[aah]at d ⊢;obtain⟨d1,d2⟩:=d;refine⟨dK λn y hn hy=>?_,d2⟩;rw[aaw]at hy;cases hx:f.code[n]? with
 |none=>rw[hx]at hy;cases hy
 |some x=>
  rw[hx]at hy;simp only[abq,aab]at hy;subst hy;refine MQ hg e1 e2 ?_ (hr f hfm x (aaG hx));rcases hq:vj p f.code n x with _|_
  ·rw[iH hx hq]at d1;cases d1
  ·rfl
end Go.Ar
namespace Go.Al
open Go.Ai Go.Proofs
open Go.Rtl (zD zT Old inc LI mi)
open Go.Rm (Rd Rd.of Rd.at kg u6 uL j9 qL w9)
open Go.As (wZ Pg UF qW Up XC Z8 Zq ke XQ)
open Go.Ar (EI Pb VU JI)
def u4(n:Int)(l:Int):Int:=3*l+n
theorem fh(n:Int):∀a b,u4 n a=u4 n b->a=b:=λa b h=>by unfold u4 at h;omega
def part(g:Int->Int)(n:Nat)(code:List wZ):List wZ:=(code.take n).map (ke g)++code.drop n
theorem Ka(g:Int->Int)(n:Nat)(code:List wZ):(part g n code).length=code.length:=by
 unfold part;simp;omega
theorem GR(g:Int->Int)(code:List wZ):part g 0 code=code:=by simp[part]
theorem Lv(g:Int->Int)(code:List wZ):part g code.length code=code.map (ke g):=by simp[part]
theorem EV{g:Int->Int}{n:Nat}{code:List wZ}{x:wZ}(h:code[n]? = some x):(part g n code)[n]? = some x:=by
 have hn:=(aby.1 h).1;unfold part;rw[abl (by simp;omega),aaW];simp;rw[show n+(n-min n code.length)=n by omega];exact h
theorem pB{g:Int->Int}{n:Nat}{code:List wZ}{x:wZ}(h:code[n]? = some x):part g (n+1) code=(part g n code).set n (ke g x):=by
 have hn:=(aby.1 h).1;unfold part;rw[abT,h,abN,List.append_assoc,List.set_append_right _ _ (by simp;omega)]
 congr 1
 have hd:code.drop n=x::code.drop (n+1):=by
  obtain⟨_,e⟩:=aby.1 h;rw[List.drop_eq_getElem_cons hn,e]
 rw[hd];simp;rw[show n-min n code.length=0 by omega];rfl
def Zf(g:Int->Int)(i k:Nat)(fs:List Go.As.Fn):List Go.As.Fn:=fs.mapIdx λj f=>{f with code:=part g (if j<i then f.code.length else if j=i then k else 0) f.code}
theorem Kf{g:Int->Int}{i k j:Nat}{fs:List Go.As.Fn}{f:Go.As.Fn}(h:fs[j]? = some f):(Zf g i k fs)[j]? = some {f with code:=part g (if j<i then f.code.length else if j=i then k else 0) f.code}:=by
 unfold Zf;rw[abL,h];rfl
theorem DT(g:Int->Int)(i k:Nat)(fs:List Go.As.Fn):(Zf g i k fs).map Go.As.Fn.row=fs.map Go.As.Fn.row:=by
 unfold Zf;refine abe λj=>?_;rw[aaw,aaw,abL];cases fs[j]? <;> rfl
theorem DV(g:Int->Int)(fs:List Go.As.Fn):Zf g 0 0 fs=fs:=by
 unfold Zf;refine abe λj=>?_;rw[abL];cases h:fs[j]? with
 |none=>rfl
 |some f=>
  simp[GR]
theorem DU{g:Int->Int}{i:Nat}{fs:List Go.As.Fn}{f:Go.As.Fn}(h:fs[i]? = some f):Zf g i f.code.length fs=Zf g (i+1) 0 fs:=by
 unfold Zf;refine abe λj=>?_;rw[abL,abL];cases hj:fs[j]? with
 |none=>rfl
 |some f'=>
  simp only[abq]
  congr 3
  by_cases a:j<i
  ·rw[aam a,aam (by omega)]
  ·rw[aak a];by_cases b:j=i
   ·subst b;rw[aam rfl,aam (by omega)];rw[h]at hj;cases hj;rfl
   ·rw[aak b,aak (by omega)];split <;> rfl
theorem pJ{g:Int->Int}{i k:Nat}{fs:List Go.As.Fn}{f:Go.As.Fn}(h:fs[i]? = some f):Zf g i (k+1) fs=(Zf g i k fs).set i {f with code:=part g (k+1) f.code}:=by
 refine abe λj=>?_;have hi:=(aby.1 h).1;by_cases b:j=i
 ·subst b;rw[Kf h,aaZ (by unfold Zf;rw[List.length_mapIdx];exact hi),aak (by omega),aam rfl]
 ·rw[abo (λq=>b q.symm)];cases hj:fs[j]? with
  |none=>unfold Zf;rw[abL,abL,hj];rfl
  |some f'=>
   rw[Kf hj,Kf hj];simp only[b,aat]
theorem DS{g:Int->Int}{fs:List Go.As.Fn}{j:Nat}{f':Go.As.Fn}(h:(Zf g fs.length 0 fs)[j]? = some f'):∃f,fs[j]? = some f/\f'.code=f.code.map (ke g):=by
 unfold Zf at h;rw[abL]at h;cases hj:fs[j]? with
 |none=>rw[hj]at h;cases h
 |some f=>
  rw[hj]at h;simp only[abq,aam (aby.1 hj).1,Lv,aab]at h;subst h;exact⟨f,rfl,rfl⟩
section
variable {lo:yQ}{h:za}{L:List HP}
theorem sy{α:Type}:∀{M:List α} {i:Nat} {A:α},M[i]? = some A->(A::M.eraseIdx i).Perm M
 |[],_,_,h=>by simp at h
 |x::xs,0,A,h=>by simp at h;subst h;exact List.Perm.refl _
 |x::xs,i+1,A,h=>by
  have ih:=sy (M:=xs) (i:=i) (A:=A) (by simpa using h);exact(List.Perm.swap _ _ _).trans (ih.cons x)
theorem LQ{M:List HP}{i:Nat}{A:HP}(hA:M[i]? = some A)(s:Sat lo h (YY M::L)):Sat lo h (A::YY (M.eraseIdx i)::L) :=
 by
 have p:Sat lo h ((A::M.eraseIdx i)++L):=s.open.perm ((sy hA).symm.append_right L);exact Sat.cons (λ_=>Sat.close) p
theorem G4{M:List HP}{i:Nat}{B:HP}(hi:i<M.length)(s:Sat lo h (B::YY (M.eraseIdx i)::L)):Sat lo h (YY (M.set i B)::L):=by
 have p:=sy (M:=M.set i B) (i:=i) (A:=B) (aaZ hi);rw[List.eraseIdx_set_eq]at p;exact Sat.close ((Sat.cons (λ_=>Sat.open) s).perm (p.append_right L))
end
def names(x:wZ):Prop:=x.op=20\/x.op=18\/x.op=19
theorem KP(x:wZ):names x ↔ (x.op=18\/x.op=19\/x.op=20):=by unfold names;omega
def L3(fs:List Go.As.Fn):Prop := ∀f,f∈fs->∀x,x∈f.code->names x->0<=x.l
section
variable {lo:yQ}{h:za}{L:List HP}{q:Pg}{fs:List Go.As.Fn}{b11:Nat}{n:Int}{R:Value->za->Prop}{j52:List Value->za->Prop}{i:Nat}{f:Go.As.Fn}
abbrev Part(q:Pg)(b11:Nat)(n:Int)(i k:Nat)(L:List HP):List HP:=pt b11 (.cells q.row 25)::kg 3 1 q.gv (q.globals.map w9)::kg 47 2 q.fv (q.funcs.map Go.As.Fn.row)::YY ((Zf (u4 n) i k q.funcs).map EI)::L
theorem C9(hf:q.funcs[i]? = some f)(hfew:q.funcs.length<=100)(hcf:f.code.length<=100000)(hx:∀x,x∈f.code->names x->0<=x.l)(hn:0<=n/\n<=1000)(s:Sat lo h (Part q b11 n i 0 L))(v:Value)
  (kt:∀h,R (.bool true) h)
  (k:∀h v,(∀x,x∈f.code->names x->x.l<=1000000)->Sat lo h (Part q b11 n i f.code.length L)->j52 [v] h) (vs43:List Value) (h43:nth vs43 1=.int .i64 (i:Nat)) :
  LP (WX (.pointer (some ⟨b11,0,none⟩)) vs43 j52 R (.int .i64 n)) [v,.int .i64 0] h:=by
 refine jz (λm vs h'=>∃(k:Nat) (v0:Value),k<=f.code.length/\m=f.code.length-k/\vs=[v0,.int .i64 (k:Nat)]/\(∀x,x∈f.code.take k->names x->x.l<=1000000)/\Sat lo h' (Part q b11 n i k L)) f.code.length ⟨0,v,aa5 _,rfl,rfl,λx hx=>by simp at hx,s⟩ ?_;rintro m vs h' ⟨k,v0,hk,rfl,rfl,hall,s⟩;have g11:=s.get;have RF:=u6 (s.p 2) (JI q.funcs);have fvn:=uL (s.p 2);have hi:=(aby.1 hf).1;obtain⟨bf,ofs,cf,tf,hif,hbf,hgf,hlf,htf,hkf⟩:=Up RF (i:=i) (r:=f.row) (by rw[aaw,hf];rfl) rfl;have k1:=hkf 1 (by decide);have k1:cf[ofs+1]? = some f.cv:=k1
 have hst:((Zf (u4 n) i k q.funcs).map EI)[i]? = some (EI {f with code:=part (u4 n) k f.code}):=by
  rw[aaw,Kf hf,aak (by omega),aam rfl];rfl
 have s1:=LQ hst (s.p 3);have RC:=u6 s1 (VU _);have cn:=uL s1;have cl:=λh'=>Zq RC 3 h';rw[Ka]at cl;unfold WX;by_cases hc:(k:Int)<(f.code.length:Int)
 ·obtain⟨x,hxk⟩:∃x,f.code[k]? = some x:=⟨_,aae (by omega)⟩;have hxm:=aaG hxk;obtain⟨bc,cc,cs,ecv,gc,lc,wc,hcl,hcs,s2,back⟩:=mi s1 (VU _) (i:=k) (r:=x.row) (by rw[aaw,EV hxk];rfl);rw[aaD,Ka]at ecv hcl;have q0:=hcs 0 (by decide);have q0:cs[k*7]? = some (.int .i64 x.op):=q0;have q5:=hcs 5 (by decide);have q5:cs[k*7+5]? = some (.int .i64 x.l):=q5;have hk0:0<=(k:Int)/\(k:Int)<(f.code.length:Int):=⟨by omega,hc⟩;have hin:=inc (show k<4611686018427387904 by omega);have ecv:f.cv=.slice (some ⟨bc,0,none⟩) f.code.length cc:=ecv;rw[ecv]at k1 cl cn;have tk:f.code.take (k+1)=f.code.take k++[x]:=by rw[abT,hxk];rfl
  have skip:¬names x->Sat lo h' (Part q b11 n i (k+1) L):=λno=>by
   have e:part (u4 n) (k+1) f.code=part (u4 n) k f.code:=by
    rw[pB hxk];have er:ke (u4 n) x=x:=by unfold ke;rw[aak (λz=>no ((KP x).2 z))]
    rw[er];refine abe λj=>?_;by_cases hj:k=j
    ·subst hj;rw[aaZ (by rw[Ka];omega),EV hxk]
    ·rw[abo hj]
   have e2:Zf (u4 n) i (k+1) q.funcs=Zf (u4 n) i k q.funcs:=by
    rw[pJ hf,e];refine abe λj=>?_;by_cases hj:i=j
    ·subst hj;rw[Kf hf,aaZ (by unfold Zf;rw[List.length_mapIdx];exact hi),aak (by omega),aam rfl]
    ·rw[abo hj]
   unfold Part;rw[e2];exact s
  have next:∀(h3:za) (w:Value),(names x->x.l<=1000000)->Sat lo h3 (Part q b11 n i (k+1) L)->qZ [v0,.int .i64 (k:Nat)] (λvs' h'=>∃m,m<f.code.length-k /\ ∃(k:Nat) (v0:Value),k<=f.code.length/\m=f.code.length-k/\vs'=[v0,.int .i64 (k:Nat)]/\(∀x,x∈f.code.take k->names x->x.l<=1000000)/\Sat lo h' (Part q b11 n i k L)) [w] h3:=λh3 w hl sn=>by
   unfold qZ;simp only[EE,nth,hin];refine⟨f.code.length-(k+1),by omega,k+1,w,by omega,rfl,rfl,λy hy hn=>?_,sn⟩;rw[tk]at hy;rcases aa2.1 hy with c|c
   ·exact hall y c hn
   ·simp only[abn]at c;subst c;exact hl hn
  generalize (λ(vs':List Value) (h':za)=>∃m,m<f.code.length-k /\ ∃(k:Nat) (v0:Value),k<=f.code.length/\m=f.code.length-k/\vs'=[v0,.int .i64 (k:Nat)]/\(∀x,x∈f.code.take k->names x->x.l<=1000000)/\Sat lo h' (Part q b11 n i k L))=J at next ⊢
  have go:names x->V5 (.pointer (some ⟨bc,k*7,none⟩)) h' R [v0,.int .i64 (k:Nat)] (.int .i64 n) (qZ [v0,.int .i64 (k:Nat)] J):=λnm=>by
   have hl0:=hx x hxm nm;unfold V5;by_cases hl:x.l>1000000
   ·simp only[EE,zw,zh,vh,gc,q5,hl];exact kt _
   ·have w1:IntKind.wrap .i64 (3*x.l)=3*x.l:=Go.Mem.Yo (by omega) (by omega);have w2:IntKind.wrap .i64 (3*x.l+n)=u4 n x.l:=Go.Mem.Yo (by omega) (by omega);simp only[EE,zw,zh,WL,vh,K4,gc,q5,hl,w1,w2];refine xQ s2 (by simp;omega) rfl λh3 s3=>?_;simp only[nth];refine next h3 _ (λ_=>by omega) ?_
    have e5:x.row.set 5 (.int .i64 (u4 n x.l))=(ke (u4 n) x).row:=by
     unfold ke;rw[aam ((KP x).1 nm)];rfl
    have s4:=back 5 (.int .i64 (u4 n x.l)) (by decide) s3;rw[e5,<- List.map_set,<- pB hxk]at s4;have s5:=G4 (M:=(Zf (u4 n) i k q.funcs).map EI) (i:=i) (B:=EI {f with code:=part (u4 n) (k+1) f.code}) (by rw[aaD];unfold Zf;rw[List.length_mapIdx];exact hi) s4;rw[<- List.map_set,<- pJ hf]at s5;exact s5.f [1,2,3,0]
  by_cases o20:x.op=20
  ·simp only[EE,nth,↓yy,aac,zw,vM,zh,kO,yM,vD,zg,eW,Yb,Yc,Yd,Ye,Yf,Yg,Yh,qZ,h43,g11,hif,hgf,k1,cl,hc,gc,q0,hk0,o20,aaE];exact go (.inl o20)
  by_cases o18:x.op=18
  ·simp only[EE,nth,↓yy,aac,Int.reduceEq,zw,vM,zh,kO,yM,vD,zg,eW,Yb,Yc,Yd,Ye,Yf,Yg,Yh,qZ,h43,g11,hif,hgf,k1,cl,hc,gc,q0,hk0,o18,aaE];exact go (.inr (.inl o18))
  by_cases o19:x.op=19
  ·simp only[EE,nth,↓yy,aac,Int.reduceEq,zw,vM,zh,kO,yM,vD,zg,eW,Yb,Yc,Yd,Ye,Yf,Yg,Yh,qZ,h43,g11,hif,hgf,k1,cl,hc,gc,q0,hk0,o19,aaE];exact go (.inr (.inr o19))
  have no:¬names x:=by unfold names;omega
  simp only[EE,nth,↓yy,aac,zw,vM,zh,kO,yM,vD,zg,eW,Yb,Yc,Yd,Ye,Yf,Yg,Yh,h43,g11,hif,hgf,k1,cl,hc,gc,q0,hk0,o20,o18,o19,aaE];exact next h' _ (λz=>absurd z no) (skip no)
 ·have hk9:k=f.code.length:=by omega
  subst hk9;rw[abX]at hall;simp only[EE,nth,zw,vM,kO,yM,vD,h43,g11,hif,hgf,k1,cl,cn,hc];exact k _ _ hall s
end
end Go.Al
namespace Go.Am
open Go.Ai Go.Proofs
def qs:FuncId->Nat:=λg=>[0].getD g 0
theorem mixed:Tryz.prog.follows .mixedOrders=true:=ab6 Tryz.checked
def fF:=λc (R:Value->za->Prop) d (e:List Value->za->Prop) f (a:za)=>
 opt (pk c f (.bool false)) λg=>CD g (λb=>rv [.bool false] a R)
 (λb=>b [nth d 0] a)
 (λh i=>e [nth h 0] i)
def fG:=λa (R:Value->za->Prop) d (e:List Value->za->Prop) b (c:za)=>
 GD a true (λf=>opt (nb [b,.int .i64 1024] (ze Tryz.prog .gtr 2 (.tmp 63) (.const (.int .i64 1024)) b (.int .i64 1024))) λg=>f g c) (fF a R d e) c
def fH:=λa (R:Value->za->Prop) e (f:List Value->za->Prop) g (d:za)=>
 GD a true (λh=>opt (zb Tryz.prog 50 g 6) λb=>h b d) (λb c=>GD a true (λi=>opt (zd Tryz.prog 2 b c) λj=>i j c) (fG a R e f) c) d
def fI:=λa b (R:Value->za->Prop) (e:List Value->za->Prop) f (c:za)=>
 GD a true (λg=>g (nth b 1) c) (λh d=>GD a true (λi=>opt (zA Tryz.prog 45 f h) λj=>i j d) (fH a R b e) d) c
def fJ:=λa e (R:Value->za->Prop) (f:List Value->za->Prop) g (d:za)=>
 GD a true (λh=>opt (zb Tryz.prog 47 g 1) λb=>h b d) (λb c=>GD a true (λi=>opt (zd Tryz.prog 45 b c) λj=>i j c) (fI a e R f) c) d
def fK:=λa d e (R:Value->za->Prop) (f:List Value->za->Prop) g (b:za)=>
 GD a true (λh=>h (nth d 1) b) (λi c=>GD a true (λj=>opt (zA Tryz.prog 23 g i) λk=>j k c) (fJ a e R f) c) b
def fL:=λe (a:za) f g (R:Value->za->Prop) (i:List Value->za->Prop)=>
 opt (zb Tryz.prog 25 e 1) λj=>opt (zd Tryz.prog 23 j a) λk=>opt (zA Tryz.prog 23 k (nth f 1)) λl=>opt (zb Tryz.prog 47 l 1) λm=>opt (zd Tryz.prog 45 m a) λn=>opt (zA Tryz.prog 45 n (nth g 1)) λo=>opt (zb Tryz.prog 50 o 0) λp=>opt (zd Tryz.prog 3 p a) λh=>opt (nb [h,.int .i64 23] (ze Tryz.prog .eql 3 (.tmp 51) (.const (.int .i64 23)) h (.int .i64 23))) λb=>GD b true (λq=>opt (zb Tryz.prog 25 e 1) λc=>q c a) (λc d=>GD b true (λr=>opt (zd Tryz.prog 23 c d) λs=>r s d) (fK b f g R i) d) a
def pZ:=λa (b:List Value->za->Prop) c (d:za)=>
 opt (nb [nth a 1,.int .i64 1] (ze Tryz.prog .add 3 (.tmp 40) (.const (.int .i64 1)) (nth a 1) (.int .i64 1))) λe=>b [nth c 0,e] d
def Ej:=λc d (i:List Value->za->Prop) (R:Value->za->Prop) a (b:za) (j:List Value->za->Prop)=>
 opt (zb Tryz.prog 25 c 1) λk=>opt (zd Tryz.prog 23 k b) λl=>opt (zA Tryz.prog 23 l (nth d 1)) λm=>opt (zb Tryz.prog 47 m 1) λn=>opt (zd Tryz.prog 45 n b) λe=>xK (nb [e] (zk Tryz.prog .len [45] 3 [e] b)) λf g=>opt (nb [nth a 1,f] (ze Tryz.prog .lss 3 (.tmp 31) (.tmp 38) (nth a 1) f)) λo=>CD o (λh=>h [] g)
 (λh=>i [nth a 0] g)
 (λq p=>BK (fL c p d a R)
 (pZ a j))
def gX:=λc (a:za) b (R:Value->za->Prop) (h:List Value->za->Prop)=>
 opt (zb Tryz.prog 25 c 1) λi=>opt (zd Tryz.prog 23 i a) λj=>opt (zA Tryz.prog 23 j (nth b 1)) λk=>opt (zb Tryz.prog 47 k 1) λl=>opt (zd Tryz.prog 45 l a) λd=>xK (nb [d] (zk Tryz.prog .len [45] 3 [d] a)) λe f=>opt (nb [e,.int .i64 80] (ze Tryz.prog .gtr 3 (.tmp 29) (.const (.int .i64 80)) e (.int .i64 80))) λm=>CD m (λg=>rv [.bool false] f R)
 (λg=>g [nth b 0] f)
 (λn o=>BK (λp=>LP (Ej c b p R)
 [nth n 0,.int .i64 0] o)
 (λq r=>h [nth q 0] r))
def tS:=λa (b:List Value->za->Prop) c (d:za)=>
 opt (nb [nth a 1,.int .i64 1] (ze Tryz.prog .add 3 (.tmp 21) (.const (.int .i64 1)) (nth a 1) (.int .i64 1))) λe=>b [nth c 0,e] d
def tT:=λb (h:List Value->za->Prop) (R:Value->za->Prop) a (c:za) (i:List Value->za->Prop)=>
 opt (zb Tryz.prog 25 b 1) λj=>opt (zd Tryz.prog 23 j c) λd=>xK (nb [d] (zk Tryz.prog .len [23] 3 [d] c)) λe f=>opt (nb [nth a 1,e] (ze Tryz.prog .lss 3 (.tmp 16) (.tmp 19) (nth a 1) e)) λk=>CD k (λg=>g [] f)
 (λg=>h [nth a 0] f)
 (λm l=>BK (gX b l a R)
 (tS a i))
def gY:=λe (a:za) b (R:Value->za->Prop) (f:List Value->za->Prop)=>
 opt (zb Tryz.prog 25 e 0) λg=>opt (zd Tryz.prog 22 g a) λh=>opt (zA Tryz.prog 22 h (nth b 1)) λi=>opt (zd Tryz.prog 3 i a) λc=>opt (nb [c,.int .i64 1024] (ze Tryz.prog .gtr 3 (.tmp 77) (.const (.int .i64 1024)) c (.int .i64 1024))) λj=>CD j (λd=>rv [.bool false] a R)
 (λd=>d [nth b 0] a)
 (λk l=>f [nth k 0] l)
def tU:=λa (b:List Value->za->Prop) c (d:za)=>
 opt (nb [nth a 1,.int .i64 1] (ze Tryz.prog .add 3 (.tmp 71) (.const (.int .i64 1)) (nth a 1) (.int .i64 1))) λe=>b [nth c 0,e] d
def tV:=λb (h:List Value->za->Prop) (R:Value->za->Prop) a (c:za) (i:List Value->za->Prop)=>
 opt (zb Tryz.prog 25 b 0) λj=>opt (zd Tryz.prog 22 j c) λd=>xK (nb [d] (zk Tryz.prog .len [22] 3 [d] c)) λe f=>opt (nb [nth a 1,e] (ze Tryz.prog .lss 3 (.tmp 66) (.tmp 69) (nth a 1) e)) λk=>CD k (λg=>g [] f)
 (λg=>h [nth a 0] f)
 (λm l=>BK (gY b l a R)
 (tU a i))
def tW:=λa (R:Value->za->Prop) b (c:za)=>
 BK (λd=>LP (tT a d R)
 [nth b 0,.int .i64 0] c)
 (λe f=>BK (λg=>LP (tV a g R)
 [nth e 0,.int .i64 0] f)
 (λi h=>rv [.bool true] h R))
def aA:=λb (R:Value->za->Prop) g c (d:za)=>
 GD b false (λh=>opt (nb [c,.int .i64 8] (ze Tryz.prog .gtr 3 (.tmp 13) (.const (.int .i64 8)) c (.int .i64 8))) λa=>h a d) (λa e=>opt (pk b (.bool true) a) λi=>CD i (λf=>rv [.bool false] e R)
 (λf=>f [.bool false] e)
 (tW g R)) d
def aB:=λb (R:Value->za->Prop) e f (c:za)=>
 GD b false (λg=>opt (zd Tryz.prog 22 f c) λa=>g a c) (λa d=>GD b false (λh=>xK (nb [a] (zk Tryz.prog .len [22] 3 [a] d)) λi j=>h i j) (aA b R e) d) c
def HJ:=λ(h:za) b (R:Value->za->Prop)=>
 opt (nb [b] (some (Value.cells b).toList)) λi=>nw h i 25 λa c=>opt (zb Tryz.prog 25 a 1) λj=>opt (zd Tryz.prog 23 j c) λd=>xK (nb [d] (zk Tryz.prog .len [23] 3 [d] c)) λe f=>opt (nb [e,.int .i64 8] (ze Tryz.prog .gtr 3 (.tmp 8) (.const (.int .i64 8)) e (.int .i64 8))) λg=>GD g false (λk=>opt (zb Tryz.prog 25 a 0) λl=>k l f) (aB g R a) f
theorem HK(h:za)(t0:Value)(R:Value->za->Prop):Vz Tryz.prog (uI Tryz.prog qs) 200 7 [t0] h R=HJ h t0 R:=by kernel_rfl
theorem HL{h:za}{t0:Value}{R:Value->za->Prop}(hw:HJ h t0 R):DC Tryz.prog 7 [t0] h R:=yT mixed (n:=200) (by rw[HK];exact hw)
def gd:=λf b (a:za) g (R:Value->za->Prop) (h:List Value->za->Prop)=>
 opt (zA Tryz.prog 30 f (nth b 1)) λi=>opt (zd Tryz.prog 85 i a) λc=>opt (zA Tryz.prog 30 g (nth b 1)) λj=>opt (zd Tryz.prog 85 j a) λd=>opt (nb [c,d] (ze Tryz.prog .neq 85 (.tmp 32) (.tmp 36) c d)) λk=>CD k (λe=>rv [.bool false] a R)
 (λe=>e [nth b 0] a)
 (λl m=>h [nth l 0] m)
def gf:=λa (b:List Value->za->Prop) c (d:za)=>
 opt (nb [nth a 1,.int .i64 1] (ze Tryz.prog .add 3 (.tmp 27) (.const (.int .i64 1)) (nth a 1) (.int .i64 1))) λe=>b [nth c 0,e] d
def gh:=λb (f:List Value->za->Prop) g (R:Value->za->Prop) a (h:za) (i:List Value->za->Prop)=>
 xK (nb [b] (zk Tryz.prog .len [30] 3 [b] h)) λc d=>opt (nb [nth a 1,c] (ze Tryz.prog .lss 3 (.tmp 23) (.tmp 25) (nth a 1) c)) λj=>CD j (λe=>e [] d)
 (λe=>f [nth a 0] d)
 (λl k=>BK (gd b a k g R)
 (gf a i))
def Jl:=λc (R:Value->za->Prop) d e f (a:za)=>
 opt (pk c (.bool true) f) λg=>CD g (λb=>rv [.bool false] a R)
 (λb=>b [.bool false] a)
 (λh i=>BK (λj=>LP (gh d j e R)
 [nth h 0,.int .i64 0] i)
 (λl k=>rv [.bool true] k R))
def Jm:=λb c d (R:Value->za->Prop) h i e (f:za)=>
 GD b true (λj=>opt (nb [c,e] (ze Tryz.prog .neq 3 (.tmp 17) (.tmp 19) c e)) λa=>j a f) (λa g=>GD d false (λk=>opt (pk b a (.bool false)) λl=>k l g) (Jl d R h i) g) f
def Jn:=λa b f (R:Value->za->Prop) g h (c:za)=>
 GD a true (λi=>i b c) (λd e=>GD a true (λj=>xK (nb [d] (zk Tryz.prog .len [30] 3 [d] e)) λk l=>j k l) (Jm a h f R g b) e) c
def Jo:=λb f g (R:Value->za->Prop) a (c:za)=>
 GD a true (λh=>h b c) (λd e=>GD a true (λi=>xK (nb [d] (zk Tryz.prog .len [30] 3 [d] e)) λj k=>i j k) (Jn a f g R b) e) c
def ga:=λ(h:za) a b i (R:Value->za->Prop)=>
 xK (nb [a] (zk Tryz.prog .len [30] 3 [a] h)) λd j=>xK (nb [b] (zk Tryz.prog .len [30] 3 [b] j)) λe f=>opt (nb [d,e] (ze Tryz.prog .gtr 3 (.tmp 9) (.tmp 11) d e)) λc=>GD c false (λk=>k i f) (λl g=>GD c false (λm=>m l g) (Jo a b c R) g) f
theorem tt(h:za)(t0 t1 t2:Value)(R:Value->za->Prop):Vz Tryz.prog (uI Tryz.prog qs) 200 16 [t0,t1,t2] h R=ga h t0 t1 t2 R:=by kernel_rfl
theorem tu{h:za}{t0 t1 t2:Value}{R:Value->za->Prop}(hw:ga h t0 t1 t2 R):DC Tryz.prog 16 [t0,t1,t2] h R:=yT mixed (n:=200) (by rw[tt];exact hw)
def tH:=λb d (R:Value->za->Prop) e (c:za)=>
 GD b true (λf=>zR Tryz.prog (.func (.func 16) #[] #[]) [d,e,.bool true] c (λa g=>f a g)) (λa h=>opt (pk b a (.bool false)) λi=>rv [i] h R) c
def tI:=λa e (R:Value->za->Prop) f (d:za)=>
 GD a true (λg=>opt (zb Tryz.prog 33 e 2) λb=>g b d) (λb c=>GD a true (λh=>opt (zd Tryz.prog 30 b c) λi=>h i c) (tH a f R) c) d
def tJ:=λe f g (R:Value->za->Prop) h (d:za)=>
 opt (pk e h (.bool false)) λa=>GD a true (λi=>opt (zb Tryz.prog 33 f 2) λb=>i b d) (λb c=>GD a true (λj=>opt (zd Tryz.prog 30 b c) λk=>j k c) (tI a g R) c) d
def tK:=λb d f g (R:Value->za->Prop) h (c:za)=>
 GD b true (λi=>opt (zd Tryz.prog 2 h c) λa=>i a c) (λa e=>GD b true (λj=>opt (nb [d,a] (ze Tryz.prog .eql 2 (.tmp 12) (.tmp 14) d a)) λk=>j k e) (tJ b f g R) e) c
def tL:=λa d f (R:Value->za->Prop) g (b:za)=>
 GD a true (λh=>opt (zd Tryz.prog 2 g b) λc=>h c b) (λc e=>GD a true (λi=>opt (zb Tryz.prog 33 d 1) λj=>i j e) (tK a c f d R) e) b
def Ci:=λ(h:za) c d (R:Value->za->Prop)=>
 opt (nb [c] (some (Value.cells c).toList)) λj=>nw h j 33 λb k=>opt (nb [d] (some (Value.cells d).toList)) λl=>nw k l 33 λe a=>opt (zb Tryz.prog 33 b 0) λm=>opt (zd Tryz.prog 3 m a) λf=>opt (zb Tryz.prog 33 e 0) λn=>opt (zd Tryz.prog 3 n a) λg=>opt (nb [f,g] (ze Tryz.prog .eql 3 (.tmp 6) (.tmp 8) f g)) λi=>GD i true (λo=>opt (zb Tryz.prog 33 b 1) λp=>o p a) (tL i e b R) a
theorem Fz(h:za)(t0 t1:Value)(R:Value->za->Prop):Vz Tryz.prog (uI Tryz.prog qs) 200 12 [t0,t1] h R=Ci h t0 t1 R:=by kernel_rfl
theorem FA{h:za}{t0 t1:Value}{R:Value->za->Prop}(hw:Ci h t0 t1 R):DC Tryz.prog 12 [t0,t1] h R:=yT mixed (n:=200) (by rw[Fz];exact hw)
def m3:=λf (a:za) b g (R:Value->za->Prop) (h:List Value->za->Prop)=>
 opt (zb Tryz.prog 33 f 3) λi=>opt (zd Tryz.prog 31 i a) λj=>opt (zA Tryz.prog 31 j (nth b 1)) λk=>opt (zd Tryz.prog 80 k a) λc=>opt (zb Tryz.prog 33 g 3) λl=>opt (zd Tryz.prog 31 l a) λm=>opt (zA Tryz.prog 31 m (nth b 1)) λn=>opt (zd Tryz.prog 80 n a) λd=>opt (nb [c,d] (ze Tryz.prog .neq 80 (.tmp 31) (.tmp 36) c d)) λo=>CD o (λe=>rv [.bool false] a R)
 (λe=>e [nth b 0] a)
 (λp q=>h [nth p 0] q)
def m5:=λa (b:List Value->za->Prop) c (d:za)=>
 opt (nb [nth a 1,.int .i64 1] (ze Tryz.prog .add 3 (.tmp 25) (.const (.int .i64 1)) (nth a 1) (.int .i64 1))) λe=>b [nth c 0,e] d
def m6:=λb (h:List Value->za->Prop) i (R:Value->za->Prop) a (c:za) (j:List Value->za->Prop)=>
 opt (zb Tryz.prog 33 b 3) λk=>opt (zd Tryz.prog 31 k c) λd=>xK (nb [d] (zk Tryz.prog .len [31] 3 [d] c)) λe f=>opt (nb [nth a 1,e] (ze Tryz.prog .lss 3 (.tmp 20) (.tmp 23) (nth a 1) e)) λl=>CD l (λg=>g [] f)
 (λg=>h [nth a 0] f)
 (λn m=>BK (m3 b m a i R)
 (m5 a j))
def m7:=λc (R:Value->za->Prop) d e f (a:za)=>
 opt (pk c (.bool true) f) λg=>CD g (λb=>rv [.bool false] a R)
 (λb=>b [.bool false] a)
 (λh i=>BK (λj=>LP (m6 d j e R)
 [nth h 0,.int .i64 0] i)
 (λl k=>rv [.bool true] k R))
def m8:=λb c (R:Value->za->Prop) g h d (e:za)=>
 GD b false (λi=>xK (nb [d] (zk Tryz.prog .len [31] 3 [d] e)) λa j=>i a j) (λa f=>GD b false (λk=>opt (nb [c,a] (ze Tryz.prog .neq 3 (.tmp 14) (.tmp 17) c a)) λl=>k l f) (m7 b R g h) f) e
def m9:=λa d (R:Value->za->Prop) f g (e:za)=>
 GD a false (λh=>opt (zb Tryz.prog 33 d 3) λb=>h b e) (λb c=>GD a false (λi=>opt (zd Tryz.prog 31 b c) λj=>i j c) (m8 a g R f d) c) e
def na:=λb e (R:Value->za->Prop) f g (c:za)=>
 GD b false (λh=>opt (zd Tryz.prog 31 g c) λa=>h a c) (λa d=>GD b false (λi=>xK (nb [a] (zk Tryz.prog .len [31] 3 [a] d)) λj k=>i j k) (m9 b e R f) d) c
def pR:=λ(h:za) c d (R:Value->za->Prop)=>
 opt (nb [c] (some (Value.cells c).toList)) λj=>nw h j 33 λb k=>opt (nb [d] (some (Value.cells d).toList)) λl=>nw k l 33 λe a=>opt (zb Tryz.prog 33 b 0) λm=>opt (zd Tryz.prog 3 m a) λf=>opt (zb Tryz.prog 33 e 0) λn=>opt (zd Tryz.prog 3 n a) λg=>opt (nb [f,g] (ze Tryz.prog .neq 3 (.tmp 7) (.tmp 9) f g)) λi=>GD i false (λo=>opt (zb Tryz.prog 33 b 3) λp=>o p a) (na i e R b) a
theorem Cd(h:za)(t0 t1:Value)(R:Value->za->Prop):Vz Tryz.prog (uI Tryz.prog qs) 200 13 [t0,t1] h R=pR h t0 t1 R:=by kernel_rfl
theorem Ce{h:za}{t0 t1:Value}{R:Value->za->Prop}(hw:pR h t0 t1 R):DC Tryz.prog 13 [t0,t1] h R:=yT mixed (n:=200) (by rw[Cd];exact hw)
noncomputable def IU:Array Field:=match Program.underlying Tryz.prog 80 with|some (.struct f)=>f|_ => #[]
noncomputable def IV:Array Field:=match Program.underlying Tryz.prog 85 with|some (.struct f)=>f|_ => #[]
theorem yR(b off:Nat)(h:za):zd Tryz.prog 2 (.pointer (some ⟨b,off,none⟩)) h=zw h b off:=yc (by kernel_rfl) b off h
theorem u5(b off:Nat)(h:za):zd Tryz.prog 22 (.pointer (some ⟨b,off,none⟩)) h=zw h b off:=yc (by kernel_rfl) b off h
theorem vM(b off:Nat)(h:za):zd Tryz.prog 23 (.pointer (some ⟨b,off,none⟩)) h=zw h b off:=yc (by kernel_rfl) b off h
theorem Xn(b off:Nat)(h:za):zd Tryz.prog 25 (.pointer (some ⟨b,off,none⟩)) h=yg h b off 4:=u0 (by kernel_rfl) (by kernel_rfl) b off h
theorem zh(b off:Nat)(h:za):zd Tryz.prog 3 (.pointer (some ⟨b,off,none⟩)) h=zw h b off:=yc (by kernel_rfl) b off h
theorem H6(b off:Nat)(h:za):zd Tryz.prog 30 (.pointer (some ⟨b,off,none⟩)) h=zw h b off:=yc (by kernel_rfl) b off h
theorem Ax(b off:Nat)(h:za):zd Tryz.prog 31 (.pointer (some ⟨b,off,none⟩)) h=zw h b off:=yc (by kernel_rfl) b off h
theorem Uo(b off:Nat)(h:za):zd Tryz.prog 33 (.pointer (some ⟨b,off,none⟩)) h=yg h b off 5:=u0 (by kernel_rfl) (by kernel_rfl) b off h
theorem kO(b off:Nat)(h:za):zd Tryz.prog 45 (.pointer (some ⟨b,off,none⟩)) h=zw h b off:=yc (by kernel_rfl) b off h
theorem PW(b off:Nat)(h:za):zd Tryz.prog 80 (.pointer (some ⟨b,off,none⟩)) h=yg h b off 3:=u0 (by kernel_rfl) (by kernel_rfl) b off h
theorem PX(b off:Nat)(h:za):zd Tryz.prog 85 (.pointer (some ⟨b,off,none⟩)) h=yg h b off 2:=u0 (by kernel_rfl) (by kernel_rfl) b off h
theorem Qt(b off:Nat)(l:List Value)(h:za)(hv:l.length=5):zn Tryz.prog 33 (.pointer (some ⟨b,off,none⟩)) (.agg l.toArray) h=vi h b off l:=qf (by kernel_rfl) b off l h hv
theorem Ja:wD Tryz.prog 33=some (.agg #[(.int .i64 0),(.int .i64 0),(.slice none 0 0),(.slice none 0 0),(.int .i64 0)]):=zE (by kernel_rfl)
theorem wI(b off:Nat):zb Tryz.prog 25 (.pointer (some ⟨b,off,none⟩)) 0=some (.pointer (some ⟨b,off,none⟩)):=zE (by kernel_rfl)
theorem yM(b off:Nat):zb Tryz.prog 25 (.pointer (some ⟨b,off,none⟩)) 1=some (.pointer (some ⟨b,off+1,none⟩)):=zE (by kernel_rfl)
theorem XM(b off:Nat):zb Tryz.prog 33 (.pointer (some ⟨b,off,none⟩)) 0=some (.pointer (some ⟨b,off,none⟩)):=zE (by kernel_rfl)
theorem rP(b off:Nat):zb Tryz.prog 33 (.pointer (some ⟨b,off,none⟩)) 1=some (.pointer (some ⟨b,off+1,none⟩)):=zE (by kernel_rfl)
theorem rQ(b off:Nat):zb Tryz.prog 33 (.pointer (some ⟨b,off,none⟩)) 2=some (.pointer (some ⟨b,off+2,none⟩)):=zE (by kernel_rfl)
theorem aY(b off:Nat):zb Tryz.prog 33 (.pointer (some ⟨b,off,none⟩)) 3=some (.pointer (some ⟨b,off+3,none⟩)):=zE (by kernel_rfl)
theorem vD(b off:Nat):zb Tryz.prog 47 (.pointer (some ⟨b,off,none⟩)) 1=some (.pointer (some ⟨b,off+1,none⟩)):=zE (by kernel_rfl)
theorem zg(b off:Nat):zb Tryz.prog 50 (.pointer (some ⟨b,off,none⟩)) 0=some (.pointer (some ⟨b,off,none⟩)):=zE (by kernel_rfl)
theorem zV(b off:Nat):zb Tryz.prog 50 (.pointer (some ⟨b,off,none⟩)) 6=some (.pointer (some ⟨b,off+6,none⟩)):=zE (by kernel_rfl)
theorem I7(b off len c:Nat)(k:IntKind)(i:Int):zA Tryz.prog 22 (.slice (some ⟨b,off,none⟩) len c) (.int k i)=if 0<=i/\i<len then some (.pointer (some ⟨b,off+i.toNat*1,none⟩)) else none:=xp (e:=3) (by kernel_rfl) (by kernel_rfl)
theorem Bo(b off len c:Nat)(k:IntKind)(i:Int):zA Tryz.prog 23 (.slice (some ⟨b,off,none⟩) len c) (.int k i)=if 0<=i/\i<len then some (.pointer (some ⟨b,off+i.toNat*2,none⟩)) else none:=xp (e:=47) (by kernel_rfl) (by kernel_rfl)
theorem RM(b off len c:Nat)(k:IntKind)(i:Int):zA Tryz.prog 30 (.slice (some ⟨b,off,none⟩) len c) (.int k i)=if 0<=i/\i<len then some (.pointer (some ⟨b,off+i.toNat*2,none⟩)) else none:=xp (e:=85) (by kernel_rfl) (by kernel_rfl)
theorem RN(b off len c:Nat)(k:IntKind)(i:Int):zA Tryz.prog 31 (.slice (some ⟨b,off,none⟩) len c) (.int k i)=if 0<=i/\i<len then some (.pointer (some ⟨b,off+i.toNat*3,none⟩)) else none:=xp (e:=80) (by kernel_rfl) (by kernel_rfl)
theorem eW(b off len c:Nat)(k:IntKind)(i:Int):zA Tryz.prog 45 (.slice (some ⟨b,off,none⟩) len c) (.int k i)=if 0<=i/\i<len then some (.pointer (some ⟨b,off+i.toNat*7,none⟩)) else none:=xp (e:=50) (by kernel_rfl) (by kernel_rfl)
theorem sk(r:TypeId)(a:Option Addr)(n c:Nat)(h:za):zk Tryz.prog .len [22] r [.slice a n c] h=some (.int .i64 n,h):=zE (by kernel_rfl)
theorem dV(r:TypeId)(a:Option Addr)(n c:Nat)(h:za):zk Tryz.prog .len [23] r [.slice a n c] h=some (.int .i64 n,h):=zE (by kernel_rfl)
theorem Du(r:TypeId)(a:Option Addr)(n c:Nat)(h:za):zk Tryz.prog .len [30] r [.slice a n c] h=some (.int .i64 n,h):=zE (by kernel_rfl)
theorem Dv(r:TypeId)(a:Option Addr)(n c:Nat)(h:za):zk Tryz.prog .len [31] r [.slice a n c] h=some (.int .i64 n,h):=zE (by kernel_rfl)
theorem lF(r:TypeId)(a:Option Addr)(n c:Nat)(h:za):zk Tryz.prog .len [45] r [.slice a n c] h=some (.int .i64 n,h):=zE (by kernel_rfl)
theorem O5(x y:Operand)(a0:Int)(a1:Int)(a2:Int)(b0:Int)(b1:Int)(b2:Int):ze Tryz.prog .neq 80 x y (.agg #[(.int .i64 a0),(.int .i64 a1),(.int .i64 a2)]) (.agg #[(.int .i64 b0),(.int .i64 b1),(.int .i64 b2)])=some (.bool (!((a0 == b0)&&((a1 == b1)&&((a2 == b2)))))):=(WK (fs:=IU) (r:=(a0 == b0)&&((a1 == b1)&&((a2 == b2)))) (by kernel_rfl) (by kernel_rfl) (by kernel_rfl) rfl rfl (Eq.trans (b:=(cond (a0 == b0) (cond (a1 == b1) (cond (a2 == b2) (some true) (some false)) (some false)) (some false))) (by kernel_rfl) (by cases (a0 == b0) <;> cases (a1 == b1) <;> cases (a2 == b2) <;> rfl))).2
theorem O6(x y:Operand)(a0:Int)(a1:Int)(b0:Int)(b1:Int):ze Tryz.prog .neq 85 x y (.agg #[(.int .i64 a0),(.int .i64 a1)]) (.agg #[(.int .i64 b0),(.int .i64 b1)])=some (.bool (!((a0 == b0)&&((a1 == b1))))):=(WK (fs:=IV) (r:=(a0 == b0)&&((a1 == b1))) (by kernel_rfl) (by kernel_rfl) (by kernel_rfl) rfl rfl (Eq.trans (b:=(cond (a0 == b0) (cond (a1 == b1) (some true) (some false)) (some false))) (by kernel_rfl) (by cases (a0 == b0) <;> cases (a1 == b1) <;> rfl))).2
end Go.Am
namespace Go.As
open Go.Ai Go.Proofs Go.Mem Go.Rm
structure L8 (p:Pg):Prop where
 main:∃f,p.funcs[p.main.toNat]? = some f
 RX:0<=p.main
 L3:∀f,f∈p.funcs->f.code.length<=100000
 ins:∀f,f∈p.funcs->∀x,x∈f.code->sV p x
 gl:p.globals.length<=200
 glz:∀n,n∈p.globals->0<=n/\n<=65536
 par:0<=p.params/\p.params<=6
 fl:p.funcs.length<=100
theorem mg{gl:List Int}:∀(xs:List wZ) (m:List (Int×Value)) (b:Bool) (r:List (Int×Value)×Bool),jx gl xs m b=some r->∀x,x∈xs->Z7 gl x=true
 |[],m,b,r,h,x,hx=>by cases hx
 |y::ys,m,b,r,h,x,hx=>by
  unfold jx at h;by_cases hy:Z7 gl y=false
  ·rw[aam hy]at h;cases h
  ·rw[aak hy]at h;have hy:Z7 gl y=true:=by simpa using hy
   rcases abm.1 hx with rfl|hx
   ·exact hy
   ·split at h
    ·split at h
     ·cases h
     ·exact mg ys _ _ r h x hx
    ·exact mg ys _ _ r h x hx
theorem MN{p:Pg}(h:Xf p=true):L8 p:=by
 unfold Xf at h;simp only[aah,aaJ]at h;obtain⟨h1,h2,h3⟩:=h;unfold u3 at h1;simp only[aah,aav,aaI]at h1;obtain⟨a1,a2,a3,a4,a5,a6⟩:=h1
 have fn:∀f,f∈p.funcs->f.code.length<=100000 /\ ∀x,x∈f.code->sV p x:=λf hf=>by
  have h4:=h3 f hf;unfold mz at h4;simp only[aah,aav,aaI]at h4;obtain⟨b1,b2⟩:=h4;refine⟨by omega,λx hx=>?_⟩;unfold e7 at b2;split at b2
  ·cases b2
  ·rename_i r hr;simp only[aah,aaJ]at b2;exact MP (mg _ _ _ _ hr x hx) (b2.1 x hx)
 refine⟨⟨_,aae (by omega)⟩,by omega,λf hf=>(fn f hf).1,λf hf=>(fn f hf).2,by omega,λn hn=>?_,by omega,by omega⟩;have:=h2 n hn;simp only[aah,aav,aaI]at this;omega
section
variable {p:Pg}{lim fuel:Int}{world:List Int}{lab:Bool}{S:St}{c:Fr}{ini:List Fr}{f:Fn}{i:wZ}
theorem LD(hc:S.calls=ini++[c])(hf:p.funcs[c.f]? = some f):Qk p lim world lab fuel S=if c.pt=f.code.length then {S with kind:=3} else match f.code[c.pt.toNat]? with
  |none=>{S with kind:=3}
  |some i=>if i.op=20/\lab=false then Za S {c with pt:=c.pt+1} else if S.steps=fuel then {S with kind:=2} else
   dM (zl p lim world {Za S {c with pt:=c.pt+1} with steps:=S.steps+1} {c with pt:=c.pt+1} i):=by
 have e:Yr p c.f=f.code:=by unfold Yr;rw[hf]
 unfold Qk;have hl:S.calls.getLast? = some c:=by rw[hc,List.getLast?_concat]
 rw[hl];simp only[e];rfl
theorem GF(n:Nat)(T:St):Zr p lim world lab fuel (n+1) T=Q7 p lim world lab fuel (Zr p lim world lab fuel n T):=by rw[bM];rfl
def Q4(p:Pg)(fuel:Int)(S:St):Nat:=((fuel-S.steps)*100002).toNat+match S.calls.getLast? with
 |none=>0
 |some c=>((Yr p c.f).length-c.pt).toNat
theorem GA(g:L8 p)(c:Fr):(Yr p c.f).length<=100000:=by
 unfold Yr;split
 ·exact aa5 _
 ·rename_i f hf;exact g.L3 f (aaG hf)
theorem Rq{n:Int}{r:St×Bool}(I:Z6 p lim n r.1):Z6 p lim n (dM r):=by
 unfold dM;split
 ·exact I
 ·exact⟨I.n0,I.hl,I.hv,I.va,I.sS,I.fr,I.l0,I.l1,I.s0,I.s1,I.lk,I.ev,I.cs,I.used,I.mem,I.gl,I.ll⟩
theorem Z6.kind{n:Int}(I:Z6 p lim n S)(k:Int):Z6 p lim n {S with kind:=k}:=⟨I.n0,I.hl,I.hv,I.va,I.sS,I.fr,I.l0,I.l1,I.s0,I.s1,I.lk,I.ev,I.cs,I.used,I.mem,I.gl,I.ll⟩
theorem Z6.SF{n:Int}(I:Z6 p lim n S)(k:Int):Z6 p lim n {S with steps:=k}:=⟨I.n0,I.hl,I.hv,I.va,I.sS,I.fr,I.l0,I.l1,I.s0,I.s1,I.lk,I.ev,I.cs,I.used,I.mem,I.gl,I.ll⟩
theorem IX(h:Fg p c)(hf:p.funcs[c.f]? = some f)(hlt:c.pt<f.code.length):Fg p {c with pt:=c.pt+1}:=by
 obtain⟨f',hf',h0,h1⟩:=h.at_;rw[hf]at hf';cases hf';exact⟨h.YR,h.size,h.l6,f,hf,by show 0<=c.pt+1;omega,by show c.pt+1<=f.code.length;omega⟩
theorem Z6.bounds{n:Int}(I:Z6 p lim n S)(hn:n<=100000000):J2 lim S :=
 ⟨I.hl,I.hv,⟨I.l0,I.l1,by have:=I.s0;omega,by have:=I.s1;have:=I.l1;omega⟩,by have:=I.lk;omega,by have:=I.ev;omega,by have:=I.cs;omega,⟨I.mem.1,I.mem.2.1⟩,⟨I.used.1,by have:=I.used.2;omega⟩⟩
theorem Fg.b(h:Fg p c):SN c:=⟨h.YR.2,h.size⟩
end
open Go.Rtl (zD zT Old xq xz inc uJ wu)
section
variable {lo:yQ}{h:za}{b mb wb:Nat}{p:Pg}{wn lv gl:Value}{world:List Int}{lim fuel:Int}{lab:Bool}
theorem AR{L:List HP}{cl:Value}{S:St}{c:Fr}{ini:List Fr}(s:Sat lo h (kg 134 7 cl (S.calls.map uM)::L))(hc:S.calls=ini++[c]):∃q cp,cl=.slice (some ⟨q,0,none⟩) (ini.length+1) cp:=by
 rcases Z0 s with⟨_,e,_⟩|⟨q,cp,cs,e,_⟩
 ·rw[hc]at e;simp at e
 ·exact⟨q,cp,by rw[e,hc];simp⟩
theorem Ds{X:List HP}{S:St}{ev lk cl:Value}{K:za->Prop}(k:Int)(s:Sat lo h (pt b (xL p lv mb wb S ev lk gl cl lim)::X))(hk:∀h',Sat lo h' (pt b (xL p lv mb wb {S with kind:=k} ev lk gl cl lim)::X)->K h'):opt (vi h b 7 [.int .i64 k]) K:=by
 refine xQ s (by simp[vY]) rfl λh3 s3=>?_;rw[Pn]at s3;exact hk h3 s3
structure Loop (p:Pg) (lim:Int) (world:List Int) (lab:Bool) (fuel:Int) (T S:St):Prop where
 I:Z6 p lim S.steps S
 ne:S.kind=0->S.calls≠[]
 st:S.steps<=fuel
 run:∃n,S=Zr p lim world lab fuel n T
theorem Loop.next{T S S':St}(L:Loop p lim world lab fuel T S)(hk:S.kind=0)(e:Qk p lim world lab fuel S=S')(I:Z6 p lim S'.steps S')(ne:S'.kind=0->S'.calls≠[])(st:S'.steps<=fuel):Loop p lim world lab fuel T S':=by
 obtain⟨n,hn⟩:=L.run;exact⟨I,ne,st,n+1,by rw[GF,<- hn];unfold Q7;rw[aam hk,e]⟩
theorem MU(g:L8 p){n:Int}{S:St}(I:Z6 p lim n S):Q4 p fuel S<=((fuel-S.steps)*100002).toNat+100000:=by
 unfold Q4;cases e:S.calls.getLast? with
 |none=>simp only;omega
 |some d=>
  simp only;have h1:=GA g d;obtain⟨_,_,h2,_⟩:=(I.fr d (List.mem_of_getLast? e)).at_;omega
theorem Pv{S:St}{ev lk cl:Value}{q cp b8:Nat}{c:Fr}{ini:List Fr}{i:wZ}{f:Fn}{R:Value->za->Prop}{J:List Value->za->Prop}{vs:List Value}(s:Sat lo h (pt b8 (.cells i.row 50)::V6 p b mb wb wn world lim lv gl S ev lk cl))(hcl:cl=.slice (some ⟨q,0,none⟩) (ini.length+1) cp)(hc:S.calls=ini++[c])(hil:ini.length<4611686018427387900)(hwl:world.length<4611686018427387904)(hg:Rd lo (zD · gl S.gl))(hL:Rd lo (UG p lv))(hf:p.funcs[c.f]? = some f)(G:sV p i)(F:Fg p {c with pt:=c.pt+1})(I:Z6 p lim S.steps S)(hs:S.steps<=100000000)(hw:IntKind.wrap .i64 (c.pt+1)=c.pt+1)
  (k2:S.steps=fuel->∀h',ZO lo p b mb wb wn world lim lv gl {S with kind:=2} h'->R (j3 []) h')
  (kj:¬S.steps=fuel->∀h',ZO lo p b mb wb wn world lim lv gl (dM (zl p lim world {Za S {c with pt:=c.pt+1} with steps:=S.steps+1} {c with pt:=c.pt+1} i)) h'->J [] h') :
  hU (xN b) (.int .i64 fuel) R (.pointer (some ⟨q,ini.length*7,none⟩)) (.pointer (some ⟨b8,0,none⟩)) J vs h:=by
 have g8:=s.get;have gm:=(s.p 1).get;unfold xL at gm;have hst:=I.n0;unfold hU xN;by_cases hfu:S.steps=fuel
 ·simp only[EE,Nat.reduceAdd,zw,zh,WL,Zd,XM,aZ,t9,gm,NS,hfu];refine Ds 2 (s.p 1) λh2 s2=>?_;simp only[Qo];exact k2 hfu h2 ⟨ev,lk,cl,(s2.p 1).drop⟩
 ·have hw1:IntKind.wrap .i64 (S.steps+1)=S.steps+1:=Go.Mem.Yo (by omega) (by omega)
  have tc:∀d,(Za S d).calls=ini++[d]:=λd=>by
   show S.calls.dropLast++[d]=_;rw[hc,abZ]
  simp only[EE,Nat.reduceAdd,zw,zh,WL,Zd,aZ,Ab,gm,NS,hfu,hw1];refine xQ (s.p 1) (by simp[vY]) rfl λh2 s2=>?_;rw[Su]at s2;have s2':=s2;rw[hc]at s2';obtain⟨cs,gq,wq,ltq,lq,kf,kp,kb,kz,kr⟩:=WT (s2'.p 4) hcl;clear s2';simp only[EE,zw,zh,WL,Uu,gq,kp,hw];refine EM hcl hc (s2.p 4) _ λh3 s3=>?_;have g8:=(s3.p 2).get;simp only[EE,aac,Nat.reduceAdd,yg,v8,g8];have B:J2 lim {Za S {c with pt:=c.pt+1} with steps:=S.steps+1}:=(((I.top (by rw[hc];simp) F).SF (S.steps+1))).bounds hs;obtain⟨lo1,l1,s4,fr⟩:=(s3.f [1,3,4,0,5,6,7]).call (L2:=V6 p b mb wb wn world lim lv gl {Za S {c with pt:=c.pt+1} with steps:=S.steps+1} ev lk cl);refine yb (by kernel_rfl) rfl (Pu (i:=i) s4 B F.b hcl (tc _) hil hwl (hg.mono l1) (by have:=I.ll;exact this) (hL.mono l1) hf G) ?_;rintro v h5 ⟨rfl,ev',lk',cl',s5⟩;have s6:=fr _ _ s5;cases hok:(zl p lim world {Za S {c with pt:=c.pt+1} with steps:=S.steps+1} {c with pt:=c.pt+1} i).2 with
  |true=>
   simp only[EE];refine kj hfu h5 ?_;unfold dM;rw[aam hok];exact⟨ev',lk',cl',(s6.p 7).drop⟩
  |false=>
   simp only[EE,WL,Zd,XM,Aa];refine Ds 3 s6 λh7 s7=>?_;simp only[];refine kj hfu h7 ?_;unfold dM;rw[aak (by rw[hok];simp)];exact⟨ev',lk',cl',(s7.p 7).drop⟩
theorem OZ(hp:Rd lo (qW · p))(g:L8 p)(hwl:world.length<4611686018427387904){gls:List Int}(hg:Rd lo (zD · gl gls))(hL:Rd lo (UG p lv))(hf1:fuel<=100000000){T S0:St}(L0:Loop p lim world lab fuel T S0)(hg0:S0.gl=gls)(x0:ZO lo p b mb wb wn world lim lv gl S0 h){R:Value->za->Prop}
  (k:∀h' S,Loop p lim world lab fuel T S->S.kind≠0->ZO lo p b mb wb wn world lim lv gl S h'->R (j3 []) h') :
  LP (cY (xN b) (λ_ h4=>Ai.rv [] h4 R) R (.bool lab) (.int .i64 fuel)) [] h:=by
 refine jz (λm vs h'=>vs=[] /\ ∃S,m=Q4 p fuel S/\Loop p lim world lab fuel T S/\S.gl=gls/\ZO lo p b mb wb wn world lim lv gl S h') (Q4 p fuel S0) ⟨rfl,S0,rfl,L0,hg0,x0⟩ ?_;rintro m vs h1 ⟨rfl,S,rfl,L,hgs,x⟩;have x':=x;obtain⟨ev,lk,cl,s⟩:=x;have gm:=s.get;unfold xL at gm;unfold cY xN;by_cases hk:S.kind=0
 ·rcases List.eq_nil_or_concat S.calls with e|⟨ini,c,hc⟩
  ·exact absurd e (L.ne hk)
  rw[List.concat_eq_append]at hc;obtain⟨q,cp,hcl⟩:=AR (s.p 3) hc;have cm:c∈S.calls:=by rw[hc];simp
  have F:=L.I.fr c cm;obtain⟨f,hf,p0,p1⟩:=F.at_;have fm:=aaG hf;have fl:=g.L3 f fm;have G:=g.ins f fm;obtain⟨pc,hpc⟩:∃pc:Nat,c.pt=pc:=⟨c.pt.toNat,by omega⟩;have s':=s;unfold V6 at s';rw[hc]at s';obtain⟨cs,gq,wq,ltq,lq,kf,kp,kb,kz,kr⟩:=WT (s'.p 3) hcl;clear s';have hst:=L.I.n0;have hsf:=L.st
  have hil:ini.length<4611686018427387900:=by
   have:=L.I.cs;rw[hc]at this;simp at this;omega
  have w2:IntKind.wrap .i64 (((ini.length+1:Nat):Int)-1)=(ini.length:Nat):=by rw[show(((ini.length+1:Nat):Int)-1)=(ini.length:Nat) by omega];exact Go.Mem.Yo (by omega) (by omega)
  have i0:(0:Int)<=ini.length:=by omega
  have i1:(ini.length:Int)<((ini.length+1:Nat):Int):=by omega
  have P:=hp.at s;have F2:=P.fns f fm;obtain⟨bf,ofs,cf,tf,hif,hbf,hgf,hlf,htf,hkf⟩:=Up P.funcs (i:=c.f) (r:=f.row) (by rw[aaw,hf];rfl) rfl;have k1:=hkf 1 (by decide);have k1:cf[ofs+1]? = some f.cv:=k1;have hlc:=Zq F2.code 3;have fvn:=P.funcs.Y0;have cvn:=F2.code.Y0;simp only[EE,↓yy,aac,zw,rH,vM,zh,kO,A7,Zd,aV,iU,Uu,yM,XM,vD,OT,sj,Ae,gm,Sq,hk,EX,TD,hcl,w2,i0,i1,aaE,gq,kf,kp,hif,hgf,k1,hlc,cvn];have ro:=LD (p:=p) (lim:=lim) (fuel:=fuel) (world:=world) (lab:=lab) hc hf;by_cases he:c.pt=(f.code.length:Int)
  ·simp only[EE,WL,Zd,XM,t7,he];refine Ds 3 s λh2 s2=>?_;simp only[Qo];rw[aam he]at ro;exact k h2 _ (L.next hk ro (L.I.kind 3) (λq=>by cases q) L.st) (by show(3:Int)≠0;decide) ⟨ev,lk,cl,s2⟩
  rw[aak he]at ro;have hlt:pc<f.code.length:=by omega
  obtain⟨i,hi⟩:∃i,f.code[pc]? = some i:=⟨_,aae hlt⟩;rw[hpc,aaE,hi]at ro;simp only at ro;rw[<- hpc]at ro;have Gi:=G i (aaG hi);obtain⟨bi,oi,ci,ti,ha,hbi,hgi,hle,htk,_⟩:=XC F2.code (i:=pc) (r:=i.row) (by rw[aaw,hi];rfl) rfl;rw[<- hpc]at ha;have hw:IntKind.wrap .i64 (c.pt+1)=c.pt+1:=Go.Mem.Yo (by omega) (by have:=F2.mQ;omega);have FN:=IX F hf (by omega);simp only[EE,Value.cells,aac,yg,zw,zh,v8,oL,Uu,Ad,he,gq,kp,ha,hgi,hle,htk];refine vp s λb8 h2 s2=>?_;simp only[EE,Nat.reduceAdd,oI];refine xQ s2 (by simp) rfl λh3 s3=>?_;have g8:=s3.get;have gm:=(s3.p 1).get;unfold xL at gm;have s3':=s3;unfold V6 at s3';rw[hc]at s3';clear gq kf kp kb kz kr;obtain⟨cs,gq,wq,ltq,lq,kf,kp,kb,kz,kr⟩:=WT (s3'.p 4) hcl;clear s3'
  have lf:Q4 p fuel S=((fuel-S.steps)*100002).toNat+(f.code.length-c.pt).toNat:=by
   unfold Q4 Yr;rw[hc,List.getLast?_concat];simp only[hf]
  have tc:∀d,(Za S d).calls=ini++[d]:=λd=>by
   show S.calls.dropLast++[d]=_;rw[hc,abZ]
  by_cases hlab:i.op=20/\lab=false
  ·rw[aam hlab]at ro;obtain⟨h20,rfl⟩:=hlab;simp only[EE,zf,Nat.reduceAdd,zw,zh,WL,Uu,zg,t8,aH,g8,h20,gq,kp,hw];refine EM hcl hc (s3.p 4) _ λh4 s4=>?_;simp only[EE];have X:=L.next hk ro (L.I.top (L.ne hk) FN) (λ_=>JW _ _) L.st;refine⟨Q4 p fuel (Za S {c with pt:=c.pt+1}),?_,_,rfl,X,hgs,ev,lk,cl,s4.k [2,3,4,0,5,6,7]⟩
   have e:Q4 p fuel (Za S {c with pt:=c.pt+1})=((fuel-S.steps)*100002).toNat+(f.code.length-(c.pt+1)).toNat:=by
    unfold Q4 Yr;rw[tc,List.getLast?_concat];simp only[hf];rfl
   omega
  rw[aak hlab]at ro;have hne:=L.ne hk
  have tl:=Pv (i:=i) (vs:=[]) (fuel:=fuel) (R:=R) (J:=λ_ h13=>∃m,m<Q4 p fuel S /\ ∃S,m=Q4 p fuel S/\Loop p lim world lab fuel T S/\S.gl=gls/\ZO lo p b mb wb wn world lim lv gl S h13) s3 hcl hc hil hwl (by rw[hgs];exact hg) hL hf Gi FN L.I (by omega) hw
   (λhfu h5 x5=>by
    rw[aam hfu]at ro;exact k h5 _ (L.next hk ro (L.I.kind 2) (λq=>by cases q) L.st) (by show(2:Int)≠0;decide) x5)
   (λhfu h5 x5=>by
    rw[aak hfu]at ro;have I1:=(L.I.top hne FN).SF (S.steps+1);have I2:=Pt (i:=i) I1 world (JW _ _) FN (by have:=L.I.cs;show((Za S _).calls.length:Int)<=_;rw[tc];rw[hc]at this;simp at this ⊢;omega) Gi;have sg:=Nh lim world {Za S {c with pt:=c.pt+1} with steps:=S.steps+1} {c with pt:=c.pt+1} Gi
    have es:(dM (zl p lim world {Za S {c with pt:=c.pt+1} with steps:=S.steps+1} {c with pt:=c.pt+1} i)).steps=S.steps+1:=by
     unfold dM;split <;> exact sg.2
    have eg:(dM (zl p lim world {Za S {c with pt:=c.pt+1} with steps:=S.steps+1} {c with pt:=c.pt+1} i)).gl=gls:=by
     rw[<- hgs];unfold dM;split <;> exact sg.1
    have X:=L.next hk ro (by rw[es];exact Rq I2) (λq=>by
     unfold dM at q ⊢;split at q
     ·rename_i ok;rw[aam ok];exact Ni (JW _ _) Gi ok q
     ·cases q) (by rw[es];omega)
    refine⟨_,?_,_,rfl,X,eg,x5⟩;have l2:=MU (fuel:=fuel) g X.I;rw[es]at l2;omega)
  by_cases h20:i.op=20
  ·have hlt:lab=true:=by
    cases lab with
    |true=>rfl
    |false=>exact absurd ⟨h20,rfl⟩ hlab
   subst hlt;simp only[EE,zf,Nat.reduceAdd,zw,zh,zg,aH,g8,h20];exact tl
  ·simp only[EE,zf,Nat.reduceAdd,zw,zh,zg,aH,g8,h20];exact tl
 ·simp only[EE,Qo,zw,zh,Zd,XM,gm,Sq,hk];exact k h1 S L hk x'
end
section
variable {lo:yQ}{h:za}{b mb wb:Nat}{p:Pg}{wn lv gl ev lk cl:Value}{world:List Int}{lim fuel:Int}{lab:Bool}{S:St}
theorem IM(lim:Int)(S:St)(f:Nat)(hk:S.kind=0):(vB lim S f).kind=0->(vB lim S f).calls≠[]:=by
 unfold vB;split
 ·intro _;simp
 ·rename_i hg;intro q;exfalso;unfold w4 at hg q;split at q
  ·cases q
  ·rename_i h2;rw[aak h2]at hg;exact hg rfl
theorem Pc(hp:Rd lo (qW · p))(g:L8 p)(hwl:world.length<4611686018427387904){gls:List Int}(hg:Rd lo (zD · gl gls))(hL:Rd lo (UG p lv))(hf0:0<=fuel)(hf1:fuel<=100000000)(s:Sat lo h (V6 p b mb wb wn world lim lv gl S ev lk cl))(I:Z6 p lim 0 S)(hs:S.steps=0)(hk:S.kind=0)(hc:S.calls=[])(hgs:S.gl=gls) :
  DC Tryz.prog 39 [xN b,.int .i64 fuel,.bool lab] h (λ_ h'=>∃T,Loop p lim world lab fuel (vB lim S p.main.toNat) T/\T.kind≠0/\ZO lo p b mb wb wn world lim lv gl T h'):=by
 apply FL;unfold CJ xN;have gm:=s.get;unfold xL at gm;obtain⟨mn,hmn⟩:∃mn:Nat,p.main=mn:=⟨p.main.toNat,by have:=g.RX;omega⟩;obtain⟨f,hf⟩:=g.main;simp only[EE,zw,zh,A7,jm,gm,TE,hmn];rw[hmn,aaE]at *
 obtain⟨lo1,l1,s2,fr⟩:=(s.f [0,3]).call (L2:=[pt b (xL p lv mb wb S ev lk gl cl lim),kg 134 7 cl (S.calls.map uM)]);refine yb (by kernel_rfl) rfl (EF s2 (I.bounds (by decide)).N5 (by rw[hc];decide) mn) ?_;rintro v h3 ⟨cl',s3⟩;have s4:=fr _ _ s3;simp only[↓yy];obtain⟨e1,e2,e3,e4⟩:=iQ lim S mn;have es:=AZ lim S mn;have L0:Loop p lim world lab fuel (vB lim S mn) (vB lim S mn):=⟨by rw[es.2,hs];exact I.enter hf (by rw[hc];decide),IM lim S mn hk,by rw[es.2,hs];exact hf0,0,rfl⟩;refine OZ hp g hwl hg hL hf1 L0 (by rw[es.1];exact hgs) ⟨ev,lk,cl',?_⟩ (λh' T LT kT xT=>⟨T,LT,kT,xT⟩);unfold V6;rw[e1,e2,e3,e4];exact s4.k [0,2,3,1,4,5,6]
end
def Ng(M:MM)(gl:List Int)(r:List V):St:=⟨M,0,0,0,[],[],0,gl,[],r,false,v0,v0,0,0⟩
theorem Iv(p:Pg)(args:List Int):JG p args=Ng (vX p.globals [] []).1 (vX p.globals [] []).2 (Vn order args (List.replicate 16 v0)):=rfl
theorem OA(v00:Option Addr)(l00 c00:Nat)(v01:Option Addr)(l01 c01:Nat)(m k:Int)(mb wb:Nat)(lim:Int):yU Tryz.prog 108 [(0,(.agg #[(.slice v00 l00 c00),(.slice v01 l01 c01),(.int .i64 m),(.int .i64 k)])),(2,.pointer (some ⟨mb,0,none⟩)),(3,.pointer (some ⟨wb,0,none⟩)),(12,.int .i64 lim)]=some (.agg ⟨vC ⟨.slice v00 l00 c00,[],.slice v01 l01 c01,[],m,k⟩ (.slice none 0 0) mb wb (Ng [] [] (List.replicate 16 v0)) (.slice none 0 0) (.slice none 0 0) (.slice none 0 0) (.slice none 0 0) lim⟩):=by kernel_rfl
theorem zD.shape{h:za}{sv:Value}{l:List Int}(S:zD h sv l):∃a n c,sv=.slice a n c:=by
 rcases S with⟨rfl,_⟩|⟨b,off,cp,rfl,_⟩ <;> exact⟨_,_,_,rfl⟩
theorem zT.shape{h:za}{sv:Value}{n:Nat}{l:List (List Value)}(S:zT h sv n l):∃a n c,sv=.slice a n c:=by
 rcases S with⟨rfl,_⟩|⟨b,off,cp,rfl,_⟩ <;> exact⟨_,_,_,rfl⟩
theorem Mp{h:za}{p:Pg}(P:qW h p)(mb wb:Nat)(lim:Int):yU Tryz.prog 108 [(0,.agg #[p.gv,p.fv,.int .i64 p.main,.int .i64 p.params]),(2,.pointer (some ⟨mb,0,none⟩)),(3,.pointer (some ⟨wb,0,none⟩)),(12,.int .i64 lim)]=some (.agg ⟨vC p (.slice none 0 0) mb wb (Ng [] [] (List.replicate 16 v0)) (.slice none 0 0) (.slice none 0 0) (.slice none 0 0) (.slice none 0 0) lim⟩):=by
 obtain⟨gv,gs,fv,fs,m,k⟩:=p;obtain⟨a1,n1,c1,q1⟩:=zD.shape P.globals;obtain⟨a2,n2,c2,q2⟩:=zT.shape P.funcs;simp only at q1 q2;subst q1 q2;exact OA _ _ _ _ _ _ _ _ _ _ _
theorem Iu:yU Tryz.prog 130 [(0,.int .i64 7),(1,.int .i64 6),(2,.int .i64 2),(3,.int .i64 1),(4,.int .i64 8),(5,.int .i64 9)]=some (.agg #[.int .i64 7,.int .i64 6,.int .i64 2,.int .i64 1,.int .i64 8,.int .i64 9]):=by kernel_rfl
theorem Ts(h:za):vS h=(.map (some h.next),h.push (.map [] 0)):=rfl
theorem lj:∀(rs l2:List Int) (l:List V) (i:Nat) (r a:Int),rs[i]? = some r->l2[i]? = some a->Vn rs (l2.take (i+1)) l=(Vn rs (l2.take i) l).set r.toNat (qN a)
 |[],l2,l,i,r,a,h,_=>by cases h
 |x::rs,[],l,i,r,a,_,h=>by cases h
 |x::rs,y::l2,l,0,r,a,h1,h2=>by
  simp only[aaf,aab]at h1 h2;subst h1 h2;cases rs <;> cases l2 <;> rfl
 |x::rs,y::l2,l,i+1,r,a,h1,h2=>by
  simp only[aaj]at h1 h2;exact lj rs l2 _ i r a h1 h2
theorem dP:∀(rs l2:List Int) (l:List V),(Vn rs l2 l).length=l.length
 |[],l2,l=>rfl
 |x::rs,[],l=>rfl
 |x::rs,y::l2,l=>by show(Vn rs l2 _).length=_;rw[dP rs l2,abf]
theorem Bh:∀(rs l2:List Int) (l:List V),(∀v,v∈l->vb v)->∀v,v∈Vn rs l2 l->vb v
 |[],l2,l,h=>h
 |x::rs,[],l,h=>h
 |x::rs,y::l2,l,h=>Bh rs l2 _ λv hv=>by
  rcases List.mem_or_eq_of_mem_set hv with q|rfl
  ·exact h v q
  ·exact Qz _
theorem Mq{p:Pg}(g:L8 p){lim:Int}(l0:0<=lim)(l1:lim<4294967296)(args:List Int):Z6 p lim 0 (JG p args):=by
 obtain⟨gm,ll,gb⟩:=rX p.globals [] [] Bt (λz h=>by cases h);rw[Iv]
 have hv:∀v,v∈Vn order args (List.replicate 16 v0)->vb v:=Bh _ _ _ λv hv=>by
  rw[(List.mem_replicate.1 hv).2];exact bZ
 exact⟨acC 0,dP _ _ _,Py hv,bZ,bZ,λc hc=>by(cases hc),l0,l1,acC 0,l0,acC 0,acC 0,by show(0:Int)<=0+1;decide,⟨acC 0,acC 0⟩,gm,gb,by show(vX p.globals [] []).2.length=_;rw[ll];simp⟩
section
variable {lo:yQ}{h:za}{L:List HP}{sv:Value}{zs:List Int}
theorem NQ(S:zD h sv zs)(r:TypeId)(h':za):zk Tryz.prog .len [26] r [sv] h'=some (.int .i64 zs.length,h'):=by
 rcases S with⟨rfl,rfl⟩|⟨b,off,cp,rfl,_⟩
 ·simp only[lE,aaz]
 ·simp only[lE]
theorem S8(S:zD h sv zs){i:Nat}{z:Int}(hz:zs[i]? = some z):∃b o c t,zA Tryz.prog 26 sv (.int .i64 i)=some (.pointer (some ⟨b,o,none⟩))/\b<h.next/\h.get b=some (.cells c t)/\c[o]? = some (.int .i64 z):=by
 have hi:i<zs.length:=by
  rcases aaA i zs.length with q|q
  ·exact q
  ·rw[aao q]at hz;cases hz
 rcases S with⟨rfl,rfl⟩|⟨b,off,cp,rfl,hc⟩
 ·cases hz
 ·obtain⟨c,t,hb,hg,hat⟩:=hc (by intro e;subst e;cases hz);have h0:(0:Int)<=i:=by omega
  have h1:(i:Int)<(zs.length:Int):=by omega
  exact⟨b,off+i,c,t,by simp only[I8,h0,h1,and_self,aac,abH,aaE],hb,hg,hat i z hz⟩
theorem So{q:Nat}{o:vg}(s:Sat lo h (pt q o::L)):∃lo1,lo.Le lo1/\Rd lo1 (λh=>h.get q=some o)/\Sat lo1 h L:=by
 obtain⟨a,ha,d,w,s⟩:=s;refine⟨lo.un a,yQ.Jf d,λh1 b1=>?_,s⟩;have:Sat lo h1 [pt q o]:=⟨a,ha,d,w,b1⟩;exact this.get
theorem mm{h:za}{sv:Value}{zs:List Int}(S:zT h sv 1 (zs.map w9)):zD h sv zs:=by
 have T:=S;rcases S with⟨e,e2⟩|⟨b,off,cp,rfl,hc⟩
 ·exact .inl ⟨e,by simpa using e2⟩
 ·refine .inr ⟨b,off,cp,by rw[aaD],λhz=>?_⟩;obtain⟨c,t,hb,hg,hat⟩:=hc (by simpa using hz);refine⟨c,t,hb,hg,λi z hiz=>?_⟩;obtain⟨b2,o,c2,t2,⟨off2,cp2,e1,e2⟩,_,_,hg2,_,_,h3⟩:=T.spot (i:=i) (r:=w9 z) (by rw[aaw,hiz];rfl) rfl;simp only[abS,aab,acb]at e1;obtain⟨⟨rfl,rfl,_⟩,_,rfl⟩:=e1;rw[hg]at hg2;cases hg2;have:=h3 0 (by decide);rw[e2,abH,acf]at this;exact this
end
section
variable {lo:yQ}{h h42:za}{L:List HP}{b mb wb b19:Nat}{p:Pg}{S:St}{f:Fn}{lv gl ev lk cl av:Value}{args:List Int}{lim:Int}
theorem OI(hF:Rd lo (UF · f))(s:Sat lo h (pt h42.next (Q6 [])::L)){J:List Value->za->Prop}(k:∀h',Sat lo h' (pt h42.next (Q6 (VX f.code 0 []))::L)->J [] h'):LP (cS (.int .i64 f.code.length) J f.cv h42) [.int .i64 0] h:=by
 refine jz (λm vs h'=>∃j:Nat,j<=f.code.length/\m=f.code.length-j/\vs=[.int .i64 (j:Nat)]/\Sat lo h' (pt h42.next (Q6 (VX (f.code.take j) 0 []))::L)) f.code.length ⟨0,aa5 _,rfl,rfl,s⟩ ?_;rintro m vs h1 ⟨j,hj,rfl,rfl,s1⟩;have F:=hF.at s1;unfold cS;by_cases hc:(j:Int)<(f.code.length:Int)
 ·obtain⟨i,hi⟩:∃i,f.code[j]? = some i:=⟨_,aae (by omega)⟩;obtain⟨bi,oi,ci,ti,ha,hbi,hgi,hle,htk,_⟩:=XC F.code (i:=j) (r:=i.row) (by rw[aaw,hi];rfl) rfl;have et:f.code.take (j+1)=f.code.take j++[i]:=by rw[abT,hi];rfl
  have hsn:=ph (f.code.take j) i 0 [];rw[<- et]at hsn;have hlen:(f.code.take j).length=j:=by simp;omega
  rw[hlen]at hsn;have hin:=inc (show j<4611686018427387904 by have:=F.mQ;omega);simp only[EE,nth,Value.cells,↓yy,aac,yg,v8,oL,nj,nk,hc,ha,hgi,hle,htk];refine vp s1 λb8 h2 s2=>?_;simp only[EE,Nat.reduceAdd,oI];refine xQ s2 (by simp) rfl λh3 s3=>?_;have g8:=s3.get;have gM:=(s3.p 1).get;by_cases h20:i.op=20
  ·rw[aam h20]at hsn;have up:=BV (P:=Tryz.prog) (t:=129) (kt:=3) (et:=3) (kind := .i64) (by kernel_rfl) (by kernel_rfl) gM (s3.p 1).wr i.l (.int .i64 (j:Nat));have s4:=(s3.p 1).set (Q6 (Vt (VX (f.code.take j) 0 []) i.l (.int .i64 (j:Nat))));simp only[EE,nth,zf,Nat.reduceAdd,zw,zh,zg,vh,ni,g8,h20,Ts,up,hin];refine⟨f.code.length-(j+1),by omega,j+1,by omega,rfl,rfl,?_⟩;rw[hsn,Int.zero_add];exact(s4.p 1).drop
  ·rw[aak h20]at hsn;simp only[EE,nth,zf,Nat.reduceAdd,zw,zh,zg,g8,h20,hin];refine⟨f.code.length-(j+1),by omega,j+1,by omega,rfl,rfl,?_⟩;rw[hsn];exact s3.drop
 ·have e:j=f.code.length:=by omega
  subst e;rw[abX]at s1;simp only[EE,nth,hc];exact k h1 s1
theorem lI(l:List Nat):∀r,r∈l.map (λq=>[Value.map (some q)])->r.length=1:=qL (f:=λq=>[Value.map (some q)]) (λ_=>rfl) l
theorem MI(hp:Rd lo (qW · p))(g:L8 p)(s:Sat lo h (pt b (xL p (.slice none 0 0) mb wb S ev lk gl cl lim)::L)){J:List Value->za->Prop}
  (k:∀h' lo1 lv,lo.Le lo1->Rd lo1 (UG p lv)->Sat lo1 h' (pt b (xL p lv mb wb S ev lk gl cl lim)::L)->J [] h') :
  LP (Jq (.int .i64 p.funcs.length) J p.fv (xN b)) [.int .i64 0] h:=by
 refine jz (λm vs h'=>∃(i:Nat) (lo1:yQ) (lv:Value) (ls:List Nat),i<=p.funcs.length/\m=p.funcs.length-i/\vs=[.int .i64 (i:Nat)]/\ls.length=i/\lo.Le lo1/\Rd lo1 (λh=>∀(k q:Nat) (f:Fn),ls[k]? = some q->p.funcs[k]? = some f->h.get q=some (Q6 (VX f.code 0 [])))/\Sat lo1 h' (kg 129 1 lv (ls.map λq=>[.map (some q)])::pt b (xL p lv mb wb S ev lk gl cl lim)::L)) p.funcs.length
  ⟨0,lo,.slice none 0 0,[],aa5 _,rfl,rfl,rfl,yQ.Le.refl _,λh b k q f h1=>(by cases h1),Xi _ _ s⟩ ?_
 rintro m vs h1 ⟨i,lo1,lv,ls,hi,rfl,rfl,hls,hle1,hR,s1⟩;unfold Jq xN;by_cases hc:(i:Int)<(p.funcs.length:Int)
 ·obtain⟨f,hf⟩:∃f,p.funcs[i]? = some f:=⟨_,aae (by omega)⟩;have P:=(hp.mono hle1).at s1;have fm:=aaG hf;obtain⟨bf,ofs,cf,tf,hif,hbf,hgf,hlf,htf,hkf⟩:=Up P.funcs (i:=i) (r:=f.row) (by rw[aaw,hf];rfl) rfl;have hF:Rd lo1 (UF · f):=λh b=>(hp.mono hle1 h b).fns f fm;have cvn:=(P.fns f fm).code.Y0;have cvc:=(P.fns f fm).code.iI;have hin:=inc (show i<4611686018427387904 by have:=g.fl;omega);simp only[EE,nth,Value.cells,↓yy,aac,yg,QQ,Ez,gF,gG,hc,hif,hgf,hlf,htf];refine vp s1 λb15 h2 s2=>?_;simp only[EE,Nat.reduceAdd,Ev];refine xQ s2 (by simp) (by simp[cvc];rfl) λh3 s3=>?_;have g15:=s3.get;have s4:=s3.push (.map [] 0);have g15:=(s4.p 1).get;have hlc:=Zq ((hF.at s4).code) 3;simp only[EE,↓yy,zf,zw,kO,vD,Ts,g15,cvn,hlc];refine OI (h42:=h3) hF s4 λh5 s5=>?_;obtain⟨lo2,l2,hm,s6⟩:=So s5;have gM:=(s6.p 2).get;unfold xL at gM;have ln:=uL (s6.p 1);have s7:=s6.push (.cells [.map (some h3.next)] 129);obtain⟨b',c',h8,a1,s8⟩:=V3 (s7.p 2) (lI ls) [.map (some h3.next)] rfl (by decide) 8 (by rw[aaD];have:=g.fl;omega);rw[aaD]at a1 s8
  have hap:∀r,zk Tryz.prog .append [103,103] r [lv,.slice (some ⟨h5.next,0,none⟩) 1 3] (h5.push (.cells [.map (some h3.next)] 129))=some (.slice (some ⟨b',0,none⟩) (ls.length+1) c',h8):=λr=>by
   rw[Oj r _ _ 1 [.map (some h3.next)] _ rfl (by simp only[vE,zO];rfl) rfl rfl];exact a1
  unfold gE;simp only[EE,zw,CV,Oo,C7,iT,Ts,gM,Pe,ln,hap];refine xQ (s8.p 3) (by simp[vY]) rfl λh9 s9=>?_;rw[TK]at s9;simp only[EE,nth,hin];refine⟨p.funcs.length-(i+1),by omega,i+1,lo2,.slice (some ⟨b',0,none⟩) (ls.length+1) c',ls++[h3.next],by omega,rfl,rfl,by simp[hls],hle1.trans l2,λh b k q f' hk hf'=>?_,?_⟩
  ·by_cases hki:k<ls.length
   ·rw[abh hki]at hk;exact hR.mono l2 h b k q f' hk hf'
   ·have hk2:k=ls.length:=by
     have:k<(ls++[h3.next]).length:=by
      rcases aaA k (ls++[h3.next]).length with a|a
      ·exact a
      ·rw[aao a]at hk;cases hk
     simp at this;omega
    subst hk2;simp at hk;subst hk;rw[hls,hf]at hf';cases hf';exact hm h b
  ·have e:((ls++[h3.next]).map λq=>[Value.map (some q)])=(ls.map λq=>[Value.map (some q)])++[[.map (some h3.next)]]:=by simp
   rw[e];exact(s9.f [2,3]).drop.drop.f [1,0]
 ·have e:i=p.funcs.length:=by omega
  subst e;simp only[EE,nth,hc];obtain⟨lo2,l2,hs,s2,_⟩:=LM s1 (lI ls);exact k h1 lo2 lv (hle1.trans l2) (λh b=>⟨ls,hs h b,hls,hR.mono l2 h b⟩) s2
theorem On(ha:Rd lo (zD · av args))(ha6:args.length<=6){M:MM}{gs:List Int}(s:Sat lo h (pt b (xL p lv mb wb (Ng M gs (List.replicate 16 v0)) ev lk gl cl lim)::pt b19 (.cells [.int .i64 7,.int .i64 6,.int .i64 2,.int .i64 1,.int .i64 8,.int .i64 9] 130)::L)){J:List Value->za->Prop}
  (k:∀h',Sat lo h' (pt b (xL p lv mb wb (Ng M gs (Vn order args (List.replicate 16 v0))) ev lk gl cl lim)::pt b19 (.cells [.int .i64 7,.int .i64 6,.int .i64 2,.int .i64 1,.int .i64 8,.int .i64 9] 130)::L)->J [] h') :
  LP (Jr (.int .i64 args.length) J av (.pointer (some ⟨b19,0,none⟩)) (xN b)) [.int .i64 0] h:=by
 refine jz (λm vs h'=>∃i:Nat,i<=args.length/\m=args.length-i/\vs=[.int .i64 (i:Nat)]/\Sat lo h' (pt b (xL p lv mb wb (Ng M gs (Vn order (args.take i) (List.replicate 16 v0))) ev lk gl cl lim)::pt b19 (.cells [.int .i64 7,.int .i64 6,.int .i64 2,.int .i64 1,.int .i64 8,.int .i64 9] 130)::L)) args.length ⟨0,aa5 _,rfl,rfl,s⟩ ?_;rintro m vs h1 ⟨i,hi,rfl,rfl,s1⟩;unfold Jr xN;by_cases hc:(i:Int)<(args.length:Int)
 ·obtain⟨a,haa⟩:∃a,args[i]? = some a:=⟨_,aae (by omega)⟩;obtain⟨bb,o,cs,t,hix,hb,hgt,hat⟩:=S8 (ha.at s1) haa;obtain⟨r,hr⟩:∃r,order[i]? = some r:=⟨_,aae (by show i<6;omega)⟩
  have hr1:0<=r/\r<16:=by
   have hm:=aaG hr;simp only[order,abm,List.not_mem_nil,aaC]at hm;omega
  have hc19:([.int .i64 7,.int .i64 6,.int .i64 2,.int .i64 1,.int .i64 8,.int .i64 9]:List Value)[i]? = some (.int .i64 r):=by
   have e:([.int .i64 7,.int .i64 6,.int .i64 2,.int .i64 1,.int .i64 8,.int .i64 9]:List Value)=order.map (Value.int .i64):=rfl;rw[e,aaw,hr];rfl
  have g19:=(s1.p 1).get;have gn:=lj order args (List.replicate 16 v0) i r a hr haa;have avn:=(ha.at s1).Y0;have i0:(0:Int)<=i:=by omega
  have i6:(i:Int)<6:=by omega
  have hin:=inc (show i<4611686018427387904 by omega);have r0:=hr1.1;have r1:=hr1.2;simp only[EE,nth,↓yy,aac,zw,yR,zh,OU,gI,gJ,hc,hix,hgt,hat,i0,i6,g19,hc19,aaE,abH];refine ka (by kernel_rfl) rfl (ZZ a _) ?_;simp only[EE,aac,Nat.reduceAdd,zM,xY,qT,gH,r0,r1];refine sJ s1 (dP _ _ _) r0 r1 _ λh3 s3=>?_;simp only[EE,nth,hin];refine⟨args.length-(i+1),by omega,i+1,by omega,rfl,rfl,?_⟩;rw[gn];exact s3
 ·have e:i=args.length:=by omega
  subst e;rw[abX]at s1;simp only[EE,nth,hc];exact k h1 s1
theorem ML(hp:Rd lo (qW · p))(g:L8 p){r:List V}(s:Sat lo h (pt b (xL p lv mb wb (Ng [] [] r) ev lk (.slice none 0 0) cl lim)::Xh mb []::L)){J:List Value->za->Prop}
  (k:∀h' gl,Sat lo h' (kg 3 1 gl ((vX p.globals [] []).2.map w9)::pt b (xL p lv mb wb (Ng (vX p.globals [] []).1 (vX p.globals [] []).2 r) ev lk gl cl lim)::Xh mb (vX p.globals [] []).1::L)->J [] h') :
  LP (cR (.int .i64 p.globals.length) J p.gv (xN b)) [.int .i64 0] h:=by
 refine jz (λm vs h'=>∃(i:Nat) (gl:Value),i<=p.globals.length/\m=p.globals.length-i/\vs=[.int .i64 (i:Nat)]/\Sat lo h' (kg 3 1 gl ((vX (p.globals.take i) [] []).2.map w9)::pt b (xL p lv mb wb (Ng (vX (p.globals.take i) [] []).1 (vX (p.globals.take i) [] []).2 r) ev lk gl cl lim)::Xh mb (vX (p.globals.take i) [] []).1::L)) p.globals.length
  ⟨0,.slice none 0 0,aa5 _,rfl,rfl,Xi _ _ s⟩ ?_
 rintro m vs h1 ⟨i,gl,hi,rfl,rfl,s1⟩;unfold cR xN;obtain⟨gm,ll,gb⟩:=rX (p.globals.take i) [] [] Bt (λz h=>by cases h);have g200:=g.gl;by_cases hc:(i:Int)<(p.globals.length:Int)
 ·obtain⟨n,hn⟩:∃n,p.globals[i]? = some n:=⟨_,aae (by omega)⟩;obtain⟨b11,o11,c11,t11,ix11,lt11,g11,k11⟩:=fo ((hp.at s1).globals) hn;have gvn:=(hp.at s1).globals.Y0;have gM:=(s1.p 1).get;unfold xL at gM;have et:p.globals.take (i+1)=p.globals.take i++[n]:=by rw[abT,hn];rfl
  have e1:=lp (p.globals.take i) n [] [];rw[<- et]at e1;have a:=JP n gm;have hin:=inc (show i<4611686018427387904 by omega);simp only[EE,nth,↓yy,zw,dz,zh,Ut,ng,nh,hc,ix11,g11,k11,gM,GV];obtain⟨lo1,l1,s11,fr⟩:=(s1.f [2]).call (L2:=[Xh mb (vX (p.globals.take i) [] []).1]);refine yb (by kernel_rfl) rfl (Er s11 n) ?_;rintro v h12 ⟨rfl,s12⟩;have s13:=fr _ _ s12;have gM:=(s13.p 2).get;unfold xL at gM;simp only[EE,zw,dz,Ut,nf,gM,GV];obtain⟨lo2,l2,s14,fr2⟩:=s13.call (L2:=[Xh mb (w7 (vX (p.globals.take i) [] []).1 n).1]);refine yb (by kernel_rfl) rfl (PD s14 a.1.1 a.2.2) ?_;rintro v h15 ⟨rfl,s15⟩;have s16:=fr2 _ _ s15;have gM:=(s16.p 2).get;unfold xL at gM;have gn:=uL (s16.p 1);have s17:=s16.push (.cells [.int .i64 (w7 (vX (p.globals.take i) [] []).1 n).2.1] 3);obtain⟨b',c',h18,a1,s18⟩:=V3 (s17.p 2) (qL (f:=w9) (λ_=>rfl) _) [.int .i64 (w7 (vX (p.globals.take i) [] []).1 n).2.1] rfl (by decide) 8 (by rw[aaD,ll];simp;omega);rw[aaD]at a1 s18
  have hap:∀r',zk Tryz.prog .append [22,22] r' [gl,.slice (some ⟨h15.next,0,none⟩) 1 3] (h15.push (.cells [.int .i64 (w7 (vX (p.globals.take i) [] []).1 n).2.1] 3))=some (.slice (some ⟨b',0,none⟩) ((vX (p.globals.take i) [] []).2.length+1) c',h18):=λr'=>
   (Es r' _ _ 1 [.int .i64 (w7 (vX (p.globals.take i) [] []).1 n).2.1] _ rfl (by simp only[vE,zO];rfl) rfl rfl).trans a1
  simp only[EE,zw,u5,P6,Gg,A8,nd,gM,NT,gn,hap];refine xQ (s18.p 3) (by simp[vY]) rfl λh19 s19=>?_;rw[Sv]at s19;simp only[EE,nth,hin];refine⟨p.globals.length-(i+1),by omega,i+1,.slice (some ⟨b',0,none⟩) ((vX (p.globals.take i) [] []).2.length+1) c',by omega,rfl,rfl,?_⟩;rw[e1];rw[abN];exact(s19.p 2).drop.f [1,0]
 ·have e:i=p.globals.length:=by omega
  subst e;rw[abX]at s1;simp only[EE,nth,hc];exact k h1 gl s1
end
section
variable {h:za}{p:Pg}{av wv:Value}{args world:List Int}{lim:Int}
theorem Mr(P:qW h p)(g:L8 p)(ha:zD h av args)(ha6:args.length<=6)(hw:zD h wv world)(hwl:world.length*8<=2^47) :
  DC Tryz.prog 38 [p.val,av,wv,.int .i64 lim] h (λv h'=>∃b mb wb wn lv gl lo1,v=xN b/\(yQ.of h).Le lo1/\Rd lo1 (UG p lv)/\Rd lo1 (zD · gl (JG p args).gl)/\Sat lo1 h' (V6 p b mb wb wn world lim lv gl (JG p args) (.slice none 0 0) (.slice none 0 0) (.slice none 0 0))):=by
 apply Y3;intro wf;apply Cn;unfold pV;have s0:Sat (.of h) h []:=Sat.self wf.2;have RP:Rd (.of h) (qW · p):=Rd.of (yQ.qQ h) P λh' o=>P.old o;have RA:Rd (.of h) (zD · av args):=Rd.of (yQ.qQ h) ha λh' o=>ha.old o;have RW:Rd (.of h) (zD · wv world):=Rd.of (yQ.qQ h) hw λh' o=>hw.old o;have gvn:=P.globals.Y0;have gvc:=P.globals.iI;have fvn:=P.funcs.Y0;have fvc:=P.funcs.iI;have avn:=ha.Y0;have wvn:=hw.Y0;have al:=NQ ha 3;simp only[EE,Value.cells];refine EU s0 wf λb4 h2 wf2 s2=>?_;have g4:=s2.get;simp only[EE,aac,Nat.reduceAdd,yg,Xn,g4];refine rN (by kernel_rfl) rfl wf2 s2 (O4 (Sat.self wf2.lock.2)) ?_;rintro v h3 ⟨mb,rfl,s3⟩ back wf4;have s4:=back _ s3;clear back s3;generalize uS h2 h3=h4 at wf4 s4 ⊢;refine rN (by kernel_rfl) (by simp only[yP,wvn,aaK]) wf4 s4 (Pw (RW.at s4).lock hwl (Sat.self wf4.lock.2)) ?_;rintro v h5 ⟨wb,wn,rfl,s5⟩ back wf6;have s6:=back _ s5;clear back s5;generalize uS h4 h5=h6 at wf6 s6 ⊢;unfold xN;have bd:=Mp P mb wb lim;simp only[EE,Value.cells,zw,u5,wI,gN,bd];refine vp s6 λb h7 s7=>?_;have g4:=(s7.p 4).get;have PG:=(RP.at s7).globals;have gl7:=Qy PG;simp only[EE,↓yy,g4,gvn,gl7];refine ML RP g (s7.f [0,3]) λh8 gl s8=>?_;have g4:=(s8.p 5).get;have fl8:=Z8 (RP.at s8).funcs 3;unfold gL;simp only[EE,↓yy,zw,vM,yM,g4,fvn,fl8];refine MI RP g (s8.p 1) λh9 lo1 lv le1 hL s9=>?_;unfold gK;simp only[EE,Value.cells,Ox,Iu];refine vp s9 λb19 h10 s10=>?_;simp only[EE,Nat.reduceAdd,Oq];refine xQ s10 (by simp) rfl λh11 s11=>?_;simp only[EE,↓yy,avn,al];refine On (RA.mono le1) ha6 (s11.f [1,0]) λh12 s12=>?_;obtain⟨lo2,le2,hg,s13,_⟩:=LM (s12.p 2) (qL (f:=w9) (λ_=>rfl) _);simp only[EE];refine⟨b,mb,wb,wn,lv,gl,lo2,rfl,le1.trans le2,hL.mono le2,λh b=>mm (hg h b),?_⟩;have s14:=Xi 80 3 (Xi 85 2 (Xi 134 7 s13));exact s14.k [3,0,1,2,5,6,7]
end
def YW(p:Pg)(args:List Int)(fuel lim:Int):Prop:=Xf p=true/\(args.length:Int)=p.params/\0<=fuel/\fuel<=100000000/\0<=lim/\lim<=2147483647
instance (p:Pg)(args:List Int)(fuel lim:Int):Decidable (YW p args fuel lim):=by unfold YW;infer_instance
def Wg(kind exit:Int)(ev lk:Value)(steps:Int):Value := .agg #[.int .i64 kind,.int .i64 exit,ev,lk,.int .i64 steps]
def Ma(h:za)(p:Pg)(lim:Int)(args world:List Int)(lab:Bool)(fuel:Int)(w:St->Value->Value->Value)(v:Value)(h':za):Prop := ∃T ev lk,Ends p lim args world lab fuel T/\v=w T ev lk/\Sat (.of h) h' [kg 85 2 ev (T.ev.map Zc),kg 80 3 lk (T.lk.map qU)]
def L9(h:za)(w:Value)(v:Value)(h':za):Prop:=v=w/\Sat (.of h) h' []
def DE:Value:=Wg 0 0 (.slice none 0 0) (.slice none 0 0) 0
def Lx(T:St)(ev lk:Value):Value := .tuple #[Wg T.kind T.exit ev lk T.steps,.int .i64 T.sw,.int .i64 0]
section
variable {h:za}{p:Pg}{av wv:Value}{args world:List Int}{lim fuel:Int}{lab:Bool}
theorem Oc(P:qW h p)(ha:zD h av args)(hw:zD h wv world)(hwl:world.length*8<=2^47) :
  DC Tryz.prog 21 [p.val,av,wv,.int .i64 fuel,.int .i64 lim,.bool lab] h (λv h'=>if YW p args fuel lim then Ma h p lim args world lab fuel Lx v h' else L9 h (.tuple #[DE,.int .i64 0,.int .i64 1]) v h'):=by
 apply Y3;intro wf;apply Fy;unfold Ch;have s0:Sat (.of h) h []:=Sat.self wf.2;have RP:Rd (.of h) (qW · p):=Rd.of (yQ.qQ h) P λh' o=>P.old o;have RA:Rd (.of h) (zD · av args):=Rd.of (yQ.qQ h) ha λh' o=>ha.old o;have RW:Rd (.of h) (zD · wv world):=Rd.of (yQ.qQ h) hw λh' o=>hw.old o;have gvn:=P.globals.Y0;have gvc:=P.globals.iI;have fvn:=P.funcs.Y0;have fvc:=P.funcs.iI;have avn:=ha.Y0;have wvn:=hw.Y0;have al:=NQ ha 3;simp only[EE,Value.cells,Ja];refine vp s0 λb6 h2 s2=>?_;simp only[EE,yg,Xn];refine vp s2 λb12 h4 s4=>?_;have g6:=(s4.p 1).get;simp only[EE,aac,Nat.reduceAdd,g6];refine zi (by kernel_rfl) (by simp only[yP];rfl) (Qd (RP.at s4)) ?_
 have bad:∀J,¬YW p args fuel lim->gk (.pointer (some ⟨b12,0,none⟩)) h4 (λv h'=>if YW p args fuel lim then Ma h p lim args world lab fuel Lx v h' else L9 h (.tuple #[DE,.int .i64 0,.int .i64 1]) v h') J:=by
  intro J hb;unfold gk;simp only[EE,Nat.reduceAdd,Qt,Oz];refine xQ s4 (by simp) rfl λh5 s5=>?_;have g7:=s5.get;simp only[EE,zf,aac,Nat.reduceAdd,yg,Uo,g7];refine⟨rfl,?_⟩;show if YW p args fuel lim then _ else _;rw[aak hb];exact⟨rfl,s5.drop.drop⟩
 cases hg:Xf p with
 |false=>
  simp only[EE,XT,XU,XV,XW,XX,XY,YL];exact bad _ (by unfold YW;rw[hg];simp)
 |true=>
 by_cases e1:¬(args.length:Int)=p.params
 ·simp only[EE,zw,zh,j4,XT,XU,XV,XW,XX,XY,YL,avn,al,g6,e1];exact bad _ (by unfold YW;omega)
 have e1:(args.length:Int)=p.params:=Classical.not_not.1 e1;by_cases e2:fuel<0
 ·simp only[EE,zw,zh,j4,XT,XU,XV,XW,XX,XY,YL,avn,al,g6,e1,e2];exact bad _ (by unfold YW;omega)
 by_cases e3:fuel>100000000
 ·simp only[EE,zw,zh,j4,XT,XU,XV,XW,XX,XY,YL,avn,al,g6,e1,e2,e3];exact bad _ (by unfold YW;omega)
 by_cases e4:lim<0
 ·simp only[EE,zw,zh,j4,XT,XU,XV,XW,XX,XY,YL,avn,al,g6,e1,e2,e3,e4];exact bad _ (by unfold YW;omega)
 by_cases e5:lim>2147483647
 ·simp only[EE,zw,zh,j4,XT,XU,XV,XW,XX,XY,YL,avn,al,g6,e1,e2,e3,e4,e5];exact bad _ (by unfold YW;omega)
 simp only[EE,zw,zh,j4,XT,XU,XV,XW,XX,XY,YL,avn,al,g6,e1,e2,e3,e4,e5];have hok:YW p args fuel lim:=⟨hg,e1,by omega,by omega,by omega,by omega⟩;simp only[aam hok];have g:=MN hg;have gp:=g.par;unfold tG;simp only[EE,aac,Nat.reduceAdd,yg,Xn,g6];refine yb (by kernel_rfl) (by simp only[yP,avn,wvn,aaK];rfl) (Mr (RP.at s4) g (RA.at s4) (by omega) (RW.at s4) hwl) ?_;rintro v h5 ⟨b,mb,wb,wn,lv,gl,lo1,rfl,le1,hL,hgl,s5⟩;simp only[];have RP1:Rd lo1 (qW · p):=(Rd.of (yQ.qQ h4) (RP.at s4) λh' o=>qW.old (RP.at s4) o).mono le1;refine yb (by kernel_rfl) rfl (Pc RP1 g (by omega) hgl hL (by omega) (by omega) s5 (Mq g (by omega) (by omega) args) rfl rfl rfl rfl) ?_;rintro v h6 ⟨T,LT,kT,ev,lk,cl,s6⟩;have s7:=s4.join (s6.mono le1);have gm:=s7.get;unfold xL at gm;have hne:¬b12=b:=(s7.p 7).ne;have hne2:¬b=b12:=λq=>hne q.symm;have en:=uL (s7.p 2);have ec:=j9 (s7.p 2);have kn:=uL (s7.p 1);have kc:=j9 (s7.p 1);unfold xN;simp only[EE,aac,Nat.reduceAdd,Nat.reduceLeDiff,ne_eq,yg,zw,zh,Uo,Qt,oW,Zd,tF,gm,bU,Pf,NX,AH,hne,ne_eq,true_or];refine xQ (s7.p 7) (by simp) (by simp[ec,kc];exact⟨rfl,rfl,rfl⟩) λh8 s8=>?_;have g8:=s8.get;simp only[EE,zf,aac,Nat.reduceAdd,yg,Uo,g8];obtain⟨n,hn⟩:=LT.run;refine⟨by simp only[yP];rfl,?_⟩;exact⟨T,ev,lk,⟨kT,n,hn⟩,rfl,s8.k [3,2]⟩
theorem Io{a b c:Value}(ha:yo a=false)(hb:yo b=false)(hc:yo c=false):WM (.tuple #[a,b,c]) 0=some a:=(iD (by simp only[yP,ha,hb,hc,aaK])).trans rfl
theorem Ip{a b c:Value}(ha:yo a=false)(hb:yo b=false)(hc:yo c=false):WM (.tuple #[a,b,c]) 1=some b:=(iD (by simp only[yP,ha,hb,hc,aaK])).trans rfl
theorem Iq{a b c:Value}(ha:yo a=false)(hb:yo b=false)(hc:yo c=false):WM (.tuple #[a,b,c]) 2=some c:=(iD (by simp only[yP,ha,hb,hc,aaK])).trans rfl
def Na(T:St)(ev lk:Value):Value := .tuple #[Wg T.kind T.exit ev lk T.steps,.int .i64 0]
theorem D5(P:qW h p)(ha:zD h av args)(hw:zD h wv world)(hwl:world.length*8<=2^47) :
  DC Tryz.prog 9 [p.val,av,wv,.int .i64 fuel,.int .i64 lim] h (λv h'=>if YW p args fuel lim then Ma h p lim args world true fuel Na v h' else L9 h (.tuple #[DE,.int .i64 1]) v h'):=by
 apply Y3;intro wf;apply Hu;unfold Hs;have s0:Sat (.of h) h []:=Sat.self wf.2;have RP:Rd (.of h) (qW · p):=Rd.of (yQ.qQ h) P λh' o=>P.old o;have RA:Rd (.of h) (zD · av args):=Rd.of (yQ.qQ h) ha λh' o=>ha.old o;have RW:Rd (.of h) (zD · wv world):=Rd.of (yQ.qQ h) hw λh' o=>hw.old o;have gvn:=P.globals.Y0;have gvc:=P.globals.iI;have fvn:=P.funcs.Y0;have fvc:=P.funcs.iI;have avn:=ha.Y0;have wvn:=hw.Y0;simp only[EE,Value.cells,Ja];refine vp s0 λb5 h2 s2=>?_;simp only[EE,yg,Xn];refine vp s2 λb10 h4 s4=>?_;have g5:=(s4.p 1).get;simp only[EE,aac,Nat.reduceAdd,g5];refine yb (by kernel_rfl) (by simp only[yP,avn,wvn,aaK];rfl) (Oc (fuel:=fuel) (lim:=lim) (lab:=true) (RP.at s4) (RA.at s4) (RW.at s4) hwl) ?_;rintro v h7 hv;by_cases hb:YW p args fuel lim
 ·rw[aam hb]at hv;obtain⟨T,ev,lk,hT,rfl,s8⟩:=hv;have s9:=s4.join s8;have en:=uL s9;have ec:=j9 s9;have kn:=uL (s9.p 1);have kc:=j9 (s9.p 1);unfold Lx Wg;simp only[EE,Value.cells,Ja,pT,Io,Ip,Iq];refine vp s9 λb12 h10 s10=>?_;simp only[EE,Nat.reduceAdd,Qt];refine xQ s10 (by simp) (by simp[ec,kc];exact⟨rfl,rfl,rfl⟩) λh11 s11=>?_;have g11:=s11.get;simp only[EE,zf,aac,Nat.reduceAdd,yg,Uo,Qt,g11];refine xQ (s11.p 3) (by simp) (by simp[ec,kc];exact⟨rfl,rfl,rfl⟩) λh12 s12=>?_;have g12:=s12.get;simp only[EE,zf,aac,Nat.reduceAdd,yg,Uo,g12];rw[aam hb];exact⟨T,ev,lk,hT,rfl,s12.k [2,3]⟩
 ·rw[aak hb]at hv;obtain⟨rfl,s8⟩:=hv;have s9:=s4.join s8;unfold DE Wg;simp only[EE,Value.cells,Ja,pT,Io,Ip,Iq];refine vp s9 λb12 h10 s10=>?_;simp only[EE,Nat.reduceAdd,Qt];refine xQ s10 (by simp) rfl λh11 s11=>?_;have g11:=s11.get;simp only[EE,zf,aac,Nat.reduceAdd,yg,Uo,Qt,g11];refine xQ (s11.p 1) (by simp) rfl λh12 s12=>?_;have g12:=s12.get;simp only[EE,zf,aac,Nat.reduceAdd,yg,Uo,g12];rw[aak hb];exact⟨rfl,s12.zE 0⟩
end
end Go.As
