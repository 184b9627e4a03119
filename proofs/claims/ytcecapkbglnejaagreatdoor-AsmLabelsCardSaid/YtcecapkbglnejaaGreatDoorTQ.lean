/- A part of the proof. -/
import Derived.Test.YtcecapkbglnejaaGreatDoorTP
import Derived.Test.YtcecapkbglnejaaGreatDoorTD
import Derived.Test.YtcecapkbglnejaaGreatDoorTN
set_option linter.unusedVariables false
set_option linter.unusedSimpArgs false
set_option maxRecDepth 100000
namespace Go.Am
open Go.Ai Go.Proofs
open Go.Rtl (zD zT Old inc xq xz)
open Go.As (Wg)
open Go.Rm (Zc qU qL Rd Rd.of Rd.at)
theorem LA{P:Program}{f:FuncId}{args:List Value}{h:za}(wf:Kj h)(d:DC P f args h.lock (λv _=>∃B,v=.bool B)):∃B,vH P f args h (.bool B):=by
 obtain⟨v,h1,⟨B,rfl⟩,_,t⟩:=d wf.lock;exact⟨B,rfl,t.mono λv h1 e=>e.1⟩
section
variable {h:za}{av bv:Value}
theorem RR{h:za}{sv:Value}{l:List (Int×Int)}(S:zT h sv 2 (l.map Zc))(r:TypeId)(h':za):zk Tryz.prog .len [30] r [sv] h'=some (.int .i64 l.length,h'):=by
 rcases S with⟨rfl,e⟩|⟨b,off,cp,rfl,_⟩
 ·have:l=[]:=by simpa using e
  subst this;simp only[Du,aaz]
 ·simp only[Du,aaD]
theorem RS{h:za}{sv:Value}{l:List (Int×Int×Int)}(S:zT h sv 3 (l.map qU))(r:TypeId)(h':za):zk Tryz.prog .len [31] r [sv] h'=some (.int .i64 l.length,h'):=by
 rcases S with⟨rfl,e⟩|⟨b,off,cp,rfl,_⟩
 ·have:l=[]:=by simpa using e
  subst this;simp only[Dv,aaz]
 ·simp only[Dv,aaD]
theorem EW{α:Type}{a b:List α}(p:a <+: b):a.length<=b.length:=p.length_le
theorem M4{α:Type}{a b:List α}(p:a <+: b){i:Nat}{x:α}(h:a[i]? = some x):b[i]? = some x:=by
 obtain⟨c,rfl⟩:=p
 have hi:i<a.length:=by
  rcases aaA i a.length with q|q
  ·exact q
  ·rw[aao q]at h;cases h
 rw[abh hi];exact h
theorem IN{a b:List (Int×Int)}{all:Bool}(A:zT h av 2 (a.map Zc))(B:zT h bv 2 (b.map Zc))(hl:a.length<4611686018427387904)(p:a <+: b)(e:all=true->a=b):vH Tryz.prog 16 [av,bv,.bool all] h (.bool true):=by
 apply xq;replace A:=A.lock;replace B:=B.lock;generalize h.lock=L at A B;apply tu;unfold ga;have an:=A.Y0;have bn:=B.Y0;have al:=RR A 3;have bl:=RR B 3;have c1:¬(a.length:Int)>(b.length:Int):=by have:=EW p;omega
 have rest:Jl (.bool false) (λv _=>v=.bool true) av bv (.bool false) L:=by
  simp only[EE,nth,↓yy,Jl];refine jz (λm vs h'=>∃(i:Nat),i<=a.length/\m=a.length-i/\vs=[.bool false,.int .i64 (i:Nat)]/\h'=L) a.length ⟨0,aa5 _,rfl,rfl,rfl⟩ ?_;rintro m vs h' ⟨i,hi,rfl,rfl,rfl⟩;unfold gh;by_cases hc:(i:Int)<(a.length:Int)
  ·obtain⟨x,hx⟩:∃x,a[i]? = some x:=⟨_,aae (by omega)⟩;have hy:=M4 p hx;have h0:(0:Int)<=i:=by omega
   have hc2:(i:Int)<(b.length:Int):=by have:=EW p;omega
   obtain⟨b1,o1,c1',t1,⟨off1,cp1,rfl,rfl⟩,hi1,hb1,hg1,hl1,ht1,_⟩:=A.spot (i:=i) (r:=Zc x) (by rw[aaw,hx];rfl) rfl;obtain⟨b2,o2,c2',t2,⟨off2,cp2,rfl,rfl⟩,hi2,hb2,hg2,hl2,ht2,_⟩:=B.spot (i:=i) (r:=Zc x) (by rw[aaw,hy];rfl) rfl;rw[aaD]at *
   unfold Zc at ht1 ht2;simp only[EE,nth,↓yy,aac,yg,ab9,PX,RM,Du,O6,gd,gf,hc,hc2,h0,hg1,hl1,ht1,hg2,hl2,ht2,aaE,inc (show i<4611686018427387904 by omega),ab9,Bool.and_self];exact⟨a.length-(i+1),by omega,i+1,by omega,rfl,rfl⟩
  ·simp only[EE,nth,hc,an,al]
 cases all with
 |false=>
  simp only[EE,Jm,Jn,Jo,an,bn,al,bl,c1];exact rest
 |true=>
  have e:=e rfl;subst e;simp only[EE,Jm,Jn,Jo,an,bn,al,bl,c1];exact rest
end
section
variable {h:za}{k1 e1 s1 k2 e2 s2:Int}{NL Dx ev2 lk2:Value}
abbrev vC(k e:Int)(ev lk:Value)(s:Int):vg := .cells [.int .i64 k,.int .i64 e,ev,lk,.int .i64 s] 33
theorem DP{a b:List (Int×Int)}(A:zT h NL 2 (a.map Zc))(B:zT h ev2 2 (b.map Zc))(hl:a.length<4611686018427387904)(hk:k1=k2)(he:e1=e2)(ha:a=b)(n1:yo Dx=false)(n2:yo lk2=false):vH Tryz.prog 12 [Wg k1 e1 NL Dx s1,Wg k2 e2 ev2 lk2 s2] h (.bool true):=by
 apply xq;replace A:=A.lock;replace B:=B.lock;generalize h.lock=L at A B;apply Y3;intro wf;have s0:Sat (.of L) L []:=Sat.self wf.2;have RA:Rd (.of L) (zT · NL 2 (a.map Zc)):=Rd.of (yQ.qQ L) A λh' o=>A.old o;have RB:Rd (.of L) (zT · ev2 2 (b.map Zc)):=Rd.of (yQ.qQ L) B λh' o=>B.old o;apply FA;unfold Ci Wg;subst hk he ha;have an:=A.Y0;have bn:=B.Y0;simp only[EE,Value.cells];refine vp s0 λba h2 s2=>?_;refine vp s2 λbb h3 s3=>?_;have g1:=(s3.p 1).get;have g2:=s3.get;simp only[EE,zw,yR,zh,H6,XM,rP,rQ,tH,tI,tJ,tK,tL,g1,g2];refine zi (by kernel_rfl) (by simp only[yP,an,bn,aaK];rfl) (IN (RA.at s3) (RB.at s3) hl (abB _) λ_=>rfl) ?_;simp only[EE];rfl
theorem si{a b:List (Int×Int×Int)}(A:zT h Dx 3 (a.map qU))(B:zT h lk2 3 (b.map qU))(hl:a.length<4611686018427387904)(hk:k1=k2)(ha:a=b)(n1:yo NL=false)(n2:yo ev2=false):vH Tryz.prog 13 [Wg k1 e1 NL Dx s1,Wg k2 e2 ev2 lk2 s2] h (.bool true):=by
 apply xq;replace A:=A.lock;replace B:=B.lock;generalize h.lock=L at A B;apply Y3;intro wf;have s0:Sat (.of L) L []:=Sat.self wf.2;have RA:Rd (.of L) (zT · Dx 3 (a.map qU)):=Rd.of (yQ.qQ L) A λh' o=>A.old o;have RB:Rd (.of L) (zT · lk2 3 (b.map qU)):=Rd.of (yQ.qQ L) B λh' o=>B.old o;apply Ce;unfold pR Wg;subst hk ha;have an:=A.Y0;have bn:=B.Y0;simp only[EE,Value.cells];refine vp s0 λba h2 s2=>?_;refine vp s2 λbb h3 s3=>?_;have g1:=(s3.p 1).get;have g2:=s3.get;have al:=RS (RA.at s3) 3;have bl:=RS (RB.at s3) 3;have c1:¬ ¬(a.length:Int)=(a.length:Int):=by simp
 simp only[EE,nth,↓yy,zw,zh,Ax,XM,aY,m7,m8,m9,na,g1,g2,an,bn,al,bl];refine jz (λm vs h'=>∃(i:Nat),i<=a.length/\m=a.length-i/\vs=[.bool false,.int .i64 (i:Nat)]/\h'=h3) a.length ⟨0,aa5 _,rfl,rfl,rfl⟩ ?_;rintro m vs h' ⟨i,hi,rfl,rfl,rfl⟩;unfold m6;by_cases hc:(i:Int)<(a.length:Int)
 ·obtain⟨x,hx⟩:∃x,a[i]? = some x:=⟨_,aae (by omega)⟩;have h0:(0:Int)<=i:=by omega
  obtain⟨b1,o1,c1',t1,⟨off1,cp1,rfl,rfl⟩,hi1,hb1,hg1,hl1,ht1,_⟩:=(RA.at s3).spot (i:=i) (r:=qU x) (by rw[aaw,hx];rfl) rfl;obtain⟨b2,o2,c2',t2,⟨off2,cp2,rfl,rfl⟩,hi2,hb2,hg2,hl2,ht2,_⟩:=(RB.at s3).spot (i:=i) (r:=qU x) (by rw[aaw,hx];rfl) rfl;rw[aaD]at *
  unfold qU at ht1 ht2;simp only[EE,nth,↓yy,aac,yg,zw,ab9,Ax,PW,aY,RN,Dv,O5,m3,m5,hc,h0,g1,g2,hg1,hl1,ht1,hg2,hl2,ht2,aaE,inc (show i<4611686018427387904 by omega),ab9,Bool.and_self];exact⟨a.length-(i+1),by omega,i+1,by omega,rfl,rfl⟩
 ·simp only[EE,nth,zw,Ax,aY,hc,g1,an,al];rfl
end
section
variable {h:za}{p:Go.As.Pg}
open Go.As (Pg qW XC Up fo Qy Z8 Zq)
theorem NN(P:qW h p)(wf:Kj h):∃B,vH Tryz.prog 7 [p.val] h (.bool B):=by
 refine LA wf ?_;replace P:=P.lock;replace wf:=wf.lock;generalize h.lock=L at P wf;have s0:Sat (.of L) L []:=Sat.self wf.2;have RP:Rd (.of L) (qW · p):=Rd.of (yQ.qQ L) P λh' o=>P.old o;apply HL;unfold HJ;have gvn:=P.globals.Y0;have gvc:=P.globals.iI;have fvn:=P.funcs.Y0;have fvc:=P.funcs.iI;simp only[EE,Value.cells];refine vp s0 λb5 h2 s2=>?_;have g5:=s2.get;have fl:=Z8 (RP.at s2).funcs 3;have gl:=Qy (RP.at s2).globals 3;by_cases c1:(p.funcs.length:Int)>8
 ·simp only[EE,zw,vM,yM,aA,aB,g5,fvn,fl,c1];exact⟨_,rfl⟩
 by_cases c2:(p.globals.length:Int)>8
 ·simp only[EE,zw,u5,vM,wI,yM,aA,aB,g5,gvn,fvn,fl,gl,c1,c2];exact⟨_,rfl⟩
 simp only[EE,nth,↓yy,zw,u5,vM,wI,yM,tW,aA,aB,g5,gvn,fvn,fl,gl,c1,c2];refine jz (λm vs h'=>∃(i:Nat) (v0:Value),i<=p.funcs.length/\m=p.funcs.length-i/\vs=[v0,.int .i64 (i:Nat)]/\h'=h2) p.funcs.length ⟨0,_,aa5 _,rfl,rfl,rfl⟩ ?_;rintro m vs h' ⟨i,v0,hi,rfl,rfl,rfl⟩;unfold tT;by_cases hc:(i:Int)<(p.funcs.length:Int)
 ·obtain⟨f,hf⟩:∃f,p.funcs[i]? = some f:=⟨_,aae (by omega)⟩;obtain⟨bf,o,cf,tf,hix,hbf,hgf,hof,htf,hkf⟩:=Up (RP.at s2).funcs (i:=i) (r:=f.row) (by rw[aaw,hf];rfl) rfl;have F:=(RP.at s2).fns f (aaG hf);have cn:=F.code.Y0;have cl:=Zq F.code 3;have k1:=hkf 1 (by decide);have k1:cf[o+1]? = some f.cv:=k1;have hin:=inc (show i<4611686018427387904 by omega);by_cases d1:(f.code.length:Int)>80
  ·simp only[EE,nth,↓yy,zw,vM,kO,yM,vD,gX,hc,g5,fvn,fl,hix,hgf,k1,cn,cl,d1];exact⟨_,rfl⟩
  simp only[EE,nth,↓yy,zw,vM,kO,yM,vD,gX,tS,hc,g5,fvn,fl,hix,hgf,k1,cn,cl,d1];refine jz (λm vs h9=>∃(j:Nat) (v0:Value),j<=f.code.length/\m=f.code.length-j/\vs=[v0,.int .i64 (j:Nat)]/\h9=h') f.code.length ⟨0,_,aa5 _,rfl,rfl,rfl⟩ ?_;rintro m vs h9 ⟨j,v1,hj,rfl,rfl,rfl⟩;unfold Ej;by_cases hc2:(j:Int)<(f.code.length:Int)
  ·obtain⟨x,hx⟩:∃x,f.code[j]? = some x:=⟨_,aae (by omega)⟩;obtain⟨bi,oi,ci,ti,ha,hbi,hgi,hle,htk,hki⟩:=XC F.code (i:=j) (r:=x.row) (by rw[aaw,hx];rfl) rfl;have q0:=hki 0 (by decide);have q0:ci[oi]? = some (.int .i64 x.op):=q0;have q6:=hki 6 (by decide);have q6:ci[oi+6]? = some (.int .i64 x.k):=q6;have hjn:=inc (show j<4611686018427387904 by omega);by_cases e1:x.op=23
   ·by_cases e2:x.k>1024
    ·simp only[EE,nth,↓yy,zw,yR,vM,zh,kO,yM,vD,zg,zV,fF,fG,fH,fI,fJ,fK,fL,hc2,g5,hix,hgf,k1,cn,cl,ha,hgi,q0,q6,e1,e2];exact⟨_,rfl⟩
    ·simp only[EE,nth,↓yy,zw,yR,vM,zh,kO,yM,vD,zg,zV,fF,fG,fH,fI,fJ,fK,fL,pZ,hc2,g5,hix,hgf,k1,cn,cl,ha,hgi,q0,q6,e1,e2,hjn];exact⟨f.code.length-(j+1),by omega,j+1,_,by omega,rfl,rfl⟩
   ·simp only[EE,nth,↓yy,zw,vM,zh,kO,yM,vD,zg,fF,fG,fH,fI,fJ,fK,fL,pZ,hc2,g5,hix,hgf,k1,cn,cl,ha,hgi,q0,e1,hjn];exact⟨f.code.length-(j+1),by omega,j+1,_,by omega,rfl,rfl⟩
  ·simp only[EE,nth,zw,vM,kO,yM,vD,hc2,g5,hix,hgf,k1,cn,cl,hin];exact⟨p.funcs.length-(i+1),by omega,i+1,_,by omega,rfl,rfl⟩
 simp only[EE,nth,zw,vM,yM,hc,g5,fvn,fl];refine jz (λm vs h9=>∃(i:Nat) (v0:Value),i<=p.globals.length/\m=p.globals.length-i/\vs=[v0,.int .i64 (i:Nat)]/\h9=h') p.globals.length ⟨0,_,aa5 _,rfl,rfl,rfl⟩ ?_;rintro m vs h9 ⟨i,v0,hi,rfl,rfl,rfl⟩;unfold tV;by_cases hc:(i:Int)<(p.globals.length:Int)
 ·obtain⟨z,hz⟩:∃z,p.globals[i]? = some z:=⟨_,aae (by omega)⟩;obtain⟨b11,o11,c11,t11,ix11,lt11,g11,k11⟩:=fo (RP.at s2).globals hz;have hin:=inc (show i<4611686018427387904 by omega);by_cases d1:z>1024
  ·simp only[EE,nth,↓yy,zw,u5,zh,wI,gY,hc,g5,gvn,gl,ix11,g11,k11,d1];exact⟨_,rfl⟩
  simp only[EE,nth,↓yy,zw,u5,zh,wI,gY,tU,hc,g5,gvn,gl,ix11,g11,k11,d1,hin];exact⟨p.globals.length-(i+1),by omega,i+1,_,by omega,rfl,rfl⟩
 simp only[EE,nth,zw,u5,wI,hc,g5,gvn,gl];exact⟨_,rfl⟩
end
end Go.Am
namespace Go.Al
open Go.Ai Go.Proofs
open Go.Rtl (zD zT Old inc LI mi)
open Go.Rm (Rd Rd.of Rd.at kg u6 uL j9 qL w9 Zc qU)
open Go.As (wZ Pg UF qW Up XC Z8 Zq ke XQ Ma L9 YW Na DE Wg D5 E3 B5 oU Xf)
open Go.Ar (EI Pb VU JI BD Wp iN EC Bi)
open Go.Am (DP si NN)
open Go.Ac (Alike IE)
section
variable {lo:yQ}{h:za}{L:List HP}{q:Pg}{b11:Nat}{n:Int}{R:Value->za->Prop}{j39:List Value->za->Prop}
def Rt(fs:List Go.As.Fn):Prop := ∀f,f∈fs->∀x,x∈f.code->names x->x.l<=1000000
theorem rV(hfew:q.funcs.length<=100)(hcf:∀f,f∈q.funcs->f.code.length<=100000)(hx:L3 q.funcs)(hn:0<=n/\n<=1000)(s:Sat lo h (Part q b11 n 0 0 L))(v:Value)
  (kt:∀h,R (.bool true) h)
  (k:∀h v,Rt q.funcs->Sat lo h (Part q b11 n q.funcs.length 0 L)->j39 [v] h) :
  LP (WY (.pointer (some ⟨b11,0,none⟩)) j39 R (.int .i64 n)) [v,.int .i64 0] h:=by
 refine jz (λm vs h'=>∃(i:Nat) (v0:Value),i<=q.funcs.length/\m=q.funcs.length-i/\vs=[v0,.int .i64 (i:Nat)]/\Rt (q.funcs.take i)/\Sat lo h' (Part q b11 n i 0 L)) q.funcs.length ⟨0,v,aa5 _,rfl,rfl,λf hf=>by simp at hf,s⟩ ?_;rintro m vs h' ⟨i,v0,hi,rfl,rfl,hall,s⟩;have g11:=s.get;have RF:=u6 (s.p 2) (JI q.funcs);have fvn:=uL (s.p 2);have fl:=λh'=>Z8 RF 3 h';unfold WY;by_cases hc:(i:Int)<(q.funcs.length:Int)
 ·obtain⟨f,hf⟩:∃f,q.funcs[i]? = some f:=⟨_,aae (by omega)⟩;have hfm:=aaG hf;have tk:q.funcs.take (i+1)=q.funcs.take i++[f]:=by rw[abT,hf];rfl
  have hin:=inc (show i<4611686018427387904 by omega);simp only[EE,nth,↓yy,zw,vM,yM,QG,g11,fvn,fl,hc];refine C9 hf hfew (hcf f hfm) (hx f hfm) hn s _ kt (λh3 v3 hsm s3=>?_) _ rfl;simp only[EE,nth,QF,hin];refine⟨q.funcs.length-(i+1),by omega,i+1,_,by omega,rfl,rfl,λg hg=>?_,?_⟩
  ·rw[tk]at hg;rcases aa2.1 hg with c|c
   ·exact hall g c
   ·simp only[abn]at c;subst c;exact hsm
  ·unfold Part at s3 ⊢;rw[<- DU hf];exact s3
 ·have hi9:i=q.funcs.length:=by omega
  subst hi9;rw[abX]at hall;simp only[EE,nth,zw,vM,yM,g11,fvn,fl,hc];exact k _ _ hall s
end
theorem rY{p:Pg}(h:Wp p=true){f:Go.As.Fn}(hf:f∈p.funcs):f.code.length<=100000 /\ ∀x,x∈f.code->names x->0<=x.l:=by
 unfold Wp at h;simp only[aah,aaJ]at h;obtain⟨_,_,h⟩:=h;have h:=h f hf;unfold Go.Ar.aQ at h;simp only[aah]at h;obtain⟨h1,h2,h3⟩:=h;refine⟨by simp at h3;omega,λx hx hn=>?_⟩;obtain⟨k,hk,rfl⟩:=abI hx;unfold Go.Ar.aO at h1;rw[aaJ]at h1;have h1:=h1 k (by simpa using hk);unfold Go.Ar.MO at h1;rw[aae hk]at h1;have h1:Go.Ar.vj p f.code k f.code[k]=true:=h1;unfold Go.Ar.vj at h1;simp only[aah]at h1;have h1:=h1.1;generalize f.code[k]=x at h1 hn;obtain⟨op,r,m,sub,cc,l,kk⟩:=x;unfold names at hn;rcases hn with o|o|o
 all_goals
  simp only at o;subst o;simp only[Go.Ar.xU,Go.Ar.WR,Go.Ar.VB,Go.Ar.QC,Go.Ar.bO,Go.Ar.tailD]at h1;simp at h1;simp[h1]
def yes(v:Value)(_:za):Prop:=v=.bool true
section
variable {h:za}{p:Pg}{av wv:Value}{args world:List Int}{fuel n:Int}
theorem Gz(P:qW h p)(ha:zD h av args)(hw:zD h wv world)(hwl:world.length*8<=2^47)(aw:∀h',Old h h'->vH Tryz.prog 6 [] h' (.bool true)) :
  DC Tryz.prog 5 [p.val,.int .i64 n,av,wv,.int .i64 fuel] h yes:=by
 apply Y3;intro wf;apply f9;unfold QE;have s0:Sat (.of h) h []:=Sat.self wf.2;have RP:Rd (.of h) (qW · p):=Rd.of (yQ.qQ h) P λh' o=>P.old o;have RA:Rd (.of h) (zD · av args):=Rd.of (yQ.qQ h) ha λh' o=>ha.old o;have RW:Rd (.of h) (zD · wv world):=Rd.of (yQ.qQ h) hw λh' o=>hw.old o;have RQ:Rd (.of h) (λh'=>vH Tryz.prog 6 [] h' (.bool true)):=λh' b=>aw h' (by obtain⟨a,c,d⟩:=(yQ.qQ h).old b;exact⟨a,c,d⟩);have gvn:=P.globals.Y0;have gvc:=P.globals.iI;have fvn:=P.funcs.Y0;have fvc:=P.funcs.iI;have avn:=ha.Y0;have wvn:=hw.Y0;simp only[EE,Value.cells];refine EU s0 wf λb5 h2 wf2 s2=>?_;have g2:=s2.get;refine zi (by kernel_rfl) rfl (RQ.at s2) ?_;simp only[EE,aac,Nat.reduceAdd,yg,Xn,QI,g2];obtain⟨B,hB⟩:=NN (RP.at s2) wf2;refine zi (by kernel_rfl) (by simp only[yP];rfl) hB ?_;cases B with
 |false=>
  simp only[EE,qq,qt,qu,qv,qw,qx,W9];rfl
 |true=>
 simp only[EE,aac,Nat.reduceAdd,yg,Xn,W9,g2];refine zi (by kernel_rfl) (by simp only[yP];rfl) (EC (RP.at s2)) ?_;cases hd:Wp p with
 |false=>
  simp only[EE,qq,qt,qu,qv,qw,qx];rfl
 |true=>
 by_cases c1:fuel<0
 ·simp only[EE,qq,qt,qu,qv,qw,qx,c1];rfl
 by_cases c2:fuel>1000
 ·simp only[EE,qq,qt,qu,qv,qw,qx,c1,c2];rfl
 by_cases c3:n<0
 ·simp only[EE,qq,qt,qu,qv,qw,qx,c1,c2,c3];rfl
 by_cases c4:n>1000
 ·simp only[EE,qq,qt,qu,qv,qw,qx,c1,c2,c3,c4];rfl
 have hg:Xf p=true:=by rw[<- iN];exact hd
 have hfl:p.funcs.length<=100:=by
  unfold Wp at hd;simp only[aah]at hd;have:=hd.1;unfold Go.As.u3 at this;simp at this;omega
 simp only[EE,aac,Nat.reduceAdd,yg,Xn,qq,qt,qu,qv,qw,qx,g2,c1,c2,c3,c4];refine yb (by kernel_rfl) (by simp only[yP];rfl) (IE (RP.at s2) hfl) ?_;rintro v h3 ⟨q,rfl,e1,e2,e3,hal,s3⟩;have s4:=s2.join s3;have hql:q.funcs.length=p.funcs.length:=by have:=congrArg List.length hal;simpa using this
 have hcode:∀(k:Nat) f',q.funcs[k]? = some f'->∃f,p.funcs[k]? = some f/\f'.code=f.code:=λk f' hf'=>by
  have:=congrArg (λl=>l[k]?) hal;simp only[aaw,hf']at this;cases hp:p.funcs[k]? with
  |none=>rw[hp]at this;cases this
  |some f=>
   rw[hp]at this;simp only[abq,aab,aag]at this;exact⟨f,rfl,this.2⟩
 have hmem:∀f',f'∈q.funcs->∃f,f∈p.funcs/\f'.code=f.code:=λf' hf'=>by
  obtain⟨k,hk,rfl⟩:=abI hf';obtain⟨f,h1,h2⟩:=hcode k _ (aae hk);exact⟨f,aaG h1,h2⟩
 have s5:Sat (.of h) h3 ([kg 3 1 q.gv (q.globals.map w9),kg 47 2 q.fv (q.funcs.map Go.As.Fn.row),YY (q.funcs.map EI)]++[pt b5 (.cells p.row 25)]):=Sat.open s4;have qgn:=uL s5;have qgc:=j9 s5;have qfn:=uL (s5.p 1);have qfc:=j9 (s5.p 1);simp only[EE,Value.cells,Ey,QH];refine vp s5 λb11 h5 s6=>?_;simp only[EE,Nat.reduceAdd,Eu];refine xQ s6 (by simp) (by simp[qgc,qfc];exact⟨rfl,rfl⟩) λh6 s7=>?_
 have s8:Sat (.of h) h6 (Part q b11 n 0 0 [pt b5 (.cells p.row 25)]):=by
  unfold Part;rw[DV];exact s7
 refine rV (by omega) (λf' hf'=>?_) (λf' hf'=>?_) (by omega) s8 _ (λ_=>rfl) (λh7 v7 hsm s9=>?_)
 ·obtain⟨f,h1,h2⟩:=hmem f' hf';rw[h2];exact(rY hd h1).1
 ·obtain⟨f,h1,h2⟩:=hmem f' hf';rw[h2];exact(rY hd h1).2
 obtain⟨q',hq'⟩:∃q':Pg,q' = {q with funcs:=Zf (u4 n) q.funcs.length 0 q.funcs}:=⟨_,rfl⟩;have er:q'.row=q.row:=by rw[hq']
 have ev:Value.agg #[q.gv,q.fv,.int .i64 q.main,.int .i64 q.params]=q'.val:=by rw[hq']
 have eg:q'.globals=p.globals:=by rw[hq'];exact e1
 have em:q'.main=p.main:=by rw[hq'];exact e2
 have ep:q'.params=p.params:=by rw[hq'];exact e3
 have el:q'.funcs.length=p.funcs.length:=by rw[hq',<- hql];show(Zf (u4 n) q.funcs.length 0 q.funcs).length=_;unfold Zf;rw[List.length_mapIdx]
 have hc':∀(k:Nat) f',q'.funcs[k]? = some f'->∃f,p.funcs[k]? = some f/\f'.code=f.code.map (ke (u4 n)):=λk f' hf'=>by
  rw[hq']at hf';obtain⟨f0,h1,h2⟩:=DS hf';obtain⟨f,h3,h4⟩:=hcode k f0 h1;exact⟨f,h3,by rw[h2,h4]⟩
 have hgq:Xf q'=true:=Bi (fh n) hg eg el em ep hc' λf hf x hx hn=>by
  obtain⟨k,hk,rfl⟩:=abI hf;have hkq:k<q.funcs.length:=by omega
  obtain⟨f0,h1,h2⟩:=hcode k _ (aae hkq);rw[aae hk]at h1;cases h1;have h3:=hsm _ (List.getElem_mem hkq) x (by rw[h2];exact hx) ((KP x).2 hn);have h4:=(rY hd hf).2 x hx ((KP x).2 hn);unfold u4;omega
 have La:B5 (u4 n) p q':=⟨λk=>by
  unfold Go.As.Yr;cases h1:q'.funcs[k]? with
  |none=>
   have:p.funcs[k]? = none:=by rw[List.getElem?_eq_none_iff]at h1 ⊢;omega
   rw[this];rfl
  |some f'=>
   obtain⟨f,h2,h3⟩:=hc' k f' h1;rw[h2];exact h3,eg,em⟩
 have hpl:YW q' args fuel 1048576 ↔ YW p args fuel 1048576:=by
  unfold YW;rw[hgq,hg,ep]
 have s10:Sat (.of h) h7 [Pb q',pt b11 (.cells q.row 25),pt b5 (.cells p.row 25)]:=by
  have t:Sat (.of h) h7 ([kg 3 1 q'.gv (q'.globals.map w9),kg 47 2 q'.fv (q'.funcs.map Go.As.Fn.row),YY (q'.funcs.map EI)]++[pt b11 (.cells q.row 25),pt b5 (.cells p.row 25)]):=by
   have e:q'.funcs.map Go.As.Fn.row=q.funcs.map Go.As.Fn.row:=by rw[hq'];exact DT _ _ _ _
   rw[e,hq'];exact s9.f [1,2,3,0]
  exact Sat.close t
 have RD:∀{h'} {L:List HP},Sat (.of h) h' (Pb q'::L)->qW h' q':=λt=>BD t (by rw[eg];exact P.Gu) (by rw[el];have:=P.IT;omega) λf' hf'=>by
  obtain⟨k,hk,rfl⟩:=abI hf';obtain⟨f,h1,h2⟩:=hc' k _ (aae hk);rw[h2,aaD];have:=(rY hd (aaG h1)).1;omega
 clear s9 s8 s7 s6 s5 s4 s3 g2 hsm;have g5:=(s10.p 2).get;simp only[EE,aac,Nat.reduceAdd,yg,Xn,g5];refine yb (by kernel_rfl) (by simp only[yP,avn,wvn,aaK];rfl) (D5 (fuel:=fuel) (lim:=1048576) (RP.at s10) (RA.at s10) (RW.at s10) hwl) ?_;rintro v h8 hv;by_cases hb:YW p args fuel 1048576
 ·rw[aam hb]at hv;obtain⟨A,evA,lkA,hA,rfl,s11⟩:=hv;have s12:=s10.join s11;have a1n:=uL s11;have a1c:=j9 s11;have k1n:=uL (s11.p 1);have k1c:=j9 (s11.p 1);unfold Na Wg;simp only[EE,Value.cells,Ja,W8];refine vp s12 λb15 h9 s13=>?_;simp only[EE,Nat.reduceAdd,Qt];refine xQ s13 (by simp) (by simp[a1c,k1c];exact⟨rfl,rfl,rfl⟩) λh10 s14=>?_;have g11:=(s14.p 4).get;simp only[EE,aac,Nat.reduceAdd,yg,Xn,g11];rw[ev];have qgn':=qgn;refine yb (by kernel_rfl) (by rw[<- ev];simp only[yP,avn,wvn,aaK];rfl) (D5 (fuel:=fuel) (lim:=1048576) (RD (s14.p 3)) (RA.at s14) (RW.at s14) hwl) ?_;rintro v h11 hv;rw[aam (hpl.2 hb)]at hv;obtain⟨B,evB,lkB,hB,rfl,s15⟩:=hv;have ee:=oU (fh n) La hA hB;subst ee;have s16:=s14.join s15;have a2n:=uL s15;have a2c:=j9 s15;have k2n:=uL (s15.p 1);have k2c:=j9 (s15.p 1);unfold Na Wg;simp only[EE,Value.cells,Ja,W7];refine vp s16 λb17 h12 s17=>?_;simp only[EE,Nat.reduceAdd,Qt];refine xQ s17 (by simp) (by simp[a2c,k2c];exact⟨rfl,rfl,rfl⟩) λh13 s18=>?_;have g17:=s18.get;have g15:=(s18.p 3).get;have g11:=(s18.p 7).get;simp only[EE,aac,Nat.reduceAdd,yg,Xn,g11];rw[ev];refine zi (by kernel_rfl) (by rw[<- ev];simp only[yP];rfl) (Go.As.Qd (RD (s18.p 6))) ?_;rw[hgq];have fa:=E3 (by omega) hA;have RE1:=u6 (s18.p 4) (qL (f:=Zc) (λ_=>rfl) _);have RL1:=u6 (s18.p 5) (qL (f:=qU) (λ_=>rfl) _);have RE2:=u6 (s18.p 1) (qL (f:=Zc) (λ_=>rfl) _);have RL2:=u6 (s18.p 2) (qL (f:=qU) (λ_=>rfl) _);simp only[EE,zf,aac,Nat.reduceAdd,yg,Uo,W4,W5,W6,g15,g17];refine zi (by kernel_rfl) (by simp only[yP];rfl) (DP RE1 RE2 (by omega) rfl rfl rfl k1n k2n) ?_;simp only[EE,zf,aac,Nat.reduceAdd,yg,Uo,W2,W3,g15,g17];refine zi (by kernel_rfl) (by simp only[yP];rfl) (si RL1 RL2 (by omega) rfl rfl a1n a2n) ?_;simp only[EE,zf,Nat.reduceAdd,zw,zh,aZ,WZ,W0,W1,g15,g17];rfl
 ·rw[aak hb]at hv;obtain⟨rfl,s11⟩:=hv;have s12:=s10.join s11;unfold DE Wg;simp only[EE,Value.cells,Ja,W8];refine vp s12 λb15 h9 s13=>?_;simp only[EE,Nat.reduceAdd,Qt];refine xQ s13 (by simp) rfl λh10 s14=>?_;have g11:=(s14.p 2).get;simp only[EE,aac,Nat.reduceAdd,yg,Xn,g11];rw[ev];refine yb (by kernel_rfl) (by rw[<- ev];simp only[yP,avn,wvn,aaK];rfl) (D5 (fuel:=fuel) (lim:=1048576) (RD (s14.p 1)) (RA.at s14) (RW.at s14) hwl) ?_;rintro v h11 hv;rw[aak (λz=>hb (hpl.1 z))]at hv;obtain⟨rfl,s15⟩:=hv;have s16:=s14.join s15;unfold DE Wg;simp only[EE,Value.cells,Ja,W7];refine vp s16 λb17 h12 s17=>?_;simp only[EE,Nat.reduceAdd,Qt];refine xQ s17 (by simp) rfl λh13 s18=>?_;have g17:=s18.get;have g15:=(s18.p 1).get;have g11:=(s18.p 3).get;simp only[EE,aac,Nat.reduceAdd,yg,Xn,g11];rw[ev];refine zi (by kernel_rfl) (by rw[<- ev];simp only[yP];rfl) (Go.As.Qd (RD (s18.p 2))) ?_;rw[hgq];have N2:zT h13 (.slice none 0 0) 2 (([]:List (Int×Int)).map Zc) := .inl ⟨rfl,rfl⟩;have N3:zT h13 (.slice none 0 0) 3 (([]:List (Int×Int×Int)).map qU) := .inl ⟨rfl,rfl⟩;simp only[EE,zf,aac,Nat.reduceAdd,yg,Uo,W4,W5,W6,g15,g17];refine zi (by kernel_rfl) rfl (DP N2 N2 (by decide) rfl rfl rfl rfl rfl) ?_;simp only[EE,zf,aac,Nat.reduceAdd,yg,Uo,W2,W3,g15,g17];refine zi (by kernel_rfl) rfl (si N3 N3 (by decide) rfl rfl rfl rfl) ?_;simp only[EE,zf,Nat.reduceAdd,zw,zh,aZ,WZ,W0,W1,g15,g17];rfl
end
end Go.Al
namespace Go.Am
open Go.Ai Go.Proofs
def cls:List Nat:=[0,0,1,1,1,1,1,1,1,1,1,1,1,1,1,1,1,1,1,1,1,1,1,1,1,1,1,1,1,1,1,1,1,1,1,1,1,1,1,1,1,1,1,1,1,1,1,1,1,1,1,1,1,1,1,1,1,1,1,1,1,1,1,1,1,1,1,1,1,1,1,1,1,1,1,1,1,1,0,1,1,1,1,1,1,1,1,1,1,1,1,1,1,1,1,1,1,1,1,1,1,1,1,1,1,1,1,1,1,1,1,1,1,1,1,1,1,1,1,1,1,1,1,1,1,1,1,1,1,1,1,1,1,0,0,0,0,0,0,0,0,0,0,0,0,0,0,0,0,0,0,0,0,0,0,0,0,0,0,0,0,0,0,0,0,1]
set_option maxRecDepth 100000 in
theorem fits:Yn Tryz.prog cls=true:=by decide +kernel
set_option maxRecDepth 100000 in
theorem F6:Pm (run Tryz.prog cls 4000 (.call 6 []) (sL 100 []))=true:=by kernel_rfl
theorem Mm(h:za):vH Tryz.prog 6 [] h (.bool true):=by
 refine⟨rfl,?_⟩;obtain⟨h',he⟩:=M1 F6;have:=B6 (P:=Tryz.prog) (m:=100) (tabs:=[]) (v := .bool true) (f:=6) rfl (aaH (by kernel_rfl)) (λx hx=>by cases hx) ((Fj fits mixed he).mono (λv h1 q=>q.1)) (h:=h.lock) (λx hx=>by cases hx);exact this.mono (λv h1 q=>q.1)
end Go.Am
namespace Go.As
open Go.Ai Go.Proofs
open Go.Rtl (zD zT Old)
theorem absH_lt(w:World)(b:Nat)(o:vg)(h:(absH Tryz.prog w).get b=some o):b<(absH Tryz.prog w).next:=(BI Tryz.prog w).Qv b o h
theorem c2:Tryz.prog.cellsOf 2=1:=by kernel_rfl
theorem c3:Tryz.prog.cellsOf 3=1:=by kernel_rfl
theorem c9:Tryz.prog.cellsOf 9=1:=by kernel_rfl
theorem T5:Tryz.prog.cellsOf 22=1:=by kernel_rfl
theorem T6:Tryz.prog.cellsOf 23=1:=by kernel_rfl
theorem T7:Tryz.prog.cellsOf 25=4:=by kernel_rfl
theorem T8:Tryz.prog.cellsOf 45=1:=by kernel_rfl
theorem TZ:Tryz.prog.cellsOf 47=2:=by kernel_rfl
theorem T0:Tryz.prog.cellsOf 50=7:=by kernel_rfl
theorem y2:Tryz.prog.bytesOf 2=8:=by kernel_rfl
theorem y3:Tryz.prog.bytesOf 3=8:=by kernel_rfl
theorem y45:Tryz.prog.bytesOf 47=40:=by kernel_rfl
theorem y50:Tryz.prog.bytesOf 50=56:=by kernel_rfl
theorem lX:reachBytes=140737488351232:=rfl
theorem so{α:Type}{n:Nat}{Q:Nat->α->Prop}(h:∀i,i<n->∃z,Q i z):∃l:List α,l.length=n /\ ∀i z,l[i]? = some z->Q i z:=by
 obtain⟨f,hf⟩:=Classical.axiomOfChoice (r:=λ(i:Fin n) z=>Q i.1 z) λi=>h i.1 i.2;refine⟨List.ofFn f,by simp,λi z hz=>?_⟩;rw[List.getElem?_ofFn]at hz;split at hz
 ·rename_i hi;simp only[aab]at hz;subst hz;exact hf ⟨i,hi⟩
 ·cases hz
theorem BB{c:List Value}{n:Nat}{v:Value}(h:(c.drop n).take 1=[v]):c[n]? = some v:=by
 have:=congrArg (λl=>l[0]?) h;simpa [List.getElem?_take,aaW] using this
section
variable {h:za}(hw:∀b o,h.get b=some o->b<h.next)
include hw
theorem M8{a:Value}(r:J1 Tryz.prog h 22 [a]):∃zs,zD h a zs/\zs.length<=17592186043904:=by
 rcases ma Tryz.underlying22 c3 y3 (by decide) r with e|⟨b,off,len,e,hl,hc⟩
 ·simp only[abj,abg]at e;exact⟨[],.inl ⟨e,rfl⟩,aa5 _⟩
 ·simp only[abj,abg]at e;subst e;rw[lX]at hl;by_cases h0:0<len
  ·obtain⟨c,t,hg,hat⟩:=hc h0
   obtain⟨l,e1,e2⟩:=so (n:=len) (Q:=λi (z:Int)=>c[off+i]? = some (.int .i64 z)) λi hi=>by
    obtain⟨h1,h2⟩:=hat i hi;obtain⟨z,hz,_⟩:=rw_int Tryz.underlying3 h2;rw[abH]at hz;exact⟨z,BB hz⟩
   refine⟨l,.inr ⟨b,off,0,by rw[e1],λ_=>⟨c,t,hw b _ hg,hg,e2⟩⟩,by omega⟩
  ·have:len=0:=by omega
   subst this;exact⟨[],.inr ⟨b,off,0,rfl,λq=>absurd rfl q⟩,aa5 _⟩
omit hw in
theorem Ph{cs:List Value}(r:J1 Tryz.prog h 50 cs):∃x:wZ,cs=x.row/\True:=by
 obtain⟨hl,hf⟩:=eD Tryz.underlying50 r;rw[T0]at hl
 match cs,hl with
 |[a0,a1,a2,a3,a4,a5,a6],_=>
  have f0:J1 Tryz.prog h 3 (([a0,a1,a2,a3,a4,a5,a6].drop 0).take (Tryz.prog.cellsOf 3)):=hf _ (abk (i:=0) rfl);have f1:J1 Tryz.prog h 3 (([a0,a1,a2,a3,a4,a5,a6].drop 1).take (Tryz.prog.cellsOf 3)):=hf _ (abk (i:=1) rfl);have f2:J1 Tryz.prog h 3 (([a0,a1,a2,a3,a4,a5,a6].drop 2).take (Tryz.prog.cellsOf 3)):=hf _ (abk (i:=2) rfl);have f3:J1 Tryz.prog h 3 (([a0,a1,a2,a3,a4,a5,a6].drop 3).take (Tryz.prog.cellsOf 3)):=hf _ (abk (i:=3) rfl);have f4:J1 Tryz.prog h 3 (([a0,a1,a2,a3,a4,a5,a6].drop 4).take (Tryz.prog.cellsOf 3)):=hf _ (abk (i:=4) rfl);have f5:J1 Tryz.prog h 3 (([a0,a1,a2,a3,a4,a5,a6].drop 5).take (Tryz.prog.cellsOf 3)):=hf _ (abk (i:=5) rfl);have f6:J1 Tryz.prog h 2 (([a0,a1,a2,a3,a4,a5,a6].drop 6).take (Tryz.prog.cellsOf 2)):=hf _ (abk (i:=6) rfl);simp only[c2,c3,abt,ab4,aaT,List.take_zero]at f0 f1 f2 f3 f4 f5 f6;obtain⟨z0,e0,_⟩:=rw_int Tryz.underlying3 f0;obtain⟨z1,e1,_⟩:=rw_int Tryz.underlying3 f1;obtain⟨z2,e2,_⟩:=rw_int Tryz.underlying3 f2;obtain⟨z3,e3,_⟩:=rw_int Tryz.underlying3 f3;obtain⟨z4,e4,_⟩:=rw_int Tryz.underlying3 f4;obtain⟨z5,e5,_⟩:=rw_int Tryz.underlying3 f5;obtain⟨z6,e6,_⟩:=rw_int Tryz.underlying2 f6;simp only[abj,abg]at e0 e1 e2 e3 e4 e5 e6;subst e0 e1 e2 e3 e4 e5 e6;exact⟨⟨z0,z1,z2,z3,z4,z5,z6⟩,rfl,trivial⟩
theorem EZ{α:Type}{row:α->List Value}{ok:α->Prop}{ts te:TypeId}{n bz:Nat}(hu:Tryz.prog.underlying ts=some (.slice te))(hs:Tryz.prog.cellsOf te=n)(hb:Tryz.prog.bytesOf te=bz)(h0n:0<n)(h8:8<=bz)
  (hrow:∀cs,J1 Tryz.prog h te cs->∃x,cs=row x/\ok x) {a:Value} (r:J1 Tryz.prog h ts [a]):∃l:List α,zT h a n (l.map row)/\l.length*bz<=140737488351232 /\ ∀x,x∈l->ok x:=by
 rcases ma hu hs hb h0n r with e|⟨b,off,len,e,hl,hc⟩
 ·simp only[abj,abg]at e;exact⟨[],.inl ⟨e,rfl⟩,by simp,λx hx=>by cases hx⟩
 ·simp only[abj,abg]at e;subst e;rw[lX]at hl;by_cases h0:0<len
  ·obtain⟨c,t,hg,hat⟩:=hc h0
   obtain⟨l,e1,e2⟩:=so (n:=len) (Q:=λi x=>off+i*n+n<=c.length/\(c.drop (off+i*n)).take n=row x/\ok x) λi hi=>by
    obtain⟨h1,h2⟩:=hat i hi;obtain⟨x,hx,hok⟩:=hrow _ h2;exact⟨x,h1,hx,hok⟩
   refine⟨l,.inr ⟨b,off,0,by rw[aaD,e1],λ_=>⟨c,t,hw b _ hg,hg,λi r hr=>?_⟩⟩,?_,λx hx=>?_⟩
   ·rw[aaw]at hr;cases hx:l[i]? with
    |none=>rw[hx]at hr;cases hr
    |some x=>
     rw[hx]at hr;simp only[abq,aab]at hr;subst hr;exact⟨(e2 i x hx).1,(e2 i x hx).2.1⟩
   ·rw[e1];exact hl
   ·obtain⟨k,hk,rfl⟩:=abI hx;exact(e2 k _ (aae hk)).2.2
  ·have:len=0:=by omega
   subst this;exact⟨[],.inr ⟨b,off,0,rfl,λq=>absurd rfl q⟩,by simp,λx hx=>by cases hx⟩
theorem Sr{cs:List Value}(r:J1 Tryz.prog h 47 cs):∃f:Fn,cs=f.row/\UF h f:=by
 obtain⟨hl,hf⟩:=eD Tryz.underlying47 r;rw[TZ]at hl
 match cs,hl with
 |[a0,a1],_=>
  have f0:J1 Tryz.prog h 9 (([a0,a1].drop 0).take (Tryz.prog.cellsOf 9)):=hf _ (abk (i:=0) rfl);have f1:J1 Tryz.prog h 45 (([a0,a1].drop 1).take (Tryz.prog.cellsOf 45)):=hf _ (abk (i:=1) rfl);simp only[c9,T8,abt,ab4,aaT,List.take_zero]at f0 f1;obtain⟨s,e0,_⟩:=G0 Tryz.underlying9 f0;obtain⟨code,C,hc,hi⟩:=EZ hw Tryz.underlying45 T0 y50 (by decide) (by decide) (λcs r=>Ph r) f1;simp only[abj,abg]at e0;subst e0;exact⟨⟨s,a1,code⟩,rfl,C,hc⟩
theorem rd_pg{cs:List Value}(r:J1 Tryz.prog h 25 cs):∃p:Pg,cs=p.row/\qW h p:=by
 obtain⟨hl,hf⟩:=eD Tryz.underlying25 r;rw[T7]at hl
 match cs,hl with
 |[a0,a1,a2,a3],_=>
  have f0:J1 Tryz.prog h 22 (([a0,a1,a2,a3].drop 0).take (Tryz.prog.cellsOf 22)):=hf _ (abk (i:=0) rfl);have f1:J1 Tryz.prog h 23 (([a0,a1,a2,a3].drop 1).take (Tryz.prog.cellsOf 23)):=hf _ (abk (i:=1) rfl);have f2:J1 Tryz.prog h 3 (([a0,a1,a2,a3].drop 2).take (Tryz.prog.cellsOf 3)):=hf _ (abk (i:=2) rfl);have f3:J1 Tryz.prog h 3 (([a0,a1,a2,a3].drop 3).take (Tryz.prog.cellsOf 3)):=hf _ (abk (i:=3) rfl);simp only[c3,T5,T6,abt,ab4,aaT,List.take_zero]at f0 f1 f2 f3;obtain⟨l,S,hl⟩:=M8 hw f0;obtain⟨fs,C,hc,hi⟩:=EZ hw Tryz.underlying23 TZ y45 (by decide) (by decide) (λcs r=>Sr hw r) f1;obtain⟨z2,e2,_⟩:=rw_int Tryz.underlying3 f2;obtain⟨z3,e3,_⟩:=rw_int Tryz.underlying3 f3;simp only[abj,abg]at e2 e3;subst e2 e3;refine⟨⟨a0,l,a1,fs,z2,z3⟩,rfl,S,hl,C,by show fs.length*24<=140737488351232;omega,hi⟩
theorem rd_i64s{a:Value}(r:J1 Tryz.prog h 26 [a]):∃l:List Int,zD h a l/\l.length*8<=140737488351232:=by
 rcases ma Tryz.underlying26 c2 y2 (by decide) r with e|⟨b,off,len,e,hl,hc⟩
 ·simp only[abj,abg]at e;exact⟨[],.inl ⟨e,rfl⟩,aa5 _⟩
 ·simp only[abj,abg]at e;subst e;rw[lX]at hl;by_cases h0:0<len
  ·obtain⟨c,t,hg,hat⟩:=hc h0
   obtain⟨l,e1,e2⟩:=so (n:=len) (Q:=λi (z:Int)=>c[off+i]? = some (.int .i64 z)) λi hi=>by
    obtain⟨h1,h2⟩:=hat i hi;obtain⟨z,hz,_⟩:=rw_int Tryz.underlying2 h2;rw[abH]at hz;exact⟨z,BB hz⟩
   refine⟨l,.inr ⟨b,off,0,by rw[e1],λ_=>⟨c,t,hw b _ hg,hg,e2⟩⟩,by omega⟩
  ·have:len=0:=by omega
   subst this;exact⟨[],.inr ⟨b,off,0,rfl,λq=>absurd rfl q⟩,aa5 _⟩
end
end Go.As
namespace Go.Al
open Go.Ai Go.Proofs
open Go.Rtl (zD)
open Go.As (Pg qW)
theorem labels_law{h:za}{p:Pg}{av wv:Value}{args world:List Int}{fuel n:Int}(P:qW h p)(ha:zD h av args)(hw:zD h wv world)(hwl:world.length*8<=2^47) :
  DC Tryz.prog 5 [p.val,.int .i64 n,av,wv,.int .i64 fuel] h yes:=Gz P ha hw hwl λh' e=>Go.Am.Mm h'
end Go.Al
